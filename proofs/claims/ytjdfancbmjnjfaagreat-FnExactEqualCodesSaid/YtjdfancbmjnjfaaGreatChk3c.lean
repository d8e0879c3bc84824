/-
  Contract (24): impl.instrRight.
-/
import Derived.Test.YtjdfancbmjnjfaaGreatChk3a
namespace Go.Proofs.YtjdfancbmjnjfaaGreat
set_option maxRecDepth 100000
open Go.ChangeShapes Go.WideShapes Go.ChangeAt Go.RowKit Go.Deep
set_option linter.unusedVariables false
set_option linter.unusedSimpArgs false

set_option maxHeartbeats 2000000 in
theorem impl_instrRight_24 : InstrRightC 24 := by
  intro d cs w hop h hz
  have HRR := Lib.hid (fun (W : World) (hb : Below w.heap.size w W) => h.below hb)
  obtain ⟨v4, v51, v52, v53, v54, v55, rfl, i0, i1, i2, ht, hl, hv⟩ := h
  have HL := Lib.hid hl
  have HV := Lib.hid hv
  have HT := Lib.hid ht
  have I0 := Lib.hid i0
  have I1 := Lib.hid i1
  have I2 := Lib.hid i2
  obtain ⟨A4, c4, rfl, hlc, hm, HC⟩ := Txts.open_ hl
  unfold maxLen at hm
  clear hl hv ht i0 i1 i2
  rw [hop]
  have hop := Lib.hid hop
  have hsl := Lib.hid (instr_small hz)
  have hz : szVector d.value ≤ 1000000000000 := by unfold szInstr at hz; omega
  obtain ⟨G, g0, HG, B1⟩ := good1 w 63 [.int .i64 24, .int .i64 d.arg, .int .i64 d.count, .string (str d.text), .slice A4 d.labels.length c4, .int .i64 d.value.kind, v51, v52, v53, v54, v55, .int .i64 d.value.code, .int .i64 d.value.env]
  have x0 := fun W (h : Ok G W) => (B1.out W h).cell 0 _ rfl
  have x1 := fun W (h : Ok G W) => (B1.out W h).cell 1 _ rfl
  have x2 := fun W (h : Ok G W) => (B1.out W h).cell 2 _ rfl
  have x3 := fun W (h : Ok G W) => (B1.out W h).cell 3 _ rfl
  have x4 := fun W (h : Ok G W) => (B1.out W h).cell 4 _ rfl
  have x5 := fun W (h : Ok G W) => (B1.out W h).cell 5 _ rfl
  have x6 := fun W (h : Ok G W) => (B1.out W h).cell 6 _ rfl
  have x7 := fun W (h : Ok G W) => (B1.out W h).cell 7 _ rfl
  have x8 := fun W (h : Ok G W) => (B1.out W h).cell 8 _ rfl
  have x9 := fun W (h : Ok G W) => (B1.out W h).cell 9 _ rfl
  have x10 := fun W (h : Ok G W) => (B1.out W h).cell 10 _ rfl
  have x11 := fun W (h : Ok G W) => (B1.out W h).cell 11 _ rfl
  have x12 := fun W (h : Ok G W) => (B1.out W h).cell 12 _ rfl
  go_enter Tryz.func57, Tryz.ntmps57
  go_upto_region 1 with fail
  refine gen_w g0 ?_
  clear g0
  intro W0 g0
  go_wp2_with fail
  refine Calls.mono (impl_instrUses 24 (by decide) (by decide) _) ?_
  rintro e w1 ⟨rfl, rfl⟩
  rw [show useA 24 = false by decide, show useC 24 = false by decide, show useT 24 = true by decide, show useL 24 = true by decide, show ((24 : Int) == 0) = false by decide]
  by_cases e1 : d.arg = 0
  rotate_left
  · have q1 : (d.arg != 0) = true := by simp [e1]
    have HN := Lib.hid (show insI d = false by simp [insI, insR, hop.out, txtB, lblB, topC, nameOp, useA, useC, useT, useL, refOp, jmpOp, itB, e1])
    go_wp2_with fail
    go_ret
    exact ⟨ret_bool HN.out.symm, HG.out.below g0⟩
  have q1 : (d.arg != 0) = false := by simp [e1]
  have E1 := Lib.hid e1
  by_cases e2 : d.count = 0
  rotate_left
  · have q2 : (d.count != 0) = true := by simp [e2]
    have HN := Lib.hid (show insI d = false by have : (decide (0 ≤ d.count) && decide (d.count ≤ topC d.op)) = false := (by simp [topC, hop.out]; omega); simp [insI, insR, this])
    go_wp2_with fail
    go_ret
    exact ⟨ret_bool HN.out.symm, HG.out.below g0⟩
  have q2 : (d.count != 0) = false := by simp [e2]
  have E2 := Lib.hid e2
  go_wp2_with fail
  refine Calls.mono (impl_isZeroVector d.value _ _ (HV.out.below (HG.out.below g0))) ?_
  rintro e w2 ⟨rfl, hb⟩
  replace g0 := HG.out.step g0 hb
  clear hb
  cases e5 : zeroQ d.value
  · have HN := Lib.hid (show insI d = false by simp [insI, insR, hop.out, valB_ne d.value (show (24 : Int) ≠ 0 by decide), e5])
    go_wp2_with fail
    go_ret
    exact ⟨ret_bool HN.out.symm, HG.out.below g0⟩
  have E5 := Lib.hid (show valB 24 d.value = true by rw [valB_ne d.value (by decide), e5])
  clear e5
  go_wp2_with fail
  refine Calls.mono (impl_instrText 24 (by decide) (by decide) d _ _ hop.out (by have h9 := HRR.out _ (HG.out.below g0); simp only [hop.out, E1.out, E2.out] at h9; exact h9) hsl.out) ?_
  rintro e w4 ⟨rfl, hb⟩
  replace g0 := HG.out.step g0 hb
  clear hb
  go_wp2_with fail
  go_ret
  exact ⟨ret_bool (by simp [insI, insR, hop.out, txtB, lblB, topC, nameOp, useA, useC, useT, useL, refOp, jmpOp, itB, E1.out, E2.out, E5.out]), HG.out.below g0⟩
set_option maxHeartbeats 2000000 in
theorem impl_instrRight_25 : InstrRightC 25 := by
  intro d cs w hop h hz
  have HRR := Lib.hid (fun (W : World) (hb : Below w.heap.size w W) => h.below hb)
  obtain ⟨v4, v51, v52, v53, v54, v55, rfl, i0, i1, i2, ht, hl, hv⟩ := h
  have HL := Lib.hid hl
  have HV := Lib.hid hv
  have HT := Lib.hid ht
  have I0 := Lib.hid i0
  have I1 := Lib.hid i1
  have I2 := Lib.hid i2
  obtain ⟨A4, c4, rfl, hlc, hm, HC⟩ := Txts.open_ hl
  unfold maxLen at hm
  clear hl hv ht i0 i1 i2
  rw [hop]
  have hop := Lib.hid hop
  have hsl := Lib.hid (instr_small hz)
  have hz : szVector d.value ≤ 1000000000000 := by unfold szInstr at hz; omega
  obtain ⟨G, g0, HG, B1⟩ := good1 w 63 [.int .i64 25, .int .i64 d.arg, .int .i64 d.count, .string (str d.text), .slice A4 d.labels.length c4, .int .i64 d.value.kind, v51, v52, v53, v54, v55, .int .i64 d.value.code, .int .i64 d.value.env]
  have x0 := fun W (h : Ok G W) => (B1.out W h).cell 0 _ rfl
  have x1 := fun W (h : Ok G W) => (B1.out W h).cell 1 _ rfl
  have x2 := fun W (h : Ok G W) => (B1.out W h).cell 2 _ rfl
  have x3 := fun W (h : Ok G W) => (B1.out W h).cell 3 _ rfl
  have x4 := fun W (h : Ok G W) => (B1.out W h).cell 4 _ rfl
  have x5 := fun W (h : Ok G W) => (B1.out W h).cell 5 _ rfl
  have x6 := fun W (h : Ok G W) => (B1.out W h).cell 6 _ rfl
  have x7 := fun W (h : Ok G W) => (B1.out W h).cell 7 _ rfl
  have x8 := fun W (h : Ok G W) => (B1.out W h).cell 8 _ rfl
  have x9 := fun W (h : Ok G W) => (B1.out W h).cell 9 _ rfl
  have x10 := fun W (h : Ok G W) => (B1.out W h).cell 10 _ rfl
  have x11 := fun W (h : Ok G W) => (B1.out W h).cell 11 _ rfl
  have x12 := fun W (h : Ok G W) => (B1.out W h).cell 12 _ rfl
  go_enter Tryz.func57, Tryz.ntmps57
  go_upto_region 1 with fail
  refine gen_w g0 ?_
  clear g0
  intro W0 g0
  go_wp2_with fail
  refine Calls.mono (impl_instrUses 25 (by decide) (by decide) _) ?_
  rintro e w1 ⟨rfl, rfl⟩
  rw [show useA 25 = false by decide, show useC 25 = false by decide, show useT 25 = true by decide, show useL 25 = true by decide, show ((25 : Int) == 0) = false by decide]
  by_cases e1 : d.arg = 0
  rotate_left
  · have q1 : (d.arg != 0) = true := by simp [e1]
    have HN := Lib.hid (show insI d = false by simp [insI, insR, hop.out, txtB, lblB, topC, nameOp, useA, useC, useT, useL, refOp, jmpOp, itB, e1])
    go_wp2_with fail
    go_ret
    exact ⟨ret_bool HN.out.symm, HG.out.below g0⟩
  have q1 : (d.arg != 0) = false := by simp [e1]
  have E1 := Lib.hid e1
  by_cases e2 : d.count = 0
  rotate_left
  · have q2 : (d.count != 0) = true := by simp [e2]
    have HN := Lib.hid (show insI d = false by have : (decide (0 ≤ d.count) && decide (d.count ≤ topC d.op)) = false := (by simp [topC, hop.out]; omega); simp [insI, insR, this])
    go_wp2_with fail
    go_ret
    exact ⟨ret_bool HN.out.symm, HG.out.below g0⟩
  have q2 : (d.count != 0) = false := by simp [e2]
  have E2 := Lib.hid e2
  go_wp2_with fail
  refine Calls.mono (impl_isZeroVector d.value _ _ (HV.out.below (HG.out.below g0))) ?_
  rintro e w2 ⟨rfl, hb⟩
  replace g0 := HG.out.step g0 hb
  clear hb
  cases e5 : zeroQ d.value
  · have HN := Lib.hid (show insI d = false by simp [insI, insR, hop.out, valB_ne d.value (show (25 : Int) ≠ 0 by decide), e5])
    go_wp2_with fail
    go_ret
    exact ⟨ret_bool HN.out.symm, HG.out.below g0⟩
  have E5 := Lib.hid (show valB 25 d.value = true by rw [valB_ne d.value (by decide), e5])
  clear e5
  go_wp2_with fail
  refine Calls.mono (impl_instrText 25 (by decide) (by decide) d _ _ hop.out (by have h9 := HRR.out _ (HG.out.below g0); simp only [hop.out, E1.out, E2.out] at h9; exact h9) hsl.out) ?_
  rintro e w4 ⟨rfl, hb⟩
  replace g0 := HG.out.step g0 hb
  clear hb
  go_wp2_with fail
  go_ret
  exact ⟨ret_bool (by simp [insI, insR, hop.out, txtB, lblB, topC, nameOp, useA, useC, useT, useL, refOp, jmpOp, itB, E1.out, E2.out, E5.out]), HG.out.below g0⟩
set_option maxHeartbeats 2000000 in
theorem impl_instrRight_26 : InstrRightC 26 := by
  intro d cs w hop h hz
  have HRR := Lib.hid (fun (W : World) (hb : Below w.heap.size w W) => h.below hb)
  obtain ⟨v4, v51, v52, v53, v54, v55, rfl, i0, i1, i2, ht, hl, hv⟩ := h
  have HL := Lib.hid hl
  have HV := Lib.hid hv
  have HT := Lib.hid ht
  have I0 := Lib.hid i0
  have I1 := Lib.hid i1
  have I2 := Lib.hid i2
  obtain ⟨A4, c4, rfl, hlc, hm, HC⟩ := Txts.open_ hl
  unfold maxLen at hm
  clear hl hv ht i0 i1 i2
  rw [hop]
  have hop := Lib.hid hop
  have hsl := Lib.hid (instr_small hz)
  have hz : szVector d.value ≤ 1000000000000 := by unfold szInstr at hz; omega
  obtain ⟨G, g0, HG, B1⟩ := good1 w 63 [.int .i64 26, .int .i64 d.arg, .int .i64 d.count, .string (str d.text), .slice A4 d.labels.length c4, .int .i64 d.value.kind, v51, v52, v53, v54, v55, .int .i64 d.value.code, .int .i64 d.value.env]
  have x0 := fun W (h : Ok G W) => (B1.out W h).cell 0 _ rfl
  have x1 := fun W (h : Ok G W) => (B1.out W h).cell 1 _ rfl
  have x2 := fun W (h : Ok G W) => (B1.out W h).cell 2 _ rfl
  have x3 := fun W (h : Ok G W) => (B1.out W h).cell 3 _ rfl
  have x4 := fun W (h : Ok G W) => (B1.out W h).cell 4 _ rfl
  have x5 := fun W (h : Ok G W) => (B1.out W h).cell 5 _ rfl
  have x6 := fun W (h : Ok G W) => (B1.out W h).cell 6 _ rfl
  have x7 := fun W (h : Ok G W) => (B1.out W h).cell 7 _ rfl
  have x8 := fun W (h : Ok G W) => (B1.out W h).cell 8 _ rfl
  have x9 := fun W (h : Ok G W) => (B1.out W h).cell 9 _ rfl
  have x10 := fun W (h : Ok G W) => (B1.out W h).cell 10 _ rfl
  have x11 := fun W (h : Ok G W) => (B1.out W h).cell 11 _ rfl
  have x12 := fun W (h : Ok G W) => (B1.out W h).cell 12 _ rfl
  go_enter Tryz.func57, Tryz.ntmps57
  go_upto_region 1 with fail
  refine gen_w g0 ?_
  clear g0
  intro W0 g0
  go_wp2_with fail
  refine Calls.mono (impl_instrUses 26 (by decide) (by decide) _) ?_
  rintro e w1 ⟨rfl, rfl⟩
  rw [show useA 26 = false by decide, show useC 26 = false by decide, show useT 26 = false by decide, show useL 26 = false by decide, show ((26 : Int) == 0) = false by decide]
  by_cases e1 : d.arg = 0
  rotate_left
  · have q1 : (d.arg != 0) = true := by simp [e1]
    have HN := Lib.hid (show insI d = false by simp [insI, insR, hop.out, txtB, lblB, topC, nameOp, useA, useC, useT, useL, refOp, jmpOp, itB, e1])
    go_wp2_with fail
    go_ret
    exact ⟨ret_bool HN.out.symm, HG.out.below g0⟩
  have q1 : (d.arg != 0) = false := by simp [e1]
  have E1 := Lib.hid e1
  by_cases e2 : d.count = 0
  rotate_left
  · have q2 : (d.count != 0) = true := by simp [e2]
    have HN := Lib.hid (show insI d = false by have : (decide (0 ≤ d.count) && decide (d.count ≤ topC d.op)) = false := (by simp [topC, hop.out]; omega); simp [insI, insR, this])
    go_wp2_with fail
    go_ret
    exact ⟨ret_bool HN.out.symm, HG.out.below g0⟩
  have q2 : (d.count != 0) = false := by simp [e2]
  have E2 := Lib.hid e2
  cases e3 : (d.text == [])
  · have HN := Lib.hid (show insI d = false by have : d.text.isEmpty = false := (by cases h : d.text <;> simp_all); simp [insI, insR, hop.out, txtB, lblB, topC, nameOp, useA, useC, useT, useL, refOp, jmpOp, itB, this])
    go_wp2_with fail
    go_ret
    exact ⟨ret_bool HN.out.symm, HG.out.below g0⟩
  have E3 := Lib.hid (show d.text = [] by simpa using e3)
  by_cases e4 : d.labels.length = 0
  rotate_left
  · have HN := Lib.hid (show insI d = false by have : d.labels.isEmpty = false := (by cases h : d.labels <;> simp_all); simp [insI, insR, hop.out, txtB, lblB, topC, nameOp, useA, useC, useT, useL, refOp, jmpOp, itB, this])
    go_wp2_with fail
    go_ret
    exact ⟨ret_bool HN.out.symm, HG.out.below g0⟩
  have E4 := Lib.hid (show d.labels = [] from List.eq_nil_of_length_eq_zero e4)
  go_wp2_with fail
  refine Calls.mono (impl_isZeroVector d.value _ _ (HV.out.below (HG.out.below g0))) ?_
  rintro e w2 ⟨rfl, hb⟩
  replace g0 := HG.out.step g0 hb
  clear hb
  cases e5 : zeroQ d.value
  · have HN := Lib.hid (show insI d = false by simp [insI, insR, hop.out, valB_ne d.value (show (26 : Int) ≠ 0 by decide), e5])
    go_wp2_with fail
    go_ret
    exact ⟨ret_bool HN.out.symm, HG.out.below g0⟩
  have E5 := Lib.hid (show valB 26 d.value = true by rw [valB_ne d.value (by decide), e5])
  clear e5
  go_wp2_with fail
  refine Calls.mono (impl_instrText 26 (by decide) (by decide) d _ _ hop.out (by have h9 := HRR.out _ (HG.out.below g0); simp only [hop.out, E1.out, E2.out, E4.out, List.length_nil] at h9; exact h9) hsl.out) ?_
  rintro e w4 ⟨rfl, hb⟩
  replace g0 := HG.out.step g0 hb
  clear hb
  go_wp2_with fail
  go_ret
  exact ⟨ret_bool (by simp [insI, insR, hop.out, txtB, lblB, topC, nameOp, useA, useC, useT, useL, refOp, jmpOp, itB, E1.out, E2.out, E3.out, E4.out, E5.out]), HG.out.below g0⟩
set_option maxHeartbeats 2000000 in
theorem impl_instrRight_27 : InstrRightC 27 := by
  intro d cs w hop h hz
  have HRR := Lib.hid (fun (W : World) (hb : Below w.heap.size w W) => h.below hb)
  obtain ⟨v4, v51, v52, v53, v54, v55, rfl, i0, i1, i2, ht, hl, hv⟩ := h
  have HL := Lib.hid hl
  have HV := Lib.hid hv
  have HT := Lib.hid ht
  have I0 := Lib.hid i0
  have I1 := Lib.hid i1
  have I2 := Lib.hid i2
  obtain ⟨A4, c4, rfl, hlc, hm, HC⟩ := Txts.open_ hl
  unfold maxLen at hm
  clear hl hv ht i0 i1 i2
  rw [hop]
  have hop := Lib.hid hop
  have hsl := Lib.hid (instr_small hz)
  have hz : szVector d.value ≤ 1000000000000 := by unfold szInstr at hz; omega
  obtain ⟨G, g0, HG, B1⟩ := good1 w 63 [.int .i64 27, .int .i64 d.arg, .int .i64 d.count, .string (str d.text), .slice A4 d.labels.length c4, .int .i64 d.value.kind, v51, v52, v53, v54, v55, .int .i64 d.value.code, .int .i64 d.value.env]
  have x0 := fun W (h : Ok G W) => (B1.out W h).cell 0 _ rfl
  have x1 := fun W (h : Ok G W) => (B1.out W h).cell 1 _ rfl
  have x2 := fun W (h : Ok G W) => (B1.out W h).cell 2 _ rfl
  have x3 := fun W (h : Ok G W) => (B1.out W h).cell 3 _ rfl
  have x4 := fun W (h : Ok G W) => (B1.out W h).cell 4 _ rfl
  have x5 := fun W (h : Ok G W) => (B1.out W h).cell 5 _ rfl
  have x6 := fun W (h : Ok G W) => (B1.out W h).cell 6 _ rfl
  have x7 := fun W (h : Ok G W) => (B1.out W h).cell 7 _ rfl
  have x8 := fun W (h : Ok G W) => (B1.out W h).cell 8 _ rfl
  have x9 := fun W (h : Ok G W) => (B1.out W h).cell 9 _ rfl
  have x10 := fun W (h : Ok G W) => (B1.out W h).cell 10 _ rfl
  have x11 := fun W (h : Ok G W) => (B1.out W h).cell 11 _ rfl
  have x12 := fun W (h : Ok G W) => (B1.out W h).cell 12 _ rfl
  go_enter Tryz.func57, Tryz.ntmps57
  go_upto_region 1 with fail
  refine gen_w g0 ?_
  clear g0
  intro W0 g0
  go_wp2_with fail
  refine Calls.mono (impl_instrUses 27 (by decide) (by decide) _) ?_
  rintro e w1 ⟨rfl, rfl⟩
  rw [show useA 27 = false by decide, show useC 27 = false by decide, show useT 27 = true by decide, show useL 27 = false by decide, show ((27 : Int) == 0) = false by decide]
  by_cases e1 : d.arg = 0
  rotate_left
  · have q1 : (d.arg != 0) = true := by simp [e1]
    have HN := Lib.hid (show insI d = false by simp [insI, insR, hop.out, txtB, lblB, topC, nameOp, useA, useC, useT, useL, refOp, jmpOp, itB, e1])
    go_wp2_with fail
    go_ret
    exact ⟨ret_bool HN.out.symm, HG.out.below g0⟩
  have q1 : (d.arg != 0) = false := by simp [e1]
  have E1 := Lib.hid e1
  by_cases e2 : d.count = 0
  rotate_left
  · have q2 : (d.count != 0) = true := by simp [e2]
    have HN := Lib.hid (show insI d = false by have : (decide (0 ≤ d.count) && decide (d.count ≤ topC d.op)) = false := (by simp [topC, hop.out]; omega); simp [insI, insR, this])
    go_wp2_with fail
    go_ret
    exact ⟨ret_bool HN.out.symm, HG.out.below g0⟩
  have q2 : (d.count != 0) = false := by simp [e2]
  have E2 := Lib.hid e2
  by_cases e4 : d.labels.length = 0
  rotate_left
  · have HN := Lib.hid (show insI d = false by have : d.labels.isEmpty = false := (by cases h : d.labels <;> simp_all); simp [insI, insR, hop.out, txtB, lblB, topC, nameOp, useA, useC, useT, useL, refOp, jmpOp, itB, this])
    go_wp2_with fail
    go_ret
    exact ⟨ret_bool HN.out.symm, HG.out.below g0⟩
  have E4 := Lib.hid (show d.labels = [] from List.eq_nil_of_length_eq_zero e4)
  go_wp2_with fail
  refine Calls.mono (impl_isZeroVector d.value _ _ (HV.out.below (HG.out.below g0))) ?_
  rintro e w2 ⟨rfl, hb⟩
  replace g0 := HG.out.step g0 hb
  clear hb
  cases e5 : zeroQ d.value
  · have HN := Lib.hid (show insI d = false by simp [insI, insR, hop.out, valB_ne d.value (show (27 : Int) ≠ 0 by decide), e5])
    go_wp2_with fail
    go_ret
    exact ⟨ret_bool HN.out.symm, HG.out.below g0⟩
  have E5 := Lib.hid (show valB 27 d.value = true by rw [valB_ne d.value (by decide), e5])
  clear e5
  go_wp2_with fail
  refine Calls.mono (impl_instrText 27 (by decide) (by decide) d _ _ hop.out (by have h9 := HRR.out _ (HG.out.below g0); simp only [hop.out, E1.out, E2.out, E4.out, List.length_nil] at h9; exact h9) hsl.out) ?_
  rintro e w4 ⟨rfl, hb⟩
  replace g0 := HG.out.step g0 hb
  clear hb
  go_wp2_with fail
  go_ret
  exact ⟨ret_bool (by simp [insI, insR, hop.out, txtB, lblB, topC, nameOp, useA, useC, useT, useL, refOp, jmpOp, itB, E1.out, E2.out, E4.out, E5.out]), HG.out.below g0⟩
set_option maxHeartbeats 2000000 in
theorem impl_instrRight_28 : InstrRightC 28 := by
  intro d cs w hop h hz
  have HRR := Lib.hid (fun (W : World) (hb : Below w.heap.size w W) => h.below hb)
  obtain ⟨v4, v51, v52, v53, v54, v55, rfl, i0, i1, i2, ht, hl, hv⟩ := h
  have HL := Lib.hid hl
  have HV := Lib.hid hv
  have HT := Lib.hid ht
  have I0 := Lib.hid i0
  have I1 := Lib.hid i1
  have I2 := Lib.hid i2
  obtain ⟨A4, c4, rfl, hlc, hm, HC⟩ := Txts.open_ hl
  unfold maxLen at hm
  clear hl hv ht i0 i1 i2
  rw [hop]
  have hop := Lib.hid hop
  have hsl := Lib.hid (instr_small hz)
  have hz : szVector d.value ≤ 1000000000000 := by unfold szInstr at hz; omega
  obtain ⟨G, g0, HG, B1⟩ := good1 w 63 [.int .i64 28, .int .i64 d.arg, .int .i64 d.count, .string (str d.text), .slice A4 d.labels.length c4, .int .i64 d.value.kind, v51, v52, v53, v54, v55, .int .i64 d.value.code, .int .i64 d.value.env]
  have x0 := fun W (h : Ok G W) => (B1.out W h).cell 0 _ rfl
  have x1 := fun W (h : Ok G W) => (B1.out W h).cell 1 _ rfl
  have x2 := fun W (h : Ok G W) => (B1.out W h).cell 2 _ rfl
  have x3 := fun W (h : Ok G W) => (B1.out W h).cell 3 _ rfl
  have x4 := fun W (h : Ok G W) => (B1.out W h).cell 4 _ rfl
  have x5 := fun W (h : Ok G W) => (B1.out W h).cell 5 _ rfl
  have x6 := fun W (h : Ok G W) => (B1.out W h).cell 6 _ rfl
  have x7 := fun W (h : Ok G W) => (B1.out W h).cell 7 _ rfl
  have x8 := fun W (h : Ok G W) => (B1.out W h).cell 8 _ rfl
  have x9 := fun W (h : Ok G W) => (B1.out W h).cell 9 _ rfl
  have x10 := fun W (h : Ok G W) => (B1.out W h).cell 10 _ rfl
  have x11 := fun W (h : Ok G W) => (B1.out W h).cell 11 _ rfl
  have x12 := fun W (h : Ok G W) => (B1.out W h).cell 12 _ rfl
  go_enter Tryz.func57, Tryz.ntmps57
  go_upto_region 1 with fail
  refine gen_w g0 ?_
  clear g0
  intro W0 g0
  go_wp2_with fail
  refine Calls.mono (impl_instrUses 28 (by decide) (by decide) _) ?_
  rintro e w1 ⟨rfl, rfl⟩
  rw [show useA 28 = true by decide, show useC 28 = true by decide, show useT 28 = true by decide, show useL 28 = false by decide, show ((28 : Int) == 0) = false by decide]
  by_cases e4 : d.labels.length = 0
  rotate_left
  · have HN := Lib.hid (show insI d = false by have : d.labels.isEmpty = false := (by cases h : d.labels <;> simp_all); simp [insI, insR, hop.out, txtB, lblB, topC, nameOp, useA, useC, useT, useL, refOp, jmpOp, itB, this])
    go_wp2_with fail
    go_ret
    exact ⟨ret_bool HN.out.symm, HG.out.below g0⟩
  have E4 := Lib.hid (show d.labels = [] from List.eq_nil_of_length_eq_zero e4)
  go_wp2_with fail
  refine Calls.mono (impl_isZeroVector d.value _ _ (HV.out.below (HG.out.below g0))) ?_
  rintro e w2 ⟨rfl, hb⟩
  replace g0 := HG.out.step g0 hb
  clear hb
  cases e5 : zeroQ d.value
  · have HN := Lib.hid (show insI d = false by simp [insI, insR, hop.out, valB_ne d.value (show (28 : Int) ≠ 0 by decide), e5])
    go_wp2_with fail
    go_ret
    exact ⟨ret_bool HN.out.symm, HG.out.below g0⟩
  have E5 := Lib.hid (show valB 28 d.value = true by rw [valB_ne d.value (by decide), e5])
  clear e5
  by_cases c1 : 0 ≤ d.count
  rotate_left
  · have HN := Lib.hid (show insI d = false by simp [insI, insR, c1])
    go_wp2_with fail
    go_ret
    exact ⟨ret_bool HN.out.symm, HG.out.below g0⟩
  by_cases c2 : d.count ≤ 2
  rotate_left
  · have HN := Lib.hid (show insI d = false by simp [insI, insR, hop.out, topC, c2])
    go_wp2_with fail
    go_ret
    exact ⟨ret_bool HN.out.symm, HG.out.below g0⟩
  have C1 := Lib.hid c1
  have C2 := Lib.hid c2
  go_wp2_with fail
  refine Calls.mono (impl_instrText 28 (by decide) (by decide) d _ _ hop.out (by have h9 := HRR.out _ (HG.out.below g0); simp only [hop.out, E4.out, List.length_nil] at h9; exact h9) hsl.out) ?_
  rintro e w4 ⟨rfl, hb⟩
  replace g0 := HG.out.step g0 hb
  clear hb
  go_wp2_with fail
  go_ret
  exact ⟨ret_bool (by simp [insI, insR, hop.out, txtB, lblB, topC, nameOp, useA, useC, useT, useL, refOp, jmpOp, itB, E4.out, E5.out, C1.out, C2.out]), HG.out.below g0⟩
set_option maxHeartbeats 2000000 in
theorem impl_instrRight_29 : InstrRightC 29 := by
  intro d cs w hop h hz
  have HRR := Lib.hid (fun (W : World) (hb : Below w.heap.size w W) => h.below hb)
  obtain ⟨v4, v51, v52, v53, v54, v55, rfl, i0, i1, i2, ht, hl, hv⟩ := h
  have HL := Lib.hid hl
  have HV := Lib.hid hv
  have HT := Lib.hid ht
  have I0 := Lib.hid i0
  have I1 := Lib.hid i1
  have I2 := Lib.hid i2
  obtain ⟨A4, c4, rfl, hlc, hm, HC⟩ := Txts.open_ hl
  unfold maxLen at hm
  clear hl hv ht i0 i1 i2
  rw [hop]
  have hop := Lib.hid hop
  have hsl := Lib.hid (instr_small hz)
  have hz : szVector d.value ≤ 1000000000000 := by unfold szInstr at hz; omega
  obtain ⟨G, g0, HG, B1⟩ := good1 w 63 [.int .i64 29, .int .i64 d.arg, .int .i64 d.count, .string (str d.text), .slice A4 d.labels.length c4, .int .i64 d.value.kind, v51, v52, v53, v54, v55, .int .i64 d.value.code, .int .i64 d.value.env]
  have x0 := fun W (h : Ok G W) => (B1.out W h).cell 0 _ rfl
  have x1 := fun W (h : Ok G W) => (B1.out W h).cell 1 _ rfl
  have x2 := fun W (h : Ok G W) => (B1.out W h).cell 2 _ rfl
  have x3 := fun W (h : Ok G W) => (B1.out W h).cell 3 _ rfl
  have x4 := fun W (h : Ok G W) => (B1.out W h).cell 4 _ rfl
  have x5 := fun W (h : Ok G W) => (B1.out W h).cell 5 _ rfl
  have x6 := fun W (h : Ok G W) => (B1.out W h).cell 6 _ rfl
  have x7 := fun W (h : Ok G W) => (B1.out W h).cell 7 _ rfl
  have x8 := fun W (h : Ok G W) => (B1.out W h).cell 8 _ rfl
  have x9 := fun W (h : Ok G W) => (B1.out W h).cell 9 _ rfl
  have x10 := fun W (h : Ok G W) => (B1.out W h).cell 10 _ rfl
  have x11 := fun W (h : Ok G W) => (B1.out W h).cell 11 _ rfl
  have x12 := fun W (h : Ok G W) => (B1.out W h).cell 12 _ rfl
  go_enter Tryz.func57, Tryz.ntmps57
  go_upto_region 1 with fail
  refine gen_w g0 ?_
  clear g0
  intro W0 g0
  go_wp2_with fail
  refine Calls.mono (impl_instrUses 29 (by decide) (by decide) _) ?_
  rintro e w1 ⟨rfl, rfl⟩
  rw [show useA 29 = false by decide, show useC 29 = false by decide, show useT 29 = true by decide, show useL 29 = false by decide, show ((29 : Int) == 0) = false by decide]
  by_cases e1 : d.arg = 0
  rotate_left
  · have q1 : (d.arg != 0) = true := by simp [e1]
    have HN := Lib.hid (show insI d = false by simp [insI, insR, hop.out, txtB, lblB, topC, nameOp, useA, useC, useT, useL, refOp, jmpOp, itB, e1])
    go_wp2_with fail
    go_ret
    exact ⟨ret_bool HN.out.symm, HG.out.below g0⟩
  have q1 : (d.arg != 0) = false := by simp [e1]
  have E1 := Lib.hid e1
  by_cases e2 : d.count = 0
  rotate_left
  · have q2 : (d.count != 0) = true := by simp [e2]
    have HN := Lib.hid (show insI d = false by have : (decide (0 ≤ d.count) && decide (d.count ≤ topC d.op)) = false := (by simp [topC, hop.out]; omega); simp [insI, insR, this])
    go_wp2_with fail
    go_ret
    exact ⟨ret_bool HN.out.symm, HG.out.below g0⟩
  have q2 : (d.count != 0) = false := by simp [e2]
  have E2 := Lib.hid e2
  by_cases e4 : d.labels.length = 0
  rotate_left
  · have HN := Lib.hid (show insI d = false by have : d.labels.isEmpty = false := (by cases h : d.labels <;> simp_all); simp [insI, insR, hop.out, txtB, lblB, topC, nameOp, useA, useC, useT, useL, refOp, jmpOp, itB, this])
    go_wp2_with fail
    go_ret
    exact ⟨ret_bool HN.out.symm, HG.out.below g0⟩
  have E4 := Lib.hid (show d.labels = [] from List.eq_nil_of_length_eq_zero e4)
  go_wp2_with fail
  refine Calls.mono (impl_isZeroVector d.value _ _ (HV.out.below (HG.out.below g0))) ?_
  rintro e w2 ⟨rfl, hb⟩
  replace g0 := HG.out.step g0 hb
  clear hb
  cases e5 : zeroQ d.value
  · have HN := Lib.hid (show insI d = false by simp [insI, insR, hop.out, valB_ne d.value (show (29 : Int) ≠ 0 by decide), e5])
    go_wp2_with fail
    go_ret
    exact ⟨ret_bool HN.out.symm, HG.out.below g0⟩
  have E5 := Lib.hid (show valB 29 d.value = true by rw [valB_ne d.value (by decide), e5])
  clear e5
  go_wp2_with fail
  refine Calls.mono (impl_instrText 29 (by decide) (by decide) d _ _ hop.out (by have h9 := HRR.out _ (HG.out.below g0); simp only [hop.out, E1.out, E2.out, E4.out, List.length_nil] at h9; exact h9) hsl.out) ?_
  rintro e w4 ⟨rfl, hb⟩
  replace g0 := HG.out.step g0 hb
  clear hb
  go_wp2_with fail
  go_ret
  exact ⟨ret_bool (by simp [insI, insR, hop.out, txtB, lblB, topC, nameOp, useA, useC, useT, useL, refOp, jmpOp, itB, E1.out, E2.out, E4.out, E5.out]), HG.out.below g0⟩
set_option maxHeartbeats 2000000 in
theorem impl_instrRight_30 : InstrRightC 30 := by
  intro d cs w hop h hz
  have HRR := Lib.hid (fun (W : World) (hb : Below w.heap.size w W) => h.below hb)
  obtain ⟨v4, v51, v52, v53, v54, v55, rfl, i0, i1, i2, ht, hl, hv⟩ := h
  have HL := Lib.hid hl
  have HV := Lib.hid hv
  have HT := Lib.hid ht
  have I0 := Lib.hid i0
  have I1 := Lib.hid i1
  have I2 := Lib.hid i2
  obtain ⟨A4, c4, rfl, hlc, hm, HC⟩ := Txts.open_ hl
  unfold maxLen at hm
  clear hl hv ht i0 i1 i2
  rw [hop]
  have hop := Lib.hid hop
  have hsl := Lib.hid (instr_small hz)
  have hz : szVector d.value ≤ 1000000000000 := by unfold szInstr at hz; omega
  obtain ⟨G, g0, HG, B1⟩ := good1 w 63 [.int .i64 30, .int .i64 d.arg, .int .i64 d.count, .string (str d.text), .slice A4 d.labels.length c4, .int .i64 d.value.kind, v51, v52, v53, v54, v55, .int .i64 d.value.code, .int .i64 d.value.env]
  have x0 := fun W (h : Ok G W) => (B1.out W h).cell 0 _ rfl
  have x1 := fun W (h : Ok G W) => (B1.out W h).cell 1 _ rfl
  have x2 := fun W (h : Ok G W) => (B1.out W h).cell 2 _ rfl
  have x3 := fun W (h : Ok G W) => (B1.out W h).cell 3 _ rfl
  have x4 := fun W (h : Ok G W) => (B1.out W h).cell 4 _ rfl
  have x5 := fun W (h : Ok G W) => (B1.out W h).cell 5 _ rfl
  have x6 := fun W (h : Ok G W) => (B1.out W h).cell 6 _ rfl
  have x7 := fun W (h : Ok G W) => (B1.out W h).cell 7 _ rfl
  have x8 := fun W (h : Ok G W) => (B1.out W h).cell 8 _ rfl
  have x9 := fun W (h : Ok G W) => (B1.out W h).cell 9 _ rfl
  have x10 := fun W (h : Ok G W) => (B1.out W h).cell 10 _ rfl
  have x11 := fun W (h : Ok G W) => (B1.out W h).cell 11 _ rfl
  have x12 := fun W (h : Ok G W) => (B1.out W h).cell 12 _ rfl
  go_enter Tryz.func57, Tryz.ntmps57
  go_upto_region 1 with fail
  refine gen_w g0 ?_
  clear g0
  intro W0 g0
  go_wp2_with fail
  refine Calls.mono (impl_instrUses 30 (by decide) (by decide) _) ?_
  rintro e w1 ⟨rfl, rfl⟩
  rw [show useA 30 = false by decide, show useC 30 = false by decide, show useT 30 = true by decide, show useL 30 = false by decide, show ((30 : Int) == 0) = false by decide]
  by_cases e1 : d.arg = 0
  rotate_left
  · have q1 : (d.arg != 0) = true := by simp [e1]
    have HN := Lib.hid (show insI d = false by simp [insI, insR, hop.out, txtB, lblB, topC, nameOp, useA, useC, useT, useL, refOp, jmpOp, itB, e1])
    go_wp2_with fail
    go_ret
    exact ⟨ret_bool HN.out.symm, HG.out.below g0⟩
  have q1 : (d.arg != 0) = false := by simp [e1]
  have E1 := Lib.hid e1
  by_cases e2 : d.count = 0
  rotate_left
  · have q2 : (d.count != 0) = true := by simp [e2]
    have HN := Lib.hid (show insI d = false by have : (decide (0 ≤ d.count) && decide (d.count ≤ topC d.op)) = false := (by simp [topC, hop.out]; omega); simp [insI, insR, this])
    go_wp2_with fail
    go_ret
    exact ⟨ret_bool HN.out.symm, HG.out.below g0⟩
  have q2 : (d.count != 0) = false := by simp [e2]
  have E2 := Lib.hid e2
  by_cases e4 : d.labels.length = 0
  rotate_left
  · have HN := Lib.hid (show insI d = false by have : d.labels.isEmpty = false := (by cases h : d.labels <;> simp_all); simp [insI, insR, hop.out, txtB, lblB, topC, nameOp, useA, useC, useT, useL, refOp, jmpOp, itB, this])
    go_wp2_with fail
    go_ret
    exact ⟨ret_bool HN.out.symm, HG.out.below g0⟩
  have E4 := Lib.hid (show d.labels = [] from List.eq_nil_of_length_eq_zero e4)
  go_wp2_with fail
  refine Calls.mono (impl_isZeroVector d.value _ _ (HV.out.below (HG.out.below g0))) ?_
  rintro e w2 ⟨rfl, hb⟩
  replace g0 := HG.out.step g0 hb
  clear hb
  cases e5 : zeroQ d.value
  · have HN := Lib.hid (show insI d = false by simp [insI, insR, hop.out, valB_ne d.value (show (30 : Int) ≠ 0 by decide), e5])
    go_wp2_with fail
    go_ret
    exact ⟨ret_bool HN.out.symm, HG.out.below g0⟩
  have E5 := Lib.hid (show valB 30 d.value = true by rw [valB_ne d.value (by decide), e5])
  clear e5
  go_wp2_with fail
  refine Calls.mono (impl_instrText 30 (by decide) (by decide) d _ _ hop.out (by have h9 := HRR.out _ (HG.out.below g0); simp only [hop.out, E1.out, E2.out, E4.out, List.length_nil] at h9; exact h9) hsl.out) ?_
  rintro e w4 ⟨rfl, hb⟩
  replace g0 := HG.out.step g0 hb
  clear hb
  go_wp2_with fail
  go_ret
  exact ⟨ret_bool (by simp [insI, insR, hop.out, txtB, lblB, topC, nameOp, useA, useC, useT, useL, refOp, jmpOp, itB, E1.out, E2.out, E4.out, E5.out]), HG.out.below g0⟩
set_option maxHeartbeats 2000000 in
theorem impl_instrRight_31 : InstrRightC 31 := by
  intro d cs w hop h hz
  have HRR := Lib.hid (fun (W : World) (hb : Below w.heap.size w W) => h.below hb)
  obtain ⟨v4, v51, v52, v53, v54, v55, rfl, i0, i1, i2, ht, hl, hv⟩ := h
  have HL := Lib.hid hl
  have HV := Lib.hid hv
  have HT := Lib.hid ht
  have I0 := Lib.hid i0
  have I1 := Lib.hid i1
  have I2 := Lib.hid i2
  obtain ⟨A4, c4, rfl, hlc, hm, HC⟩ := Txts.open_ hl
  unfold maxLen at hm
  clear hl hv ht i0 i1 i2
  rw [hop]
  have hop := Lib.hid hop
  have hsl := Lib.hid (instr_small hz)
  have hz : szVector d.value ≤ 1000000000000 := by unfold szInstr at hz; omega
  obtain ⟨G, g0, HG, B1⟩ := good1 w 63 [.int .i64 31, .int .i64 d.arg, .int .i64 d.count, .string (str d.text), .slice A4 d.labels.length c4, .int .i64 d.value.kind, v51, v52, v53, v54, v55, .int .i64 d.value.code, .int .i64 d.value.env]
  have x0 := fun W (h : Ok G W) => (B1.out W h).cell 0 _ rfl
  have x1 := fun W (h : Ok G W) => (B1.out W h).cell 1 _ rfl
  have x2 := fun W (h : Ok G W) => (B1.out W h).cell 2 _ rfl
  have x3 := fun W (h : Ok G W) => (B1.out W h).cell 3 _ rfl
  have x4 := fun W (h : Ok G W) => (B1.out W h).cell 4 _ rfl
  have x5 := fun W (h : Ok G W) => (B1.out W h).cell 5 _ rfl
  have x6 := fun W (h : Ok G W) => (B1.out W h).cell 6 _ rfl
  have x7 := fun W (h : Ok G W) => (B1.out W h).cell 7 _ rfl
  have x8 := fun W (h : Ok G W) => (B1.out W h).cell 8 _ rfl
  have x9 := fun W (h : Ok G W) => (B1.out W h).cell 9 _ rfl
  have x10 := fun W (h : Ok G W) => (B1.out W h).cell 10 _ rfl
  have x11 := fun W (h : Ok G W) => (B1.out W h).cell 11 _ rfl
  have x12 := fun W (h : Ok G W) => (B1.out W h).cell 12 _ rfl
  go_enter Tryz.func57, Tryz.ntmps57
  go_upto_region 1 with fail
  refine gen_w g0 ?_
  clear g0
  intro W0 g0
  go_wp2_with fail
  refine Calls.mono (impl_instrUses 31 (by decide) (by decide) _) ?_
  rintro e w1 ⟨rfl, rfl⟩
  rw [show useA 31 = true by decide, show useC 31 = false by decide, show useT 31 = false by decide, show useL 31 = false by decide, show ((31 : Int) == 0) = false by decide]
  by_cases e2 : d.count = 0
  rotate_left
  · have q2 : (d.count != 0) = true := by simp [e2]
    have HN := Lib.hid (show insI d = false by have : (decide (0 ≤ d.count) && decide (d.count ≤ topC d.op)) = false := (by simp [topC, hop.out]; omega); simp [insI, insR, this])
    go_wp2_with fail
    go_ret
    exact ⟨ret_bool HN.out.symm, HG.out.below g0⟩
  have q2 : (d.count != 0) = false := by simp [e2]
  have E2 := Lib.hid e2
  cases e3 : (d.text == [])
  · have HN := Lib.hid (show insI d = false by have : d.text.isEmpty = false := (by cases h : d.text <;> simp_all); simp [insI, insR, hop.out, txtB, lblB, topC, nameOp, useA, useC, useT, useL, refOp, jmpOp, itB, this])
    go_wp2_with fail
    go_ret
    exact ⟨ret_bool HN.out.symm, HG.out.below g0⟩
  have E3 := Lib.hid (show d.text = [] by simpa using e3)
  by_cases e4 : d.labels.length = 0
  rotate_left
  · have HN := Lib.hid (show insI d = false by have : d.labels.isEmpty = false := (by cases h : d.labels <;> simp_all); simp [insI, insR, hop.out, txtB, lblB, topC, nameOp, useA, useC, useT, useL, refOp, jmpOp, itB, this])
    go_wp2_with fail
    go_ret
    exact ⟨ret_bool HN.out.symm, HG.out.below g0⟩
  have E4 := Lib.hid (show d.labels = [] from List.eq_nil_of_length_eq_zero e4)
  go_wp2_with fail
  refine Calls.mono (impl_isZeroVector d.value _ _ (HV.out.below (HG.out.below g0))) ?_
  rintro e w2 ⟨rfl, hb⟩
  replace g0 := HG.out.step g0 hb
  clear hb
  cases e5 : zeroQ d.value
  · have HN := Lib.hid (show insI d = false by simp [insI, insR, hop.out, valB_ne d.value (show (31 : Int) ≠ 0 by decide), e5])
    go_wp2_with fail
    go_ret
    exact ⟨ret_bool HN.out.symm, HG.out.below g0⟩
  have E5 := Lib.hid (show valB 31 d.value = true by rw [valB_ne d.value (by decide), e5])
  clear e5
  go_wp2_with fail
  refine Calls.mono (impl_instrText 31 (by decide) (by decide) d _ _ hop.out (by have h9 := HRR.out _ (HG.out.below g0); simp only [hop.out, E2.out, E4.out, List.length_nil] at h9; exact h9) hsl.out) ?_
  rintro e w4 ⟨rfl, hb⟩
  replace g0 := HG.out.step g0 hb
  clear hb
  go_wp2_with fail
  go_ret
  exact ⟨ret_bool (by simp [insI, insR, hop.out, txtB, lblB, topC, nameOp, useA, useC, useT, useL, refOp, jmpOp, itB, E2.out, E3.out, E4.out, E5.out]), HG.out.below g0⟩
set_option maxHeartbeats 2000000 in
theorem impl_instrRight_32 : InstrRightC 32 := by
  intro d cs w hop h hz
  have HRR := Lib.hid (fun (W : World) (hb : Below w.heap.size w W) => h.below hb)
  obtain ⟨v4, v51, v52, v53, v54, v55, rfl, i0, i1, i2, ht, hl, hv⟩ := h
  have HL := Lib.hid hl
  have HV := Lib.hid hv
  have HT := Lib.hid ht
  have I0 := Lib.hid i0
  have I1 := Lib.hid i1
  have I2 := Lib.hid i2
  obtain ⟨A4, c4, rfl, hlc, hm, HC⟩ := Txts.open_ hl
  unfold maxLen at hm
  clear hl hv ht i0 i1 i2
  rw [hop]
  have hop := Lib.hid hop
  have hsl := Lib.hid (instr_small hz)
  have hz : szVector d.value ≤ 1000000000000 := by unfold szInstr at hz; omega
  obtain ⟨G, g0, HG, B1⟩ := good1 w 63 [.int .i64 32, .int .i64 d.arg, .int .i64 d.count, .string (str d.text), .slice A4 d.labels.length c4, .int .i64 d.value.kind, v51, v52, v53, v54, v55, .int .i64 d.value.code, .int .i64 d.value.env]
  have x0 := fun W (h : Ok G W) => (B1.out W h).cell 0 _ rfl
  have x1 := fun W (h : Ok G W) => (B1.out W h).cell 1 _ rfl
  have x2 := fun W (h : Ok G W) => (B1.out W h).cell 2 _ rfl
  have x3 := fun W (h : Ok G W) => (B1.out W h).cell 3 _ rfl
  have x4 := fun W (h : Ok G W) => (B1.out W h).cell 4 _ rfl
  have x5 := fun W (h : Ok G W) => (B1.out W h).cell 5 _ rfl
  have x6 := fun W (h : Ok G W) => (B1.out W h).cell 6 _ rfl
  have x7 := fun W (h : Ok G W) => (B1.out W h).cell 7 _ rfl
  have x8 := fun W (h : Ok G W) => (B1.out W h).cell 8 _ rfl
  have x9 := fun W (h : Ok G W) => (B1.out W h).cell 9 _ rfl
  have x10 := fun W (h : Ok G W) => (B1.out W h).cell 10 _ rfl
  have x11 := fun W (h : Ok G W) => (B1.out W h).cell 11 _ rfl
  have x12 := fun W (h : Ok G W) => (B1.out W h).cell 12 _ rfl
  go_enter Tryz.func57, Tryz.ntmps57
  go_upto_region 1 with fail
  refine gen_w g0 ?_
  clear g0
  intro W0 g0
  go_wp2_with fail
  refine Calls.mono (impl_instrUses 32 (by decide) (by decide) _) ?_
  rintro e w1 ⟨rfl, rfl⟩
  rw [show useA 32 = false by decide, show useC 32 = false by decide, show useT 32 = true by decide, show useL 32 = false by decide, show ((32 : Int) == 0) = false by decide]
  by_cases e1 : d.arg = 0
  rotate_left
  · have q1 : (d.arg != 0) = true := by simp [e1]
    have HN := Lib.hid (show insI d = false by simp [insI, insR, hop.out, txtB, lblB, topC, nameOp, useA, useC, useT, useL, refOp, jmpOp, itB, e1])
    go_wp2_with fail
    go_ret
    exact ⟨ret_bool HN.out.symm, HG.out.below g0⟩
  have q1 : (d.arg != 0) = false := by simp [e1]
  have E1 := Lib.hid e1
  by_cases e2 : d.count = 0
  rotate_left
  · have q2 : (d.count != 0) = true := by simp [e2]
    have HN := Lib.hid (show insI d = false by have : (decide (0 ≤ d.count) && decide (d.count ≤ topC d.op)) = false := (by simp [topC, hop.out]; omega); simp [insI, insR, this])
    go_wp2_with fail
    go_ret
    exact ⟨ret_bool HN.out.symm, HG.out.below g0⟩
  have q2 : (d.count != 0) = false := by simp [e2]
  have E2 := Lib.hid e2
  by_cases e4 : d.labels.length = 0
  rotate_left
  · have HN := Lib.hid (show insI d = false by have : d.labels.isEmpty = false := (by cases h : d.labels <;> simp_all); simp [insI, insR, hop.out, txtB, lblB, topC, nameOp, useA, useC, useT, useL, refOp, jmpOp, itB, this])
    go_wp2_with fail
    go_ret
    exact ⟨ret_bool HN.out.symm, HG.out.below g0⟩
  have E4 := Lib.hid (show d.labels = [] from List.eq_nil_of_length_eq_zero e4)
  go_wp2_with fail
  refine Calls.mono (impl_isZeroVector d.value _ _ (HV.out.below (HG.out.below g0))) ?_
  rintro e w2 ⟨rfl, hb⟩
  replace g0 := HG.out.step g0 hb
  clear hb
  cases e5 : zeroQ d.value
  · have HN := Lib.hid (show insI d = false by simp [insI, insR, hop.out, valB_ne d.value (show (32 : Int) ≠ 0 by decide), e5])
    go_wp2_with fail
    go_ret
    exact ⟨ret_bool HN.out.symm, HG.out.below g0⟩
  have E5 := Lib.hid (show valB 32 d.value = true by rw [valB_ne d.value (by decide), e5])
  clear e5
  go_wp2_with fail
  refine Calls.mono (impl_instrText 32 (by decide) (by decide) d _ _ hop.out (by have h9 := HRR.out _ (HG.out.below g0); simp only [hop.out, E1.out, E2.out, E4.out, List.length_nil] at h9; exact h9) hsl.out) ?_
  rintro e w4 ⟨rfl, hb⟩
  replace g0 := HG.out.step g0 hb
  clear hb
  go_wp2_with fail
  go_ret
  exact ⟨ret_bool (by simp [insI, insR, hop.out, txtB, lblB, topC, nameOp, useA, useC, useT, useL, refOp, jmpOp, itB, E1.out, E2.out, E4.out, E5.out]), HG.out.below g0⟩
set_option maxHeartbeats 2000000 in
theorem impl_instrRight_33 : InstrRightC 33 := by
  intro d cs w hop h hz
  have HRR := Lib.hid (fun (W : World) (hb : Below w.heap.size w W) => h.below hb)
  obtain ⟨v4, v51, v52, v53, v54, v55, rfl, i0, i1, i2, ht, hl, hv⟩ := h
  have HL := Lib.hid hl
  have HV := Lib.hid hv
  have HT := Lib.hid ht
  have I0 := Lib.hid i0
  have I1 := Lib.hid i1
  have I2 := Lib.hid i2
  obtain ⟨A4, c4, rfl, hlc, hm, HC⟩ := Txts.open_ hl
  unfold maxLen at hm
  clear hl hv ht i0 i1 i2
  rw [hop]
  have hop := Lib.hid hop
  have hsl := Lib.hid (instr_small hz)
  have hz : szVector d.value ≤ 1000000000000 := by unfold szInstr at hz; omega
  obtain ⟨G, g0, HG, B1⟩ := good1 w 63 [.int .i64 33, .int .i64 d.arg, .int .i64 d.count, .string (str d.text), .slice A4 d.labels.length c4, .int .i64 d.value.kind, v51, v52, v53, v54, v55, .int .i64 d.value.code, .int .i64 d.value.env]
  have x0 := fun W (h : Ok G W) => (B1.out W h).cell 0 _ rfl
  have x1 := fun W (h : Ok G W) => (B1.out W h).cell 1 _ rfl
  have x2 := fun W (h : Ok G W) => (B1.out W h).cell 2 _ rfl
  have x3 := fun W (h : Ok G W) => (B1.out W h).cell 3 _ rfl
  have x4 := fun W (h : Ok G W) => (B1.out W h).cell 4 _ rfl
  have x5 := fun W (h : Ok G W) => (B1.out W h).cell 5 _ rfl
  have x6 := fun W (h : Ok G W) => (B1.out W h).cell 6 _ rfl
  have x7 := fun W (h : Ok G W) => (B1.out W h).cell 7 _ rfl
  have x8 := fun W (h : Ok G W) => (B1.out W h).cell 8 _ rfl
  have x9 := fun W (h : Ok G W) => (B1.out W h).cell 9 _ rfl
  have x10 := fun W (h : Ok G W) => (B1.out W h).cell 10 _ rfl
  have x11 := fun W (h : Ok G W) => (B1.out W h).cell 11 _ rfl
  have x12 := fun W (h : Ok G W) => (B1.out W h).cell 12 _ rfl
  go_enter Tryz.func57, Tryz.ntmps57
  go_upto_region 1 with fail
  refine gen_w g0 ?_
  clear g0
  intro W0 g0
  go_wp2_with fail
  refine Calls.mono (impl_instrUses 33 (by decide) (by decide) _) ?_
  rintro e w1 ⟨rfl, rfl⟩
  rw [show useA 33 = false by decide, show useC 33 = false by decide, show useT 33 = false by decide, show useL 33 = false by decide, show ((33 : Int) == 0) = false by decide]
  by_cases e1 : d.arg = 0
  rotate_left
  · have q1 : (d.arg != 0) = true := by simp [e1]
    have HN := Lib.hid (show insI d = false by simp [insI, insR, hop.out, txtB, lblB, topC, nameOp, useA, useC, useT, useL, refOp, jmpOp, itB, e1])
    go_wp2_with fail
    go_ret
    exact ⟨ret_bool HN.out.symm, HG.out.below g0⟩
  have q1 : (d.arg != 0) = false := by simp [e1]
  have E1 := Lib.hid e1
  by_cases e2 : d.count = 0
  rotate_left
  · have q2 : (d.count != 0) = true := by simp [e2]
    have HN := Lib.hid (show insI d = false by have : (decide (0 ≤ d.count) && decide (d.count ≤ topC d.op)) = false := (by simp [topC, hop.out]; omega); simp [insI, insR, this])
    go_wp2_with fail
    go_ret
    exact ⟨ret_bool HN.out.symm, HG.out.below g0⟩
  have q2 : (d.count != 0) = false := by simp [e2]
  have E2 := Lib.hid e2
  cases e3 : (d.text == [])
  · have HN := Lib.hid (show insI d = false by have : d.text.isEmpty = false := (by cases h : d.text <;> simp_all); simp [insI, insR, hop.out, txtB, lblB, topC, nameOp, useA, useC, useT, useL, refOp, jmpOp, itB, this])
    go_wp2_with fail
    go_ret
    exact ⟨ret_bool HN.out.symm, HG.out.below g0⟩
  have E3 := Lib.hid (show d.text = [] by simpa using e3)
  by_cases e4 : d.labels.length = 0
  rotate_left
  · have HN := Lib.hid (show insI d = false by have : d.labels.isEmpty = false := (by cases h : d.labels <;> simp_all); simp [insI, insR, hop.out, txtB, lblB, topC, nameOp, useA, useC, useT, useL, refOp, jmpOp, itB, this])
    go_wp2_with fail
    go_ret
    exact ⟨ret_bool HN.out.symm, HG.out.below g0⟩
  have E4 := Lib.hid (show d.labels = [] from List.eq_nil_of_length_eq_zero e4)
  go_wp2_with fail
  refine Calls.mono (impl_isZeroVector d.value _ _ (HV.out.below (HG.out.below g0))) ?_
  rintro e w2 ⟨rfl, hb⟩
  replace g0 := HG.out.step g0 hb
  clear hb
  cases e5 : zeroQ d.value
  · have HN := Lib.hid (show insI d = false by simp [insI, insR, hop.out, valB_ne d.value (show (33 : Int) ≠ 0 by decide), e5])
    go_wp2_with fail
    go_ret
    exact ⟨ret_bool HN.out.symm, HG.out.below g0⟩
  have E5 := Lib.hid (show valB 33 d.value = true by rw [valB_ne d.value (by decide), e5])
  clear e5
  go_wp2_with fail
  refine Calls.mono (impl_instrText 33 (by decide) (by decide) d _ _ hop.out (by have h9 := HRR.out _ (HG.out.below g0); simp only [hop.out, E1.out, E2.out, E4.out, List.length_nil] at h9; exact h9) hsl.out) ?_
  rintro e w4 ⟨rfl, hb⟩
  replace g0 := HG.out.step g0 hb
  clear hb
  go_wp2_with fail
  go_ret
  exact ⟨ret_bool (by simp [insI, insR, hop.out, txtB, lblB, topC, nameOp, useA, useC, useT, useL, refOp, jmpOp, itB, E1.out, E2.out, E3.out, E4.out, E5.out]), HG.out.below g0⟩
end Go.Proofs.YtjdfancbmjnjfaaGreat
