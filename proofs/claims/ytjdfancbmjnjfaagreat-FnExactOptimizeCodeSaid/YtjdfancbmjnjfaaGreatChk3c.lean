/-
  Contract (24): impl.instrRight.
-/
import Derived.Test.YtjdfancbmjnjfaaGreatChk3a
namespace Go.Proofs.YtjdfancbmjnjfaaGreat
set_option maxRecDepth 100000
open Go.ChangeShapes Go.WideShapes Go.ChangeAt Go.RowKit Go.Deep
set_option linter.unusedVariables false
set_option linter.unusedSimpArgs false

set_option maxHeartbeats 4000000 in
theorem impl_instrRight_c24 : ∀ op ∈ ([24, 25] : List Int), InstrRightC op := by
  intro op hm
  simp only [List.mem_cons, List.not_mem_nil, or_false] at hm
  rcases hm with rfl | rfl
  all_goals
    intro d cs w hop h hz
    have HRR := Lib.hid (fun (W : World) (hb : Below w.heap.size w W) => h.below hb)
    obtain ⟨v4, v51, v52, v53, v54, v55, rfl, i0, i1, i2, ht, hl, hv⟩ := h
    have HL := Lib.hid hl
    have HV := Lib.hid hv
    have HT := Lib.hid ht
    have I0 := Lib.hid i0
    have I1 := Lib.hid i1
    have I2 := Lib.hid i2
    obtain ⟨A4, c4, rfl, hlc, hm, HC⟩ := Txts.open_ hl
    unfold maxLen at hm
    clear hl hv ht i0 i1 i2
    have hop := Lib.hid hop
    have hsl := Lib.hid (instr_small hz)
    have hz : szVector d.value ≤ 1000000000000 := by unfold szInstr at hz; omega
    obtain ⟨G, g0, HG, B1⟩ := good1 w 63 [.int .i64 d.op, .int .i64 d.arg, .int .i64 d.count, .string (str d.text), .slice A4 d.labels.length c4, .int .i64 d.value.kind, v51, v52, v53, v54, v55, .int .i64 d.value.code, .int .i64 d.value.env]
    rw [hop.out] at g0 B1 ⊢
    obtain ⟨x0, x1, x2, x3, x4, x5, x6, x7, x8, x9, x10, x11, x12⟩ := pk_f13 B1
    go_enter Tryz.func57, Tryz.ntmps57
    go_upto_region 1 with fail
    refine gen_w g0 ?_
    clear g0
    intro W0 g0
    go_wp2_with fail
    refine Calls.mono (impl_instrUses _ (by decide) (by decide) _) ?_
    rintro e w1 ⟨rfl, rfl⟩
    have uA : useA d.op = false := by rw [hop.out]; decide
    have uC : useC d.op = false := by rw [hop.out]; decide
    have uT : useT d.op = true := by rw [hop.out]; decide
    have uL : useL d.op = true := by rw [hop.out]; decide
    have u0 : (d.op == 0) = false := by rw [hop.out]; decide
    rw [hop.out] at uA uC uT uL u0
    rw [uA, uC, uT, uL, u0]
    clear uA uC uT uL u0
    by_cases e1 : d.arg = 0
    rotate_left
    · have q1 : (d.arg != 0) = true := by simp [e1]
      have HN := Lib.hid (show insI d = false by simp [insI, insR, hop.out, txtB, lblB, topC, nameOp, useA, useC, useT, useL, refOp, jmpOp, itB, e1])
      go_wp2_with fail
      go_ret
      exact ⟨ret_bool HN.out.symm, HG.out.below g0⟩
    have q1 : (d.arg != 0) = false := by simp [e1]
    have E1 := Lib.hid e1
    by_cases e2 : d.count = 0
    rotate_left
    · have q2 : (d.count != 0) = true := by simp [e2]
      have HN := Lib.hid (show insI d = false by have : (decide (0 ≤ d.count) && decide (d.count ≤ topC d.op)) = false := (by simp [topC, hop.out]; omega); simp [insI, insR, this])
      go_wp2_with fail
      go_ret
      exact ⟨ret_bool HN.out.symm, HG.out.below g0⟩
    have q2 : (d.count != 0) = false := by simp [e2]
    have E2 := Lib.hid e2
    go_wp2_with fail
    refine Calls.mono (impl_isZeroVector d.value _ _ (HV.out.below (HG.out.below g0))) ?_
    rintro e w2 ⟨rfl, hb⟩
    replace g0 := HG.out.step g0 hb
    clear hb
    cases e5 : zeroQ d.value
    · have HN := Lib.hid (show insI d = false by simp [insI, insR, hop.out, valB_ne, e5])
      go_wp2_with fail
      go_ret
      exact ⟨ret_bool HN.out.symm, HG.out.below g0⟩
    have E5 := Lib.hid (show valB d.op d.value = true by rw [valB_ne d.value (by rw [hop.out]; decide), e5])
    rw [hop.out] at E5
    clear e5
    go_wp2_with fail
    refine Calls.mono (impl_instrText _ (by decide) (by decide) d _ _ hop.out (by have h9 := HRR.out _ (HG.out.below g0); simp only [hop.out, E1.out, E2.out] at h9; exact h9) hsl.out) ?_
    rintro e w4 ⟨rfl, hb⟩
    replace g0 := HG.out.step g0 hb
    clear hb
    go_wp2_with fail
    go_ret
    exact ⟨ret_bool (by simp [insI, insR, hop.out, txtB, lblB, topC, nameOp, useA, useC, useT, useL, refOp, jmpOp, itB, E1.out, E2.out, E5.out]), HG.out.below g0⟩
set_option maxHeartbeats 4000000 in
theorem impl_instrRight_c26 : ∀ op ∈ ([26, 33] : List Int), InstrRightC op := by
  intro op hm
  simp only [List.mem_cons, List.not_mem_nil, or_false] at hm
  rcases hm with rfl | rfl
  all_goals
    intro d cs w hop h hz
    have HRR := Lib.hid (fun (W : World) (hb : Below w.heap.size w W) => h.below hb)
    obtain ⟨v4, v51, v52, v53, v54, v55, rfl, i0, i1, i2, ht, hl, hv⟩ := h
    have HL := Lib.hid hl
    have HV := Lib.hid hv
    have HT := Lib.hid ht
    have I0 := Lib.hid i0
    have I1 := Lib.hid i1
    have I2 := Lib.hid i2
    obtain ⟨A4, c4, rfl, hlc, hm, HC⟩ := Txts.open_ hl
    unfold maxLen at hm
    clear hl hv ht i0 i1 i2
    have hop := Lib.hid hop
    have hsl := Lib.hid (instr_small hz)
    have hz : szVector d.value ≤ 1000000000000 := by unfold szInstr at hz; omega
    obtain ⟨G, g0, HG, B1⟩ := good1 w 63 [.int .i64 d.op, .int .i64 d.arg, .int .i64 d.count, .string (str d.text), .slice A4 d.labels.length c4, .int .i64 d.value.kind, v51, v52, v53, v54, v55, .int .i64 d.value.code, .int .i64 d.value.env]
    rw [hop.out] at g0 B1 ⊢
    obtain ⟨x0, x1, x2, x3, x4, x5, x6, x7, x8, x9, x10, x11, x12⟩ := pk_f13 B1
    go_enter Tryz.func57, Tryz.ntmps57
    go_upto_region 1 with fail
    refine gen_w g0 ?_
    clear g0
    intro W0 g0
    go_wp2_with fail
    refine Calls.mono (impl_instrUses _ (by decide) (by decide) _) ?_
    rintro e w1 ⟨rfl, rfl⟩
    have uA : useA d.op = false := by rw [hop.out]; decide
    have uC : useC d.op = false := by rw [hop.out]; decide
    have uT : useT d.op = false := by rw [hop.out]; decide
    have uL : useL d.op = false := by rw [hop.out]; decide
    have u0 : (d.op == 0) = false := by rw [hop.out]; decide
    rw [hop.out] at uA uC uT uL u0
    rw [uA, uC, uT, uL, u0]
    clear uA uC uT uL u0
    by_cases e1 : d.arg = 0
    rotate_left
    · have q1 : (d.arg != 0) = true := by simp [e1]
      have HN := Lib.hid (show insI d = false by simp [insI, insR, hop.out, txtB, lblB, topC, nameOp, useA, useC, useT, useL, refOp, jmpOp, itB, e1])
      go_wp2_with fail
      go_ret
      exact ⟨ret_bool HN.out.symm, HG.out.below g0⟩
    have q1 : (d.arg != 0) = false := by simp [e1]
    have E1 := Lib.hid e1
    by_cases e2 : d.count = 0
    rotate_left
    · have q2 : (d.count != 0) = true := by simp [e2]
      have HN := Lib.hid (show insI d = false by have : (decide (0 ≤ d.count) && decide (d.count ≤ topC d.op)) = false := (by simp [topC, hop.out]; omega); simp [insI, insR, this])
      go_wp2_with fail
      go_ret
      exact ⟨ret_bool HN.out.symm, HG.out.below g0⟩
    have q2 : (d.count != 0) = false := by simp [e2]
    have E2 := Lib.hid e2
    cases e3 : (d.text == [])
    · have HN := Lib.hid (show insI d = false by have : d.text.isEmpty = false := (by cases h : d.text <;> simp_all); simp [insI, insR, hop.out, txtB, lblB, topC, nameOp, useA, useC, useT, useL, refOp, jmpOp, itB, this])
      go_wp2_with fail
      go_ret
      exact ⟨ret_bool HN.out.symm, HG.out.below g0⟩
    have E3 := Lib.hid (show d.text = [] by simpa using e3)
    by_cases e4 : d.labels.length = 0
    rotate_left
    · have HN := Lib.hid (show insI d = false by have : d.labels.isEmpty = false := (by cases h : d.labels <;> simp_all); simp [insI, insR, hop.out, txtB, lblB, topC, nameOp, useA, useC, useT, useL, refOp, jmpOp, itB, this])
      go_wp2_with fail
      go_ret
      exact ⟨ret_bool HN.out.symm, HG.out.below g0⟩
    have E4 := Lib.hid (show d.labels = [] from List.eq_nil_of_length_eq_zero e4)
    go_wp2_with fail
    refine Calls.mono (impl_isZeroVector d.value _ _ (HV.out.below (HG.out.below g0))) ?_
    rintro e w2 ⟨rfl, hb⟩
    replace g0 := HG.out.step g0 hb
    clear hb
    cases e5 : zeroQ d.value
    · have HN := Lib.hid (show insI d = false by simp [insI, insR, hop.out, valB_ne, e5])
      go_wp2_with fail
      go_ret
      exact ⟨ret_bool HN.out.symm, HG.out.below g0⟩
    have E5 := Lib.hid (show valB d.op d.value = true by rw [valB_ne d.value (by rw [hop.out]; decide), e5])
    rw [hop.out] at E5
    clear e5
    go_wp2_with fail
    refine Calls.mono (impl_instrText _ (by decide) (by decide) d _ _ hop.out (by have h9 := HRR.out _ (HG.out.below g0); simp only [hop.out, E1.out, E2.out, E4.out, List.length_nil] at h9; exact h9) hsl.out) ?_
    rintro e w4 ⟨rfl, hb⟩
    replace g0 := HG.out.step g0 hb
    clear hb
    go_wp2_with fail
    go_ret
    exact ⟨ret_bool (by simp [insI, insR, hop.out, txtB, lblB, topC, nameOp, useA, useC, useT, useL, refOp, jmpOp, itB, E1.out, E2.out, E3.out, E4.out, E5.out]), HG.out.below g0⟩
set_option maxHeartbeats 8000000 in
theorem impl_instrRight_c27 : ∀ op ∈ ([27, 29, 30, 32] : List Int), InstrRightC op := by
  intro op hm
  simp only [List.mem_cons, List.not_mem_nil, or_false] at hm
  rcases hm with rfl | rfl | rfl | rfl
  all_goals
    intro d cs w hop h hz
    have HRR := Lib.hid (fun (W : World) (hb : Below w.heap.size w W) => h.below hb)
    obtain ⟨v4, v51, v52, v53, v54, v55, rfl, i0, i1, i2, ht, hl, hv⟩ := h
    have HL := Lib.hid hl
    have HV := Lib.hid hv
    have HT := Lib.hid ht
    have I0 := Lib.hid i0
    have I1 := Lib.hid i1
    have I2 := Lib.hid i2
    obtain ⟨A4, c4, rfl, hlc, hm, HC⟩ := Txts.open_ hl
    unfold maxLen at hm
    clear hl hv ht i0 i1 i2
    have hop := Lib.hid hop
    have hsl := Lib.hid (instr_small hz)
    have hz : szVector d.value ≤ 1000000000000 := by unfold szInstr at hz; omega
    obtain ⟨G, g0, HG, B1⟩ := good1 w 63 [.int .i64 d.op, .int .i64 d.arg, .int .i64 d.count, .string (str d.text), .slice A4 d.labels.length c4, .int .i64 d.value.kind, v51, v52, v53, v54, v55, .int .i64 d.value.code, .int .i64 d.value.env]
    rw [hop.out] at g0 B1 ⊢
    obtain ⟨x0, x1, x2, x3, x4, x5, x6, x7, x8, x9, x10, x11, x12⟩ := pk_f13 B1
    go_enter Tryz.func57, Tryz.ntmps57
    go_upto_region 1 with fail
    refine gen_w g0 ?_
    clear g0
    intro W0 g0
    go_wp2_with fail
    refine Calls.mono (impl_instrUses _ (by decide) (by decide) _) ?_
    rintro e w1 ⟨rfl, rfl⟩
    have uA : useA d.op = false := by rw [hop.out]; decide
    have uC : useC d.op = false := by rw [hop.out]; decide
    have uT : useT d.op = true := by rw [hop.out]; decide
    have uL : useL d.op = false := by rw [hop.out]; decide
    have u0 : (d.op == 0) = false := by rw [hop.out]; decide
    rw [hop.out] at uA uC uT uL u0
    rw [uA, uC, uT, uL, u0]
    clear uA uC uT uL u0
    by_cases e1 : d.arg = 0
    rotate_left
    · have q1 : (d.arg != 0) = true := by simp [e1]
      have HN := Lib.hid (show insI d = false by simp [insI, insR, hop.out, txtB, lblB, topC, nameOp, useA, useC, useT, useL, refOp, jmpOp, itB, e1])
      go_wp2_with fail
      go_ret
      exact ⟨ret_bool HN.out.symm, HG.out.below g0⟩
    have q1 : (d.arg != 0) = false := by simp [e1]
    have E1 := Lib.hid e1
    by_cases e2 : d.count = 0
    rotate_left
    · have q2 : (d.count != 0) = true := by simp [e2]
      have HN := Lib.hid (show insI d = false by have : (decide (0 ≤ d.count) && decide (d.count ≤ topC d.op)) = false := (by simp [topC, hop.out]; omega); simp [insI, insR, this])
      go_wp2_with fail
      go_ret
      exact ⟨ret_bool HN.out.symm, HG.out.below g0⟩
    have q2 : (d.count != 0) = false := by simp [e2]
    have E2 := Lib.hid e2
    by_cases e4 : d.labels.length = 0
    rotate_left
    · have HN := Lib.hid (show insI d = false by have : d.labels.isEmpty = false := (by cases h : d.labels <;> simp_all); simp [insI, insR, hop.out, txtB, lblB, topC, nameOp, useA, useC, useT, useL, refOp, jmpOp, itB, this])
      go_wp2_with fail
      go_ret
      exact ⟨ret_bool HN.out.symm, HG.out.below g0⟩
    have E4 := Lib.hid (show d.labels = [] from List.eq_nil_of_length_eq_zero e4)
    go_wp2_with fail
    refine Calls.mono (impl_isZeroVector d.value _ _ (HV.out.below (HG.out.below g0))) ?_
    rintro e w2 ⟨rfl, hb⟩
    replace g0 := HG.out.step g0 hb
    clear hb
    cases e5 : zeroQ d.value
    · have HN := Lib.hid (show insI d = false by simp [insI, insR, hop.out, valB_ne, e5])
      go_wp2_with fail
      go_ret
      exact ⟨ret_bool HN.out.symm, HG.out.below g0⟩
    have E5 := Lib.hid (show valB d.op d.value = true by rw [valB_ne d.value (by rw [hop.out]; decide), e5])
    rw [hop.out] at E5
    clear e5
    go_wp2_with fail
    refine Calls.mono (impl_instrText _ (by decide) (by decide) d _ _ hop.out (by have h9 := HRR.out _ (HG.out.below g0); simp only [hop.out, E1.out, E2.out, E4.out, List.length_nil] at h9; exact h9) hsl.out) ?_
    rintro e w4 ⟨rfl, hb⟩
    replace g0 := HG.out.step g0 hb
    clear hb
    go_wp2_with fail
    go_ret
    exact ⟨ret_bool (by simp [insI, insR, hop.out, txtB, lblB, topC, nameOp, useA, useC, useT, useL, refOp, jmpOp, itB, E1.out, E2.out, E4.out, E5.out]), HG.out.below g0⟩
set_option maxHeartbeats 2000000 in
theorem impl_instrRight_28 : InstrRightC 28 := by
  intro d cs w hop h hz
  have HRR := Lib.hid (fun (W : World) (hb : Below w.heap.size w W) => h.below hb)
  obtain ⟨v4, v51, v52, v53, v54, v55, rfl, i0, i1, i2, ht, hl, hv⟩ := h
  have HL := Lib.hid hl
  have HV := Lib.hid hv
  have HT := Lib.hid ht
  have I0 := Lib.hid i0
  have I1 := Lib.hid i1
  have I2 := Lib.hid i2
  obtain ⟨A4, c4, rfl, hlc, hm, HC⟩ := Txts.open_ hl
  unfold maxLen at hm
  clear hl hv ht i0 i1 i2
  rw [hop]
  have hop := Lib.hid hop
  have hsl := Lib.hid (instr_small hz)
  have hz : szVector d.value ≤ 1000000000000 := by unfold szInstr at hz; omega
  obtain ⟨G, g0, HG, B1⟩ := good1 w 63 [.int .i64 28, .int .i64 d.arg, .int .i64 d.count, .string (str d.text), .slice A4 d.labels.length c4, .int .i64 d.value.kind, v51, v52, v53, v54, v55, .int .i64 d.value.code, .int .i64 d.value.env]
  obtain ⟨x0, x1, x2, x3, x4, x5, x6, x7, x8, x9, x10, x11, x12⟩ := pk_f13 B1
  go_enter Tryz.func57, Tryz.ntmps57
  go_upto_region 1 with fail
  refine gen_w g0 ?_
  clear g0
  intro W0 g0
  go_wp2_with fail
  refine Calls.mono (impl_instrUses 28 (by decide) (by decide) _) ?_
  rintro e w1 ⟨rfl, rfl⟩
  rw [show useA 28 = true by decide, show useC 28 = true by decide, show useT 28 = true by decide, show useL 28 = false by decide, show ((28 : Int) == 0) = false by decide]
  by_cases e4 : d.labels.length = 0
  rotate_left
  · have HN := Lib.hid (show insI d = false by have : d.labels.isEmpty = false := (by cases h : d.labels <;> simp_all); simp [insI, insR, hop.out, txtB, lblB, topC, nameOp, useA, useC, useT, useL, refOp, jmpOp, itB, this])
    go_wp2_with fail
    go_ret
    exact ⟨ret_bool HN.out.symm, HG.out.below g0⟩
  have E4 := Lib.hid (show d.labels = [] from List.eq_nil_of_length_eq_zero e4)
  go_wp2_with fail
  refine Calls.mono (impl_isZeroVector d.value _ _ (HV.out.below (HG.out.below g0))) ?_
  rintro e w2 ⟨rfl, hb⟩
  replace g0 := HG.out.step g0 hb
  clear hb
  cases e5 : zeroQ d.value
  · have HN := Lib.hid (show insI d = false by simp [insI, insR, hop.out, valB_ne d.value (show (28 : Int) ≠ 0 by decide), e5])
    go_wp2_with fail
    go_ret
    exact ⟨ret_bool HN.out.symm, HG.out.below g0⟩
  have E5 := Lib.hid (show valB 28 d.value = true by rw [valB_ne d.value (by decide), e5])
  clear e5
  by_cases c1 : 0 ≤ d.count
  rotate_left
  · have HN := Lib.hid (show insI d = false by simp [insI, insR, c1])
    go_wp2_with fail
    go_ret
    exact ⟨ret_bool HN.out.symm, HG.out.below g0⟩
  by_cases c2 : d.count ≤ 2
  rotate_left
  · have HN := Lib.hid (show insI d = false by simp [insI, insR, hop.out, topC, c2])
    go_wp2_with fail
    go_ret
    exact ⟨ret_bool HN.out.symm, HG.out.below g0⟩
  have C1 := Lib.hid c1
  have C2 := Lib.hid c2
  go_wp2_with fail
  refine Calls.mono (impl_instrText 28 (by decide) (by decide) d _ _ hop.out (by have h9 := HRR.out _ (HG.out.below g0); simp only [hop.out, E4.out, List.length_nil] at h9; exact h9) hsl.out) ?_
  rintro e w4 ⟨rfl, hb⟩
  replace g0 := HG.out.step g0 hb
  clear hb
  go_wp2_with fail
  go_ret
  exact ⟨ret_bool (by simp [insI, insR, hop.out, txtB, lblB, topC, nameOp, useA, useC, useT, useL, refOp, jmpOp, itB, E4.out, E5.out, C1.out, C2.out]), HG.out.below g0⟩
set_option maxHeartbeats 2000000 in
theorem impl_instrRight_31 : InstrRightC 31 := by
  intro d cs w hop h hz
  have HRR := Lib.hid (fun (W : World) (hb : Below w.heap.size w W) => h.below hb)
  obtain ⟨v4, v51, v52, v53, v54, v55, rfl, i0, i1, i2, ht, hl, hv⟩ := h
  have HL := Lib.hid hl
  have HV := Lib.hid hv
  have HT := Lib.hid ht
  have I0 := Lib.hid i0
  have I1 := Lib.hid i1
  have I2 := Lib.hid i2
  obtain ⟨A4, c4, rfl, hlc, hm, HC⟩ := Txts.open_ hl
  unfold maxLen at hm
  clear hl hv ht i0 i1 i2
  rw [hop]
  have hop := Lib.hid hop
  have hsl := Lib.hid (instr_small hz)
  have hz : szVector d.value ≤ 1000000000000 := by unfold szInstr at hz; omega
  obtain ⟨G, g0, HG, B1⟩ := good1 w 63 [.int .i64 31, .int .i64 d.arg, .int .i64 d.count, .string (str d.text), .slice A4 d.labels.length c4, .int .i64 d.value.kind, v51, v52, v53, v54, v55, .int .i64 d.value.code, .int .i64 d.value.env]
  obtain ⟨x0, x1, x2, x3, x4, x5, x6, x7, x8, x9, x10, x11, x12⟩ := pk_f13 B1
  go_enter Tryz.func57, Tryz.ntmps57
  go_upto_region 1 with fail
  refine gen_w g0 ?_
  clear g0
  intro W0 g0
  go_wp2_with fail
  refine Calls.mono (impl_instrUses 31 (by decide) (by decide) _) ?_
  rintro e w1 ⟨rfl, rfl⟩
  rw [show useA 31 = true by decide, show useC 31 = false by decide, show useT 31 = false by decide, show useL 31 = false by decide, show ((31 : Int) == 0) = false by decide]
  by_cases e2 : d.count = 0
  rotate_left
  · have q2 : (d.count != 0) = true := by simp [e2]
    have HN := Lib.hid (show insI d = false by have : (decide (0 ≤ d.count) && decide (d.count ≤ topC d.op)) = false := (by simp [topC, hop.out]; omega); simp [insI, insR, this])
    go_wp2_with fail
    go_ret
    exact ⟨ret_bool HN.out.symm, HG.out.below g0⟩
  have q2 : (d.count != 0) = false := by simp [e2]
  have E2 := Lib.hid e2
  cases e3 : (d.text == [])
  · have HN := Lib.hid (show insI d = false by have : d.text.isEmpty = false := (by cases h : d.text <;> simp_all); simp [insI, insR, hop.out, txtB, lblB, topC, nameOp, useA, useC, useT, useL, refOp, jmpOp, itB, this])
    go_wp2_with fail
    go_ret
    exact ⟨ret_bool HN.out.symm, HG.out.below g0⟩
  have E3 := Lib.hid (show d.text = [] by simpa using e3)
  by_cases e4 : d.labels.length = 0
  rotate_left
  · have HN := Lib.hid (show insI d = false by have : d.labels.isEmpty = false := (by cases h : d.labels <;> simp_all); simp [insI, insR, hop.out, txtB, lblB, topC, nameOp, useA, useC, useT, useL, refOp, jmpOp, itB, this])
    go_wp2_with fail
    go_ret
    exact ⟨ret_bool HN.out.symm, HG.out.below g0⟩
  have E4 := Lib.hid (show d.labels = [] from List.eq_nil_of_length_eq_zero e4)
  go_wp2_with fail
  refine Calls.mono (impl_isZeroVector d.value _ _ (HV.out.below (HG.out.below g0))) ?_
  rintro e w2 ⟨rfl, hb⟩
  replace g0 := HG.out.step g0 hb
  clear hb
  cases e5 : zeroQ d.value
  · have HN := Lib.hid (show insI d = false by simp [insI, insR, hop.out, valB_ne d.value (show (31 : Int) ≠ 0 by decide), e5])
    go_wp2_with fail
    go_ret
    exact ⟨ret_bool HN.out.symm, HG.out.below g0⟩
  have E5 := Lib.hid (show valB 31 d.value = true by rw [valB_ne d.value (by decide), e5])
  clear e5
  go_wp2_with fail
  refine Calls.mono (impl_instrText 31 (by decide) (by decide) d _ _ hop.out (by have h9 := HRR.out _ (HG.out.below g0); simp only [hop.out, E2.out, E4.out, List.length_nil] at h9; exact h9) hsl.out) ?_
  rintro e w4 ⟨rfl, hb⟩
  replace g0 := HG.out.step g0 hb
  clear hb
  go_wp2_with fail
  go_ret
  exact ⟨ret_bool (by simp [insI, insR, hop.out, txtB, lblB, topC, nameOp, useA, useC, useT, useL, refOp, jmpOp, itB, E2.out, E3.out, E4.out, E5.out]), HG.out.below g0⟩
end Go.Proofs.YtjdfancbmjnjfaaGreat
