/-
  Contracts: what the reference asks of an instruction.
-/
import Derived.Test.YtjdfancbmjnjfaaGreatChk2
import Derived.Test.YtjdfancbmjnjfaaGreatKGood
namespace Go.Proofs.YtjdfancbmjnjfaaGreat
set_option maxRecDepth 100000
open Go.ChangeShapes Go.WideShapes Go.ChangeAt Go.RowKit Go.Deep
set_option linter.unusedVariables false
set_option linter.unusedSimpArgs false

set_option maxHeartbeats 400000 in
theorem spec_l16Binary (w : World) :
    Calls Tryz.prog 115 #[] w fun e w' => ∃ v, e = .returned v ∧ Txts w' v binL ∧ Below w.heap.size w w' := by
  go_enter Tryz.func115, Tryz.ntmps115
  go_wp2_with fail
  go_ret
  exact ⟨_, rfl, txts_new w 9 binL _ (by kernel_rfl) (by decide) (by decide), (Below.refl _ _).alloc (Nat.le_refl _) _⟩
def LTextC (op : Int) : Prop := ∀ (d : InstrD) (cs : List Value) (w : World), d.op = op → InstrR w cs d → Calls Tryz.prog 80 #[.agg cs.toArray] w (RetB (txtB op d.text) w)
set_option maxHeartbeats 16000000 in
theorem spec_l32Text_c0 : ∀ op ∈ ([0, 3, 4, 5, 6, 9, 10, 12, 13, 14, 15, 16, 18, 26, 31, 33] : List Int), LTextC op := by
  intro op hm
  simp only [List.mem_cons, List.not_mem_nil, or_false] at hm
  rcases hm with rfl | rfl | rfl | rfl | rfl | rfl | rfl | rfl | rfl | rfl | rfl | rfl | rfl | rfl | rfl | rfl
  all_goals
    intro d cs w hop h
    have HRR := Lib.hid (fun (W : World) (hb : Below w.heap.size w W) => h.below hb)
    obtain ⟨v4, v51, v52, v53, v54, v55, rfl, i0, i1, i2, ht, hl, hv⟩ := h
    have HL := Lib.hid hl
    have HV := Lib.hid hv
    have HT := Lib.hid ht
    have I0 := Lib.hid i0
    have I1 := Lib.hid i1
    have I2 := Lib.hid i2
    obtain ⟨A4, c4, rfl, hlc, hm, HC⟩ := Txts.open_ hl
    unfold maxLen at hm
    clear hl hv ht i0 i1 i2
    obtain ⟨G, g0, HG, B1⟩ := good1 w 63 [.int .i64 d.op, .int .i64 d.arg, .int .i64 d.count, .string (str d.text), .slice A4 d.labels.length c4, .int .i64 d.value.kind, v51, v52, v53, v54, v55, .int .i64 d.value.code, .int .i64 d.value.env]
    rw [hop] at g0 B1 ⊢
    obtain ⟨x0, x1, x2, x3, x4, x5, x6, x7, x8, x9, x10, x11, x12⟩ := pk_f13 B1
    go_enter Tryz.func80, Tryz.ntmps80
    go_upto_region 1 with fail
    refine gen_w g0 ?_
    clear g0
    intro W0 g0
    cases q1 : (d.text == [])
    all_goals
      have Q1 := Lib.hid q1
      go_wp2_with fail
      go_ret
      exact ⟨ret_bool (by have h9 := Q1.out; cases ht : d.text <;> simp_all [txtB, nameOp]), HG.out.below g0⟩
set_option maxHeartbeats 13000000 in
theorem spec_l32Text_c1 : ∀ op ∈ ([1, 2, 19, 20, 21, 22, 23, 24, 25, 28, 29, 30, 32] : List Int), LTextC op := by
  intro op hm
  simp only [List.mem_cons, List.not_mem_nil, or_false] at hm
  rcases hm with rfl | rfl | rfl | rfl | rfl | rfl | rfl | rfl | rfl | rfl | rfl | rfl | rfl
  all_goals
    intro d cs w hop h
    have HRR := Lib.hid (fun (W : World) (hb : Below w.heap.size w W) => h.below hb)
    obtain ⟨v4, v51, v52, v53, v54, v55, rfl, i0, i1, i2, ht, hl, hv⟩ := h
    have HL := Lib.hid hl
    have HV := Lib.hid hv
    have HT := Lib.hid ht
    have I0 := Lib.hid i0
    have I1 := Lib.hid i1
    have I2 := Lib.hid i2
    obtain ⟨A4, c4, rfl, hlc, hm, HC⟩ := Txts.open_ hl
    unfold maxLen at hm
    clear hl hv ht i0 i1 i2
    obtain ⟨G, g0, HG, B1⟩ := good1 w 63 [.int .i64 d.op, .int .i64 d.arg, .int .i64 d.count, .string (str d.text), .slice A4 d.labels.length c4, .int .i64 d.value.kind, v51, v52, v53, v54, v55, .int .i64 d.value.code, .int .i64 d.value.env]
    rw [hop] at g0 B1 ⊢
    obtain ⟨x0, x1, x2, x3, x4, x5, x6, x7, x8, x9, x10, x11, x12⟩ := pk_f13 B1
    go_enter Tryz.func80, Tryz.ntmps80
    go_upto_region 1 with fail
    refine gen_w g0 ?_
    clear g0
    intro W0 g0
    go_wp2_with fail
    refine Calls.mono (spec_IsName d.text _ HT.out) ?_
    rintro e w1 ⟨rfl, rfl⟩
    go_wp2_with fail
    go_ret
    exact ⟨ret_bool (by simp [txtB, nameOp]), HG.out.below g0⟩
set_option maxHeartbeats 1000000 in
theorem spec_l32Text_7 : LTextC 7 := by
  intro d cs w hop h
  have HRR := Lib.hid (fun (W : World) (hb : Below w.heap.size w W) => h.below hb)
  obtain ⟨v4, v51, v52, v53, v54, v55, rfl, i0, i1, i2, ht, hl, hv⟩ := h
  have HL := Lib.hid hl
  have HV := Lib.hid hv
  have HT := Lib.hid ht
  have I0 := Lib.hid i0
  have I1 := Lib.hid i1
  have I2 := Lib.hid i2
  obtain ⟨A4, c4, rfl, hlc, hm, HC⟩ := Txts.open_ hl
  unfold maxLen at hm
  clear hl hv ht i0 i1 i2
  rw [hop]
  obtain ⟨G, g0, HG, B1⟩ := good1 w 63 [.int .i64 7, .int .i64 d.arg, .int .i64 d.count, .string (str d.text), .slice A4 d.labels.length c4, .int .i64 d.value.kind, v51, v52, v53, v54, v55, .int .i64 d.value.code, .int .i64 d.value.env]
  obtain ⟨x0, x1, x2, x3, x4, x5, x6, x7, x8, x9, x10, x11, x12⟩ := pk_f13 B1
  go_enter Tryz.func80, Tryz.ntmps80
  go_upto_region 1 with fail
  refine gen_w g0 ?_
  clear g0
  intro W0 g0
  cases q1 : (d.text == [45]) <;> cases q2 : (d.text == [33])
  all_goals
    have Q1 := Lib.hid q1
    have Q2 := Lib.hid q2
    go_wp2_with fail
    go_ret
    exact ⟨ret_bool (by simp [txtB, nameOp, Q1.out, Q2.out]), HG.out.below g0⟩
set_option maxHeartbeats 4000000 in
theorem spec_l32Text_8 : LTextC 8 := by
  intro d cs w hop h
  have HRR := Lib.hid (fun (W : World) (hb : Below w.heap.size w W) => h.below hb)
  obtain ⟨v4, v51, v52, v53, v54, v55, rfl, i0, i1, i2, ht, hl, hv⟩ := h
  have HL := Lib.hid hl
  have HV := Lib.hid hv
  have HT := Lib.hid ht
  have I0 := Lib.hid i0
  have I1 := Lib.hid i1
  have I2 := Lib.hid i2
  obtain ⟨A4, c4, rfl, hlc, hm, HC⟩ := Txts.open_ hl
  unfold maxLen at hm
  clear hl hv ht i0 i1 i2
  rw [hop]
  obtain ⟨G, g0, HG, B1⟩ := good1 w 63 [.int .i64 8, .int .i64 d.arg, .int .i64 d.count, .string (str d.text), .slice A4 d.labels.length c4, .int .i64 d.value.kind, v51, v52, v53, v54, v55, .int .i64 d.value.code, .int .i64 d.value.env]
  obtain ⟨x0, x1, x2, x3, x4, x5, x6, x7, x8, x9, x10, x11, x12⟩ := pk_f13 B1
  go_enter Tryz.func80, Tryz.ntmps80
  go_upto_region 1 with fail
  refine gen_w g0 ?_
  clear g0
  intro W0 g0
  cases q0 : hasB binL d.text
  · have Q0 := Lib.hid q0
    clear q0
    go_upto_region 19 with fail
    refine wp_region_plan (S := Ok G) (by kernel_rfl) [(true, 1), (true, 2), (false, 0), (false, 3), (true, 4), (true, 5), (true, 6), (true, 7), (true, 8), (true, 9), (true, 10), (true, 11), (true, 12), (true, 13), (true, 14), (true, 15), (true, 16), (true, 17), (true, 18), (true, 19)] (by kernel_rfl) (HG.out.drew g0) ?_
    have g1 := HG.out.drew g0
    clear g0
    repeat (refine dyn_take rfl rfl (fun W g => by go_simp; rfl) ?_; go_simp)
    refine dyn_act rfl rfl (fun K hK => ?_)
    go_wp2_with fail
    refine Calls.mono (spec_l16Binary _) ?_
    rintro e w1 ⟨v, rfl, hv, hb⟩
    have g2 := HG.out.step g1 hb
    have HV2 := Lib.hid hv
    clear hb g1 hv
    simp only []
    refine hK.out _ _ g2 ?_
    clear hK
    refine dyn_act rfl rfl (fun K hK => ?_)
    go_wp2_with fail
    refine Calls.mono (spec_l1Has binL d.text v _ HV2.out) ?_
    rintro e w2 ⟨rfl, rfl⟩
    rw [Q0.out]
    simp only []
    refine hK.out _ _ g2 ?_
    clear hK
    repeat ((first | (refine dyn_take rfl rfl (fun W g => by go_simp; rfl) ?_) | (refine dyn_skip rfl rfl ?_)); go_simp)
    refine dyn_done ?_
    go_wp2_with fail
    go_ret
    exact ⟨ret_bool (by simp [txtB, nameOp, bne, Q0.out]), HG.out.below g2⟩
  have Q0 := Lib.hid q0
  clear q0
  cases q1 : (d.text == [38, 38])
  rotate_left
  · have Q1 := Lib.hid q1
    go_upto_region 19 with fail
    refine wp_region_plan (S := Ok G) (by kernel_rfl) [(true, 1), (true, 2), (false, 0), (false, 3), (true, 4), (true, 5), (true, 6), (true, 7), (true, 8), (true, 9), (true, 10), (true, 11), (true, 12), (true, 13), (true, 14), (true, 15), (true, 16), (true, 17), (true, 18), (true, 19)] (by kernel_rfl) (HG.out.drew g0) ?_
    have g1 := HG.out.drew g0
    clear g0
    repeat (refine dyn_take rfl rfl (fun W g => by go_simp; rfl) ?_; go_simp)
    refine dyn_act rfl rfl (fun K hK => ?_)
    go_wp2_with fail
    refine Calls.mono (spec_l16Binary _) ?_
    rintro e w1 ⟨v, rfl, hv, hb⟩
    have g2 := HG.out.step g1 hb
    have HV2 := Lib.hid hv
    clear hb g1 hv
    simp only []
    refine hK.out _ _ g2 ?_
    clear hK
    refine dyn_act rfl rfl (fun K hK => ?_)
    go_wp2_with fail
    refine Calls.mono (spec_l1Has binL d.text v _ HV2.out) ?_
    rintro e w2 ⟨rfl, rfl⟩
    rw [Q0.out]
    simp only []
    refine hK.out _ _ g2 ?_
    clear hK
    repeat ((first | (refine dyn_take rfl rfl (fun W g => by go_simp; rfl) ?_) | (refine dyn_skip rfl rfl ?_)); go_simp)
    refine dyn_done ?_
    go_wp2_with fail
    go_ret
    exact ⟨ret_bool (by simp [txtB, nameOp, bne, Q0.out, Q1.out]), HG.out.below g2⟩
  have Q1 := Lib.hid q1
  cases q2 : (d.text == [124, 124])
  rotate_left
  · have Q2 := Lib.hid q2
    go_upto_region 19 with fail
    refine wp_region_plan (S := Ok G) (by kernel_rfl) [(true, 1), (true, 2), (false, 0), (false, 3), (true, 4), (true, 5), (true, 6), (true, 7), (true, 8), (true, 9), (true, 10), (true, 11), (true, 12), (true, 13), (true, 14), (true, 15), (true, 16), (true, 17), (true, 18), (true, 19)] (by kernel_rfl) (HG.out.drew g0) ?_
    have g1 := HG.out.drew g0
    clear g0
    repeat (refine dyn_take rfl rfl (fun W g => by go_simp; rfl) ?_; go_simp)
    refine dyn_act rfl rfl (fun K hK => ?_)
    go_wp2_with fail
    refine Calls.mono (spec_l16Binary _) ?_
    rintro e w1 ⟨v, rfl, hv, hb⟩
    have g2 := HG.out.step g1 hb
    have HV2 := Lib.hid hv
    clear hb g1 hv
    simp only []
    refine hK.out _ _ g2 ?_
    clear hK
    refine dyn_act rfl rfl (fun K hK => ?_)
    go_wp2_with fail
    refine Calls.mono (spec_l1Has binL d.text v _ HV2.out) ?_
    rintro e w2 ⟨rfl, rfl⟩
    rw [Q0.out]
    simp only []
    refine hK.out _ _ g2 ?_
    clear hK
    repeat ((first | (refine dyn_take rfl rfl (fun W g => by go_simp; rfl) ?_) | (refine dyn_skip rfl rfl ?_)); go_simp)
    refine dyn_done ?_
    go_wp2_with fail
    go_ret
    exact ⟨ret_bool (by simp [txtB, nameOp, bne, Q0.out, Q1.out, Q2.out]), HG.out.below g2⟩
  have Q2 := Lib.hid q2
  cases q3 : (d.text == [126])
  all_goals
    have Q3 := Lib.hid q3
    go_upto_region 19 with fail
    refine wp_region_plan (S := Ok G) (by kernel_rfl) [(true, 1), (true, 2), (false, 0), (false, 3), (true, 4), (true, 5), (true, 6), (true, 7), (true, 8), (true, 9), (true, 10), (true, 11), (true, 12), (true, 13), (true, 14), (true, 15), (true, 16), (true, 17), (true, 18), (true, 19)] (by kernel_rfl) (HG.out.drew g0) ?_
    have g1 := HG.out.drew g0
    clear g0
    repeat (refine dyn_take rfl rfl (fun W g => by go_simp; rfl) ?_; go_simp)
    refine dyn_act rfl rfl (fun K hK => ?_)
    go_wp2_with fail
    refine Calls.mono (spec_l16Binary _) ?_
    rintro e w1 ⟨v, rfl, hv, hb⟩
    have g2 := HG.out.step g1 hb
    have HV2 := Lib.hid hv
    clear hb g1 hv
    simp only []
    refine hK.out _ _ g2 ?_
    clear hK
    refine dyn_act rfl rfl (fun K hK => ?_)
    go_wp2_with fail
    refine Calls.mono (spec_l1Has binL d.text v _ HV2.out) ?_
    rintro e w2 ⟨rfl, rfl⟩
    rw [Q0.out]
    simp only []
    refine hK.out _ _ g2 ?_
    clear hK
    repeat ((first | (refine dyn_take rfl rfl (fun W g => by go_simp; rfl) ?_) | (refine dyn_skip rfl rfl ?_)); go_simp)
    refine dyn_done ?_
    go_wp2_with fail
    go_ret
    exact ⟨ret_bool (by simp [txtB, nameOp, bne, Q0.out, Q1.out, Q2.out, Q3.out]), HG.out.below g2⟩
set_option maxHeartbeats 1000000 in
theorem spec_l32Text_11 : LTextC 11 := by
  intro d cs w hop h
  have HRR := Lib.hid (fun (W : World) (hb : Below w.heap.size w W) => h.below hb)
  obtain ⟨v4, v51, v52, v53, v54, v55, rfl, i0, i1, i2, ht, hl, hv⟩ := h
  have HL := Lib.hid hl
  have HV := Lib.hid hv
  have HT := Lib.hid ht
  have I0 := Lib.hid i0
  have I1 := Lib.hid i1
  have I2 := Lib.hid i2
  obtain ⟨A4, c4, rfl, hlc, hm, HC⟩ := Txts.open_ hl
  unfold maxLen at hm
  clear hl hv ht i0 i1 i2
  rw [hop]
  obtain ⟨G, g0, HG, B1⟩ := good1 w 63 [.int .i64 11, .int .i64 d.arg, .int .i64 d.count, .string (str d.text), .slice A4 d.labels.length c4, .int .i64 d.value.kind, v51, v52, v53, v54, v55, .int .i64 d.value.code, .int .i64 d.value.env]
  obtain ⟨x0, x1, x2, x3, x4, x5, x6, x7, x8, x9, x10, x11, x12⟩ := pk_f13 B1
  go_enter Tryz.func80, Tryz.ntmps80
  go_upto_region 1 with fail
  refine gen_w g0 ?_
  clear g0
  intro W0 g0
  go_wp2_with fail
  refine Calls.mono (spec_l1In _ 1 60 _) ?_
  rintro e w1 ⟨rfl, rfl⟩
  go_wp2_with fail
  go_ret
  exact ⟨ret_bool (by rw [Bool.eq_iff_iff]; simp [txtB, nameOp]; try omega), HG.out.below g0⟩
set_option maxHeartbeats 1000000 in
theorem spec_l32Text_17 : LTextC 17 := by
  intro d cs w hop h
  have HRR := Lib.hid (fun (W : World) (hb : Below w.heap.size w W) => h.below hb)
  obtain ⟨v4, v51, v52, v53, v54, v55, rfl, i0, i1, i2, ht, hl, hv⟩ := h
  have HL := Lib.hid hl
  have HV := Lib.hid hv
  have HT := Lib.hid ht
  have I0 := Lib.hid i0
  have I1 := Lib.hid i1
  have I2 := Lib.hid i2
  obtain ⟨A4, c4, rfl, hlc, hm, HC⟩ := Txts.open_ hl
  unfold maxLen at hm
  clear hl hv ht i0 i1 i2
  rw [hop]
  obtain ⟨G, g0, HG, B1⟩ := good1 w 63 [.int .i64 17, .int .i64 d.arg, .int .i64 d.count, .string (str d.text), .slice A4 d.labels.length c4, .int .i64 d.value.kind, v51, v52, v53, v54, v55, .int .i64 d.value.code, .int .i64 d.value.env]
  obtain ⟨x0, x1, x2, x3, x4, x5, x6, x7, x8, x9, x10, x11, x12⟩ := pk_f13 B1
  go_enter Tryz.func80, Tryz.ntmps80
  go_upto_region 1 with fail
  refine gen_w g0 ?_
  clear g0
  intro W0 g0
  cases q1 : (d.text == [38, 38]) <;> cases q2 : (d.text == [124, 124])
  all_goals
    have Q1 := Lib.hid q1
    have Q2 := Lib.hid q2
    go_wp2_with fail
    go_ret
    exact ⟨ret_bool (by simp [txtB, nameOp, Q1.out, Q2.out]), HG.out.below g0⟩
set_option maxHeartbeats 1000000 in
theorem spec_l32Text_27 : LTextC 27 := by
  intro d cs w hop h
  have HRR := Lib.hid (fun (W : World) (hb : Below w.heap.size w W) => h.below hb)
  obtain ⟨v4, v51, v52, v53, v54, v55, rfl, i0, i1, i2, ht, hl, hv⟩ := h
  have HL := Lib.hid hl
  have HV := Lib.hid hv
  have HT := Lib.hid ht
  have I0 := Lib.hid i0
  have I1 := Lib.hid i1
  have I2 := Lib.hid i2
  obtain ⟨A4, c4, rfl, hlc, hm, HC⟩ := Txts.open_ hl
  unfold maxLen at hm
  clear hl hv ht i0 i1 i2
  rw [hop]
  obtain ⟨G, g0, HG, B1⟩ := good1 w 63 [.int .i64 27, .int .i64 d.arg, .int .i64 d.count, .string (str d.text), .slice A4 d.labels.length c4, .int .i64 d.value.kind, v51, v52, v53, v54, v55, .int .i64 d.value.code, .int .i64 d.value.env]
  obtain ⟨x0, x1, x2, x3, x4, x5, x6, x7, x8, x9, x10, x11, x12⟩ := pk_f13 B1
  go_enter Tryz.func80, Tryz.ntmps80
  go_upto_region 1 with fail
  refine gen_w g0 ?_
  clear g0
  intro W0 g0
  go_wp2_with fail
  go_ret
  exact ⟨ret_bool (by simp [txtB, nameOp]; try omega), HG.out.below g0⟩
theorem spec_l32Text (op : Int) (h0 : 0 ≤ op) (h1 : op ≤ 33) : LTextC op := op34 (spec_l32Text_c0 0 (by decide)) (spec_l32Text_c1 1 (by decide)) (spec_l32Text_c1 2 (by decide)) (spec_l32Text_c0 3 (by decide)) (spec_l32Text_c0 4 (by decide)) (spec_l32Text_c0 5 (by decide)) (spec_l32Text_c0 6 (by decide)) spec_l32Text_7 spec_l32Text_8 (spec_l32Text_c0 9 (by decide)) (spec_l32Text_c0 10 (by decide)) spec_l32Text_11 (spec_l32Text_c0 12 (by decide)) (spec_l32Text_c0 13 (by decide)) (spec_l32Text_c0 14 (by decide)) (spec_l32Text_c0 15 (by decide)) (spec_l32Text_c0 16 (by decide)) spec_l32Text_17 (spec_l32Text_c0 18 (by decide)) (spec_l32Text_c1 19 (by decide)) (spec_l32Text_c1 20 (by decide)) (spec_l32Text_c1 21 (by decide)) (spec_l32Text_c1 22 (by decide)) (spec_l32Text_c1 23 (by decide)) (spec_l32Text_c1 24 (by decide)) (spec_l32Text_c1 25 (by decide)) (spec_l32Text_c0 26 (by decide)) spec_l32Text_27 (spec_l32Text_c1 28 (by decide)) (spec_l32Text_c1 29 (by decide)) (spec_l32Text_c1 30 (by decide)) (spec_l32Text_c0 31 (by decide)) (spec_l32Text_c1 32 (by decide)) (spec_l32Text_c0 33 (by decide)) op h0 h1
end Go.Proofs.YtjdfancbmjnjfaaGreat
