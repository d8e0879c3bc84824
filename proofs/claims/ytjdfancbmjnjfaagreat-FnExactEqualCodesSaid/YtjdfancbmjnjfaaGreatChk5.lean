/-
  Contracts: what the reference asks of an instruction.
-/
import Derived.Test.YtjdfancbmjnjfaaGreatChk2
import Derived.Test.YtjdfancbmjnjfaaGreatPlan
namespace Go.Proofs.YtjdfancbmjnjfaaGreat
set_option maxRecDepth 100000
open Go.ChangeShapes Go.WideShapes Go.ChangeAt Go.RowKit Go.Deep
set_option linter.unusedVariables false
set_option linter.unusedSimpArgs false

set_option maxHeartbeats 400000 in
theorem spec_l16Binary (w : World) :
    Calls Tryz.prog 115 #[] w fun e w' => ∃ v, e = .returned v ∧ Txts w' v binL ∧ Below w.heap.size w w' := by
  go_enter Tryz.func115, Tryz.ntmps115
  go_wp2_with fail
  go_ret
  exact ⟨_, rfl, txts_new w 9 binL _ (by kernel_rfl) (by decide) (by decide), (Below.refl _ _).alloc (Nat.le_refl _) _⟩
def LTextC (op : Int) : Prop := ∀ (d : InstrD) (cs : List Value) (w : World), d.op = op → InstrR w cs d → Calls Tryz.prog 80 #[.agg cs.toArray] w (RetB (txtB op d.text) w)
set_option maxHeartbeats 1000000 in
theorem spec_l32Text_0 : LTextC 0 := by
  intro d cs w hop h
  have HRR := Lib.hid (fun (W : World) (hb : Below w.heap.size w W) => h.below hb)
  obtain ⟨v4, v51, v52, v53, v54, v55, rfl, i0, i1, i2, ht, hl, hv⟩ := h
  have HL := Lib.hid hl
  have HV := Lib.hid hv
  have HT := Lib.hid ht
  have I0 := Lib.hid i0
  have I1 := Lib.hid i1
  have I2 := Lib.hid i2
  obtain ⟨A4, c4, rfl, hlc, hm, HC⟩ := Txts.open_ hl
  unfold maxLen at hm
  clear hl hv ht i0 i1 i2
  rw [hop]
  obtain ⟨G, g0, HG, B1⟩ := good1 w 63 [.int .i64 0, .int .i64 d.arg, .int .i64 d.count, .string (str d.text), .slice A4 d.labels.length c4, .int .i64 d.value.kind, v51, v52, v53, v54, v55, .int .i64 d.value.code, .int .i64 d.value.env]
  have x0 := fun W (h : Ok G W) => (B1.out W h).cell 0 _ rfl
  have x1 := fun W (h : Ok G W) => (B1.out W h).cell 1 _ rfl
  have x2 := fun W (h : Ok G W) => (B1.out W h).cell 2 _ rfl
  have x3 := fun W (h : Ok G W) => (B1.out W h).cell 3 _ rfl
  have x4 := fun W (h : Ok G W) => (B1.out W h).cell 4 _ rfl
  have x5 := fun W (h : Ok G W) => (B1.out W h).cell 5 _ rfl
  have x6 := fun W (h : Ok G W) => (B1.out W h).cell 6 _ rfl
  have x7 := fun W (h : Ok G W) => (B1.out W h).cell 7 _ rfl
  have x8 := fun W (h : Ok G W) => (B1.out W h).cell 8 _ rfl
  have x9 := fun W (h : Ok G W) => (B1.out W h).cell 9 _ rfl
  have x10 := fun W (h : Ok G W) => (B1.out W h).cell 10 _ rfl
  have x11 := fun W (h : Ok G W) => (B1.out W h).cell 11 _ rfl
  have x12 := fun W (h : Ok G W) => (B1.out W h).cell 12 _ rfl
  go_enter Tryz.func80, Tryz.ntmps80
  go_upto_region 1 with fail
  refine gen_w g0 ?_
  clear g0
  intro W0 g0
  cases q1 : (d.text == [])
  all_goals
    have Q1 := Lib.hid q1
    go_wp2_with fail
    go_ret
    exact ⟨ret_bool (by have h9 := Q1.out; cases ht : d.text <;> simp_all [txtB, nameOp]), HG.out.below g0⟩
set_option maxHeartbeats 1000000 in
theorem spec_l32Text_1 : LTextC 1 := by
  intro d cs w hop h
  have HRR := Lib.hid (fun (W : World) (hb : Below w.heap.size w W) => h.below hb)
  obtain ⟨v4, v51, v52, v53, v54, v55, rfl, i0, i1, i2, ht, hl, hv⟩ := h
  have HL := Lib.hid hl
  have HV := Lib.hid hv
  have HT := Lib.hid ht
  have I0 := Lib.hid i0
  have I1 := Lib.hid i1
  have I2 := Lib.hid i2
  obtain ⟨A4, c4, rfl, hlc, hm, HC⟩ := Txts.open_ hl
  unfold maxLen at hm
  clear hl hv ht i0 i1 i2
  rw [hop]
  obtain ⟨G, g0, HG, B1⟩ := good1 w 63 [.int .i64 1, .int .i64 d.arg, .int .i64 d.count, .string (str d.text), .slice A4 d.labels.length c4, .int .i64 d.value.kind, v51, v52, v53, v54, v55, .int .i64 d.value.code, .int .i64 d.value.env]
  have x0 := fun W (h : Ok G W) => (B1.out W h).cell 0 _ rfl
  have x1 := fun W (h : Ok G W) => (B1.out W h).cell 1 _ rfl
  have x2 := fun W (h : Ok G W) => (B1.out W h).cell 2 _ rfl
  have x3 := fun W (h : Ok G W) => (B1.out W h).cell 3 _ rfl
  have x4 := fun W (h : Ok G W) => (B1.out W h).cell 4 _ rfl
  have x5 := fun W (h : Ok G W) => (B1.out W h).cell 5 _ rfl
  have x6 := fun W (h : Ok G W) => (B1.out W h).cell 6 _ rfl
  have x7 := fun W (h : Ok G W) => (B1.out W h).cell 7 _ rfl
  have x8 := fun W (h : Ok G W) => (B1.out W h).cell 8 _ rfl
  have x9 := fun W (h : Ok G W) => (B1.out W h).cell 9 _ rfl
  have x10 := fun W (h : Ok G W) => (B1.out W h).cell 10 _ rfl
  have x11 := fun W (h : Ok G W) => (B1.out W h).cell 11 _ rfl
  have x12 := fun W (h : Ok G W) => (B1.out W h).cell 12 _ rfl
  go_enter Tryz.func80, Tryz.ntmps80
  go_upto_region 1 with fail
  refine gen_w g0 ?_
  clear g0
  intro W0 g0
  go_wp2_with fail
  refine Calls.mono (spec_IsName d.text _ HT.out) ?_
  rintro e w1 ⟨rfl, rfl⟩
  go_wp2_with fail
  go_ret
  exact ⟨ret_bool (by simp [txtB, nameOp]), HG.out.below g0⟩
set_option maxHeartbeats 1000000 in
theorem spec_l32Text_2 : LTextC 2 := by
  intro d cs w hop h
  have HRR := Lib.hid (fun (W : World) (hb : Below w.heap.size w W) => h.below hb)
  obtain ⟨v4, v51, v52, v53, v54, v55, rfl, i0, i1, i2, ht, hl, hv⟩ := h
  have HL := Lib.hid hl
  have HV := Lib.hid hv
  have HT := Lib.hid ht
  have I0 := Lib.hid i0
  have I1 := Lib.hid i1
  have I2 := Lib.hid i2
  obtain ⟨A4, c4, rfl, hlc, hm, HC⟩ := Txts.open_ hl
  unfold maxLen at hm
  clear hl hv ht i0 i1 i2
  rw [hop]
  obtain ⟨G, g0, HG, B1⟩ := good1 w 63 [.int .i64 2, .int .i64 d.arg, .int .i64 d.count, .string (str d.text), .slice A4 d.labels.length c4, .int .i64 d.value.kind, v51, v52, v53, v54, v55, .int .i64 d.value.code, .int .i64 d.value.env]
  have x0 := fun W (h : Ok G W) => (B1.out W h).cell 0 _ rfl
  have x1 := fun W (h : Ok G W) => (B1.out W h).cell 1 _ rfl
  have x2 := fun W (h : Ok G W) => (B1.out W h).cell 2 _ rfl
  have x3 := fun W (h : Ok G W) => (B1.out W h).cell 3 _ rfl
  have x4 := fun W (h : Ok G W) => (B1.out W h).cell 4 _ rfl
  have x5 := fun W (h : Ok G W) => (B1.out W h).cell 5 _ rfl
  have x6 := fun W (h : Ok G W) => (B1.out W h).cell 6 _ rfl
  have x7 := fun W (h : Ok G W) => (B1.out W h).cell 7 _ rfl
  have x8 := fun W (h : Ok G W) => (B1.out W h).cell 8 _ rfl
  have x9 := fun W (h : Ok G W) => (B1.out W h).cell 9 _ rfl
  have x10 := fun W (h : Ok G W) => (B1.out W h).cell 10 _ rfl
  have x11 := fun W (h : Ok G W) => (B1.out W h).cell 11 _ rfl
  have x12 := fun W (h : Ok G W) => (B1.out W h).cell 12 _ rfl
  go_enter Tryz.func80, Tryz.ntmps80
  go_upto_region 1 with fail
  refine gen_w g0 ?_
  clear g0
  intro W0 g0
  go_wp2_with fail
  refine Calls.mono (spec_IsName d.text _ HT.out) ?_
  rintro e w1 ⟨rfl, rfl⟩
  go_wp2_with fail
  go_ret
  exact ⟨ret_bool (by simp [txtB, nameOp]), HG.out.below g0⟩
set_option maxHeartbeats 1000000 in
theorem spec_l32Text_3 : LTextC 3 := by
  intro d cs w hop h
  have HRR := Lib.hid (fun (W : World) (hb : Below w.heap.size w W) => h.below hb)
  obtain ⟨v4, v51, v52, v53, v54, v55, rfl, i0, i1, i2, ht, hl, hv⟩ := h
  have HL := Lib.hid hl
  have HV := Lib.hid hv
  have HT := Lib.hid ht
  have I0 := Lib.hid i0
  have I1 := Lib.hid i1
  have I2 := Lib.hid i2
  obtain ⟨A4, c4, rfl, hlc, hm, HC⟩ := Txts.open_ hl
  unfold maxLen at hm
  clear hl hv ht i0 i1 i2
  rw [hop]
  obtain ⟨G, g0, HG, B1⟩ := good1 w 63 [.int .i64 3, .int .i64 d.arg, .int .i64 d.count, .string (str d.text), .slice A4 d.labels.length c4, .int .i64 d.value.kind, v51, v52, v53, v54, v55, .int .i64 d.value.code, .int .i64 d.value.env]
  have x0 := fun W (h : Ok G W) => (B1.out W h).cell 0 _ rfl
  have x1 := fun W (h : Ok G W) => (B1.out W h).cell 1 _ rfl
  have x2 := fun W (h : Ok G W) => (B1.out W h).cell 2 _ rfl
  have x3 := fun W (h : Ok G W) => (B1.out W h).cell 3 _ rfl
  have x4 := fun W (h : Ok G W) => (B1.out W h).cell 4 _ rfl
  have x5 := fun W (h : Ok G W) => (B1.out W h).cell 5 _ rfl
  have x6 := fun W (h : Ok G W) => (B1.out W h).cell 6 _ rfl
  have x7 := fun W (h : Ok G W) => (B1.out W h).cell 7 _ rfl
  have x8 := fun W (h : Ok G W) => (B1.out W h).cell 8 _ rfl
  have x9 := fun W (h : Ok G W) => (B1.out W h).cell 9 _ rfl
  have x10 := fun W (h : Ok G W) => (B1.out W h).cell 10 _ rfl
  have x11 := fun W (h : Ok G W) => (B1.out W h).cell 11 _ rfl
  have x12 := fun W (h : Ok G W) => (B1.out W h).cell 12 _ rfl
  go_enter Tryz.func80, Tryz.ntmps80
  go_upto_region 1 with fail
  refine gen_w g0 ?_
  clear g0
  intro W0 g0
  cases q1 : (d.text == [])
  all_goals
    have Q1 := Lib.hid q1
    go_wp2_with fail
    go_ret
    exact ⟨ret_bool (by have h9 := Q1.out; cases ht : d.text <;> simp_all [txtB, nameOp]), HG.out.below g0⟩
set_option maxHeartbeats 1000000 in
theorem spec_l32Text_4 : LTextC 4 := by
  intro d cs w hop h
  have HRR := Lib.hid (fun (W : World) (hb : Below w.heap.size w W) => h.below hb)
  obtain ⟨v4, v51, v52, v53, v54, v55, rfl, i0, i1, i2, ht, hl, hv⟩ := h
  have HL := Lib.hid hl
  have HV := Lib.hid hv
  have HT := Lib.hid ht
  have I0 := Lib.hid i0
  have I1 := Lib.hid i1
  have I2 := Lib.hid i2
  obtain ⟨A4, c4, rfl, hlc, hm, HC⟩ := Txts.open_ hl
  unfold maxLen at hm
  clear hl hv ht i0 i1 i2
  rw [hop]
  obtain ⟨G, g0, HG, B1⟩ := good1 w 63 [.int .i64 4, .int .i64 d.arg, .int .i64 d.count, .string (str d.text), .slice A4 d.labels.length c4, .int .i64 d.value.kind, v51, v52, v53, v54, v55, .int .i64 d.value.code, .int .i64 d.value.env]
  have x0 := fun W (h : Ok G W) => (B1.out W h).cell 0 _ rfl
  have x1 := fun W (h : Ok G W) => (B1.out W h).cell 1 _ rfl
  have x2 := fun W (h : Ok G W) => (B1.out W h).cell 2 _ rfl
  have x3 := fun W (h : Ok G W) => (B1.out W h).cell 3 _ rfl
  have x4 := fun W (h : Ok G W) => (B1.out W h).cell 4 _ rfl
  have x5 := fun W (h : Ok G W) => (B1.out W h).cell 5 _ rfl
  have x6 := fun W (h : Ok G W) => (B1.out W h).cell 6 _ rfl
  have x7 := fun W (h : Ok G W) => (B1.out W h).cell 7 _ rfl
  have x8 := fun W (h : Ok G W) => (B1.out W h).cell 8 _ rfl
  have x9 := fun W (h : Ok G W) => (B1.out W h).cell 9 _ rfl
  have x10 := fun W (h : Ok G W) => (B1.out W h).cell 10 _ rfl
  have x11 := fun W (h : Ok G W) => (B1.out W h).cell 11 _ rfl
  have x12 := fun W (h : Ok G W) => (B1.out W h).cell 12 _ rfl
  go_enter Tryz.func80, Tryz.ntmps80
  go_upto_region 1 with fail
  refine gen_w g0 ?_
  clear g0
  intro W0 g0
  cases q1 : (d.text == [])
  all_goals
    have Q1 := Lib.hid q1
    go_wp2_with fail
    go_ret
    exact ⟨ret_bool (by have h9 := Q1.out; cases ht : d.text <;> simp_all [txtB, nameOp]), HG.out.below g0⟩
set_option maxHeartbeats 1000000 in
theorem spec_l32Text_5 : LTextC 5 := by
  intro d cs w hop h
  have HRR := Lib.hid (fun (W : World) (hb : Below w.heap.size w W) => h.below hb)
  obtain ⟨v4, v51, v52, v53, v54, v55, rfl, i0, i1, i2, ht, hl, hv⟩ := h
  have HL := Lib.hid hl
  have HV := Lib.hid hv
  have HT := Lib.hid ht
  have I0 := Lib.hid i0
  have I1 := Lib.hid i1
  have I2 := Lib.hid i2
  obtain ⟨A4, c4, rfl, hlc, hm, HC⟩ := Txts.open_ hl
  unfold maxLen at hm
  clear hl hv ht i0 i1 i2
  rw [hop]
  obtain ⟨G, g0, HG, B1⟩ := good1 w 63 [.int .i64 5, .int .i64 d.arg, .int .i64 d.count, .string (str d.text), .slice A4 d.labels.length c4, .int .i64 d.value.kind, v51, v52, v53, v54, v55, .int .i64 d.value.code, .int .i64 d.value.env]
  have x0 := fun W (h : Ok G W) => (B1.out W h).cell 0 _ rfl
  have x1 := fun W (h : Ok G W) => (B1.out W h).cell 1 _ rfl
  have x2 := fun W (h : Ok G W) => (B1.out W h).cell 2 _ rfl
  have x3 := fun W (h : Ok G W) => (B1.out W h).cell 3 _ rfl
  have x4 := fun W (h : Ok G W) => (B1.out W h).cell 4 _ rfl
  have x5 := fun W (h : Ok G W) => (B1.out W h).cell 5 _ rfl
  have x6 := fun W (h : Ok G W) => (B1.out W h).cell 6 _ rfl
  have x7 := fun W (h : Ok G W) => (B1.out W h).cell 7 _ rfl
  have x8 := fun W (h : Ok G W) => (B1.out W h).cell 8 _ rfl
  have x9 := fun W (h : Ok G W) => (B1.out W h).cell 9 _ rfl
  have x10 := fun W (h : Ok G W) => (B1.out W h).cell 10 _ rfl
  have x11 := fun W (h : Ok G W) => (B1.out W h).cell 11 _ rfl
  have x12 := fun W (h : Ok G W) => (B1.out W h).cell 12 _ rfl
  go_enter Tryz.func80, Tryz.ntmps80
  go_upto_region 1 with fail
  refine gen_w g0 ?_
  clear g0
  intro W0 g0
  cases q1 : (d.text == [])
  all_goals
    have Q1 := Lib.hid q1
    go_wp2_with fail
    go_ret
    exact ⟨ret_bool (by have h9 := Q1.out; cases ht : d.text <;> simp_all [txtB, nameOp]), HG.out.below g0⟩
set_option maxHeartbeats 1000000 in
theorem spec_l32Text_6 : LTextC 6 := by
  intro d cs w hop h
  have HRR := Lib.hid (fun (W : World) (hb : Below w.heap.size w W) => h.below hb)
  obtain ⟨v4, v51, v52, v53, v54, v55, rfl, i0, i1, i2, ht, hl, hv⟩ := h
  have HL := Lib.hid hl
  have HV := Lib.hid hv
  have HT := Lib.hid ht
  have I0 := Lib.hid i0
  have I1 := Lib.hid i1
  have I2 := Lib.hid i2
  obtain ⟨A4, c4, rfl, hlc, hm, HC⟩ := Txts.open_ hl
  unfold maxLen at hm
  clear hl hv ht i0 i1 i2
  rw [hop]
  obtain ⟨G, g0, HG, B1⟩ := good1 w 63 [.int .i64 6, .int .i64 d.arg, .int .i64 d.count, .string (str d.text), .slice A4 d.labels.length c4, .int .i64 d.value.kind, v51, v52, v53, v54, v55, .int .i64 d.value.code, .int .i64 d.value.env]
  have x0 := fun W (h : Ok G W) => (B1.out W h).cell 0 _ rfl
  have x1 := fun W (h : Ok G W) => (B1.out W h).cell 1 _ rfl
  have x2 := fun W (h : Ok G W) => (B1.out W h).cell 2 _ rfl
  have x3 := fun W (h : Ok G W) => (B1.out W h).cell 3 _ rfl
  have x4 := fun W (h : Ok G W) => (B1.out W h).cell 4 _ rfl
  have x5 := fun W (h : Ok G W) => (B1.out W h).cell 5 _ rfl
  have x6 := fun W (h : Ok G W) => (B1.out W h).cell 6 _ rfl
  have x7 := fun W (h : Ok G W) => (B1.out W h).cell 7 _ rfl
  have x8 := fun W (h : Ok G W) => (B1.out W h).cell 8 _ rfl
  have x9 := fun W (h : Ok G W) => (B1.out W h).cell 9 _ rfl
  have x10 := fun W (h : Ok G W) => (B1.out W h).cell 10 _ rfl
  have x11 := fun W (h : Ok G W) => (B1.out W h).cell 11 _ rfl
  have x12 := fun W (h : Ok G W) => (B1.out W h).cell 12 _ rfl
  go_enter Tryz.func80, Tryz.ntmps80
  go_upto_region 1 with fail
  refine gen_w g0 ?_
  clear g0
  intro W0 g0
  cases q1 : (d.text == [])
  all_goals
    have Q1 := Lib.hid q1
    go_wp2_with fail
    go_ret
    exact ⟨ret_bool (by have h9 := Q1.out; cases ht : d.text <;> simp_all [txtB, nameOp]), HG.out.below g0⟩
set_option maxHeartbeats 1000000 in
theorem spec_l32Text_7 : LTextC 7 := by
  intro d cs w hop h
  have HRR := Lib.hid (fun (W : World) (hb : Below w.heap.size w W) => h.below hb)
  obtain ⟨v4, v51, v52, v53, v54, v55, rfl, i0, i1, i2, ht, hl, hv⟩ := h
  have HL := Lib.hid hl
  have HV := Lib.hid hv
  have HT := Lib.hid ht
  have I0 := Lib.hid i0
  have I1 := Lib.hid i1
  have I2 := Lib.hid i2
  obtain ⟨A4, c4, rfl, hlc, hm, HC⟩ := Txts.open_ hl
  unfold maxLen at hm
  clear hl hv ht i0 i1 i2
  rw [hop]
  obtain ⟨G, g0, HG, B1⟩ := good1 w 63 [.int .i64 7, .int .i64 d.arg, .int .i64 d.count, .string (str d.text), .slice A4 d.labels.length c4, .int .i64 d.value.kind, v51, v52, v53, v54, v55, .int .i64 d.value.code, .int .i64 d.value.env]
  have x0 := fun W (h : Ok G W) => (B1.out W h).cell 0 _ rfl
  have x1 := fun W (h : Ok G W) => (B1.out W h).cell 1 _ rfl
  have x2 := fun W (h : Ok G W) => (B1.out W h).cell 2 _ rfl
  have x3 := fun W (h : Ok G W) => (B1.out W h).cell 3 _ rfl
  have x4 := fun W (h : Ok G W) => (B1.out W h).cell 4 _ rfl
  have x5 := fun W (h : Ok G W) => (B1.out W h).cell 5 _ rfl
  have x6 := fun W (h : Ok G W) => (B1.out W h).cell 6 _ rfl
  have x7 := fun W (h : Ok G W) => (B1.out W h).cell 7 _ rfl
  have x8 := fun W (h : Ok G W) => (B1.out W h).cell 8 _ rfl
  have x9 := fun W (h : Ok G W) => (B1.out W h).cell 9 _ rfl
  have x10 := fun W (h : Ok G W) => (B1.out W h).cell 10 _ rfl
  have x11 := fun W (h : Ok G W) => (B1.out W h).cell 11 _ rfl
  have x12 := fun W (h : Ok G W) => (B1.out W h).cell 12 _ rfl
  go_enter Tryz.func80, Tryz.ntmps80
  go_upto_region 1 with fail
  refine gen_w g0 ?_
  clear g0
  intro W0 g0
  cases q1 : (d.text == [45]) <;> cases q2 : (d.text == [33])
  all_goals
    have Q1 := Lib.hid q1
    have Q2 := Lib.hid q2
    go_wp2_with fail
    go_ret
    exact ⟨ret_bool (by simp [txtB, nameOp, Q1.out, Q2.out]), HG.out.below g0⟩
set_option maxHeartbeats 4000000 in
theorem spec_l32Text_8 : LTextC 8 := by
  intro d cs w hop h
  have HRR := Lib.hid (fun (W : World) (hb : Below w.heap.size w W) => h.below hb)
  obtain ⟨v4, v51, v52, v53, v54, v55, rfl, i0, i1, i2, ht, hl, hv⟩ := h
  have HL := Lib.hid hl
  have HV := Lib.hid hv
  have HT := Lib.hid ht
  have I0 := Lib.hid i0
  have I1 := Lib.hid i1
  have I2 := Lib.hid i2
  obtain ⟨A4, c4, rfl, hlc, hm, HC⟩ := Txts.open_ hl
  unfold maxLen at hm
  clear hl hv ht i0 i1 i2
  rw [hop]
  obtain ⟨G, g0, HG, B1⟩ := good1 w 63 [.int .i64 8, .int .i64 d.arg, .int .i64 d.count, .string (str d.text), .slice A4 d.labels.length c4, .int .i64 d.value.kind, v51, v52, v53, v54, v55, .int .i64 d.value.code, .int .i64 d.value.env]
  have x0 := fun W (h : Ok G W) => (B1.out W h).cell 0 _ rfl
  have x1 := fun W (h : Ok G W) => (B1.out W h).cell 1 _ rfl
  have x2 := fun W (h : Ok G W) => (B1.out W h).cell 2 _ rfl
  have x3 := fun W (h : Ok G W) => (B1.out W h).cell 3 _ rfl
  have x4 := fun W (h : Ok G W) => (B1.out W h).cell 4 _ rfl
  have x5 := fun W (h : Ok G W) => (B1.out W h).cell 5 _ rfl
  have x6 := fun W (h : Ok G W) => (B1.out W h).cell 6 _ rfl
  have x7 := fun W (h : Ok G W) => (B1.out W h).cell 7 _ rfl
  have x8 := fun W (h : Ok G W) => (B1.out W h).cell 8 _ rfl
  have x9 := fun W (h : Ok G W) => (B1.out W h).cell 9 _ rfl
  have x10 := fun W (h : Ok G W) => (B1.out W h).cell 10 _ rfl
  have x11 := fun W (h : Ok G W) => (B1.out W h).cell 11 _ rfl
  have x12 := fun W (h : Ok G W) => (B1.out W h).cell 12 _ rfl
  go_enter Tryz.func80, Tryz.ntmps80
  go_upto_region 1 with fail
  refine gen_w g0 ?_
  clear g0
  intro W0 g0
  cases q0 : hasB binL d.text
  · have Q0 := Lib.hid q0
    clear q0
    go_upto_region 19 with fail
    refine wp_region_plan (S := Ok G) (by kernel_rfl) [(true, 1), (true, 2), (false, 0), (false, 3), (true, 4), (true, 5), (true, 6), (true, 7), (true, 8), (true, 9), (true, 10), (true, 11), (true, 12), (true, 13), (true, 14), (true, 15), (true, 16), (true, 17), (true, 18), (true, 19)] (by kernel_rfl) (HG.out.drew g0) ?_
    have g1 := HG.out.drew g0
    clear g0
    repeat (refine dyn_take rfl rfl (fun W g => by go_simp; rfl) ?_; go_simp)
    refine dyn_act rfl rfl (fun K hK => ?_)
    go_wp2_with fail
    refine Calls.mono (spec_l16Binary _) ?_
    rintro e w1 ⟨v, rfl, hv, hb⟩
    have g2 := HG.out.step g1 hb
    have HV2 := Lib.hid hv
    clear hb g1 hv
    simp only []
    refine hK.out _ _ g2 ?_
    clear hK
    refine dyn_act rfl rfl (fun K hK => ?_)
    go_wp2_with fail
    refine Calls.mono (spec_l1Has binL d.text v _ HV2.out) ?_
    rintro e w2 ⟨rfl, rfl⟩
    rw [Q0.out]
    simp only []
    refine hK.out _ _ g2 ?_
    clear hK
    repeat ((first | (refine dyn_take rfl rfl (fun W g => by go_simp; rfl) ?_) | (refine dyn_skip rfl rfl ?_)); go_simp)
    refine dyn_done ?_
    go_wp2_with fail
    go_ret
    exact ⟨ret_bool (by simp [txtB, nameOp, bne, Q0.out]), HG.out.below g2⟩
  have Q0 := Lib.hid q0
  clear q0
  cases q1 : (d.text == [38, 38])
  rotate_left
  · have Q1 := Lib.hid q1
    go_upto_region 19 with fail
    refine wp_region_plan (S := Ok G) (by kernel_rfl) [(true, 1), (true, 2), (false, 0), (false, 3), (true, 4), (true, 5), (true, 6), (true, 7), (true, 8), (true, 9), (true, 10), (true, 11), (true, 12), (true, 13), (true, 14), (true, 15), (true, 16), (true, 17), (true, 18), (true, 19)] (by kernel_rfl) (HG.out.drew g0) ?_
    have g1 := HG.out.drew g0
    clear g0
    repeat (refine dyn_take rfl rfl (fun W g => by go_simp; rfl) ?_; go_simp)
    refine dyn_act rfl rfl (fun K hK => ?_)
    go_wp2_with fail
    refine Calls.mono (spec_l16Binary _) ?_
    rintro e w1 ⟨v, rfl, hv, hb⟩
    have g2 := HG.out.step g1 hb
    have HV2 := Lib.hid hv
    clear hb g1 hv
    simp only []
    refine hK.out _ _ g2 ?_
    clear hK
    refine dyn_act rfl rfl (fun K hK => ?_)
    go_wp2_with fail
    refine Calls.mono (spec_l1Has binL d.text v _ HV2.out) ?_
    rintro e w2 ⟨rfl, rfl⟩
    rw [Q0.out]
    simp only []
    refine hK.out _ _ g2 ?_
    clear hK
    repeat ((first | (refine dyn_take rfl rfl (fun W g => by go_simp; rfl) ?_) | (refine dyn_skip rfl rfl ?_)); go_simp)
    refine dyn_done ?_
    go_wp2_with fail
    go_ret
    exact ⟨ret_bool (by simp [txtB, nameOp, bne, Q0.out, Q1.out]), HG.out.below g2⟩
  have Q1 := Lib.hid q1
  cases q2 : (d.text == [124, 124])
  rotate_left
  · have Q2 := Lib.hid q2
    go_upto_region 19 with fail
    refine wp_region_plan (S := Ok G) (by kernel_rfl) [(true, 1), (true, 2), (false, 0), (false, 3), (true, 4), (true, 5), (true, 6), (true, 7), (true, 8), (true, 9), (true, 10), (true, 11), (true, 12), (true, 13), (true, 14), (true, 15), (true, 16), (true, 17), (true, 18), (true, 19)] (by kernel_rfl) (HG.out.drew g0) ?_
    have g1 := HG.out.drew g0
    clear g0
    repeat (refine dyn_take rfl rfl (fun W g => by go_simp; rfl) ?_; go_simp)
    refine dyn_act rfl rfl (fun K hK => ?_)
    go_wp2_with fail
    refine Calls.mono (spec_l16Binary _) ?_
    rintro e w1 ⟨v, rfl, hv, hb⟩
    have g2 := HG.out.step g1 hb
    have HV2 := Lib.hid hv
    clear hb g1 hv
    simp only []
    refine hK.out _ _ g2 ?_
    clear hK
    refine dyn_act rfl rfl (fun K hK => ?_)
    go_wp2_with fail
    refine Calls.mono (spec_l1Has binL d.text v _ HV2.out) ?_
    rintro e w2 ⟨rfl, rfl⟩
    rw [Q0.out]
    simp only []
    refine hK.out _ _ g2 ?_
    clear hK
    repeat ((first | (refine dyn_take rfl rfl (fun W g => by go_simp; rfl) ?_) | (refine dyn_skip rfl rfl ?_)); go_simp)
    refine dyn_done ?_
    go_wp2_with fail
    go_ret
    exact ⟨ret_bool (by simp [txtB, nameOp, bne, Q0.out, Q1.out, Q2.out]), HG.out.below g2⟩
  have Q2 := Lib.hid q2
  cases q3 : (d.text == [126])
  all_goals
    have Q3 := Lib.hid q3
    go_upto_region 19 with fail
    refine wp_region_plan (S := Ok G) (by kernel_rfl) [(true, 1), (true, 2), (false, 0), (false, 3), (true, 4), (true, 5), (true, 6), (true, 7), (true, 8), (true, 9), (true, 10), (true, 11), (true, 12), (true, 13), (true, 14), (true, 15), (true, 16), (true, 17), (true, 18), (true, 19)] (by kernel_rfl) (HG.out.drew g0) ?_
    have g1 := HG.out.drew g0
    clear g0
    repeat (refine dyn_take rfl rfl (fun W g => by go_simp; rfl) ?_; go_simp)
    refine dyn_act rfl rfl (fun K hK => ?_)
    go_wp2_with fail
    refine Calls.mono (spec_l16Binary _) ?_
    rintro e w1 ⟨v, rfl, hv, hb⟩
    have g2 := HG.out.step g1 hb
    have HV2 := Lib.hid hv
    clear hb g1 hv
    simp only []
    refine hK.out _ _ g2 ?_
    clear hK
    refine dyn_act rfl rfl (fun K hK => ?_)
    go_wp2_with fail
    refine Calls.mono (spec_l1Has binL d.text v _ HV2.out) ?_
    rintro e w2 ⟨rfl, rfl⟩
    rw [Q0.out]
    simp only []
    refine hK.out _ _ g2 ?_
    clear hK
    repeat ((first | (refine dyn_take rfl rfl (fun W g => by go_simp; rfl) ?_) | (refine dyn_skip rfl rfl ?_)); go_simp)
    refine dyn_done ?_
    go_wp2_with fail
    go_ret
    exact ⟨ret_bool (by simp [txtB, nameOp, bne, Q0.out, Q1.out, Q2.out, Q3.out]), HG.out.below g2⟩
set_option maxHeartbeats 1000000 in
theorem spec_l32Text_9 : LTextC 9 := by
  intro d cs w hop h
  have HRR := Lib.hid (fun (W : World) (hb : Below w.heap.size w W) => h.below hb)
  obtain ⟨v4, v51, v52, v53, v54, v55, rfl, i0, i1, i2, ht, hl, hv⟩ := h
  have HL := Lib.hid hl
  have HV := Lib.hid hv
  have HT := Lib.hid ht
  have I0 := Lib.hid i0
  have I1 := Lib.hid i1
  have I2 := Lib.hid i2
  obtain ⟨A4, c4, rfl, hlc, hm, HC⟩ := Txts.open_ hl
  unfold maxLen at hm
  clear hl hv ht i0 i1 i2
  rw [hop]
  obtain ⟨G, g0, HG, B1⟩ := good1 w 63 [.int .i64 9, .int .i64 d.arg, .int .i64 d.count, .string (str d.text), .slice A4 d.labels.length c4, .int .i64 d.value.kind, v51, v52, v53, v54, v55, .int .i64 d.value.code, .int .i64 d.value.env]
  have x0 := fun W (h : Ok G W) => (B1.out W h).cell 0 _ rfl
  have x1 := fun W (h : Ok G W) => (B1.out W h).cell 1 _ rfl
  have x2 := fun W (h : Ok G W) => (B1.out W h).cell 2 _ rfl
  have x3 := fun W (h : Ok G W) => (B1.out W h).cell 3 _ rfl
  have x4 := fun W (h : Ok G W) => (B1.out W h).cell 4 _ rfl
  have x5 := fun W (h : Ok G W) => (B1.out W h).cell 5 _ rfl
  have x6 := fun W (h : Ok G W) => (B1.out W h).cell 6 _ rfl
  have x7 := fun W (h : Ok G W) => (B1.out W h).cell 7 _ rfl
  have x8 := fun W (h : Ok G W) => (B1.out W h).cell 8 _ rfl
  have x9 := fun W (h : Ok G W) => (B1.out W h).cell 9 _ rfl
  have x10 := fun W (h : Ok G W) => (B1.out W h).cell 10 _ rfl
  have x11 := fun W (h : Ok G W) => (B1.out W h).cell 11 _ rfl
  have x12 := fun W (h : Ok G W) => (B1.out W h).cell 12 _ rfl
  go_enter Tryz.func80, Tryz.ntmps80
  go_upto_region 1 with fail
  refine gen_w g0 ?_
  clear g0
  intro W0 g0
  cases q1 : (d.text == [])
  all_goals
    have Q1 := Lib.hid q1
    go_wp2_with fail
    go_ret
    exact ⟨ret_bool (by have h9 := Q1.out; cases ht : d.text <;> simp_all [txtB, nameOp]), HG.out.below g0⟩
set_option maxHeartbeats 1000000 in
theorem spec_l32Text_10 : LTextC 10 := by
  intro d cs w hop h
  have HRR := Lib.hid (fun (W : World) (hb : Below w.heap.size w W) => h.below hb)
  obtain ⟨v4, v51, v52, v53, v54, v55, rfl, i0, i1, i2, ht, hl, hv⟩ := h
  have HL := Lib.hid hl
  have HV := Lib.hid hv
  have HT := Lib.hid ht
  have I0 := Lib.hid i0
  have I1 := Lib.hid i1
  have I2 := Lib.hid i2
  obtain ⟨A4, c4, rfl, hlc, hm, HC⟩ := Txts.open_ hl
  unfold maxLen at hm
  clear hl hv ht i0 i1 i2
  rw [hop]
  obtain ⟨G, g0, HG, B1⟩ := good1 w 63 [.int .i64 10, .int .i64 d.arg, .int .i64 d.count, .string (str d.text), .slice A4 d.labels.length c4, .int .i64 d.value.kind, v51, v52, v53, v54, v55, .int .i64 d.value.code, .int .i64 d.value.env]
  have x0 := fun W (h : Ok G W) => (B1.out W h).cell 0 _ rfl
  have x1 := fun W (h : Ok G W) => (B1.out W h).cell 1 _ rfl
  have x2 := fun W (h : Ok G W) => (B1.out W h).cell 2 _ rfl
  have x3 := fun W (h : Ok G W) => (B1.out W h).cell 3 _ rfl
  have x4 := fun W (h : Ok G W) => (B1.out W h).cell 4 _ rfl
  have x5 := fun W (h : Ok G W) => (B1.out W h).cell 5 _ rfl
  have x6 := fun W (h : Ok G W) => (B1.out W h).cell 6 _ rfl
  have x7 := fun W (h : Ok G W) => (B1.out W h).cell 7 _ rfl
  have x8 := fun W (h : Ok G W) => (B1.out W h).cell 8 _ rfl
  have x9 := fun W (h : Ok G W) => (B1.out W h).cell 9 _ rfl
  have x10 := fun W (h : Ok G W) => (B1.out W h).cell 10 _ rfl
  have x11 := fun W (h : Ok G W) => (B1.out W h).cell 11 _ rfl
  have x12 := fun W (h : Ok G W) => (B1.out W h).cell 12 _ rfl
  go_enter Tryz.func80, Tryz.ntmps80
  go_upto_region 1 with fail
  refine gen_w g0 ?_
  clear g0
  intro W0 g0
  cases q1 : (d.text == [])
  all_goals
    have Q1 := Lib.hid q1
    go_wp2_with fail
    go_ret
    exact ⟨ret_bool (by have h9 := Q1.out; cases ht : d.text <;> simp_all [txtB, nameOp]), HG.out.below g0⟩
set_option maxHeartbeats 1000000 in
theorem spec_l32Text_11 : LTextC 11 := by
  intro d cs w hop h
  have HRR := Lib.hid (fun (W : World) (hb : Below w.heap.size w W) => h.below hb)
  obtain ⟨v4, v51, v52, v53, v54, v55, rfl, i0, i1, i2, ht, hl, hv⟩ := h
  have HL := Lib.hid hl
  have HV := Lib.hid hv
  have HT := Lib.hid ht
  have I0 := Lib.hid i0
  have I1 := Lib.hid i1
  have I2 := Lib.hid i2
  obtain ⟨A4, c4, rfl, hlc, hm, HC⟩ := Txts.open_ hl
  unfold maxLen at hm
  clear hl hv ht i0 i1 i2
  rw [hop]
  obtain ⟨G, g0, HG, B1⟩ := good1 w 63 [.int .i64 11, .int .i64 d.arg, .int .i64 d.count, .string (str d.text), .slice A4 d.labels.length c4, .int .i64 d.value.kind, v51, v52, v53, v54, v55, .int .i64 d.value.code, .int .i64 d.value.env]
  have x0 := fun W (h : Ok G W) => (B1.out W h).cell 0 _ rfl
  have x1 := fun W (h : Ok G W) => (B1.out W h).cell 1 _ rfl
  have x2 := fun W (h : Ok G W) => (B1.out W h).cell 2 _ rfl
  have x3 := fun W (h : Ok G W) => (B1.out W h).cell 3 _ rfl
  have x4 := fun W (h : Ok G W) => (B1.out W h).cell 4 _ rfl
  have x5 := fun W (h : Ok G W) => (B1.out W h).cell 5 _ rfl
  have x6 := fun W (h : Ok G W) => (B1.out W h).cell 6 _ rfl
  have x7 := fun W (h : Ok G W) => (B1.out W h).cell 7 _ rfl
  have x8 := fun W (h : Ok G W) => (B1.out W h).cell 8 _ rfl
  have x9 := fun W (h : Ok G W) => (B1.out W h).cell 9 _ rfl
  have x10 := fun W (h : Ok G W) => (B1.out W h).cell 10 _ rfl
  have x11 := fun W (h : Ok G W) => (B1.out W h).cell 11 _ rfl
  have x12 := fun W (h : Ok G W) => (B1.out W h).cell 12 _ rfl
  go_enter Tryz.func80, Tryz.ntmps80
  go_upto_region 1 with fail
  refine gen_w g0 ?_
  clear g0
  intro W0 g0
  go_wp2_with fail
  refine Calls.mono (spec_l1In _ 1 60 _) ?_
  rintro e w1 ⟨rfl, rfl⟩
  go_wp2_with fail
  go_ret
  exact ⟨ret_bool (by rw [Bool.eq_iff_iff]; simp [txtB, nameOp]; try omega), HG.out.below g0⟩
set_option maxHeartbeats 1000000 in
theorem spec_l32Text_12 : LTextC 12 := by
  intro d cs w hop h
  have HRR := Lib.hid (fun (W : World) (hb : Below w.heap.size w W) => h.below hb)
  obtain ⟨v4, v51, v52, v53, v54, v55, rfl, i0, i1, i2, ht, hl, hv⟩ := h
  have HL := Lib.hid hl
  have HV := Lib.hid hv
  have HT := Lib.hid ht
  have I0 := Lib.hid i0
  have I1 := Lib.hid i1
  have I2 := Lib.hid i2
  obtain ⟨A4, c4, rfl, hlc, hm, HC⟩ := Txts.open_ hl
  unfold maxLen at hm
  clear hl hv ht i0 i1 i2
  rw [hop]
  obtain ⟨G, g0, HG, B1⟩ := good1 w 63 [.int .i64 12, .int .i64 d.arg, .int .i64 d.count, .string (str d.text), .slice A4 d.labels.length c4, .int .i64 d.value.kind, v51, v52, v53, v54, v55, .int .i64 d.value.code, .int .i64 d.value.env]
  have x0 := fun W (h : Ok G W) => (B1.out W h).cell 0 _ rfl
  have x1 := fun W (h : Ok G W) => (B1.out W h).cell 1 _ rfl
  have x2 := fun W (h : Ok G W) => (B1.out W h).cell 2 _ rfl
  have x3 := fun W (h : Ok G W) => (B1.out W h).cell 3 _ rfl
  have x4 := fun W (h : Ok G W) => (B1.out W h).cell 4 _ rfl
  have x5 := fun W (h : Ok G W) => (B1.out W h).cell 5 _ rfl
  have x6 := fun W (h : Ok G W) => (B1.out W h).cell 6 _ rfl
  have x7 := fun W (h : Ok G W) => (B1.out W h).cell 7 _ rfl
  have x8 := fun W (h : Ok G W) => (B1.out W h).cell 8 _ rfl
  have x9 := fun W (h : Ok G W) => (B1.out W h).cell 9 _ rfl
  have x10 := fun W (h : Ok G W) => (B1.out W h).cell 10 _ rfl
  have x11 := fun W (h : Ok G W) => (B1.out W h).cell 11 _ rfl
  have x12 := fun W (h : Ok G W) => (B1.out W h).cell 12 _ rfl
  go_enter Tryz.func80, Tryz.ntmps80
  go_upto_region 1 with fail
  refine gen_w g0 ?_
  clear g0
  intro W0 g0
  cases q1 : (d.text == [])
  all_goals
    have Q1 := Lib.hid q1
    go_wp2_with fail
    go_ret
    exact ⟨ret_bool (by have h9 := Q1.out; cases ht : d.text <;> simp_all [txtB, nameOp]), HG.out.below g0⟩
set_option maxHeartbeats 1000000 in
theorem spec_l32Text_13 : LTextC 13 := by
  intro d cs w hop h
  have HRR := Lib.hid (fun (W : World) (hb : Below w.heap.size w W) => h.below hb)
  obtain ⟨v4, v51, v52, v53, v54, v55, rfl, i0, i1, i2, ht, hl, hv⟩ := h
  have HL := Lib.hid hl
  have HV := Lib.hid hv
  have HT := Lib.hid ht
  have I0 := Lib.hid i0
  have I1 := Lib.hid i1
  have I2 := Lib.hid i2
  obtain ⟨A4, c4, rfl, hlc, hm, HC⟩ := Txts.open_ hl
  unfold maxLen at hm
  clear hl hv ht i0 i1 i2
  rw [hop]
  obtain ⟨G, g0, HG, B1⟩ := good1 w 63 [.int .i64 13, .int .i64 d.arg, .int .i64 d.count, .string (str d.text), .slice A4 d.labels.length c4, .int .i64 d.value.kind, v51, v52, v53, v54, v55, .int .i64 d.value.code, .int .i64 d.value.env]
  have x0 := fun W (h : Ok G W) => (B1.out W h).cell 0 _ rfl
  have x1 := fun W (h : Ok G W) => (B1.out W h).cell 1 _ rfl
  have x2 := fun W (h : Ok G W) => (B1.out W h).cell 2 _ rfl
  have x3 := fun W (h : Ok G W) => (B1.out W h).cell 3 _ rfl
  have x4 := fun W (h : Ok G W) => (B1.out W h).cell 4 _ rfl
  have x5 := fun W (h : Ok G W) => (B1.out W h).cell 5 _ rfl
  have x6 := fun W (h : Ok G W) => (B1.out W h).cell 6 _ rfl
  have x7 := fun W (h : Ok G W) => (B1.out W h).cell 7 _ rfl
  have x8 := fun W (h : Ok G W) => (B1.out W h).cell 8 _ rfl
  have x9 := fun W (h : Ok G W) => (B1.out W h).cell 9 _ rfl
  have x10 := fun W (h : Ok G W) => (B1.out W h).cell 10 _ rfl
  have x11 := fun W (h : Ok G W) => (B1.out W h).cell 11 _ rfl
  have x12 := fun W (h : Ok G W) => (B1.out W h).cell 12 _ rfl
  go_enter Tryz.func80, Tryz.ntmps80
  go_upto_region 1 with fail
  refine gen_w g0 ?_
  clear g0
  intro W0 g0
  cases q1 : (d.text == [])
  all_goals
    have Q1 := Lib.hid q1
    go_wp2_with fail
    go_ret
    exact ⟨ret_bool (by have h9 := Q1.out; cases ht : d.text <;> simp_all [txtB, nameOp]), HG.out.below g0⟩
set_option maxHeartbeats 1000000 in
theorem spec_l32Text_14 : LTextC 14 := by
  intro d cs w hop h
  have HRR := Lib.hid (fun (W : World) (hb : Below w.heap.size w W) => h.below hb)
  obtain ⟨v4, v51, v52, v53, v54, v55, rfl, i0, i1, i2, ht, hl, hv⟩ := h
  have HL := Lib.hid hl
  have HV := Lib.hid hv
  have HT := Lib.hid ht
  have I0 := Lib.hid i0
  have I1 := Lib.hid i1
  have I2 := Lib.hid i2
  obtain ⟨A4, c4, rfl, hlc, hm, HC⟩ := Txts.open_ hl
  unfold maxLen at hm
  clear hl hv ht i0 i1 i2
  rw [hop]
  obtain ⟨G, g0, HG, B1⟩ := good1 w 63 [.int .i64 14, .int .i64 d.arg, .int .i64 d.count, .string (str d.text), .slice A4 d.labels.length c4, .int .i64 d.value.kind, v51, v52, v53, v54, v55, .int .i64 d.value.code, .int .i64 d.value.env]
  have x0 := fun W (h : Ok G W) => (B1.out W h).cell 0 _ rfl
  have x1 := fun W (h : Ok G W) => (B1.out W h).cell 1 _ rfl
  have x2 := fun W (h : Ok G W) => (B1.out W h).cell 2 _ rfl
  have x3 := fun W (h : Ok G W) => (B1.out W h).cell 3 _ rfl
  have x4 := fun W (h : Ok G W) => (B1.out W h).cell 4 _ rfl
  have x5 := fun W (h : Ok G W) => (B1.out W h).cell 5 _ rfl
  have x6 := fun W (h : Ok G W) => (B1.out W h).cell 6 _ rfl
  have x7 := fun W (h : Ok G W) => (B1.out W h).cell 7 _ rfl
  have x8 := fun W (h : Ok G W) => (B1.out W h).cell 8 _ rfl
  have x9 := fun W (h : Ok G W) => (B1.out W h).cell 9 _ rfl
  have x10 := fun W (h : Ok G W) => (B1.out W h).cell 10 _ rfl
  have x11 := fun W (h : Ok G W) => (B1.out W h).cell 11 _ rfl
  have x12 := fun W (h : Ok G W) => (B1.out W h).cell 12 _ rfl
  go_enter Tryz.func80, Tryz.ntmps80
  go_upto_region 1 with fail
  refine gen_w g0 ?_
  clear g0
  intro W0 g0
  cases q1 : (d.text == [])
  all_goals
    have Q1 := Lib.hid q1
    go_wp2_with fail
    go_ret
    exact ⟨ret_bool (by have h9 := Q1.out; cases ht : d.text <;> simp_all [txtB, nameOp]), HG.out.below g0⟩
set_option maxHeartbeats 1000000 in
theorem spec_l32Text_15 : LTextC 15 := by
  intro d cs w hop h
  have HRR := Lib.hid (fun (W : World) (hb : Below w.heap.size w W) => h.below hb)
  obtain ⟨v4, v51, v52, v53, v54, v55, rfl, i0, i1, i2, ht, hl, hv⟩ := h
  have HL := Lib.hid hl
  have HV := Lib.hid hv
  have HT := Lib.hid ht
  have I0 := Lib.hid i0
  have I1 := Lib.hid i1
  have I2 := Lib.hid i2
  obtain ⟨A4, c4, rfl, hlc, hm, HC⟩ := Txts.open_ hl
  unfold maxLen at hm
  clear hl hv ht i0 i1 i2
  rw [hop]
  obtain ⟨G, g0, HG, B1⟩ := good1 w 63 [.int .i64 15, .int .i64 d.arg, .int .i64 d.count, .string (str d.text), .slice A4 d.labels.length c4, .int .i64 d.value.kind, v51, v52, v53, v54, v55, .int .i64 d.value.code, .int .i64 d.value.env]
  have x0 := fun W (h : Ok G W) => (B1.out W h).cell 0 _ rfl
  have x1 := fun W (h : Ok G W) => (B1.out W h).cell 1 _ rfl
  have x2 := fun W (h : Ok G W) => (B1.out W h).cell 2 _ rfl
  have x3 := fun W (h : Ok G W) => (B1.out W h).cell 3 _ rfl
  have x4 := fun W (h : Ok G W) => (B1.out W h).cell 4 _ rfl
  have x5 := fun W (h : Ok G W) => (B1.out W h).cell 5 _ rfl
  have x6 := fun W (h : Ok G W) => (B1.out W h).cell 6 _ rfl
  have x7 := fun W (h : Ok G W) => (B1.out W h).cell 7 _ rfl
  have x8 := fun W (h : Ok G W) => (B1.out W h).cell 8 _ rfl
  have x9 := fun W (h : Ok G W) => (B1.out W h).cell 9 _ rfl
  have x10 := fun W (h : Ok G W) => (B1.out W h).cell 10 _ rfl
  have x11 := fun W (h : Ok G W) => (B1.out W h).cell 11 _ rfl
  have x12 := fun W (h : Ok G W) => (B1.out W h).cell 12 _ rfl
  go_enter Tryz.func80, Tryz.ntmps80
  go_upto_region 1 with fail
  refine gen_w g0 ?_
  clear g0
  intro W0 g0
  cases q1 : (d.text == [])
  all_goals
    have Q1 := Lib.hid q1
    go_wp2_with fail
    go_ret
    exact ⟨ret_bool (by have h9 := Q1.out; cases ht : d.text <;> simp_all [txtB, nameOp]), HG.out.below g0⟩
set_option maxHeartbeats 1000000 in
theorem spec_l32Text_16 : LTextC 16 := by
  intro d cs w hop h
  have HRR := Lib.hid (fun (W : World) (hb : Below w.heap.size w W) => h.below hb)
  obtain ⟨v4, v51, v52, v53, v54, v55, rfl, i0, i1, i2, ht, hl, hv⟩ := h
  have HL := Lib.hid hl
  have HV := Lib.hid hv
  have HT := Lib.hid ht
  have I0 := Lib.hid i0
  have I1 := Lib.hid i1
  have I2 := Lib.hid i2
  obtain ⟨A4, c4, rfl, hlc, hm, HC⟩ := Txts.open_ hl
  unfold maxLen at hm
  clear hl hv ht i0 i1 i2
  rw [hop]
  obtain ⟨G, g0, HG, B1⟩ := good1 w 63 [.int .i64 16, .int .i64 d.arg, .int .i64 d.count, .string (str d.text), .slice A4 d.labels.length c4, .int .i64 d.value.kind, v51, v52, v53, v54, v55, .int .i64 d.value.code, .int .i64 d.value.env]
  have x0 := fun W (h : Ok G W) => (B1.out W h).cell 0 _ rfl
  have x1 := fun W (h : Ok G W) => (B1.out W h).cell 1 _ rfl
  have x2 := fun W (h : Ok G W) => (B1.out W h).cell 2 _ rfl
  have x3 := fun W (h : Ok G W) => (B1.out W h).cell 3 _ rfl
  have x4 := fun W (h : Ok G W) => (B1.out W h).cell 4 _ rfl
  have x5 := fun W (h : Ok G W) => (B1.out W h).cell 5 _ rfl
  have x6 := fun W (h : Ok G W) => (B1.out W h).cell 6 _ rfl
  have x7 := fun W (h : Ok G W) => (B1.out W h).cell 7 _ rfl
  have x8 := fun W (h : Ok G W) => (B1.out W h).cell 8 _ rfl
  have x9 := fun W (h : Ok G W) => (B1.out W h).cell 9 _ rfl
  have x10 := fun W (h : Ok G W) => (B1.out W h).cell 10 _ rfl
  have x11 := fun W (h : Ok G W) => (B1.out W h).cell 11 _ rfl
  have x12 := fun W (h : Ok G W) => (B1.out W h).cell 12 _ rfl
  go_enter Tryz.func80, Tryz.ntmps80
  go_upto_region 1 with fail
  refine gen_w g0 ?_
  clear g0
  intro W0 g0
  cases q1 : (d.text == [])
  all_goals
    have Q1 := Lib.hid q1
    go_wp2_with fail
    go_ret
    exact ⟨ret_bool (by have h9 := Q1.out; cases ht : d.text <;> simp_all [txtB, nameOp]), HG.out.below g0⟩
set_option maxHeartbeats 1000000 in
theorem spec_l32Text_17 : LTextC 17 := by
  intro d cs w hop h
  have HRR := Lib.hid (fun (W : World) (hb : Below w.heap.size w W) => h.below hb)
  obtain ⟨v4, v51, v52, v53, v54, v55, rfl, i0, i1, i2, ht, hl, hv⟩ := h
  have HL := Lib.hid hl
  have HV := Lib.hid hv
  have HT := Lib.hid ht
  have I0 := Lib.hid i0
  have I1 := Lib.hid i1
  have I2 := Lib.hid i2
  obtain ⟨A4, c4, rfl, hlc, hm, HC⟩ := Txts.open_ hl
  unfold maxLen at hm
  clear hl hv ht i0 i1 i2
  rw [hop]
  obtain ⟨G, g0, HG, B1⟩ := good1 w 63 [.int .i64 17, .int .i64 d.arg, .int .i64 d.count, .string (str d.text), .slice A4 d.labels.length c4, .int .i64 d.value.kind, v51, v52, v53, v54, v55, .int .i64 d.value.code, .int .i64 d.value.env]
  have x0 := fun W (h : Ok G W) => (B1.out W h).cell 0 _ rfl
  have x1 := fun W (h : Ok G W) => (B1.out W h).cell 1 _ rfl
  have x2 := fun W (h : Ok G W) => (B1.out W h).cell 2 _ rfl
  have x3 := fun W (h : Ok G W) => (B1.out W h).cell 3 _ rfl
  have x4 := fun W (h : Ok G W) => (B1.out W h).cell 4 _ rfl
  have x5 := fun W (h : Ok G W) => (B1.out W h).cell 5 _ rfl
  have x6 := fun W (h : Ok G W) => (B1.out W h).cell 6 _ rfl
  have x7 := fun W (h : Ok G W) => (B1.out W h).cell 7 _ rfl
  have x8 := fun W (h : Ok G W) => (B1.out W h).cell 8 _ rfl
  have x9 := fun W (h : Ok G W) => (B1.out W h).cell 9 _ rfl
  have x10 := fun W (h : Ok G W) => (B1.out W h).cell 10 _ rfl
  have x11 := fun W (h : Ok G W) => (B1.out W h).cell 11 _ rfl
  have x12 := fun W (h : Ok G W) => (B1.out W h).cell 12 _ rfl
  go_enter Tryz.func80, Tryz.ntmps80
  go_upto_region 1 with fail
  refine gen_w g0 ?_
  clear g0
  intro W0 g0
  cases q1 : (d.text == [38, 38]) <;> cases q2 : (d.text == [124, 124])
  all_goals
    have Q1 := Lib.hid q1
    have Q2 := Lib.hid q2
    go_wp2_with fail
    go_ret
    exact ⟨ret_bool (by simp [txtB, nameOp, Q1.out, Q2.out]), HG.out.below g0⟩
set_option maxHeartbeats 1000000 in
theorem spec_l32Text_18 : LTextC 18 := by
  intro d cs w hop h
  have HRR := Lib.hid (fun (W : World) (hb : Below w.heap.size w W) => h.below hb)
  obtain ⟨v4, v51, v52, v53, v54, v55, rfl, i0, i1, i2, ht, hl, hv⟩ := h
  have HL := Lib.hid hl
  have HV := Lib.hid hv
  have HT := Lib.hid ht
  have I0 := Lib.hid i0
  have I1 := Lib.hid i1
  have I2 := Lib.hid i2
  obtain ⟨A4, c4, rfl, hlc, hm, HC⟩ := Txts.open_ hl
  unfold maxLen at hm
  clear hl hv ht i0 i1 i2
  rw [hop]
  obtain ⟨G, g0, HG, B1⟩ := good1 w 63 [.int .i64 18, .int .i64 d.arg, .int .i64 d.count, .string (str d.text), .slice A4 d.labels.length c4, .int .i64 d.value.kind, v51, v52, v53, v54, v55, .int .i64 d.value.code, .int .i64 d.value.env]
  have x0 := fun W (h : Ok G W) => (B1.out W h).cell 0 _ rfl
  have x1 := fun W (h : Ok G W) => (B1.out W h).cell 1 _ rfl
  have x2 := fun W (h : Ok G W) => (B1.out W h).cell 2 _ rfl
  have x3 := fun W (h : Ok G W) => (B1.out W h).cell 3 _ rfl
  have x4 := fun W (h : Ok G W) => (B1.out W h).cell 4 _ rfl
  have x5 := fun W (h : Ok G W) => (B1.out W h).cell 5 _ rfl
  have x6 := fun W (h : Ok G W) => (B1.out W h).cell 6 _ rfl
  have x7 := fun W (h : Ok G W) => (B1.out W h).cell 7 _ rfl
  have x8 := fun W (h : Ok G W) => (B1.out W h).cell 8 _ rfl
  have x9 := fun W (h : Ok G W) => (B1.out W h).cell 9 _ rfl
  have x10 := fun W (h : Ok G W) => (B1.out W h).cell 10 _ rfl
  have x11 := fun W (h : Ok G W) => (B1.out W h).cell 11 _ rfl
  have x12 := fun W (h : Ok G W) => (B1.out W h).cell 12 _ rfl
  go_enter Tryz.func80, Tryz.ntmps80
  go_upto_region 1 with fail
  refine gen_w g0 ?_
  clear g0
  intro W0 g0
  cases q1 : (d.text == [])
  all_goals
    have Q1 := Lib.hid q1
    go_wp2_with fail
    go_ret
    exact ⟨ret_bool (by have h9 := Q1.out; cases ht : d.text <;> simp_all [txtB, nameOp]), HG.out.below g0⟩
set_option maxHeartbeats 1000000 in
theorem spec_l32Text_19 : LTextC 19 := by
  intro d cs w hop h
  have HRR := Lib.hid (fun (W : World) (hb : Below w.heap.size w W) => h.below hb)
  obtain ⟨v4, v51, v52, v53, v54, v55, rfl, i0, i1, i2, ht, hl, hv⟩ := h
  have HL := Lib.hid hl
  have HV := Lib.hid hv
  have HT := Lib.hid ht
  have I0 := Lib.hid i0
  have I1 := Lib.hid i1
  have I2 := Lib.hid i2
  obtain ⟨A4, c4, rfl, hlc, hm, HC⟩ := Txts.open_ hl
  unfold maxLen at hm
  clear hl hv ht i0 i1 i2
  rw [hop]
  obtain ⟨G, g0, HG, B1⟩ := good1 w 63 [.int .i64 19, .int .i64 d.arg, .int .i64 d.count, .string (str d.text), .slice A4 d.labels.length c4, .int .i64 d.value.kind, v51, v52, v53, v54, v55, .int .i64 d.value.code, .int .i64 d.value.env]
  have x0 := fun W (h : Ok G W) => (B1.out W h).cell 0 _ rfl
  have x1 := fun W (h : Ok G W) => (B1.out W h).cell 1 _ rfl
  have x2 := fun W (h : Ok G W) => (B1.out W h).cell 2 _ rfl
  have x3 := fun W (h : Ok G W) => (B1.out W h).cell 3 _ rfl
  have x4 := fun W (h : Ok G W) => (B1.out W h).cell 4 _ rfl
  have x5 := fun W (h : Ok G W) => (B1.out W h).cell 5 _ rfl
  have x6 := fun W (h : Ok G W) => (B1.out W h).cell 6 _ rfl
  have x7 := fun W (h : Ok G W) => (B1.out W h).cell 7 _ rfl
  have x8 := fun W (h : Ok G W) => (B1.out W h).cell 8 _ rfl
  have x9 := fun W (h : Ok G W) => (B1.out W h).cell 9 _ rfl
  have x10 := fun W (h : Ok G W) => (B1.out W h).cell 10 _ rfl
  have x11 := fun W (h : Ok G W) => (B1.out W h).cell 11 _ rfl
  have x12 := fun W (h : Ok G W) => (B1.out W h).cell 12 _ rfl
  go_enter Tryz.func80, Tryz.ntmps80
  go_upto_region 1 with fail
  refine gen_w g0 ?_
  clear g0
  intro W0 g0
  go_wp2_with fail
  refine Calls.mono (spec_IsName d.text _ HT.out) ?_
  rintro e w1 ⟨rfl, rfl⟩
  go_wp2_with fail
  go_ret
  exact ⟨ret_bool (by simp [txtB, nameOp]), HG.out.below g0⟩
set_option maxHeartbeats 1000000 in
theorem spec_l32Text_20 : LTextC 20 := by
  intro d cs w hop h
  have HRR := Lib.hid (fun (W : World) (hb : Below w.heap.size w W) => h.below hb)
  obtain ⟨v4, v51, v52, v53, v54, v55, rfl, i0, i1, i2, ht, hl, hv⟩ := h
  have HL := Lib.hid hl
  have HV := Lib.hid hv
  have HT := Lib.hid ht
  have I0 := Lib.hid i0
  have I1 := Lib.hid i1
  have I2 := Lib.hid i2
  obtain ⟨A4, c4, rfl, hlc, hm, HC⟩ := Txts.open_ hl
  unfold maxLen at hm
  clear hl hv ht i0 i1 i2
  rw [hop]
  obtain ⟨G, g0, HG, B1⟩ := good1 w 63 [.int .i64 20, .int .i64 d.arg, .int .i64 d.count, .string (str d.text), .slice A4 d.labels.length c4, .int .i64 d.value.kind, v51, v52, v53, v54, v55, .int .i64 d.value.code, .int .i64 d.value.env]
  have x0 := fun W (h : Ok G W) => (B1.out W h).cell 0 _ rfl
  have x1 := fun W (h : Ok G W) => (B1.out W h).cell 1 _ rfl
  have x2 := fun W (h : Ok G W) => (B1.out W h).cell 2 _ rfl
  have x3 := fun W (h : Ok G W) => (B1.out W h).cell 3 _ rfl
  have x4 := fun W (h : Ok G W) => (B1.out W h).cell 4 _ rfl
  have x5 := fun W (h : Ok G W) => (B1.out W h).cell 5 _ rfl
  have x6 := fun W (h : Ok G W) => (B1.out W h).cell 6 _ rfl
  have x7 := fun W (h : Ok G W) => (B1.out W h).cell 7 _ rfl
  have x8 := fun W (h : Ok G W) => (B1.out W h).cell 8 _ rfl
  have x9 := fun W (h : Ok G W) => (B1.out W h).cell 9 _ rfl
  have x10 := fun W (h : Ok G W) => (B1.out W h).cell 10 _ rfl
  have x11 := fun W (h : Ok G W) => (B1.out W h).cell 11 _ rfl
  have x12 := fun W (h : Ok G W) => (B1.out W h).cell 12 _ rfl
  go_enter Tryz.func80, Tryz.ntmps80
  go_upto_region 1 with fail
  refine gen_w g0 ?_
  clear g0
  intro W0 g0
  go_wp2_with fail
  refine Calls.mono (spec_IsName d.text _ HT.out) ?_
  rintro e w1 ⟨rfl, rfl⟩
  go_wp2_with fail
  go_ret
  exact ⟨ret_bool (by simp [txtB, nameOp]), HG.out.below g0⟩
set_option maxHeartbeats 1000000 in
theorem spec_l32Text_21 : LTextC 21 := by
  intro d cs w hop h
  have HRR := Lib.hid (fun (W : World) (hb : Below w.heap.size w W) => h.below hb)
  obtain ⟨v4, v51, v52, v53, v54, v55, rfl, i0, i1, i2, ht, hl, hv⟩ := h
  have HL := Lib.hid hl
  have HV := Lib.hid hv
  have HT := Lib.hid ht
  have I0 := Lib.hid i0
  have I1 := Lib.hid i1
  have I2 := Lib.hid i2
  obtain ⟨A4, c4, rfl, hlc, hm, HC⟩ := Txts.open_ hl
  unfold maxLen at hm
  clear hl hv ht i0 i1 i2
  rw [hop]
  obtain ⟨G, g0, HG, B1⟩ := good1 w 63 [.int .i64 21, .int .i64 d.arg, .int .i64 d.count, .string (str d.text), .slice A4 d.labels.length c4, .int .i64 d.value.kind, v51, v52, v53, v54, v55, .int .i64 d.value.code, .int .i64 d.value.env]
  have x0 := fun W (h : Ok G W) => (B1.out W h).cell 0 _ rfl
  have x1 := fun W (h : Ok G W) => (B1.out W h).cell 1 _ rfl
  have x2 := fun W (h : Ok G W) => (B1.out W h).cell 2 _ rfl
  have x3 := fun W (h : Ok G W) => (B1.out W h).cell 3 _ rfl
  have x4 := fun W (h : Ok G W) => (B1.out W h).cell 4 _ rfl
  have x5 := fun W (h : Ok G W) => (B1.out W h).cell 5 _ rfl
  have x6 := fun W (h : Ok G W) => (B1.out W h).cell 6 _ rfl
  have x7 := fun W (h : Ok G W) => (B1.out W h).cell 7 _ rfl
  have x8 := fun W (h : Ok G W) => (B1.out W h).cell 8 _ rfl
  have x9 := fun W (h : Ok G W) => (B1.out W h).cell 9 _ rfl
  have x10 := fun W (h : Ok G W) => (B1.out W h).cell 10 _ rfl
  have x11 := fun W (h : Ok G W) => (B1.out W h).cell 11 _ rfl
  have x12 := fun W (h : Ok G W) => (B1.out W h).cell 12 _ rfl
  go_enter Tryz.func80, Tryz.ntmps80
  go_upto_region 1 with fail
  refine gen_w g0 ?_
  clear g0
  intro W0 g0
  go_wp2_with fail
  refine Calls.mono (spec_IsName d.text _ HT.out) ?_
  rintro e w1 ⟨rfl, rfl⟩
  go_wp2_with fail
  go_ret
  exact ⟨ret_bool (by simp [txtB, nameOp]), HG.out.below g0⟩
set_option maxHeartbeats 1000000 in
theorem spec_l32Text_22 : LTextC 22 := by
  intro d cs w hop h
  have HRR := Lib.hid (fun (W : World) (hb : Below w.heap.size w W) => h.below hb)
  obtain ⟨v4, v51, v52, v53, v54, v55, rfl, i0, i1, i2, ht, hl, hv⟩ := h
  have HL := Lib.hid hl
  have HV := Lib.hid hv
  have HT := Lib.hid ht
  have I0 := Lib.hid i0
  have I1 := Lib.hid i1
  have I2 := Lib.hid i2
  obtain ⟨A4, c4, rfl, hlc, hm, HC⟩ := Txts.open_ hl
  unfold maxLen at hm
  clear hl hv ht i0 i1 i2
  rw [hop]
  obtain ⟨G, g0, HG, B1⟩ := good1 w 63 [.int .i64 22, .int .i64 d.arg, .int .i64 d.count, .string (str d.text), .slice A4 d.labels.length c4, .int .i64 d.value.kind, v51, v52, v53, v54, v55, .int .i64 d.value.code, .int .i64 d.value.env]
  have x0 := fun W (h : Ok G W) => (B1.out W h).cell 0 _ rfl
  have x1 := fun W (h : Ok G W) => (B1.out W h).cell 1 _ rfl
  have x2 := fun W (h : Ok G W) => (B1.out W h).cell 2 _ rfl
  have x3 := fun W (h : Ok G W) => (B1.out W h).cell 3 _ rfl
  have x4 := fun W (h : Ok G W) => (B1.out W h).cell 4 _ rfl
  have x5 := fun W (h : Ok G W) => (B1.out W h).cell 5 _ rfl
  have x6 := fun W (h : Ok G W) => (B1.out W h).cell 6 _ rfl
  have x7 := fun W (h : Ok G W) => (B1.out W h).cell 7 _ rfl
  have x8 := fun W (h : Ok G W) => (B1.out W h).cell 8 _ rfl
  have x9 := fun W (h : Ok G W) => (B1.out W h).cell 9 _ rfl
  have x10 := fun W (h : Ok G W) => (B1.out W h).cell 10 _ rfl
  have x11 := fun W (h : Ok G W) => (B1.out W h).cell 11 _ rfl
  have x12 := fun W (h : Ok G W) => (B1.out W h).cell 12 _ rfl
  go_enter Tryz.func80, Tryz.ntmps80
  go_upto_region 1 with fail
  refine gen_w g0 ?_
  clear g0
  intro W0 g0
  go_wp2_with fail
  refine Calls.mono (spec_IsName d.text _ HT.out) ?_
  rintro e w1 ⟨rfl, rfl⟩
  go_wp2_with fail
  go_ret
  exact ⟨ret_bool (by simp [txtB, nameOp]), HG.out.below g0⟩
set_option maxHeartbeats 1000000 in
theorem spec_l32Text_23 : LTextC 23 := by
  intro d cs w hop h
  have HRR := Lib.hid (fun (W : World) (hb : Below w.heap.size w W) => h.below hb)
  obtain ⟨v4, v51, v52, v53, v54, v55, rfl, i0, i1, i2, ht, hl, hv⟩ := h
  have HL := Lib.hid hl
  have HV := Lib.hid hv
  have HT := Lib.hid ht
  have I0 := Lib.hid i0
  have I1 := Lib.hid i1
  have I2 := Lib.hid i2
  obtain ⟨A4, c4, rfl, hlc, hm, HC⟩ := Txts.open_ hl
  unfold maxLen at hm
  clear hl hv ht i0 i1 i2
  rw [hop]
  obtain ⟨G, g0, HG, B1⟩ := good1 w 63 [.int .i64 23, .int .i64 d.arg, .int .i64 d.count, .string (str d.text), .slice A4 d.labels.length c4, .int .i64 d.value.kind, v51, v52, v53, v54, v55, .int .i64 d.value.code, .int .i64 d.value.env]
  have x0 := fun W (h : Ok G W) => (B1.out W h).cell 0 _ rfl
  have x1 := fun W (h : Ok G W) => (B1.out W h).cell 1 _ rfl
  have x2 := fun W (h : Ok G W) => (B1.out W h).cell 2 _ rfl
  have x3 := fun W (h : Ok G W) => (B1.out W h).cell 3 _ rfl
  have x4 := fun W (h : Ok G W) => (B1.out W h).cell 4 _ rfl
  have x5 := fun W (h : Ok G W) => (B1.out W h).cell 5 _ rfl
  have x6 := fun W (h : Ok G W) => (B1.out W h).cell 6 _ rfl
  have x7 := fun W (h : Ok G W) => (B1.out W h).cell 7 _ rfl
  have x8 := fun W (h : Ok G W) => (B1.out W h).cell 8 _ rfl
  have x9 := fun W (h : Ok G W) => (B1.out W h).cell 9 _ rfl
  have x10 := fun W (h : Ok G W) => (B1.out W h).cell 10 _ rfl
  have x11 := fun W (h : Ok G W) => (B1.out W h).cell 11 _ rfl
  have x12 := fun W (h : Ok G W) => (B1.out W h).cell 12 _ rfl
  go_enter Tryz.func80, Tryz.ntmps80
  go_upto_region 1 with fail
  refine gen_w g0 ?_
  clear g0
  intro W0 g0
  go_wp2_with fail
  refine Calls.mono (spec_IsName d.text _ HT.out) ?_
  rintro e w1 ⟨rfl, rfl⟩
  go_wp2_with fail
  go_ret
  exact ⟨ret_bool (by simp [txtB, nameOp]), HG.out.below g0⟩
set_option maxHeartbeats 1000000 in
theorem spec_l32Text_24 : LTextC 24 := by
  intro d cs w hop h
  have HRR := Lib.hid (fun (W : World) (hb : Below w.heap.size w W) => h.below hb)
  obtain ⟨v4, v51, v52, v53, v54, v55, rfl, i0, i1, i2, ht, hl, hv⟩ := h
  have HL := Lib.hid hl
  have HV := Lib.hid hv
  have HT := Lib.hid ht
  have I0 := Lib.hid i0
  have I1 := Lib.hid i1
  have I2 := Lib.hid i2
  obtain ⟨A4, c4, rfl, hlc, hm, HC⟩ := Txts.open_ hl
  unfold maxLen at hm
  clear hl hv ht i0 i1 i2
  rw [hop]
  obtain ⟨G, g0, HG, B1⟩ := good1 w 63 [.int .i64 24, .int .i64 d.arg, .int .i64 d.count, .string (str d.text), .slice A4 d.labels.length c4, .int .i64 d.value.kind, v51, v52, v53, v54, v55, .int .i64 d.value.code, .int .i64 d.value.env]
  have x0 := fun W (h : Ok G W) => (B1.out W h).cell 0 _ rfl
  have x1 := fun W (h : Ok G W) => (B1.out W h).cell 1 _ rfl
  have x2 := fun W (h : Ok G W) => (B1.out W h).cell 2 _ rfl
  have x3 := fun W (h : Ok G W) => (B1.out W h).cell 3 _ rfl
  have x4 := fun W (h : Ok G W) => (B1.out W h).cell 4 _ rfl
  have x5 := fun W (h : Ok G W) => (B1.out W h).cell 5 _ rfl
  have x6 := fun W (h : Ok G W) => (B1.out W h).cell 6 _ rfl
  have x7 := fun W (h : Ok G W) => (B1.out W h).cell 7 _ rfl
  have x8 := fun W (h : Ok G W) => (B1.out W h).cell 8 _ rfl
  have x9 := fun W (h : Ok G W) => (B1.out W h).cell 9 _ rfl
  have x10 := fun W (h : Ok G W) => (B1.out W h).cell 10 _ rfl
  have x11 := fun W (h : Ok G W) => (B1.out W h).cell 11 _ rfl
  have x12 := fun W (h : Ok G W) => (B1.out W h).cell 12 _ rfl
  go_enter Tryz.func80, Tryz.ntmps80
  go_upto_region 1 with fail
  refine gen_w g0 ?_
  clear g0
  intro W0 g0
  go_wp2_with fail
  refine Calls.mono (spec_IsName d.text _ HT.out) ?_
  rintro e w1 ⟨rfl, rfl⟩
  go_wp2_with fail
  go_ret
  exact ⟨ret_bool (by simp [txtB, nameOp]), HG.out.below g0⟩
set_option maxHeartbeats 1000000 in
theorem spec_l32Text_25 : LTextC 25 := by
  intro d cs w hop h
  have HRR := Lib.hid (fun (W : World) (hb : Below w.heap.size w W) => h.below hb)
  obtain ⟨v4, v51, v52, v53, v54, v55, rfl, i0, i1, i2, ht, hl, hv⟩ := h
  have HL := Lib.hid hl
  have HV := Lib.hid hv
  have HT := Lib.hid ht
  have I0 := Lib.hid i0
  have I1 := Lib.hid i1
  have I2 := Lib.hid i2
  obtain ⟨A4, c4, rfl, hlc, hm, HC⟩ := Txts.open_ hl
  unfold maxLen at hm
  clear hl hv ht i0 i1 i2
  rw [hop]
  obtain ⟨G, g0, HG, B1⟩ := good1 w 63 [.int .i64 25, .int .i64 d.arg, .int .i64 d.count, .string (str d.text), .slice A4 d.labels.length c4, .int .i64 d.value.kind, v51, v52, v53, v54, v55, .int .i64 d.value.code, .int .i64 d.value.env]
  have x0 := fun W (h : Ok G W) => (B1.out W h).cell 0 _ rfl
  have x1 := fun W (h : Ok G W) => (B1.out W h).cell 1 _ rfl
  have x2 := fun W (h : Ok G W) => (B1.out W h).cell 2 _ rfl
  have x3 := fun W (h : Ok G W) => (B1.out W h).cell 3 _ rfl
  have x4 := fun W (h : Ok G W) => (B1.out W h).cell 4 _ rfl
  have x5 := fun W (h : Ok G W) => (B1.out W h).cell 5 _ rfl
  have x6 := fun W (h : Ok G W) => (B1.out W h).cell 6 _ rfl
  have x7 := fun W (h : Ok G W) => (B1.out W h).cell 7 _ rfl
  have x8 := fun W (h : Ok G W) => (B1.out W h).cell 8 _ rfl
  have x9 := fun W (h : Ok G W) => (B1.out W h).cell 9 _ rfl
  have x10 := fun W (h : Ok G W) => (B1.out W h).cell 10 _ rfl
  have x11 := fun W (h : Ok G W) => (B1.out W h).cell 11 _ rfl
  have x12 := fun W (h : Ok G W) => (B1.out W h).cell 12 _ rfl
  go_enter Tryz.func80, Tryz.ntmps80
  go_upto_region 1 with fail
  refine gen_w g0 ?_
  clear g0
  intro W0 g0
  go_wp2_with fail
  refine Calls.mono (spec_IsName d.text _ HT.out) ?_
  rintro e w1 ⟨rfl, rfl⟩
  go_wp2_with fail
  go_ret
  exact ⟨ret_bool (by simp [txtB, nameOp]), HG.out.below g0⟩
set_option maxHeartbeats 1000000 in
theorem spec_l32Text_26 : LTextC 26 := by
  intro d cs w hop h
  have HRR := Lib.hid (fun (W : World) (hb : Below w.heap.size w W) => h.below hb)
  obtain ⟨v4, v51, v52, v53, v54, v55, rfl, i0, i1, i2, ht, hl, hv⟩ := h
  have HL := Lib.hid hl
  have HV := Lib.hid hv
  have HT := Lib.hid ht
  have I0 := Lib.hid i0
  have I1 := Lib.hid i1
  have I2 := Lib.hid i2
  obtain ⟨A4, c4, rfl, hlc, hm, HC⟩ := Txts.open_ hl
  unfold maxLen at hm
  clear hl hv ht i0 i1 i2
  rw [hop]
  obtain ⟨G, g0, HG, B1⟩ := good1 w 63 [.int .i64 26, .int .i64 d.arg, .int .i64 d.count, .string (str d.text), .slice A4 d.labels.length c4, .int .i64 d.value.kind, v51, v52, v53, v54, v55, .int .i64 d.value.code, .int .i64 d.value.env]
  have x0 := fun W (h : Ok G W) => (B1.out W h).cell 0 _ rfl
  have x1 := fun W (h : Ok G W) => (B1.out W h).cell 1 _ rfl
  have x2 := fun W (h : Ok G W) => (B1.out W h).cell 2 _ rfl
  have x3 := fun W (h : Ok G W) => (B1.out W h).cell 3 _ rfl
  have x4 := fun W (h : Ok G W) => (B1.out W h).cell 4 _ rfl
  have x5 := fun W (h : Ok G W) => (B1.out W h).cell 5 _ rfl
  have x6 := fun W (h : Ok G W) => (B1.out W h).cell 6 _ rfl
  have x7 := fun W (h : Ok G W) => (B1.out W h).cell 7 _ rfl
  have x8 := fun W (h : Ok G W) => (B1.out W h).cell 8 _ rfl
  have x9 := fun W (h : Ok G W) => (B1.out W h).cell 9 _ rfl
  have x10 := fun W (h : Ok G W) => (B1.out W h).cell 10 _ rfl
  have x11 := fun W (h : Ok G W) => (B1.out W h).cell 11 _ rfl
  have x12 := fun W (h : Ok G W) => (B1.out W h).cell 12 _ rfl
  go_enter Tryz.func80, Tryz.ntmps80
  go_upto_region 1 with fail
  refine gen_w g0 ?_
  clear g0
  intro W0 g0
  cases q1 : (d.text == [])
  all_goals
    have Q1 := Lib.hid q1
    go_wp2_with fail
    go_ret
    exact ⟨ret_bool (by have h9 := Q1.out; cases ht : d.text <;> simp_all [txtB, nameOp]), HG.out.below g0⟩
set_option maxHeartbeats 1000000 in
theorem spec_l32Text_27 : LTextC 27 := by
  intro d cs w hop h
  have HRR := Lib.hid (fun (W : World) (hb : Below w.heap.size w W) => h.below hb)
  obtain ⟨v4, v51, v52, v53, v54, v55, rfl, i0, i1, i2, ht, hl, hv⟩ := h
  have HL := Lib.hid hl
  have HV := Lib.hid hv
  have HT := Lib.hid ht
  have I0 := Lib.hid i0
  have I1 := Lib.hid i1
  have I2 := Lib.hid i2
  obtain ⟨A4, c4, rfl, hlc, hm, HC⟩ := Txts.open_ hl
  unfold maxLen at hm
  clear hl hv ht i0 i1 i2
  rw [hop]
  obtain ⟨G, g0, HG, B1⟩ := good1 w 63 [.int .i64 27, .int .i64 d.arg, .int .i64 d.count, .string (str d.text), .slice A4 d.labels.length c4, .int .i64 d.value.kind, v51, v52, v53, v54, v55, .int .i64 d.value.code, .int .i64 d.value.env]
  have x0 := fun W (h : Ok G W) => (B1.out W h).cell 0 _ rfl
  have x1 := fun W (h : Ok G W) => (B1.out W h).cell 1 _ rfl
  have x2 := fun W (h : Ok G W) => (B1.out W h).cell 2 _ rfl
  have x3 := fun W (h : Ok G W) => (B1.out W h).cell 3 _ rfl
  have x4 := fun W (h : Ok G W) => (B1.out W h).cell 4 _ rfl
  have x5 := fun W (h : Ok G W) => (B1.out W h).cell 5 _ rfl
  have x6 := fun W (h : Ok G W) => (B1.out W h).cell 6 _ rfl
  have x7 := fun W (h : Ok G W) => (B1.out W h).cell 7 _ rfl
  have x8 := fun W (h : Ok G W) => (B1.out W h).cell 8 _ rfl
  have x9 := fun W (h : Ok G W) => (B1.out W h).cell 9 _ rfl
  have x10 := fun W (h : Ok G W) => (B1.out W h).cell 10 _ rfl
  have x11 := fun W (h : Ok G W) => (B1.out W h).cell 11 _ rfl
  have x12 := fun W (h : Ok G W) => (B1.out W h).cell 12 _ rfl
  go_enter Tryz.func80, Tryz.ntmps80
  go_upto_region 1 with fail
  refine gen_w g0 ?_
  clear g0
  intro W0 g0
  go_wp2_with fail
  go_ret
  exact ⟨ret_bool (by simp [txtB, nameOp]; try omega), HG.out.below g0⟩
set_option maxHeartbeats 1000000 in
theorem spec_l32Text_28 : LTextC 28 := by
  intro d cs w hop h
  have HRR := Lib.hid (fun (W : World) (hb : Below w.heap.size w W) => h.below hb)
  obtain ⟨v4, v51, v52, v53, v54, v55, rfl, i0, i1, i2, ht, hl, hv⟩ := h
  have HL := Lib.hid hl
  have HV := Lib.hid hv
  have HT := Lib.hid ht
  have I0 := Lib.hid i0
  have I1 := Lib.hid i1
  have I2 := Lib.hid i2
  obtain ⟨A4, c4, rfl, hlc, hm, HC⟩ := Txts.open_ hl
  unfold maxLen at hm
  clear hl hv ht i0 i1 i2
  rw [hop]
  obtain ⟨G, g0, HG, B1⟩ := good1 w 63 [.int .i64 28, .int .i64 d.arg, .int .i64 d.count, .string (str d.text), .slice A4 d.labels.length c4, .int .i64 d.value.kind, v51, v52, v53, v54, v55, .int .i64 d.value.code, .int .i64 d.value.env]
  have x0 := fun W (h : Ok G W) => (B1.out W h).cell 0 _ rfl
  have x1 := fun W (h : Ok G W) => (B1.out W h).cell 1 _ rfl
  have x2 := fun W (h : Ok G W) => (B1.out W h).cell 2 _ rfl
  have x3 := fun W (h : Ok G W) => (B1.out W h).cell 3 _ rfl
  have x4 := fun W (h : Ok G W) => (B1.out W h).cell 4 _ rfl
  have x5 := fun W (h : Ok G W) => (B1.out W h).cell 5 _ rfl
  have x6 := fun W (h : Ok G W) => (B1.out W h).cell 6 _ rfl
  have x7 := fun W (h : Ok G W) => (B1.out W h).cell 7 _ rfl
  have x8 := fun W (h : Ok G W) => (B1.out W h).cell 8 _ rfl
  have x9 := fun W (h : Ok G W) => (B1.out W h).cell 9 _ rfl
  have x10 := fun W (h : Ok G W) => (B1.out W h).cell 10 _ rfl
  have x11 := fun W (h : Ok G W) => (B1.out W h).cell 11 _ rfl
  have x12 := fun W (h : Ok G W) => (B1.out W h).cell 12 _ rfl
  go_enter Tryz.func80, Tryz.ntmps80
  go_upto_region 1 with fail
  refine gen_w g0 ?_
  clear g0
  intro W0 g0
  go_wp2_with fail
  refine Calls.mono (spec_IsName d.text _ HT.out) ?_
  rintro e w1 ⟨rfl, rfl⟩
  go_wp2_with fail
  go_ret
  exact ⟨ret_bool (by simp [txtB, nameOp]), HG.out.below g0⟩
set_option maxHeartbeats 1000000 in
theorem spec_l32Text_29 : LTextC 29 := by
  intro d cs w hop h
  have HRR := Lib.hid (fun (W : World) (hb : Below w.heap.size w W) => h.below hb)
  obtain ⟨v4, v51, v52, v53, v54, v55, rfl, i0, i1, i2, ht, hl, hv⟩ := h
  have HL := Lib.hid hl
  have HV := Lib.hid hv
  have HT := Lib.hid ht
  have I0 := Lib.hid i0
  have I1 := Lib.hid i1
  have I2 := Lib.hid i2
  obtain ⟨A4, c4, rfl, hlc, hm, HC⟩ := Txts.open_ hl
  unfold maxLen at hm
  clear hl hv ht i0 i1 i2
  rw [hop]
  obtain ⟨G, g0, HG, B1⟩ := good1 w 63 [.int .i64 29, .int .i64 d.arg, .int .i64 d.count, .string (str d.text), .slice A4 d.labels.length c4, .int .i64 d.value.kind, v51, v52, v53, v54, v55, .int .i64 d.value.code, .int .i64 d.value.env]
  have x0 := fun W (h : Ok G W) => (B1.out W h).cell 0 _ rfl
  have x1 := fun W (h : Ok G W) => (B1.out W h).cell 1 _ rfl
  have x2 := fun W (h : Ok G W) => (B1.out W h).cell 2 _ rfl
  have x3 := fun W (h : Ok G W) => (B1.out W h).cell 3 _ rfl
  have x4 := fun W (h : Ok G W) => (B1.out W h).cell 4 _ rfl
  have x5 := fun W (h : Ok G W) => (B1.out W h).cell 5 _ rfl
  have x6 := fun W (h : Ok G W) => (B1.out W h).cell 6 _ rfl
  have x7 := fun W (h : Ok G W) => (B1.out W h).cell 7 _ rfl
  have x8 := fun W (h : Ok G W) => (B1.out W h).cell 8 _ rfl
  have x9 := fun W (h : Ok G W) => (B1.out W h).cell 9 _ rfl
  have x10 := fun W (h : Ok G W) => (B1.out W h).cell 10 _ rfl
  have x11 := fun W (h : Ok G W) => (B1.out W h).cell 11 _ rfl
  have x12 := fun W (h : Ok G W) => (B1.out W h).cell 12 _ rfl
  go_enter Tryz.func80, Tryz.ntmps80
  go_upto_region 1 with fail
  refine gen_w g0 ?_
  clear g0
  intro W0 g0
  go_wp2_with fail
  refine Calls.mono (spec_IsName d.text _ HT.out) ?_
  rintro e w1 ⟨rfl, rfl⟩
  go_wp2_with fail
  go_ret
  exact ⟨ret_bool (by simp [txtB, nameOp]), HG.out.below g0⟩
set_option maxHeartbeats 1000000 in
theorem spec_l32Text_30 : LTextC 30 := by
  intro d cs w hop h
  have HRR := Lib.hid (fun (W : World) (hb : Below w.heap.size w W) => h.below hb)
  obtain ⟨v4, v51, v52, v53, v54, v55, rfl, i0, i1, i2, ht, hl, hv⟩ := h
  have HL := Lib.hid hl
  have HV := Lib.hid hv
  have HT := Lib.hid ht
  have I0 := Lib.hid i0
  have I1 := Lib.hid i1
  have I2 := Lib.hid i2
  obtain ⟨A4, c4, rfl, hlc, hm, HC⟩ := Txts.open_ hl
  unfold maxLen at hm
  clear hl hv ht i0 i1 i2
  rw [hop]
  obtain ⟨G, g0, HG, B1⟩ := good1 w 63 [.int .i64 30, .int .i64 d.arg, .int .i64 d.count, .string (str d.text), .slice A4 d.labels.length c4, .int .i64 d.value.kind, v51, v52, v53, v54, v55, .int .i64 d.value.code, .int .i64 d.value.env]
  have x0 := fun W (h : Ok G W) => (B1.out W h).cell 0 _ rfl
  have x1 := fun W (h : Ok G W) => (B1.out W h).cell 1 _ rfl
  have x2 := fun W (h : Ok G W) => (B1.out W h).cell 2 _ rfl
  have x3 := fun W (h : Ok G W) => (B1.out W h).cell 3 _ rfl
  have x4 := fun W (h : Ok G W) => (B1.out W h).cell 4 _ rfl
  have x5 := fun W (h : Ok G W) => (B1.out W h).cell 5 _ rfl
  have x6 := fun W (h : Ok G W) => (B1.out W h).cell 6 _ rfl
  have x7 := fun W (h : Ok G W) => (B1.out W h).cell 7 _ rfl
  have x8 := fun W (h : Ok G W) => (B1.out W h).cell 8 _ rfl
  have x9 := fun W (h : Ok G W) => (B1.out W h).cell 9 _ rfl
  have x10 := fun W (h : Ok G W) => (B1.out W h).cell 10 _ rfl
  have x11 := fun W (h : Ok G W) => (B1.out W h).cell 11 _ rfl
  have x12 := fun W (h : Ok G W) => (B1.out W h).cell 12 _ rfl
  go_enter Tryz.func80, Tryz.ntmps80
  go_upto_region 1 with fail
  refine gen_w g0 ?_
  clear g0
  intro W0 g0
  go_wp2_with fail
  refine Calls.mono (spec_IsName d.text _ HT.out) ?_
  rintro e w1 ⟨rfl, rfl⟩
  go_wp2_with fail
  go_ret
  exact ⟨ret_bool (by simp [txtB, nameOp]), HG.out.below g0⟩
set_option maxHeartbeats 1000000 in
theorem spec_l32Text_31 : LTextC 31 := by
  intro d cs w hop h
  have HRR := Lib.hid (fun (W : World) (hb : Below w.heap.size w W) => h.below hb)
  obtain ⟨v4, v51, v52, v53, v54, v55, rfl, i0, i1, i2, ht, hl, hv⟩ := h
  have HL := Lib.hid hl
  have HV := Lib.hid hv
  have HT := Lib.hid ht
  have I0 := Lib.hid i0
  have I1 := Lib.hid i1
  have I2 := Lib.hid i2
  obtain ⟨A4, c4, rfl, hlc, hm, HC⟩ := Txts.open_ hl
  unfold maxLen at hm
  clear hl hv ht i0 i1 i2
  rw [hop]
  obtain ⟨G, g0, HG, B1⟩ := good1 w 63 [.int .i64 31, .int .i64 d.arg, .int .i64 d.count, .string (str d.text), .slice A4 d.labels.length c4, .int .i64 d.value.kind, v51, v52, v53, v54, v55, .int .i64 d.value.code, .int .i64 d.value.env]
  have x0 := fun W (h : Ok G W) => (B1.out W h).cell 0 _ rfl
  have x1 := fun W (h : Ok G W) => (B1.out W h).cell 1 _ rfl
  have x2 := fun W (h : Ok G W) => (B1.out W h).cell 2 _ rfl
  have x3 := fun W (h : Ok G W) => (B1.out W h).cell 3 _ rfl
  have x4 := fun W (h : Ok G W) => (B1.out W h).cell 4 _ rfl
  have x5 := fun W (h : Ok G W) => (B1.out W h).cell 5 _ rfl
  have x6 := fun W (h : Ok G W) => (B1.out W h).cell 6 _ rfl
  have x7 := fun W (h : Ok G W) => (B1.out W h).cell 7 _ rfl
  have x8 := fun W (h : Ok G W) => (B1.out W h).cell 8 _ rfl
  have x9 := fun W (h : Ok G W) => (B1.out W h).cell 9 _ rfl
  have x10 := fun W (h : Ok G W) => (B1.out W h).cell 10 _ rfl
  have x11 := fun W (h : Ok G W) => (B1.out W h).cell 11 _ rfl
  have x12 := fun W (h : Ok G W) => (B1.out W h).cell 12 _ rfl
  go_enter Tryz.func80, Tryz.ntmps80
  go_upto_region 1 with fail
  refine gen_w g0 ?_
  clear g0
  intro W0 g0
  cases q1 : (d.text == [])
  all_goals
    have Q1 := Lib.hid q1
    go_wp2_with fail
    go_ret
    exact ⟨ret_bool (by have h9 := Q1.out; cases ht : d.text <;> simp_all [txtB, nameOp]), HG.out.below g0⟩
set_option maxHeartbeats 1000000 in
theorem spec_l32Text_32 : LTextC 32 := by
  intro d cs w hop h
  have HRR := Lib.hid (fun (W : World) (hb : Below w.heap.size w W) => h.below hb)
  obtain ⟨v4, v51, v52, v53, v54, v55, rfl, i0, i1, i2, ht, hl, hv⟩ := h
  have HL := Lib.hid hl
  have HV := Lib.hid hv
  have HT := Lib.hid ht
  have I0 := Lib.hid i0
  have I1 := Lib.hid i1
  have I2 := Lib.hid i2
  obtain ⟨A4, c4, rfl, hlc, hm, HC⟩ := Txts.open_ hl
  unfold maxLen at hm
  clear hl hv ht i0 i1 i2
  rw [hop]
  obtain ⟨G, g0, HG, B1⟩ := good1 w 63 [.int .i64 32, .int .i64 d.arg, .int .i64 d.count, .string (str d.text), .slice A4 d.labels.length c4, .int .i64 d.value.kind, v51, v52, v53, v54, v55, .int .i64 d.value.code, .int .i64 d.value.env]
  have x0 := fun W (h : Ok G W) => (B1.out W h).cell 0 _ rfl
  have x1 := fun W (h : Ok G W) => (B1.out W h).cell 1 _ rfl
  have x2 := fun W (h : Ok G W) => (B1.out W h).cell 2 _ rfl
  have x3 := fun W (h : Ok G W) => (B1.out W h).cell 3 _ rfl
  have x4 := fun W (h : Ok G W) => (B1.out W h).cell 4 _ rfl
  have x5 := fun W (h : Ok G W) => (B1.out W h).cell 5 _ rfl
  have x6 := fun W (h : Ok G W) => (B1.out W h).cell 6 _ rfl
  have x7 := fun W (h : Ok G W) => (B1.out W h).cell 7 _ rfl
  have x8 := fun W (h : Ok G W) => (B1.out W h).cell 8 _ rfl
  have x9 := fun W (h : Ok G W) => (B1.out W h).cell 9 _ rfl
  have x10 := fun W (h : Ok G W) => (B1.out W h).cell 10 _ rfl
  have x11 := fun W (h : Ok G W) => (B1.out W h).cell 11 _ rfl
  have x12 := fun W (h : Ok G W) => (B1.out W h).cell 12 _ rfl
  go_enter Tryz.func80, Tryz.ntmps80
  go_upto_region 1 with fail
  refine gen_w g0 ?_
  clear g0
  intro W0 g0
  go_wp2_with fail
  refine Calls.mono (spec_IsName d.text _ HT.out) ?_
  rintro e w1 ⟨rfl, rfl⟩
  go_wp2_with fail
  go_ret
  exact ⟨ret_bool (by simp [txtB, nameOp]), HG.out.below g0⟩
set_option maxHeartbeats 1000000 in
theorem spec_l32Text_33 : LTextC 33 := by
  intro d cs w hop h
  have HRR := Lib.hid (fun (W : World) (hb : Below w.heap.size w W) => h.below hb)
  obtain ⟨v4, v51, v52, v53, v54, v55, rfl, i0, i1, i2, ht, hl, hv⟩ := h
  have HL := Lib.hid hl
  have HV := Lib.hid hv
  have HT := Lib.hid ht
  have I0 := Lib.hid i0
  have I1 := Lib.hid i1
  have I2 := Lib.hid i2
  obtain ⟨A4, c4, rfl, hlc, hm, HC⟩ := Txts.open_ hl
  unfold maxLen at hm
  clear hl hv ht i0 i1 i2
  rw [hop]
  obtain ⟨G, g0, HG, B1⟩ := good1 w 63 [.int .i64 33, .int .i64 d.arg, .int .i64 d.count, .string (str d.text), .slice A4 d.labels.length c4, .int .i64 d.value.kind, v51, v52, v53, v54, v55, .int .i64 d.value.code, .int .i64 d.value.env]
  have x0 := fun W (h : Ok G W) => (B1.out W h).cell 0 _ rfl
  have x1 := fun W (h : Ok G W) => (B1.out W h).cell 1 _ rfl
  have x2 := fun W (h : Ok G W) => (B1.out W h).cell 2 _ rfl
  have x3 := fun W (h : Ok G W) => (B1.out W h).cell 3 _ rfl
  have x4 := fun W (h : Ok G W) => (B1.out W h).cell 4 _ rfl
  have x5 := fun W (h : Ok G W) => (B1.out W h).cell 5 _ rfl
  have x6 := fun W (h : Ok G W) => (B1.out W h).cell 6 _ rfl
  have x7 := fun W (h : Ok G W) => (B1.out W h).cell 7 _ rfl
  have x8 := fun W (h : Ok G W) => (B1.out W h).cell 8 _ rfl
  have x9 := fun W (h : Ok G W) => (B1.out W h).cell 9 _ rfl
  have x10 := fun W (h : Ok G W) => (B1.out W h).cell 10 _ rfl
  have x11 := fun W (h : Ok G W) => (B1.out W h).cell 11 _ rfl
  have x12 := fun W (h : Ok G W) => (B1.out W h).cell 12 _ rfl
  go_enter Tryz.func80, Tryz.ntmps80
  go_upto_region 1 with fail
  refine gen_w g0 ?_
  clear g0
  intro W0 g0
  cases q1 : (d.text == [])
  all_goals
    have Q1 := Lib.hid q1
    go_wp2_with fail
    go_ret
    exact ⟨ret_bool (by have h9 := Q1.out; cases ht : d.text <;> simp_all [txtB, nameOp]), HG.out.below g0⟩
theorem spec_l32Text (op : Int) (h0 : 0 ≤ op) (h1 : op ≤ 33) : LTextC op := op34 spec_l32Text_0 spec_l32Text_1 spec_l32Text_2 spec_l32Text_3 spec_l32Text_4 spec_l32Text_5 spec_l32Text_6 spec_l32Text_7 spec_l32Text_8 spec_l32Text_9 spec_l32Text_10 spec_l32Text_11 spec_l32Text_12 spec_l32Text_13 spec_l32Text_14 spec_l32Text_15 spec_l32Text_16 spec_l32Text_17 spec_l32Text_18 spec_l32Text_19 spec_l32Text_20 spec_l32Text_21 spec_l32Text_22 spec_l32Text_23 spec_l32Text_24 spec_l32Text_25 spec_l32Text_26 spec_l32Text_27 spec_l32Text_28 spec_l32Text_29 spec_l32Text_30 spec_l32Text_31 spec_l32Text_32 spec_l32Text_33 op h0 h1
end Go.Proofs.YtjdfancbmjnjfaaGreat
