/-
  Contracts: impl.instrText, impl.instrRight.
-/
import Derived.Test.YtjdfancbmjnjfaaGreatChk1
namespace Go.Proofs.YtjdfancbmjnjfaaGreat
set_option maxRecDepth 100000
open Go.ChangeShapes Go.WideShapes Go.ChangeAt Go.RowKit Go.Deep
set_option linter.unusedVariables false
set_option linter.unusedSimpArgs false

theorem short60_succ (l : List (List UInt8)) (k : Nat) (h : k < l.length) : short60 (l.take (k + 1)) = (short60 (l.take k) && decide (l[k].length ≤ 60)) := by
  unfold short60
  rw [List.take_succ_eq_append_getElem h, List.all_append]
  simp
def InstrTextC (op : Int) : Prop := ∀ (d : InstrD) (cs : List Value) (w : World), d.op = op → InstrR w cs d → (∀ s ∈ d.labels, s.length ≤ 1000000000000) → Calls Tryz.prog 94 #[.agg cs.toArray] w (RetB (itB op d.text d.labels) w)
set_option maxHeartbeats 15000000 in
theorem impl_instrText_c0 : ∀ op ∈ ([0, 3, 4, 5, 9, 10, 12, 13, 14, 15, 16, 18, 26, 31, 33] : List Int), InstrTextC op := by
  intro op hm
  simp only [List.mem_cons, List.not_mem_nil, or_false] at hm
  rcases hm with rfl | rfl | rfl | rfl | rfl | rfl | rfl | rfl | rfl | rfl | rfl | rfl | rfl | rfl | rfl
  all_goals
    intro d cs w hop h hsl
    have HRR := Lib.hid (fun (W : World) (hb : Below w.heap.size w W) => h.below hb)
    obtain ⟨v4, v51, v52, v53, v54, v55, rfl, i0, i1, i2, ht, hl, hv⟩ := h
    have HL := Lib.hid hl
    have HV := Lib.hid hv
    have HT := Lib.hid ht
    have I0 := Lib.hid i0
    have I1 := Lib.hid i1
    have I2 := Lib.hid i2
    obtain ⟨A4, c4, rfl, hlc, hm, HC⟩ := Txts.open_ hl
    unfold maxLen at hm
    clear hl hv ht i0 i1 i2
    have HE := Lib.hid (show itB d.op d.text d.labels = itB d.op d.text d.labels from rfl)
    obtain ⟨G, g0, HG, B1⟩ := good1 w 63 [.int .i64 d.op, .int .i64 d.arg, .int .i64 d.count, .string (str d.text), .slice A4 d.labels.length c4, .int .i64 d.value.kind, v51, v52, v53, v54, v55, .int .i64 d.value.code, .int .i64 d.value.env]
    rw [hop] at g0 B1 ⊢
    obtain ⟨x0, x1, x2, x3, x4, x5, x6, x7, x8, x9, x10, x11, x12⟩ := pk_f13 B1
    go_enter Tryz.func94, Tryz.ntmps94
    go_upto_region 1 with fail
    refine gen_w g0 ?_
    clear g0
    intro W0 g0
    go_wp2_with fail
    go_ret
    exact ⟨ret_bool (by simp [itB, useT, useL, nameOp]), HG.out.below g0⟩
set_option maxHeartbeats 11000000 in
theorem impl_instrText_c1 : ∀ op ∈ ([1, 2, 19, 20, 21, 22, 23, 28, 29, 30, 32] : List Int), InstrTextC op := by
  intro op hm
  simp only [List.mem_cons, List.not_mem_nil, or_false] at hm
  rcases hm with rfl | rfl | rfl | rfl | rfl | rfl | rfl | rfl | rfl | rfl | rfl
  all_goals
    intro d cs w hop h hsl
    have HRR := Lib.hid (fun (W : World) (hb : Below w.heap.size w W) => h.below hb)
    obtain ⟨v4, v51, v52, v53, v54, v55, rfl, i0, i1, i2, ht, hl, hv⟩ := h
    have HL := Lib.hid hl
    have HV := Lib.hid hv
    have HT := Lib.hid ht
    have I0 := Lib.hid i0
    have I1 := Lib.hid i1
    have I2 := Lib.hid i2
    obtain ⟨A4, c4, rfl, hlc, hm, HC⟩ := Txts.open_ hl
    unfold maxLen at hm
    clear hl hv ht i0 i1 i2
    have HE := Lib.hid (show itB d.op d.text d.labels = itB d.op d.text d.labels from rfl)
    obtain ⟨G, g0, HG, B1⟩ := good1 w 63 [.int .i64 d.op, .int .i64 d.arg, .int .i64 d.count, .string (str d.text), .slice A4 d.labels.length c4, .int .i64 d.value.kind, v51, v52, v53, v54, v55, .int .i64 d.value.code, .int .i64 d.value.env]
    rw [hop] at g0 B1 ⊢
    obtain ⟨x0, x1, x2, x3, x4, x5, x6, x7, x8, x9, x10, x11, x12⟩ := pk_f13 B1
    go_enter Tryz.func94, Tryz.ntmps94
    go_upto_region 1 with fail
    refine gen_w g0 ?_
    clear g0
    intro W0 g0
    go_wp2_with fail
    refine Calls.mono (impl_IsName d.text _ HT.out) ?_
    rintro e w1 ⟨rfl, rfl⟩
    go_wp2_with fail
    go_ret
    exact ⟨ret_bool (by simp [itB, txtB, nameOp, useT, useL]), HG.out.below g0⟩
set_option maxHeartbeats 1000000 in
theorem impl_instrText_6 : InstrTextC 6 := by
  intro d cs w hop h hsl
  have HRR := Lib.hid (fun (W : World) (hb : Below w.heap.size w W) => h.below hb)
  obtain ⟨v4, v51, v52, v53, v54, v55, rfl, i0, i1, i2, ht, hl, hv⟩ := h
  have HL := Lib.hid hl
  have HV := Lib.hid hv
  have HT := Lib.hid ht
  have I0 := Lib.hid i0
  have I1 := Lib.hid i1
  have I2 := Lib.hid i2
  obtain ⟨A4, c4, rfl, hlc, hm, HC⟩ := Txts.open_ hl
  unfold maxLen at hm
  clear hl hv ht i0 i1 i2
  have HE := Lib.hid (show itB 6 d.text d.labels = itB 6 d.text d.labels from rfl)
  rw [hop]
  obtain ⟨G, g0, HG, B1⟩ := good1 w 63 [.int .i64 6, .int .i64 d.arg, .int .i64 d.count, .string (str d.text), .slice A4 d.labels.length c4, .int .i64 d.value.kind, v51, v52, v53, v54, v55, .int .i64 d.value.code, .int .i64 d.value.env]
  obtain ⟨x0, x1, x2, x3, x4, x5, x6, x7, x8, x9, x10, x11, x12⟩ := pk_f13 B1
  go_enter Tryz.func94, Tryz.ntmps94
  go_upto_region 1 with fail
  refine gen_w g0 ?_
  clear g0
  intro W0 g0
  go_wp2_with fail
  go_loopw [138] (fun i wr => ∃ k : Nat, k ≤ d.labels.length ∧ i = .int .i64 k ∧ Hid (short60 (d.labels.take k) = true) ∧ Ok G wr) (fun i _ => d.labels.length - (intOf i).toNat)
  case atStart => exact ⟨0, Nat.zero_le _, rfl, rfl, g0⟩
  case round =>
    clear g0
    obtain ⟨k, hk2, rfl, HA, g0⟩ := hrel
    by_cases hlt : k < d.labels.length
    · have HS := Lib.hid (short60_succ d.labels k hlt)
      obtain ⟨b, off, rfl, hbl, hcell, hsz⟩ := HC.out k hlt
      have y0 := fun W (h : Ok G W) => ((HG.out.below h).cell (p := ⟨b, off + k, none⟩) hbl).trans hcell
      by_cases hq : d.labels[k].length ≤ 60
      · have HY := Lib.hid (show decide (d.labels[k].length ≤ 60) = true by simpa using hq)
        go_wp2_with fail
        go_roundw
        case rel => exact ⟨k + 1, by omega, by go_num, by show _ = _; rw [HS.out, HA.out, HY.out]; rfl, g0⟩
        case measure => simp [intOf]; omega
      · have HN := Lib.hid (show short60 d.labels = false by
          rw [Bool.eq_false_iff]
          intro ha
          have := List.all_eq_true.1 ha _ (List.getElem_mem hlt)
          simp at this
          omega)
        go_wp2_with fail
        go_ret
        exact ⟨ret_bool (by simp [itB, lblB, useT, useL, nameOp, HN.out]), HG.out.below g0⟩
    · obtain rfl : k = d.labels.length := by omega
      rw [List.take_length] at HA
      go_wp2_with fail
      go_ret
      exact ⟨ret_bool (by simp [itB, lblB, useT, useL, nameOp, HA.out]; try omega), HG.out.below g0⟩
set_option maxHeartbeats 1000000 in
theorem impl_instrText_7 : InstrTextC 7 := by
  intro d cs w hop h hsl
  have HRR := Lib.hid (fun (W : World) (hb : Below w.heap.size w W) => h.below hb)
  obtain ⟨v4, v51, v52, v53, v54, v55, rfl, i0, i1, i2, ht, hl, hv⟩ := h
  have HL := Lib.hid hl
  have HV := Lib.hid hv
  have HT := Lib.hid ht
  have I0 := Lib.hid i0
  have I1 := Lib.hid i1
  have I2 := Lib.hid i2
  obtain ⟨A4, c4, rfl, hlc, hm, HC⟩ := Txts.open_ hl
  unfold maxLen at hm
  clear hl hv ht i0 i1 i2
  have HE := Lib.hid (show itB 7 d.text d.labels = itB 7 d.text d.labels from rfl)
  rw [hop]
  obtain ⟨G, g0, HG, B1⟩ := good1 w 63 [.int .i64 7, .int .i64 d.arg, .int .i64 d.count, .string (str d.text), .slice A4 d.labels.length c4, .int .i64 d.value.kind, v51, v52, v53, v54, v55, .int .i64 d.value.code, .int .i64 d.value.env]
  obtain ⟨x0, x1, x2, x3, x4, x5, x6, x7, x8, x9, x10, x11, x12⟩ := pk_f13 B1
  go_enter Tryz.func94, Tryz.ntmps94
  go_upto_region 1 with fail
  refine gen_w g0 ?_
  clear g0
  intro W0 g0
  cases q1 : (d.text == [45]) <;> cases q2 : (d.text == [33])
  all_goals
    have Q1 := Lib.hid q1
    have Q2 := Lib.hid q2
    go_wp2_with fail
    go_ret
    exact ⟨ret_bool (by simp [itB, txtB, nameOp, useT, useL, Q1.out, Q2.out]), HG.out.below g0⟩
set_option maxHeartbeats 1000000 in
theorem impl_instrText_8 : InstrTextC 8 := by
  intro d cs w hop h hsl
  have HRR := Lib.hid (fun (W : World) (hb : Below w.heap.size w W) => h.below hb)
  obtain ⟨v4, v51, v52, v53, v54, v55, rfl, i0, i1, i2, ht, hl, hv⟩ := h
  have HL := Lib.hid hl
  have HV := Lib.hid hv
  have HT := Lib.hid ht
  have I0 := Lib.hid i0
  have I1 := Lib.hid i1
  have I2 := Lib.hid i2
  obtain ⟨A4, c4, rfl, hlc, hm, HC⟩ := Txts.open_ hl
  unfold maxLen at hm
  clear hl hv ht i0 i1 i2
  have HE := Lib.hid (show itB 8 d.text d.labels = itB 8 d.text d.labels from rfl)
  rw [hop]
  obtain ⟨G, g0, HG, B1⟩ := good1 w 63 [.int .i64 8, .int .i64 d.arg, .int .i64 d.count, .string (str d.text), .slice A4 d.labels.length c4, .int .i64 d.value.kind, v51, v52, v53, v54, v55, .int .i64 d.value.code, .int .i64 d.value.env]
  obtain ⟨x0, x1, x2, x3, x4, x5, x6, x7, x8, x9, x10, x11, x12⟩ := pk_f13 B1
  go_enter Tryz.func94, Tryz.ntmps94
  go_upto_region 1 with fail
  refine gen_w g0 ?_
  clear g0
  intro W0 g0
  go_wp2_with fail
  refine Calls.mono (impl_isBinary d.text _) ?_
  rintro e w1 ⟨rfl, hb⟩
  replace g0 := HG.out.step g0 hb
  clear hb
  cases q0 : hasB binL d.text <;> cases q1 : (d.text == [38, 38]) <;> cases q2 : (d.text == [124, 124]) <;> cases q3 : (d.text == [126])
  all_goals
    have Q0 := Lib.hid q0
    have Q1 := Lib.hid q1
    have Q2 := Lib.hid q2
    have Q3 := Lib.hid q3
    clear q0
    go_wp2_with fail
    go_ret
    exact ⟨ret_bool (by simp [itB, txtB, nameOp, useT, useL, bne, Q0.out, Q1.out, Q2.out, Q3.out]), HG.out.below g0⟩
set_option maxHeartbeats 1000000 in
theorem impl_instrText_11 : InstrTextC 11 := by
  intro d cs w hop h hsl
  have HRR := Lib.hid (fun (W : World) (hb : Below w.heap.size w W) => h.below hb)
  obtain ⟨v4, v51, v52, v53, v54, v55, rfl, i0, i1, i2, ht, hl, hv⟩ := h
  have HL := Lib.hid hl
  have HV := Lib.hid hv
  have HT := Lib.hid ht
  have I0 := Lib.hid i0
  have I1 := Lib.hid i1
  have I2 := Lib.hid i2
  obtain ⟨A4, c4, rfl, hlc, hm, HC⟩ := Txts.open_ hl
  unfold maxLen at hm
  clear hl hv ht i0 i1 i2
  have HE := Lib.hid (show itB 11 d.text d.labels = itB 11 d.text d.labels from rfl)
  rw [hop]
  obtain ⟨G, g0, HG, B1⟩ := good1 w 63 [.int .i64 11, .int .i64 d.arg, .int .i64 d.count, .string (str d.text), .slice A4 d.labels.length c4, .int .i64 d.value.kind, v51, v52, v53, v54, v55, .int .i64 d.value.code, .int .i64 d.value.env]
  obtain ⟨x0, x1, x2, x3, x4, x5, x6, x7, x8, x9, x10, x11, x12⟩ := pk_f13 B1
  go_enter Tryz.func94, Tryz.ntmps94
  go_upto_region 1 with fail
  refine gen_w g0 ?_
  clear g0
  intro W0 g0
  cases q1 : decide (1 ≤ (d.text.length : Int)) <;> cases q2 : decide ((d.text.length : Int) ≤ 60)
  all_goals
    have Q1 := Lib.hid q1
    have Q2 := Lib.hid q2
    go_wp2_with fail
    go_ret
    exact ⟨ret_bool (by have h1 := Q1.out; have h2 := Q2.out; simp at h1 h2; simp [itB, txtB, nameOp, useT, useL]; try omega), HG.out.below g0⟩
set_option maxHeartbeats 1000000 in
theorem impl_instrText_17 : InstrTextC 17 := by
  intro d cs w hop h hsl
  have HRR := Lib.hid (fun (W : World) (hb : Below w.heap.size w W) => h.below hb)
  obtain ⟨v4, v51, v52, v53, v54, v55, rfl, i0, i1, i2, ht, hl, hv⟩ := h
  have HL := Lib.hid hl
  have HV := Lib.hid hv
  have HT := Lib.hid ht
  have I0 := Lib.hid i0
  have I1 := Lib.hid i1
  have I2 := Lib.hid i2
  obtain ⟨A4, c4, rfl, hlc, hm, HC⟩ := Txts.open_ hl
  unfold maxLen at hm
  clear hl hv ht i0 i1 i2
  have HE := Lib.hid (show itB 17 d.text d.labels = itB 17 d.text d.labels from rfl)
  rw [hop]
  obtain ⟨G, g0, HG, B1⟩ := good1 w 63 [.int .i64 17, .int .i64 d.arg, .int .i64 d.count, .string (str d.text), .slice A4 d.labels.length c4, .int .i64 d.value.kind, v51, v52, v53, v54, v55, .int .i64 d.value.code, .int .i64 d.value.env]
  obtain ⟨x0, x1, x2, x3, x4, x5, x6, x7, x8, x9, x10, x11, x12⟩ := pk_f13 B1
  go_enter Tryz.func94, Tryz.ntmps94
  go_upto_region 1 with fail
  refine gen_w g0 ?_
  clear g0
  intro W0 g0
  cases q1 : (d.text == [38, 38]) <;> cases q2 : (d.text == [124, 124])
  all_goals
    have Q1 := Lib.hid q1
    have Q2 := Lib.hid q2
    go_wp2_with fail
    go_ret
    exact ⟨ret_bool (by simp [itB, txtB, nameOp, useT, useL, Q1.out, Q2.out]), HG.out.below g0⟩
set_option maxHeartbeats 1000000 in
theorem impl_instrText_24 : InstrTextC 24 := by
  intro d cs w hop h hsl
  have HRR := Lib.hid (fun (W : World) (hb : Below w.heap.size w W) => h.below hb)
  obtain ⟨v4, v51, v52, v53, v54, v55, rfl, i0, i1, i2, ht, hl, hv⟩ := h
  have HL := Lib.hid hl
  have HV := Lib.hid hv
  have HT := Lib.hid ht
  have I0 := Lib.hid i0
  have I1 := Lib.hid i1
  have I2 := Lib.hid i2
  obtain ⟨A4, c4, rfl, hlc, hm, HC⟩ := Txts.open_ hl
  unfold maxLen at hm
  clear hl hv ht i0 i1 i2
  have HE := Lib.hid (show itB 24 d.text d.labels = itB 24 d.text d.labels from rfl)
  rw [hop]
  obtain ⟨G, g0, HG, B1⟩ := good1 w 63 [.int .i64 24, .int .i64 d.arg, .int .i64 d.count, .string (str d.text), .slice A4 d.labels.length c4, .int .i64 d.value.kind, v51, v52, v53, v54, v55, .int .i64 d.value.code, .int .i64 d.value.env]
  obtain ⟨x0, x1, x2, x3, x4, x5, x6, x7, x8, x9, x10, x11, x12⟩ := pk_f13 B1
  go_enter Tryz.func94, Tryz.ntmps94
  go_upto_region 1 with fail
  refine gen_w g0 ?_
  clear g0
  intro W0 g0
  go_wp2_with fail
  refine Calls.mono (impl_IsName d.text _ HT.out) ?_
  rintro e w1 ⟨rfl, rfl⟩
  cases q0 : isNameB d.text
  · have Q0 := Lib.hid q0
    clear q0
    go_wp2_with fail
    go_ret
    exact ⟨ret_bool (by simp [itB, txtB, lblB, useT, useL, nameOp, Q0.out]), HG.out.below g0⟩
  have Q0 := Lib.hid q0
  clear q0
  by_cases q1 : d.labels.length = 1
  rotate_left
  · have Q1 := Lib.hid q1
    go_wp2_with fail
    go_ret
    exact ⟨ret_bool (by have := Q1.out; simp [itB, txtB, lblB, useT, useL, nameOp, Q0.out, this]), HG.out.below g0⟩
  obtain ⟨s, hs⟩ : ∃ s, d.labels = [s] := by
    match hd : d.labels, q1 with
    | [s], _ => exact ⟨s, rfl⟩
  have HS := Lib.hid hs
  obtain ⟨b, off, rfl, hbl, hcell, hsz⟩ := HC.out 0 (by omega)
  have e0 : d.labels[0] = s := by simp [hs]
  rw [e0] at hcell hsz
  rw [Nat.add_zero] at hcell
  have hsl2 : s.length ≤ 1000000000000 := hsl s (by rw [hs]; simp)
  have y0 := fun W (h : Ok G W) => ((HG.out.below h).cell (p := ⟨b, off, none⟩) hbl).trans hcell
  clear hcell e0 hs
  cases q2 : decide (1 ≤ (s.length : Int)) <;> cases q3 : decide ((s.length : Int) ≤ 60)
  all_goals
    have Q2 := Lib.hid q2
    have Q3 := Lib.hid q3
    go_wp2_with fail
    go_ret
    exact ⟨ret_bool (by have h1 := Q2.out; have h2 := Q3.out; simp at h1 h2; simp [itB, txtB, lblB, useT, useL, nameOp, Q0.out, HS.out]; try omega), HG.out.below g0⟩
set_option maxHeartbeats 1000000 in
theorem impl_instrText_25 : InstrTextC 25 := by
  intro d cs w hop h hsl
  have HRR := Lib.hid (fun (W : World) (hb : Below w.heap.size w W) => h.below hb)
  obtain ⟨v4, v51, v52, v53, v54, v55, rfl, i0, i1, i2, ht, hl, hv⟩ := h
  have HL := Lib.hid hl
  have HV := Lib.hid hv
  have HT := Lib.hid ht
  have I0 := Lib.hid i0
  have I1 := Lib.hid i1
  have I2 := Lib.hid i2
  obtain ⟨A4, c4, rfl, hlc, hm, HC⟩ := Txts.open_ hl
  unfold maxLen at hm
  clear hl hv ht i0 i1 i2
  have HE := Lib.hid (show itB 25 d.text d.labels = itB 25 d.text d.labels from rfl)
  rw [hop]
  obtain ⟨G, g0, HG, B1⟩ := good1 w 63 [.int .i64 25, .int .i64 d.arg, .int .i64 d.count, .string (str d.text), .slice A4 d.labels.length c4, .int .i64 d.value.kind, v51, v52, v53, v54, v55, .int .i64 d.value.code, .int .i64 d.value.env]
  obtain ⟨x0, x1, x2, x3, x4, x5, x6, x7, x8, x9, x10, x11, x12⟩ := pk_f13 B1
  go_enter Tryz.func94, Tryz.ntmps94
  go_upto_region 1 with fail
  refine gen_w g0 ?_
  clear g0
  intro W0 g0
  go_wp2_with fail
  refine Calls.mono (impl_IsName d.text _ HT.out) ?_
  rintro e w1 ⟨rfl, rfl⟩
  cases q0 : isNameB d.text
  · have Q0 := Lib.hid q0
    clear q0
    go_wp2_with fail
    go_ret
    exact ⟨ret_bool (by simp [itB, txtB, lblB, useT, useL, nameOp, Q0.out]), HG.out.below g0⟩
  have Q0 := Lib.hid q0
  clear q0
  by_cases q1 : d.labels.length = 1
  rotate_left
  · have Q1 := Lib.hid q1
    go_wp2_with fail
    go_ret
    exact ⟨ret_bool (by have := Q1.out; simp [itB, txtB, lblB, useT, useL, nameOp, Q0.out, this]), HG.out.below g0⟩
  obtain ⟨s, hs⟩ : ∃ s, d.labels = [s] := by
    match hd : d.labels, q1 with
    | [s], _ => exact ⟨s, rfl⟩
  have HS := Lib.hid hs
  obtain ⟨b, off, rfl, hbl, hcell, hsz⟩ := HC.out 0 (by omega)
  have e0 : d.labels[0] = s := by simp [hs]
  rw [e0] at hcell hsz
  rw [Nat.add_zero] at hcell
  have hsl2 : s.length ≤ 1000000000000 := hsl s (by rw [hs]; simp)
  have y0 := fun W (h : Ok G W) => ((HG.out.below h).cell (p := ⟨b, off, none⟩) hbl).trans hcell
  clear hcell e0 hs
  cases q2 : s.isEmpty
  rotate_left
  · obtain rfl : s = [] := by simpa using q2
    go_wp2_with fail
    go_ret
    exact ⟨ret_bool (by simp [itB, txtB, lblB, useT, useL, nameOp, Q0.out, HS.out]), HG.out.below g0⟩
  have q4 : (s == []) = false := by cases s <;> simp_all
  have Q4 := Lib.hid q4
  go_wp2_with fail
  refine Calls.mono (impl_IsName (s ++ [60, 45]) _ (by unfold maxLen; simp; omega)) ?_
  rintro e w1 ⟨rfl, rfl⟩
  go_wp2_with fail
  go_ret
  exact ⟨ret_bool (by have := Q4.out; simp [itB, txtB, lblB, useT, useL, nameOp, Q0.out, HS.out]; cases s <;> simp_all), HG.out.below g0⟩
set_option maxHeartbeats 1000000 in
theorem impl_instrText_27 : InstrTextC 27 := by
  intro d cs w hop h hsl
  have HRR := Lib.hid (fun (W : World) (hb : Below w.heap.size w W) => h.below hb)
  obtain ⟨v4, v51, v52, v53, v54, v55, rfl, i0, i1, i2, ht, hl, hv⟩ := h
  have HL := Lib.hid hl
  have HV := Lib.hid hv
  have HT := Lib.hid ht
  have I0 := Lib.hid i0
  have I1 := Lib.hid i1
  have I2 := Lib.hid i2
  obtain ⟨A4, c4, rfl, hlc, hm, HC⟩ := Txts.open_ hl
  unfold maxLen at hm
  clear hl hv ht i0 i1 i2
  have HE := Lib.hid (show itB 27 d.text d.labels = itB 27 d.text d.labels from rfl)
  rw [hop]
  obtain ⟨G, g0, HG, B1⟩ := good1 w 63 [.int .i64 27, .int .i64 d.arg, .int .i64 d.count, .string (str d.text), .slice A4 d.labels.length c4, .int .i64 d.value.kind, v51, v52, v53, v54, v55, .int .i64 d.value.code, .int .i64 d.value.env]
  obtain ⟨x0, x1, x2, x3, x4, x5, x6, x7, x8, x9, x10, x11, x12⟩ := pk_f13 B1
  go_enter Tryz.func94, Tryz.ntmps94
  go_upto_region 1 with fail
  refine gen_w g0 ?_
  clear g0
  intro W0 g0
  go_wp2_with fail
  go_ret
  exact ⟨ret_bool (by simp [itB, txtB, nameOp, useT, useL]; try omega), HG.out.below g0⟩
theorem impl_instrText (op : Int) (h0 : 0 ≤ op) (h1 : op ≤ 33) : InstrTextC op := op34 (impl_instrText_c0 0 (by decide)) (impl_instrText_c1 1 (by decide)) (impl_instrText_c1 2 (by decide)) (impl_instrText_c0 3 (by decide)) (impl_instrText_c0 4 (by decide)) (impl_instrText_c0 5 (by decide)) impl_instrText_6 impl_instrText_7 impl_instrText_8 (impl_instrText_c0 9 (by decide)) (impl_instrText_c0 10 (by decide)) impl_instrText_11 (impl_instrText_c0 12 (by decide)) (impl_instrText_c0 13 (by decide)) (impl_instrText_c0 14 (by decide)) (impl_instrText_c0 15 (by decide)) (impl_instrText_c0 16 (by decide)) impl_instrText_17 (impl_instrText_c0 18 (by decide)) (impl_instrText_c1 19 (by decide)) (impl_instrText_c1 20 (by decide)) (impl_instrText_c1 21 (by decide)) (impl_instrText_c1 22 (by decide)) (impl_instrText_c1 23 (by decide)) impl_instrText_24 impl_instrText_25 (impl_instrText_c0 26 (by decide)) impl_instrText_27 (impl_instrText_c1 28 (by decide)) (impl_instrText_c1 29 (by decide)) (impl_instrText_c1 30 (by decide)) (impl_instrText_c0 31 (by decide)) (impl_instrText_c1 32 (by decide)) (impl_instrText_c0 33 (by decide)) op h0 h1
end Go.Proofs.YtjdfancbmjnjfaaGreat
