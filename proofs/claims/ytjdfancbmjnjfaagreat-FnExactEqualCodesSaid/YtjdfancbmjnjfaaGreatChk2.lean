/-
  Contracts: impl.instrText, impl.instrRight.
-/
import Derived.Test.YtjdfancbmjnjfaaGreatChk1
namespace Go.Proofs.YtjdfancbmjnjfaaGreat
set_option maxRecDepth 100000
open Go.ChangeShapes Go.WideShapes Go.ChangeAt Go.RowKit Go.Deep
set_option linter.unusedVariables false
set_option linter.unusedSimpArgs false

theorem short60_succ (l : List (List UInt8)) (k : Nat) (h : k < l.length) : short60 (l.take (k + 1)) = (short60 (l.take k) && decide (l[k].length ≤ 60)) := by
  unfold short60
  rw [List.take_succ_eq_append_getElem h, List.all_append]
  simp
def InstrTextC (op : Int) : Prop := ∀ (d : InstrD) (cs : List Value) (w : World), d.op = op → InstrR w cs d → (∀ s ∈ d.labels, s.length ≤ 1000000000000) → Calls Tryz.prog 94 #[.agg cs.toArray] w (RetB (itB op d.text d.labels) w)
set_option maxHeartbeats 1000000 in
theorem impl_instrText_0 : InstrTextC 0 := by
  intro d cs w hop h hsl
  have HRR := Lib.hid (fun (W : World) (hb : Below w.heap.size w W) => h.below hb)
  obtain ⟨v4, v51, v52, v53, v54, v55, rfl, i0, i1, i2, ht, hl, hv⟩ := h
  have HL := Lib.hid hl
  have HV := Lib.hid hv
  have HT := Lib.hid ht
  have I0 := Lib.hid i0
  have I1 := Lib.hid i1
  have I2 := Lib.hid i2
  obtain ⟨A4, c4, rfl, hlc, hm, HC⟩ := Txts.open_ hl
  unfold maxLen at hm
  clear hl hv ht i0 i1 i2
  have HE := Lib.hid (show itB 0 d.text d.labels = itB 0 d.text d.labels from rfl)
  rw [hop]
  obtain ⟨G, g0, HG, B1⟩ := good1 w 63 [.int .i64 0, .int .i64 d.arg, .int .i64 d.count, .string (str d.text), .slice A4 d.labels.length c4, .int .i64 d.value.kind, v51, v52, v53, v54, v55, .int .i64 d.value.code, .int .i64 d.value.env]
  have x0 := fun W (h : Ok G W) => (B1.out W h).cell 0 _ rfl
  have x1 := fun W (h : Ok G W) => (B1.out W h).cell 1 _ rfl
  have x2 := fun W (h : Ok G W) => (B1.out W h).cell 2 _ rfl
  have x3 := fun W (h : Ok G W) => (B1.out W h).cell 3 _ rfl
  have x4 := fun W (h : Ok G W) => (B1.out W h).cell 4 _ rfl
  have x5 := fun W (h : Ok G W) => (B1.out W h).cell 5 _ rfl
  have x6 := fun W (h : Ok G W) => (B1.out W h).cell 6 _ rfl
  have x7 := fun W (h : Ok G W) => (B1.out W h).cell 7 _ rfl
  have x8 := fun W (h : Ok G W) => (B1.out W h).cell 8 _ rfl
  have x9 := fun W (h : Ok G W) => (B1.out W h).cell 9 _ rfl
  have x10 := fun W (h : Ok G W) => (B1.out W h).cell 10 _ rfl
  have x11 := fun W (h : Ok G W) => (B1.out W h).cell 11 _ rfl
  have x12 := fun W (h : Ok G W) => (B1.out W h).cell 12 _ rfl
  go_enter Tryz.func94, Tryz.ntmps94
  go_upto_region 1 with fail
  refine gen_w g0 ?_
  clear g0
  intro W0 g0
  go_wp2_with fail
  go_ret
  exact ⟨ret_bool (by simp [itB, useT, useL, nameOp]), HG.out.below g0⟩
set_option maxHeartbeats 1000000 in
theorem impl_instrText_1 : InstrTextC 1 := by
  intro d cs w hop h hsl
  have HRR := Lib.hid (fun (W : World) (hb : Below w.heap.size w W) => h.below hb)
  obtain ⟨v4, v51, v52, v53, v54, v55, rfl, i0, i1, i2, ht, hl, hv⟩ := h
  have HL := Lib.hid hl
  have HV := Lib.hid hv
  have HT := Lib.hid ht
  have I0 := Lib.hid i0
  have I1 := Lib.hid i1
  have I2 := Lib.hid i2
  obtain ⟨A4, c4, rfl, hlc, hm, HC⟩ := Txts.open_ hl
  unfold maxLen at hm
  clear hl hv ht i0 i1 i2
  have HE := Lib.hid (show itB 1 d.text d.labels = itB 1 d.text d.labels from rfl)
  rw [hop]
  obtain ⟨G, g0, HG, B1⟩ := good1 w 63 [.int .i64 1, .int .i64 d.arg, .int .i64 d.count, .string (str d.text), .slice A4 d.labels.length c4, .int .i64 d.value.kind, v51, v52, v53, v54, v55, .int .i64 d.value.code, .int .i64 d.value.env]
  have x0 := fun W (h : Ok G W) => (B1.out W h).cell 0 _ rfl
  have x1 := fun W (h : Ok G W) => (B1.out W h).cell 1 _ rfl
  have x2 := fun W (h : Ok G W) => (B1.out W h).cell 2 _ rfl
  have x3 := fun W (h : Ok G W) => (B1.out W h).cell 3 _ rfl
  have x4 := fun W (h : Ok G W) => (B1.out W h).cell 4 _ rfl
  have x5 := fun W (h : Ok G W) => (B1.out W h).cell 5 _ rfl
  have x6 := fun W (h : Ok G W) => (B1.out W h).cell 6 _ rfl
  have x7 := fun W (h : Ok G W) => (B1.out W h).cell 7 _ rfl
  have x8 := fun W (h : Ok G W) => (B1.out W h).cell 8 _ rfl
  have x9 := fun W (h : Ok G W) => (B1.out W h).cell 9 _ rfl
  have x10 := fun W (h : Ok G W) => (B1.out W h).cell 10 _ rfl
  have x11 := fun W (h : Ok G W) => (B1.out W h).cell 11 _ rfl
  have x12 := fun W (h : Ok G W) => (B1.out W h).cell 12 _ rfl
  go_enter Tryz.func94, Tryz.ntmps94
  go_upto_region 1 with fail
  refine gen_w g0 ?_
  clear g0
  intro W0 g0
  go_wp2_with fail
  refine Calls.mono (impl_IsName d.text _ HT.out) ?_
  rintro e w1 ⟨rfl, rfl⟩
  go_wp2_with fail
  go_ret
  exact ⟨ret_bool (by simp [itB, txtB, nameOp, useT, useL]), HG.out.below g0⟩
set_option maxHeartbeats 1000000 in
theorem impl_instrText_2 : InstrTextC 2 := by
  intro d cs w hop h hsl
  have HRR := Lib.hid (fun (W : World) (hb : Below w.heap.size w W) => h.below hb)
  obtain ⟨v4, v51, v52, v53, v54, v55, rfl, i0, i1, i2, ht, hl, hv⟩ := h
  have HL := Lib.hid hl
  have HV := Lib.hid hv
  have HT := Lib.hid ht
  have I0 := Lib.hid i0
  have I1 := Lib.hid i1
  have I2 := Lib.hid i2
  obtain ⟨A4, c4, rfl, hlc, hm, HC⟩ := Txts.open_ hl
  unfold maxLen at hm
  clear hl hv ht i0 i1 i2
  have HE := Lib.hid (show itB 2 d.text d.labels = itB 2 d.text d.labels from rfl)
  rw [hop]
  obtain ⟨G, g0, HG, B1⟩ := good1 w 63 [.int .i64 2, .int .i64 d.arg, .int .i64 d.count, .string (str d.text), .slice A4 d.labels.length c4, .int .i64 d.value.kind, v51, v52, v53, v54, v55, .int .i64 d.value.code, .int .i64 d.value.env]
  have x0 := fun W (h : Ok G W) => (B1.out W h).cell 0 _ rfl
  have x1 := fun W (h : Ok G W) => (B1.out W h).cell 1 _ rfl
  have x2 := fun W (h : Ok G W) => (B1.out W h).cell 2 _ rfl
  have x3 := fun W (h : Ok G W) => (B1.out W h).cell 3 _ rfl
  have x4 := fun W (h : Ok G W) => (B1.out W h).cell 4 _ rfl
  have x5 := fun W (h : Ok G W) => (B1.out W h).cell 5 _ rfl
  have x6 := fun W (h : Ok G W) => (B1.out W h).cell 6 _ rfl
  have x7 := fun W (h : Ok G W) => (B1.out W h).cell 7 _ rfl
  have x8 := fun W (h : Ok G W) => (B1.out W h).cell 8 _ rfl
  have x9 := fun W (h : Ok G W) => (B1.out W h).cell 9 _ rfl
  have x10 := fun W (h : Ok G W) => (B1.out W h).cell 10 _ rfl
  have x11 := fun W (h : Ok G W) => (B1.out W h).cell 11 _ rfl
  have x12 := fun W (h : Ok G W) => (B1.out W h).cell 12 _ rfl
  go_enter Tryz.func94, Tryz.ntmps94
  go_upto_region 1 with fail
  refine gen_w g0 ?_
  clear g0
  intro W0 g0
  go_wp2_with fail
  refine Calls.mono (impl_IsName d.text _ HT.out) ?_
  rintro e w1 ⟨rfl, rfl⟩
  go_wp2_with fail
  go_ret
  exact ⟨ret_bool (by simp [itB, txtB, nameOp, useT, useL]), HG.out.below g0⟩
set_option maxHeartbeats 1000000 in
theorem impl_instrText_3 : InstrTextC 3 := by
  intro d cs w hop h hsl
  have HRR := Lib.hid (fun (W : World) (hb : Below w.heap.size w W) => h.below hb)
  obtain ⟨v4, v51, v52, v53, v54, v55, rfl, i0, i1, i2, ht, hl, hv⟩ := h
  have HL := Lib.hid hl
  have HV := Lib.hid hv
  have HT := Lib.hid ht
  have I0 := Lib.hid i0
  have I1 := Lib.hid i1
  have I2 := Lib.hid i2
  obtain ⟨A4, c4, rfl, hlc, hm, HC⟩ := Txts.open_ hl
  unfold maxLen at hm
  clear hl hv ht i0 i1 i2
  have HE := Lib.hid (show itB 3 d.text d.labels = itB 3 d.text d.labels from rfl)
  rw [hop]
  obtain ⟨G, g0, HG, B1⟩ := good1 w 63 [.int .i64 3, .int .i64 d.arg, .int .i64 d.count, .string (str d.text), .slice A4 d.labels.length c4, .int .i64 d.value.kind, v51, v52, v53, v54, v55, .int .i64 d.value.code, .int .i64 d.value.env]
  have x0 := fun W (h : Ok G W) => (B1.out W h).cell 0 _ rfl
  have x1 := fun W (h : Ok G W) => (B1.out W h).cell 1 _ rfl
  have x2 := fun W (h : Ok G W) => (B1.out W h).cell 2 _ rfl
  have x3 := fun W (h : Ok G W) => (B1.out W h).cell 3 _ rfl
  have x4 := fun W (h : Ok G W) => (B1.out W h).cell 4 _ rfl
  have x5 := fun W (h : Ok G W) => (B1.out W h).cell 5 _ rfl
  have x6 := fun W (h : Ok G W) => (B1.out W h).cell 6 _ rfl
  have x7 := fun W (h : Ok G W) => (B1.out W h).cell 7 _ rfl
  have x8 := fun W (h : Ok G W) => (B1.out W h).cell 8 _ rfl
  have x9 := fun W (h : Ok G W) => (B1.out W h).cell 9 _ rfl
  have x10 := fun W (h : Ok G W) => (B1.out W h).cell 10 _ rfl
  have x11 := fun W (h : Ok G W) => (B1.out W h).cell 11 _ rfl
  have x12 := fun W (h : Ok G W) => (B1.out W h).cell 12 _ rfl
  go_enter Tryz.func94, Tryz.ntmps94
  go_upto_region 1 with fail
  refine gen_w g0 ?_
  clear g0
  intro W0 g0
  go_wp2_with fail
  go_ret
  exact ⟨ret_bool (by simp [itB, useT, useL, nameOp]), HG.out.below g0⟩
set_option maxHeartbeats 1000000 in
theorem impl_instrText_4 : InstrTextC 4 := by
  intro d cs w hop h hsl
  have HRR := Lib.hid (fun (W : World) (hb : Below w.heap.size w W) => h.below hb)
  obtain ⟨v4, v51, v52, v53, v54, v55, rfl, i0, i1, i2, ht, hl, hv⟩ := h
  have HL := Lib.hid hl
  have HV := Lib.hid hv
  have HT := Lib.hid ht
  have I0 := Lib.hid i0
  have I1 := Lib.hid i1
  have I2 := Lib.hid i2
  obtain ⟨A4, c4, rfl, hlc, hm, HC⟩ := Txts.open_ hl
  unfold maxLen at hm
  clear hl hv ht i0 i1 i2
  have HE := Lib.hid (show itB 4 d.text d.labels = itB 4 d.text d.labels from rfl)
  rw [hop]
  obtain ⟨G, g0, HG, B1⟩ := good1 w 63 [.int .i64 4, .int .i64 d.arg, .int .i64 d.count, .string (str d.text), .slice A4 d.labels.length c4, .int .i64 d.value.kind, v51, v52, v53, v54, v55, .int .i64 d.value.code, .int .i64 d.value.env]
  have x0 := fun W (h : Ok G W) => (B1.out W h).cell 0 _ rfl
  have x1 := fun W (h : Ok G W) => (B1.out W h).cell 1 _ rfl
  have x2 := fun W (h : Ok G W) => (B1.out W h).cell 2 _ rfl
  have x3 := fun W (h : Ok G W) => (B1.out W h).cell 3 _ rfl
  have x4 := fun W (h : Ok G W) => (B1.out W h).cell 4 _ rfl
  have x5 := fun W (h : Ok G W) => (B1.out W h).cell 5 _ rfl
  have x6 := fun W (h : Ok G W) => (B1.out W h).cell 6 _ rfl
  have x7 := fun W (h : Ok G W) => (B1.out W h).cell 7 _ rfl
  have x8 := fun W (h : Ok G W) => (B1.out W h).cell 8 _ rfl
  have x9 := fun W (h : Ok G W) => (B1.out W h).cell 9 _ rfl
  have x10 := fun W (h : Ok G W) => (B1.out W h).cell 10 _ rfl
  have x11 := fun W (h : Ok G W) => (B1.out W h).cell 11 _ rfl
  have x12 := fun W (h : Ok G W) => (B1.out W h).cell 12 _ rfl
  go_enter Tryz.func94, Tryz.ntmps94
  go_upto_region 1 with fail
  refine gen_w g0 ?_
  clear g0
  intro W0 g0
  go_wp2_with fail
  go_ret
  exact ⟨ret_bool (by simp [itB, useT, useL, nameOp]), HG.out.below g0⟩
set_option maxHeartbeats 1000000 in
theorem impl_instrText_5 : InstrTextC 5 := by
  intro d cs w hop h hsl
  have HRR := Lib.hid (fun (W : World) (hb : Below w.heap.size w W) => h.below hb)
  obtain ⟨v4, v51, v52, v53, v54, v55, rfl, i0, i1, i2, ht, hl, hv⟩ := h
  have HL := Lib.hid hl
  have HV := Lib.hid hv
  have HT := Lib.hid ht
  have I0 := Lib.hid i0
  have I1 := Lib.hid i1
  have I2 := Lib.hid i2
  obtain ⟨A4, c4, rfl, hlc, hm, HC⟩ := Txts.open_ hl
  unfold maxLen at hm
  clear hl hv ht i0 i1 i2
  have HE := Lib.hid (show itB 5 d.text d.labels = itB 5 d.text d.labels from rfl)
  rw [hop]
  obtain ⟨G, g0, HG, B1⟩ := good1 w 63 [.int .i64 5, .int .i64 d.arg, .int .i64 d.count, .string (str d.text), .slice A4 d.labels.length c4, .int .i64 d.value.kind, v51, v52, v53, v54, v55, .int .i64 d.value.code, .int .i64 d.value.env]
  have x0 := fun W (h : Ok G W) => (B1.out W h).cell 0 _ rfl
  have x1 := fun W (h : Ok G W) => (B1.out W h).cell 1 _ rfl
  have x2 := fun W (h : Ok G W) => (B1.out W h).cell 2 _ rfl
  have x3 := fun W (h : Ok G W) => (B1.out W h).cell 3 _ rfl
  have x4 := fun W (h : Ok G W) => (B1.out W h).cell 4 _ rfl
  have x5 := fun W (h : Ok G W) => (B1.out W h).cell 5 _ rfl
  have x6 := fun W (h : Ok G W) => (B1.out W h).cell 6 _ rfl
  have x7 := fun W (h : Ok G W) => (B1.out W h).cell 7 _ rfl
  have x8 := fun W (h : Ok G W) => (B1.out W h).cell 8 _ rfl
  have x9 := fun W (h : Ok G W) => (B1.out W h).cell 9 _ rfl
  have x10 := fun W (h : Ok G W) => (B1.out W h).cell 10 _ rfl
  have x11 := fun W (h : Ok G W) => (B1.out W h).cell 11 _ rfl
  have x12 := fun W (h : Ok G W) => (B1.out W h).cell 12 _ rfl
  go_enter Tryz.func94, Tryz.ntmps94
  go_upto_region 1 with fail
  refine gen_w g0 ?_
  clear g0
  intro W0 g0
  go_wp2_with fail
  go_ret
  exact ⟨ret_bool (by simp [itB, useT, useL, nameOp]), HG.out.below g0⟩
set_option maxHeartbeats 1000000 in
theorem impl_instrText_6 : InstrTextC 6 := by
  intro d cs w hop h hsl
  have HRR := Lib.hid (fun (W : World) (hb : Below w.heap.size w W) => h.below hb)
  obtain ⟨v4, v51, v52, v53, v54, v55, rfl, i0, i1, i2, ht, hl, hv⟩ := h
  have HL := Lib.hid hl
  have HV := Lib.hid hv
  have HT := Lib.hid ht
  have I0 := Lib.hid i0
  have I1 := Lib.hid i1
  have I2 := Lib.hid i2
  obtain ⟨A4, c4, rfl, hlc, hm, HC⟩ := Txts.open_ hl
  unfold maxLen at hm
  clear hl hv ht i0 i1 i2
  have HE := Lib.hid (show itB 6 d.text d.labels = itB 6 d.text d.labels from rfl)
  rw [hop]
  obtain ⟨G, g0, HG, B1⟩ := good1 w 63 [.int .i64 6, .int .i64 d.arg, .int .i64 d.count, .string (str d.text), .slice A4 d.labels.length c4, .int .i64 d.value.kind, v51, v52, v53, v54, v55, .int .i64 d.value.code, .int .i64 d.value.env]
  have x0 := fun W (h : Ok G W) => (B1.out W h).cell 0 _ rfl
  have x1 := fun W (h : Ok G W) => (B1.out W h).cell 1 _ rfl
  have x2 := fun W (h : Ok G W) => (B1.out W h).cell 2 _ rfl
  have x3 := fun W (h : Ok G W) => (B1.out W h).cell 3 _ rfl
  have x4 := fun W (h : Ok G W) => (B1.out W h).cell 4 _ rfl
  have x5 := fun W (h : Ok G W) => (B1.out W h).cell 5 _ rfl
  have x6 := fun W (h : Ok G W) => (B1.out W h).cell 6 _ rfl
  have x7 := fun W (h : Ok G W) => (B1.out W h).cell 7 _ rfl
  have x8 := fun W (h : Ok G W) => (B1.out W h).cell 8 _ rfl
  have x9 := fun W (h : Ok G W) => (B1.out W h).cell 9 _ rfl
  have x10 := fun W (h : Ok G W) => (B1.out W h).cell 10 _ rfl
  have x11 := fun W (h : Ok G W) => (B1.out W h).cell 11 _ rfl
  have x12 := fun W (h : Ok G W) => (B1.out W h).cell 12 _ rfl
  go_enter Tryz.func94, Tryz.ntmps94
  go_upto_region 1 with fail
  refine gen_w g0 ?_
  clear g0
  intro W0 g0
  go_wp2_with fail
  go_loopw [138] (fun i wr => ∃ k : Nat, k ≤ d.labels.length ∧ i = .int .i64 k ∧ Hid (short60 (d.labels.take k) = true) ∧ Ok G wr) (fun i _ => d.labels.length - (intOf i).toNat)
  case atStart => exact ⟨0, Nat.zero_le _, rfl, rfl, g0⟩
  case round =>
    clear g0
    obtain ⟨k, hk2, rfl, HA, g0⟩ := hrel
    by_cases hlt : k < d.labels.length
    · have HS := Lib.hid (short60_succ d.labels k hlt)
      obtain ⟨b, off, rfl, hbl, hcell, hsz⟩ := HC.out k hlt
      have y0 := fun W (h : Ok G W) => ((HG.out.below h).cell (p := ⟨b, off + k, none⟩) hbl).trans hcell
      by_cases hq : d.labels[k].length ≤ 60
      · have HY := Lib.hid (show decide (d.labels[k].length ≤ 60) = true by simpa using hq)
        go_wp2_with fail
        go_roundw
        case rel => exact ⟨k + 1, by omega, by go_num, by show _ = _; rw [HS.out, HA.out, HY.out]; rfl, g0⟩
        case measure => simp [intOf]; omega
      · have HN := Lib.hid (show short60 d.labels = false by
          rw [Bool.eq_false_iff]
          intro ha
          have := List.all_eq_true.1 ha _ (List.getElem_mem hlt)
          simp at this
          omega)
        go_wp2_with fail
        go_ret
        exact ⟨ret_bool (by simp [itB, lblB, useT, useL, nameOp, HN.out]), HG.out.below g0⟩
    · obtain rfl : k = d.labels.length := by omega
      rw [List.take_length] at HA
      go_wp2_with fail
      go_ret
      exact ⟨ret_bool (by simp [itB, lblB, useT, useL, nameOp, HA.out]; try omega), HG.out.below g0⟩
set_option maxHeartbeats 1000000 in
theorem impl_instrText_7 : InstrTextC 7 := by
  intro d cs w hop h hsl
  have HRR := Lib.hid (fun (W : World) (hb : Below w.heap.size w W) => h.below hb)
  obtain ⟨v4, v51, v52, v53, v54, v55, rfl, i0, i1, i2, ht, hl, hv⟩ := h
  have HL := Lib.hid hl
  have HV := Lib.hid hv
  have HT := Lib.hid ht
  have I0 := Lib.hid i0
  have I1 := Lib.hid i1
  have I2 := Lib.hid i2
  obtain ⟨A4, c4, rfl, hlc, hm, HC⟩ := Txts.open_ hl
  unfold maxLen at hm
  clear hl hv ht i0 i1 i2
  have HE := Lib.hid (show itB 7 d.text d.labels = itB 7 d.text d.labels from rfl)
  rw [hop]
  obtain ⟨G, g0, HG, B1⟩ := good1 w 63 [.int .i64 7, .int .i64 d.arg, .int .i64 d.count, .string (str d.text), .slice A4 d.labels.length c4, .int .i64 d.value.kind, v51, v52, v53, v54, v55, .int .i64 d.value.code, .int .i64 d.value.env]
  have x0 := fun W (h : Ok G W) => (B1.out W h).cell 0 _ rfl
  have x1 := fun W (h : Ok G W) => (B1.out W h).cell 1 _ rfl
  have x2 := fun W (h : Ok G W) => (B1.out W h).cell 2 _ rfl
  have x3 := fun W (h : Ok G W) => (B1.out W h).cell 3 _ rfl
  have x4 := fun W (h : Ok G W) => (B1.out W h).cell 4 _ rfl
  have x5 := fun W (h : Ok G W) => (B1.out W h).cell 5 _ rfl
  have x6 := fun W (h : Ok G W) => (B1.out W h).cell 6 _ rfl
  have x7 := fun W (h : Ok G W) => (B1.out W h).cell 7 _ rfl
  have x8 := fun W (h : Ok G W) => (B1.out W h).cell 8 _ rfl
  have x9 := fun W (h : Ok G W) => (B1.out W h).cell 9 _ rfl
  have x10 := fun W (h : Ok G W) => (B1.out W h).cell 10 _ rfl
  have x11 := fun W (h : Ok G W) => (B1.out W h).cell 11 _ rfl
  have x12 := fun W (h : Ok G W) => (B1.out W h).cell 12 _ rfl
  go_enter Tryz.func94, Tryz.ntmps94
  go_upto_region 1 with fail
  refine gen_w g0 ?_
  clear g0
  intro W0 g0
  cases q1 : (d.text == [45]) <;> cases q2 : (d.text == [33])
  all_goals
    have Q1 := Lib.hid q1
    have Q2 := Lib.hid q2
    go_wp2_with fail
    go_ret
    exact ⟨ret_bool (by simp [itB, txtB, nameOp, useT, useL, Q1.out, Q2.out]), HG.out.below g0⟩
set_option maxHeartbeats 1000000 in
theorem impl_instrText_8 : InstrTextC 8 := by
  intro d cs w hop h hsl
  have HRR := Lib.hid (fun (W : World) (hb : Below w.heap.size w W) => h.below hb)
  obtain ⟨v4, v51, v52, v53, v54, v55, rfl, i0, i1, i2, ht, hl, hv⟩ := h
  have HL := Lib.hid hl
  have HV := Lib.hid hv
  have HT := Lib.hid ht
  have I0 := Lib.hid i0
  have I1 := Lib.hid i1
  have I2 := Lib.hid i2
  obtain ⟨A4, c4, rfl, hlc, hm, HC⟩ := Txts.open_ hl
  unfold maxLen at hm
  clear hl hv ht i0 i1 i2
  have HE := Lib.hid (show itB 8 d.text d.labels = itB 8 d.text d.labels from rfl)
  rw [hop]
  obtain ⟨G, g0, HG, B1⟩ := good1 w 63 [.int .i64 8, .int .i64 d.arg, .int .i64 d.count, .string (str d.text), .slice A4 d.labels.length c4, .int .i64 d.value.kind, v51, v52, v53, v54, v55, .int .i64 d.value.code, .int .i64 d.value.env]
  have x0 := fun W (h : Ok G W) => (B1.out W h).cell 0 _ rfl
  have x1 := fun W (h : Ok G W) => (B1.out W h).cell 1 _ rfl
  have x2 := fun W (h : Ok G W) => (B1.out W h).cell 2 _ rfl
  have x3 := fun W (h : Ok G W) => (B1.out W h).cell 3 _ rfl
  have x4 := fun W (h : Ok G W) => (B1.out W h).cell 4 _ rfl
  have x5 := fun W (h : Ok G W) => (B1.out W h).cell 5 _ rfl
  have x6 := fun W (h : Ok G W) => (B1.out W h).cell 6 _ rfl
  have x7 := fun W (h : Ok G W) => (B1.out W h).cell 7 _ rfl
  have x8 := fun W (h : Ok G W) => (B1.out W h).cell 8 _ rfl
  have x9 := fun W (h : Ok G W) => (B1.out W h).cell 9 _ rfl
  have x10 := fun W (h : Ok G W) => (B1.out W h).cell 10 _ rfl
  have x11 := fun W (h : Ok G W) => (B1.out W h).cell 11 _ rfl
  have x12 := fun W (h : Ok G W) => (B1.out W h).cell 12 _ rfl
  go_enter Tryz.func94, Tryz.ntmps94
  go_upto_region 1 with fail
  refine gen_w g0 ?_
  clear g0
  intro W0 g0
  go_wp2_with fail
  refine Calls.mono (impl_isBinary d.text _) ?_
  rintro e w1 ⟨rfl, hb⟩
  replace g0 := HG.out.step g0 hb
  clear hb
  cases q0 : hasB binL d.text <;> cases q1 : (d.text == [38, 38]) <;> cases q2 : (d.text == [124, 124]) <;> cases q3 : (d.text == [126])
  all_goals
    have Q0 := Lib.hid q0
    have Q1 := Lib.hid q1
    have Q2 := Lib.hid q2
    have Q3 := Lib.hid q3
    clear q0
    go_wp2_with fail
    go_ret
    exact ⟨ret_bool (by simp [itB, txtB, nameOp, useT, useL, bne, Q0.out, Q1.out, Q2.out, Q3.out]), HG.out.below g0⟩
set_option maxHeartbeats 1000000 in
theorem impl_instrText_9 : InstrTextC 9 := by
  intro d cs w hop h hsl
  have HRR := Lib.hid (fun (W : World) (hb : Below w.heap.size w W) => h.below hb)
  obtain ⟨v4, v51, v52, v53, v54, v55, rfl, i0, i1, i2, ht, hl, hv⟩ := h
  have HL := Lib.hid hl
  have HV := Lib.hid hv
  have HT := Lib.hid ht
  have I0 := Lib.hid i0
  have I1 := Lib.hid i1
  have I2 := Lib.hid i2
  obtain ⟨A4, c4, rfl, hlc, hm, HC⟩ := Txts.open_ hl
  unfold maxLen at hm
  clear hl hv ht i0 i1 i2
  have HE := Lib.hid (show itB 9 d.text d.labels = itB 9 d.text d.labels from rfl)
  rw [hop]
  obtain ⟨G, g0, HG, B1⟩ := good1 w 63 [.int .i64 9, .int .i64 d.arg, .int .i64 d.count, .string (str d.text), .slice A4 d.labels.length c4, .int .i64 d.value.kind, v51, v52, v53, v54, v55, .int .i64 d.value.code, .int .i64 d.value.env]
  have x0 := fun W (h : Ok G W) => (B1.out W h).cell 0 _ rfl
  have x1 := fun W (h : Ok G W) => (B1.out W h).cell 1 _ rfl
  have x2 := fun W (h : Ok G W) => (B1.out W h).cell 2 _ rfl
  have x3 := fun W (h : Ok G W) => (B1.out W h).cell 3 _ rfl
  have x4 := fun W (h : Ok G W) => (B1.out W h).cell 4 _ rfl
  have x5 := fun W (h : Ok G W) => (B1.out W h).cell 5 _ rfl
  have x6 := fun W (h : Ok G W) => (B1.out W h).cell 6 _ rfl
  have x7 := fun W (h : Ok G W) => (B1.out W h).cell 7 _ rfl
  have x8 := fun W (h : Ok G W) => (B1.out W h).cell 8 _ rfl
  have x9 := fun W (h : Ok G W) => (B1.out W h).cell 9 _ rfl
  have x10 := fun W (h : Ok G W) => (B1.out W h).cell 10 _ rfl
  have x11 := fun W (h : Ok G W) => (B1.out W h).cell 11 _ rfl
  have x12 := fun W (h : Ok G W) => (B1.out W h).cell 12 _ rfl
  go_enter Tryz.func94, Tryz.ntmps94
  go_upto_region 1 with fail
  refine gen_w g0 ?_
  clear g0
  intro W0 g0
  go_wp2_with fail
  go_ret
  exact ⟨ret_bool (by simp [itB, useT, useL, nameOp]), HG.out.below g0⟩
set_option maxHeartbeats 1000000 in
theorem impl_instrText_10 : InstrTextC 10 := by
  intro d cs w hop h hsl
  have HRR := Lib.hid (fun (W : World) (hb : Below w.heap.size w W) => h.below hb)
  obtain ⟨v4, v51, v52, v53, v54, v55, rfl, i0, i1, i2, ht, hl, hv⟩ := h
  have HL := Lib.hid hl
  have HV := Lib.hid hv
  have HT := Lib.hid ht
  have I0 := Lib.hid i0
  have I1 := Lib.hid i1
  have I2 := Lib.hid i2
  obtain ⟨A4, c4, rfl, hlc, hm, HC⟩ := Txts.open_ hl
  unfold maxLen at hm
  clear hl hv ht i0 i1 i2
  have HE := Lib.hid (show itB 10 d.text d.labels = itB 10 d.text d.labels from rfl)
  rw [hop]
  obtain ⟨G, g0, HG, B1⟩ := good1 w 63 [.int .i64 10, .int .i64 d.arg, .int .i64 d.count, .string (str d.text), .slice A4 d.labels.length c4, .int .i64 d.value.kind, v51, v52, v53, v54, v55, .int .i64 d.value.code, .int .i64 d.value.env]
  have x0 := fun W (h : Ok G W) => (B1.out W h).cell 0 _ rfl
  have x1 := fun W (h : Ok G W) => (B1.out W h).cell 1 _ rfl
  have x2 := fun W (h : Ok G W) => (B1.out W h).cell 2 _ rfl
  have x3 := fun W (h : Ok G W) => (B1.out W h).cell 3 _ rfl
  have x4 := fun W (h : Ok G W) => (B1.out W h).cell 4 _ rfl
  have x5 := fun W (h : Ok G W) => (B1.out W h).cell 5 _ rfl
  have x6 := fun W (h : Ok G W) => (B1.out W h).cell 6 _ rfl
  have x7 := fun W (h : Ok G W) => (B1.out W h).cell 7 _ rfl
  have x8 := fun W (h : Ok G W) => (B1.out W h).cell 8 _ rfl
  have x9 := fun W (h : Ok G W) => (B1.out W h).cell 9 _ rfl
  have x10 := fun W (h : Ok G W) => (B1.out W h).cell 10 _ rfl
  have x11 := fun W (h : Ok G W) => (B1.out W h).cell 11 _ rfl
  have x12 := fun W (h : Ok G W) => (B1.out W h).cell 12 _ rfl
  go_enter Tryz.func94, Tryz.ntmps94
  go_upto_region 1 with fail
  refine gen_w g0 ?_
  clear g0
  intro W0 g0
  go_wp2_with fail
  go_ret
  exact ⟨ret_bool (by simp [itB, useT, useL, nameOp]), HG.out.below g0⟩
set_option maxHeartbeats 1000000 in
theorem impl_instrText_11 : InstrTextC 11 := by
  intro d cs w hop h hsl
  have HRR := Lib.hid (fun (W : World) (hb : Below w.heap.size w W) => h.below hb)
  obtain ⟨v4, v51, v52, v53, v54, v55, rfl, i0, i1, i2, ht, hl, hv⟩ := h
  have HL := Lib.hid hl
  have HV := Lib.hid hv
  have HT := Lib.hid ht
  have I0 := Lib.hid i0
  have I1 := Lib.hid i1
  have I2 := Lib.hid i2
  obtain ⟨A4, c4, rfl, hlc, hm, HC⟩ := Txts.open_ hl
  unfold maxLen at hm
  clear hl hv ht i0 i1 i2
  have HE := Lib.hid (show itB 11 d.text d.labels = itB 11 d.text d.labels from rfl)
  rw [hop]
  obtain ⟨G, g0, HG, B1⟩ := good1 w 63 [.int .i64 11, .int .i64 d.arg, .int .i64 d.count, .string (str d.text), .slice A4 d.labels.length c4, .int .i64 d.value.kind, v51, v52, v53, v54, v55, .int .i64 d.value.code, .int .i64 d.value.env]
  have x0 := fun W (h : Ok G W) => (B1.out W h).cell 0 _ rfl
  have x1 := fun W (h : Ok G W) => (B1.out W h).cell 1 _ rfl
  have x2 := fun W (h : Ok G W) => (B1.out W h).cell 2 _ rfl
  have x3 := fun W (h : Ok G W) => (B1.out W h).cell 3 _ rfl
  have x4 := fun W (h : Ok G W) => (B1.out W h).cell 4 _ rfl
  have x5 := fun W (h : Ok G W) => (B1.out W h).cell 5 _ rfl
  have x6 := fun W (h : Ok G W) => (B1.out W h).cell 6 _ rfl
  have x7 := fun W (h : Ok G W) => (B1.out W h).cell 7 _ rfl
  have x8 := fun W (h : Ok G W) => (B1.out W h).cell 8 _ rfl
  have x9 := fun W (h : Ok G W) => (B1.out W h).cell 9 _ rfl
  have x10 := fun W (h : Ok G W) => (B1.out W h).cell 10 _ rfl
  have x11 := fun W (h : Ok G W) => (B1.out W h).cell 11 _ rfl
  have x12 := fun W (h : Ok G W) => (B1.out W h).cell 12 _ rfl
  go_enter Tryz.func94, Tryz.ntmps94
  go_upto_region 1 with fail
  refine gen_w g0 ?_
  clear g0
  intro W0 g0
  cases q1 : decide (1 ≤ (d.text.length : Int)) <;> cases q2 : decide ((d.text.length : Int) ≤ 60)
  all_goals
    have Q1 := Lib.hid q1
    have Q2 := Lib.hid q2
    go_wp2_with fail
    go_ret
    exact ⟨ret_bool (by have h1 := Q1.out; have h2 := Q2.out; simp at h1 h2; simp [itB, txtB, nameOp, useT, useL]; try omega), HG.out.below g0⟩
set_option maxHeartbeats 1000000 in
theorem impl_instrText_12 : InstrTextC 12 := by
  intro d cs w hop h hsl
  have HRR := Lib.hid (fun (W : World) (hb : Below w.heap.size w W) => h.below hb)
  obtain ⟨v4, v51, v52, v53, v54, v55, rfl, i0, i1, i2, ht, hl, hv⟩ := h
  have HL := Lib.hid hl
  have HV := Lib.hid hv
  have HT := Lib.hid ht
  have I0 := Lib.hid i0
  have I1 := Lib.hid i1
  have I2 := Lib.hid i2
  obtain ⟨A4, c4, rfl, hlc, hm, HC⟩ := Txts.open_ hl
  unfold maxLen at hm
  clear hl hv ht i0 i1 i2
  have HE := Lib.hid (show itB 12 d.text d.labels = itB 12 d.text d.labels from rfl)
  rw [hop]
  obtain ⟨G, g0, HG, B1⟩ := good1 w 63 [.int .i64 12, .int .i64 d.arg, .int .i64 d.count, .string (str d.text), .slice A4 d.labels.length c4, .int .i64 d.value.kind, v51, v52, v53, v54, v55, .int .i64 d.value.code, .int .i64 d.value.env]
  have x0 := fun W (h : Ok G W) => (B1.out W h).cell 0 _ rfl
  have x1 := fun W (h : Ok G W) => (B1.out W h).cell 1 _ rfl
  have x2 := fun W (h : Ok G W) => (B1.out W h).cell 2 _ rfl
  have x3 := fun W (h : Ok G W) => (B1.out W h).cell 3 _ rfl
  have x4 := fun W (h : Ok G W) => (B1.out W h).cell 4 _ rfl
  have x5 := fun W (h : Ok G W) => (B1.out W h).cell 5 _ rfl
  have x6 := fun W (h : Ok G W) => (B1.out W h).cell 6 _ rfl
  have x7 := fun W (h : Ok G W) => (B1.out W h).cell 7 _ rfl
  have x8 := fun W (h : Ok G W) => (B1.out W h).cell 8 _ rfl
  have x9 := fun W (h : Ok G W) => (B1.out W h).cell 9 _ rfl
  have x10 := fun W (h : Ok G W) => (B1.out W h).cell 10 _ rfl
  have x11 := fun W (h : Ok G W) => (B1.out W h).cell 11 _ rfl
  have x12 := fun W (h : Ok G W) => (B1.out W h).cell 12 _ rfl
  go_enter Tryz.func94, Tryz.ntmps94
  go_upto_region 1 with fail
  refine gen_w g0 ?_
  clear g0
  intro W0 g0
  go_wp2_with fail
  go_ret
  exact ⟨ret_bool (by simp [itB, useT, useL, nameOp]), HG.out.below g0⟩
set_option maxHeartbeats 1000000 in
theorem impl_instrText_13 : InstrTextC 13 := by
  intro d cs w hop h hsl
  have HRR := Lib.hid (fun (W : World) (hb : Below w.heap.size w W) => h.below hb)
  obtain ⟨v4, v51, v52, v53, v54, v55, rfl, i0, i1, i2, ht, hl, hv⟩ := h
  have HL := Lib.hid hl
  have HV := Lib.hid hv
  have HT := Lib.hid ht
  have I0 := Lib.hid i0
  have I1 := Lib.hid i1
  have I2 := Lib.hid i2
  obtain ⟨A4, c4, rfl, hlc, hm, HC⟩ := Txts.open_ hl
  unfold maxLen at hm
  clear hl hv ht i0 i1 i2
  have HE := Lib.hid (show itB 13 d.text d.labels = itB 13 d.text d.labels from rfl)
  rw [hop]
  obtain ⟨G, g0, HG, B1⟩ := good1 w 63 [.int .i64 13, .int .i64 d.arg, .int .i64 d.count, .string (str d.text), .slice A4 d.labels.length c4, .int .i64 d.value.kind, v51, v52, v53, v54, v55, .int .i64 d.value.code, .int .i64 d.value.env]
  have x0 := fun W (h : Ok G W) => (B1.out W h).cell 0 _ rfl
  have x1 := fun W (h : Ok G W) => (B1.out W h).cell 1 _ rfl
  have x2 := fun W (h : Ok G W) => (B1.out W h).cell 2 _ rfl
  have x3 := fun W (h : Ok G W) => (B1.out W h).cell 3 _ rfl
  have x4 := fun W (h : Ok G W) => (B1.out W h).cell 4 _ rfl
  have x5 := fun W (h : Ok G W) => (B1.out W h).cell 5 _ rfl
  have x6 := fun W (h : Ok G W) => (B1.out W h).cell 6 _ rfl
  have x7 := fun W (h : Ok G W) => (B1.out W h).cell 7 _ rfl
  have x8 := fun W (h : Ok G W) => (B1.out W h).cell 8 _ rfl
  have x9 := fun W (h : Ok G W) => (B1.out W h).cell 9 _ rfl
  have x10 := fun W (h : Ok G W) => (B1.out W h).cell 10 _ rfl
  have x11 := fun W (h : Ok G W) => (B1.out W h).cell 11 _ rfl
  have x12 := fun W (h : Ok G W) => (B1.out W h).cell 12 _ rfl
  go_enter Tryz.func94, Tryz.ntmps94
  go_upto_region 1 with fail
  refine gen_w g0 ?_
  clear g0
  intro W0 g0
  go_wp2_with fail
  go_ret
  exact ⟨ret_bool (by simp [itB, useT, useL, nameOp]), HG.out.below g0⟩
set_option maxHeartbeats 1000000 in
theorem impl_instrText_14 : InstrTextC 14 := by
  intro d cs w hop h hsl
  have HRR := Lib.hid (fun (W : World) (hb : Below w.heap.size w W) => h.below hb)
  obtain ⟨v4, v51, v52, v53, v54, v55, rfl, i0, i1, i2, ht, hl, hv⟩ := h
  have HL := Lib.hid hl
  have HV := Lib.hid hv
  have HT := Lib.hid ht
  have I0 := Lib.hid i0
  have I1 := Lib.hid i1
  have I2 := Lib.hid i2
  obtain ⟨A4, c4, rfl, hlc, hm, HC⟩ := Txts.open_ hl
  unfold maxLen at hm
  clear hl hv ht i0 i1 i2
  have HE := Lib.hid (show itB 14 d.text d.labels = itB 14 d.text d.labels from rfl)
  rw [hop]
  obtain ⟨G, g0, HG, B1⟩ := good1 w 63 [.int .i64 14, .int .i64 d.arg, .int .i64 d.count, .string (str d.text), .slice A4 d.labels.length c4, .int .i64 d.value.kind, v51, v52, v53, v54, v55, .int .i64 d.value.code, .int .i64 d.value.env]
  have x0 := fun W (h : Ok G W) => (B1.out W h).cell 0 _ rfl
  have x1 := fun W (h : Ok G W) => (B1.out W h).cell 1 _ rfl
  have x2 := fun W (h : Ok G W) => (B1.out W h).cell 2 _ rfl
  have x3 := fun W (h : Ok G W) => (B1.out W h).cell 3 _ rfl
  have x4 := fun W (h : Ok G W) => (B1.out W h).cell 4 _ rfl
  have x5 := fun W (h : Ok G W) => (B1.out W h).cell 5 _ rfl
  have x6 := fun W (h : Ok G W) => (B1.out W h).cell 6 _ rfl
  have x7 := fun W (h : Ok G W) => (B1.out W h).cell 7 _ rfl
  have x8 := fun W (h : Ok G W) => (B1.out W h).cell 8 _ rfl
  have x9 := fun W (h : Ok G W) => (B1.out W h).cell 9 _ rfl
  have x10 := fun W (h : Ok G W) => (B1.out W h).cell 10 _ rfl
  have x11 := fun W (h : Ok G W) => (B1.out W h).cell 11 _ rfl
  have x12 := fun W (h : Ok G W) => (B1.out W h).cell 12 _ rfl
  go_enter Tryz.func94, Tryz.ntmps94
  go_upto_region 1 with fail
  refine gen_w g0 ?_
  clear g0
  intro W0 g0
  go_wp2_with fail
  go_ret
  exact ⟨ret_bool (by simp [itB, useT, useL, nameOp]), HG.out.below g0⟩
set_option maxHeartbeats 1000000 in
theorem impl_instrText_15 : InstrTextC 15 := by
  intro d cs w hop h hsl
  have HRR := Lib.hid (fun (W : World) (hb : Below w.heap.size w W) => h.below hb)
  obtain ⟨v4, v51, v52, v53, v54, v55, rfl, i0, i1, i2, ht, hl, hv⟩ := h
  have HL := Lib.hid hl
  have HV := Lib.hid hv
  have HT := Lib.hid ht
  have I0 := Lib.hid i0
  have I1 := Lib.hid i1
  have I2 := Lib.hid i2
  obtain ⟨A4, c4, rfl, hlc, hm, HC⟩ := Txts.open_ hl
  unfold maxLen at hm
  clear hl hv ht i0 i1 i2
  have HE := Lib.hid (show itB 15 d.text d.labels = itB 15 d.text d.labels from rfl)
  rw [hop]
  obtain ⟨G, g0, HG, B1⟩ := good1 w 63 [.int .i64 15, .int .i64 d.arg, .int .i64 d.count, .string (str d.text), .slice A4 d.labels.length c4, .int .i64 d.value.kind, v51, v52, v53, v54, v55, .int .i64 d.value.code, .int .i64 d.value.env]
  have x0 := fun W (h : Ok G W) => (B1.out W h).cell 0 _ rfl
  have x1 := fun W (h : Ok G W) => (B1.out W h).cell 1 _ rfl
  have x2 := fun W (h : Ok G W) => (B1.out W h).cell 2 _ rfl
  have x3 := fun W (h : Ok G W) => (B1.out W h).cell 3 _ rfl
  have x4 := fun W (h : Ok G W) => (B1.out W h).cell 4 _ rfl
  have x5 := fun W (h : Ok G W) => (B1.out W h).cell 5 _ rfl
  have x6 := fun W (h : Ok G W) => (B1.out W h).cell 6 _ rfl
  have x7 := fun W (h : Ok G W) => (B1.out W h).cell 7 _ rfl
  have x8 := fun W (h : Ok G W) => (B1.out W h).cell 8 _ rfl
  have x9 := fun W (h : Ok G W) => (B1.out W h).cell 9 _ rfl
  have x10 := fun W (h : Ok G W) => (B1.out W h).cell 10 _ rfl
  have x11 := fun W (h : Ok G W) => (B1.out W h).cell 11 _ rfl
  have x12 := fun W (h : Ok G W) => (B1.out W h).cell 12 _ rfl
  go_enter Tryz.func94, Tryz.ntmps94
  go_upto_region 1 with fail
  refine gen_w g0 ?_
  clear g0
  intro W0 g0
  go_wp2_with fail
  go_ret
  exact ⟨ret_bool (by simp [itB, useT, useL, nameOp]), HG.out.below g0⟩
set_option maxHeartbeats 1000000 in
theorem impl_instrText_16 : InstrTextC 16 := by
  intro d cs w hop h hsl
  have HRR := Lib.hid (fun (W : World) (hb : Below w.heap.size w W) => h.below hb)
  obtain ⟨v4, v51, v52, v53, v54, v55, rfl, i0, i1, i2, ht, hl, hv⟩ := h
  have HL := Lib.hid hl
  have HV := Lib.hid hv
  have HT := Lib.hid ht
  have I0 := Lib.hid i0
  have I1 := Lib.hid i1
  have I2 := Lib.hid i2
  obtain ⟨A4, c4, rfl, hlc, hm, HC⟩ := Txts.open_ hl
  unfold maxLen at hm
  clear hl hv ht i0 i1 i2
  have HE := Lib.hid (show itB 16 d.text d.labels = itB 16 d.text d.labels from rfl)
  rw [hop]
  obtain ⟨G, g0, HG, B1⟩ := good1 w 63 [.int .i64 16, .int .i64 d.arg, .int .i64 d.count, .string (str d.text), .slice A4 d.labels.length c4, .int .i64 d.value.kind, v51, v52, v53, v54, v55, .int .i64 d.value.code, .int .i64 d.value.env]
  have x0 := fun W (h : Ok G W) => (B1.out W h).cell 0 _ rfl
  have x1 := fun W (h : Ok G W) => (B1.out W h).cell 1 _ rfl
  have x2 := fun W (h : Ok G W) => (B1.out W h).cell 2 _ rfl
  have x3 := fun W (h : Ok G W) => (B1.out W h).cell 3 _ rfl
  have x4 := fun W (h : Ok G W) => (B1.out W h).cell 4 _ rfl
  have x5 := fun W (h : Ok G W) => (B1.out W h).cell 5 _ rfl
  have x6 := fun W (h : Ok G W) => (B1.out W h).cell 6 _ rfl
  have x7 := fun W (h : Ok G W) => (B1.out W h).cell 7 _ rfl
  have x8 := fun W (h : Ok G W) => (B1.out W h).cell 8 _ rfl
  have x9 := fun W (h : Ok G W) => (B1.out W h).cell 9 _ rfl
  have x10 := fun W (h : Ok G W) => (B1.out W h).cell 10 _ rfl
  have x11 := fun W (h : Ok G W) => (B1.out W h).cell 11 _ rfl
  have x12 := fun W (h : Ok G W) => (B1.out W h).cell 12 _ rfl
  go_enter Tryz.func94, Tryz.ntmps94
  go_upto_region 1 with fail
  refine gen_w g0 ?_
  clear g0
  intro W0 g0
  go_wp2_with fail
  go_ret
  exact ⟨ret_bool (by simp [itB, useT, useL, nameOp]), HG.out.below g0⟩
set_option maxHeartbeats 1000000 in
theorem impl_instrText_17 : InstrTextC 17 := by
  intro d cs w hop h hsl
  have HRR := Lib.hid (fun (W : World) (hb : Below w.heap.size w W) => h.below hb)
  obtain ⟨v4, v51, v52, v53, v54, v55, rfl, i0, i1, i2, ht, hl, hv⟩ := h
  have HL := Lib.hid hl
  have HV := Lib.hid hv
  have HT := Lib.hid ht
  have I0 := Lib.hid i0
  have I1 := Lib.hid i1
  have I2 := Lib.hid i2
  obtain ⟨A4, c4, rfl, hlc, hm, HC⟩ := Txts.open_ hl
  unfold maxLen at hm
  clear hl hv ht i0 i1 i2
  have HE := Lib.hid (show itB 17 d.text d.labels = itB 17 d.text d.labels from rfl)
  rw [hop]
  obtain ⟨G, g0, HG, B1⟩ := good1 w 63 [.int .i64 17, .int .i64 d.arg, .int .i64 d.count, .string (str d.text), .slice A4 d.labels.length c4, .int .i64 d.value.kind, v51, v52, v53, v54, v55, .int .i64 d.value.code, .int .i64 d.value.env]
  have x0 := fun W (h : Ok G W) => (B1.out W h).cell 0 _ rfl
  have x1 := fun W (h : Ok G W) => (B1.out W h).cell 1 _ rfl
  have x2 := fun W (h : Ok G W) => (B1.out W h).cell 2 _ rfl
  have x3 := fun W (h : Ok G W) => (B1.out W h).cell 3 _ rfl
  have x4 := fun W (h : Ok G W) => (B1.out W h).cell 4 _ rfl
  have x5 := fun W (h : Ok G W) => (B1.out W h).cell 5 _ rfl
  have x6 := fun W (h : Ok G W) => (B1.out W h).cell 6 _ rfl
  have x7 := fun W (h : Ok G W) => (B1.out W h).cell 7 _ rfl
  have x8 := fun W (h : Ok G W) => (B1.out W h).cell 8 _ rfl
  have x9 := fun W (h : Ok G W) => (B1.out W h).cell 9 _ rfl
  have x10 := fun W (h : Ok G W) => (B1.out W h).cell 10 _ rfl
  have x11 := fun W (h : Ok G W) => (B1.out W h).cell 11 _ rfl
  have x12 := fun W (h : Ok G W) => (B1.out W h).cell 12 _ rfl
  go_enter Tryz.func94, Tryz.ntmps94
  go_upto_region 1 with fail
  refine gen_w g0 ?_
  clear g0
  intro W0 g0
  cases q1 : (d.text == [38, 38]) <;> cases q2 : (d.text == [124, 124])
  all_goals
    have Q1 := Lib.hid q1
    have Q2 := Lib.hid q2
    go_wp2_with fail
    go_ret
    exact ⟨ret_bool (by simp [itB, txtB, nameOp, useT, useL, Q1.out, Q2.out]), HG.out.below g0⟩
set_option maxHeartbeats 1000000 in
theorem impl_instrText_18 : InstrTextC 18 := by
  intro d cs w hop h hsl
  have HRR := Lib.hid (fun (W : World) (hb : Below w.heap.size w W) => h.below hb)
  obtain ⟨v4, v51, v52, v53, v54, v55, rfl, i0, i1, i2, ht, hl, hv⟩ := h
  have HL := Lib.hid hl
  have HV := Lib.hid hv
  have HT := Lib.hid ht
  have I0 := Lib.hid i0
  have I1 := Lib.hid i1
  have I2 := Lib.hid i2
  obtain ⟨A4, c4, rfl, hlc, hm, HC⟩ := Txts.open_ hl
  unfold maxLen at hm
  clear hl hv ht i0 i1 i2
  have HE := Lib.hid (show itB 18 d.text d.labels = itB 18 d.text d.labels from rfl)
  rw [hop]
  obtain ⟨G, g0, HG, B1⟩ := good1 w 63 [.int .i64 18, .int .i64 d.arg, .int .i64 d.count, .string (str d.text), .slice A4 d.labels.length c4, .int .i64 d.value.kind, v51, v52, v53, v54, v55, .int .i64 d.value.code, .int .i64 d.value.env]
  have x0 := fun W (h : Ok G W) => (B1.out W h).cell 0 _ rfl
  have x1 := fun W (h : Ok G W) => (B1.out W h).cell 1 _ rfl
  have x2 := fun W (h : Ok G W) => (B1.out W h).cell 2 _ rfl
  have x3 := fun W (h : Ok G W) => (B1.out W h).cell 3 _ rfl
  have x4 := fun W (h : Ok G W) => (B1.out W h).cell 4 _ rfl
  have x5 := fun W (h : Ok G W) => (B1.out W h).cell 5 _ rfl
  have x6 := fun W (h : Ok G W) => (B1.out W h).cell 6 _ rfl
  have x7 := fun W (h : Ok G W) => (B1.out W h).cell 7 _ rfl
  have x8 := fun W (h : Ok G W) => (B1.out W h).cell 8 _ rfl
  have x9 := fun W (h : Ok G W) => (B1.out W h).cell 9 _ rfl
  have x10 := fun W (h : Ok G W) => (B1.out W h).cell 10 _ rfl
  have x11 := fun W (h : Ok G W) => (B1.out W h).cell 11 _ rfl
  have x12 := fun W (h : Ok G W) => (B1.out W h).cell 12 _ rfl
  go_enter Tryz.func94, Tryz.ntmps94
  go_upto_region 1 with fail
  refine gen_w g0 ?_
  clear g0
  intro W0 g0
  go_wp2_with fail
  go_ret
  exact ⟨ret_bool (by simp [itB, useT, useL, nameOp]), HG.out.below g0⟩
set_option maxHeartbeats 1000000 in
theorem impl_instrText_19 : InstrTextC 19 := by
  intro d cs w hop h hsl
  have HRR := Lib.hid (fun (W : World) (hb : Below w.heap.size w W) => h.below hb)
  obtain ⟨v4, v51, v52, v53, v54, v55, rfl, i0, i1, i2, ht, hl, hv⟩ := h
  have HL := Lib.hid hl
  have HV := Lib.hid hv
  have HT := Lib.hid ht
  have I0 := Lib.hid i0
  have I1 := Lib.hid i1
  have I2 := Lib.hid i2
  obtain ⟨A4, c4, rfl, hlc, hm, HC⟩ := Txts.open_ hl
  unfold maxLen at hm
  clear hl hv ht i0 i1 i2
  have HE := Lib.hid (show itB 19 d.text d.labels = itB 19 d.text d.labels from rfl)
  rw [hop]
  obtain ⟨G, g0, HG, B1⟩ := good1 w 63 [.int .i64 19, .int .i64 d.arg, .int .i64 d.count, .string (str d.text), .slice A4 d.labels.length c4, .int .i64 d.value.kind, v51, v52, v53, v54, v55, .int .i64 d.value.code, .int .i64 d.value.env]
  have x0 := fun W (h : Ok G W) => (B1.out W h).cell 0 _ rfl
  have x1 := fun W (h : Ok G W) => (B1.out W h).cell 1 _ rfl
  have x2 := fun W (h : Ok G W) => (B1.out W h).cell 2 _ rfl
  have x3 := fun W (h : Ok G W) => (B1.out W h).cell 3 _ rfl
  have x4 := fun W (h : Ok G W) => (B1.out W h).cell 4 _ rfl
  have x5 := fun W (h : Ok G W) => (B1.out W h).cell 5 _ rfl
  have x6 := fun W (h : Ok G W) => (B1.out W h).cell 6 _ rfl
  have x7 := fun W (h : Ok G W) => (B1.out W h).cell 7 _ rfl
  have x8 := fun W (h : Ok G W) => (B1.out W h).cell 8 _ rfl
  have x9 := fun W (h : Ok G W) => (B1.out W h).cell 9 _ rfl
  have x10 := fun W (h : Ok G W) => (B1.out W h).cell 10 _ rfl
  have x11 := fun W (h : Ok G W) => (B1.out W h).cell 11 _ rfl
  have x12 := fun W (h : Ok G W) => (B1.out W h).cell 12 _ rfl
  go_enter Tryz.func94, Tryz.ntmps94
  go_upto_region 1 with fail
  refine gen_w g0 ?_
  clear g0
  intro W0 g0
  go_wp2_with fail
  refine Calls.mono (impl_IsName d.text _ HT.out) ?_
  rintro e w1 ⟨rfl, rfl⟩
  go_wp2_with fail
  go_ret
  exact ⟨ret_bool (by simp [itB, txtB, nameOp, useT, useL]), HG.out.below g0⟩
set_option maxHeartbeats 1000000 in
theorem impl_instrText_20 : InstrTextC 20 := by
  intro d cs w hop h hsl
  have HRR := Lib.hid (fun (W : World) (hb : Below w.heap.size w W) => h.below hb)
  obtain ⟨v4, v51, v52, v53, v54, v55, rfl, i0, i1, i2, ht, hl, hv⟩ := h
  have HL := Lib.hid hl
  have HV := Lib.hid hv
  have HT := Lib.hid ht
  have I0 := Lib.hid i0
  have I1 := Lib.hid i1
  have I2 := Lib.hid i2
  obtain ⟨A4, c4, rfl, hlc, hm, HC⟩ := Txts.open_ hl
  unfold maxLen at hm
  clear hl hv ht i0 i1 i2
  have HE := Lib.hid (show itB 20 d.text d.labels = itB 20 d.text d.labels from rfl)
  rw [hop]
  obtain ⟨G, g0, HG, B1⟩ := good1 w 63 [.int .i64 20, .int .i64 d.arg, .int .i64 d.count, .string (str d.text), .slice A4 d.labels.length c4, .int .i64 d.value.kind, v51, v52, v53, v54, v55, .int .i64 d.value.code, .int .i64 d.value.env]
  have x0 := fun W (h : Ok G W) => (B1.out W h).cell 0 _ rfl
  have x1 := fun W (h : Ok G W) => (B1.out W h).cell 1 _ rfl
  have x2 := fun W (h : Ok G W) => (B1.out W h).cell 2 _ rfl
  have x3 := fun W (h : Ok G W) => (B1.out W h).cell 3 _ rfl
  have x4 := fun W (h : Ok G W) => (B1.out W h).cell 4 _ rfl
  have x5 := fun W (h : Ok G W) => (B1.out W h).cell 5 _ rfl
  have x6 := fun W (h : Ok G W) => (B1.out W h).cell 6 _ rfl
  have x7 := fun W (h : Ok G W) => (B1.out W h).cell 7 _ rfl
  have x8 := fun W (h : Ok G W) => (B1.out W h).cell 8 _ rfl
  have x9 := fun W (h : Ok G W) => (B1.out W h).cell 9 _ rfl
  have x10 := fun W (h : Ok G W) => (B1.out W h).cell 10 _ rfl
  have x11 := fun W (h : Ok G W) => (B1.out W h).cell 11 _ rfl
  have x12 := fun W (h : Ok G W) => (B1.out W h).cell 12 _ rfl
  go_enter Tryz.func94, Tryz.ntmps94
  go_upto_region 1 with fail
  refine gen_w g0 ?_
  clear g0
  intro W0 g0
  go_wp2_with fail
  refine Calls.mono (impl_IsName d.text _ HT.out) ?_
  rintro e w1 ⟨rfl, rfl⟩
  go_wp2_with fail
  go_ret
  exact ⟨ret_bool (by simp [itB, txtB, nameOp, useT, useL]), HG.out.below g0⟩
set_option maxHeartbeats 1000000 in
theorem impl_instrText_21 : InstrTextC 21 := by
  intro d cs w hop h hsl
  have HRR := Lib.hid (fun (W : World) (hb : Below w.heap.size w W) => h.below hb)
  obtain ⟨v4, v51, v52, v53, v54, v55, rfl, i0, i1, i2, ht, hl, hv⟩ := h
  have HL := Lib.hid hl
  have HV := Lib.hid hv
  have HT := Lib.hid ht
  have I0 := Lib.hid i0
  have I1 := Lib.hid i1
  have I2 := Lib.hid i2
  obtain ⟨A4, c4, rfl, hlc, hm, HC⟩ := Txts.open_ hl
  unfold maxLen at hm
  clear hl hv ht i0 i1 i2
  have HE := Lib.hid (show itB 21 d.text d.labels = itB 21 d.text d.labels from rfl)
  rw [hop]
  obtain ⟨G, g0, HG, B1⟩ := good1 w 63 [.int .i64 21, .int .i64 d.arg, .int .i64 d.count, .string (str d.text), .slice A4 d.labels.length c4, .int .i64 d.value.kind, v51, v52, v53, v54, v55, .int .i64 d.value.code, .int .i64 d.value.env]
  have x0 := fun W (h : Ok G W) => (B1.out W h).cell 0 _ rfl
  have x1 := fun W (h : Ok G W) => (B1.out W h).cell 1 _ rfl
  have x2 := fun W (h : Ok G W) => (B1.out W h).cell 2 _ rfl
  have x3 := fun W (h : Ok G W) => (B1.out W h).cell 3 _ rfl
  have x4 := fun W (h : Ok G W) => (B1.out W h).cell 4 _ rfl
  have x5 := fun W (h : Ok G W) => (B1.out W h).cell 5 _ rfl
  have x6 := fun W (h : Ok G W) => (B1.out W h).cell 6 _ rfl
  have x7 := fun W (h : Ok G W) => (B1.out W h).cell 7 _ rfl
  have x8 := fun W (h : Ok G W) => (B1.out W h).cell 8 _ rfl
  have x9 := fun W (h : Ok G W) => (B1.out W h).cell 9 _ rfl
  have x10 := fun W (h : Ok G W) => (B1.out W h).cell 10 _ rfl
  have x11 := fun W (h : Ok G W) => (B1.out W h).cell 11 _ rfl
  have x12 := fun W (h : Ok G W) => (B1.out W h).cell 12 _ rfl
  go_enter Tryz.func94, Tryz.ntmps94
  go_upto_region 1 with fail
  refine gen_w g0 ?_
  clear g0
  intro W0 g0
  go_wp2_with fail
  refine Calls.mono (impl_IsName d.text _ HT.out) ?_
  rintro e w1 ⟨rfl, rfl⟩
  go_wp2_with fail
  go_ret
  exact ⟨ret_bool (by simp [itB, txtB, nameOp, useT, useL]), HG.out.below g0⟩
set_option maxHeartbeats 1000000 in
theorem impl_instrText_22 : InstrTextC 22 := by
  intro d cs w hop h hsl
  have HRR := Lib.hid (fun (W : World) (hb : Below w.heap.size w W) => h.below hb)
  obtain ⟨v4, v51, v52, v53, v54, v55, rfl, i0, i1, i2, ht, hl, hv⟩ := h
  have HL := Lib.hid hl
  have HV := Lib.hid hv
  have HT := Lib.hid ht
  have I0 := Lib.hid i0
  have I1 := Lib.hid i1
  have I2 := Lib.hid i2
  obtain ⟨A4, c4, rfl, hlc, hm, HC⟩ := Txts.open_ hl
  unfold maxLen at hm
  clear hl hv ht i0 i1 i2
  have HE := Lib.hid (show itB 22 d.text d.labels = itB 22 d.text d.labels from rfl)
  rw [hop]
  obtain ⟨G, g0, HG, B1⟩ := good1 w 63 [.int .i64 22, .int .i64 d.arg, .int .i64 d.count, .string (str d.text), .slice A4 d.labels.length c4, .int .i64 d.value.kind, v51, v52, v53, v54, v55, .int .i64 d.value.code, .int .i64 d.value.env]
  have x0 := fun W (h : Ok G W) => (B1.out W h).cell 0 _ rfl
  have x1 := fun W (h : Ok G W) => (B1.out W h).cell 1 _ rfl
  have x2 := fun W (h : Ok G W) => (B1.out W h).cell 2 _ rfl
  have x3 := fun W (h : Ok G W) => (B1.out W h).cell 3 _ rfl
  have x4 := fun W (h : Ok G W) => (B1.out W h).cell 4 _ rfl
  have x5 := fun W (h : Ok G W) => (B1.out W h).cell 5 _ rfl
  have x6 := fun W (h : Ok G W) => (B1.out W h).cell 6 _ rfl
  have x7 := fun W (h : Ok G W) => (B1.out W h).cell 7 _ rfl
  have x8 := fun W (h : Ok G W) => (B1.out W h).cell 8 _ rfl
  have x9 := fun W (h : Ok G W) => (B1.out W h).cell 9 _ rfl
  have x10 := fun W (h : Ok G W) => (B1.out W h).cell 10 _ rfl
  have x11 := fun W (h : Ok G W) => (B1.out W h).cell 11 _ rfl
  have x12 := fun W (h : Ok G W) => (B1.out W h).cell 12 _ rfl
  go_enter Tryz.func94, Tryz.ntmps94
  go_upto_region 1 with fail
  refine gen_w g0 ?_
  clear g0
  intro W0 g0
  go_wp2_with fail
  refine Calls.mono (impl_IsName d.text _ HT.out) ?_
  rintro e w1 ⟨rfl, rfl⟩
  go_wp2_with fail
  go_ret
  exact ⟨ret_bool (by simp [itB, txtB, nameOp, useT, useL]), HG.out.below g0⟩
set_option maxHeartbeats 1000000 in
theorem impl_instrText_23 : InstrTextC 23 := by
  intro d cs w hop h hsl
  have HRR := Lib.hid (fun (W : World) (hb : Below w.heap.size w W) => h.below hb)
  obtain ⟨v4, v51, v52, v53, v54, v55, rfl, i0, i1, i2, ht, hl, hv⟩ := h
  have HL := Lib.hid hl
  have HV := Lib.hid hv
  have HT := Lib.hid ht
  have I0 := Lib.hid i0
  have I1 := Lib.hid i1
  have I2 := Lib.hid i2
  obtain ⟨A4, c4, rfl, hlc, hm, HC⟩ := Txts.open_ hl
  unfold maxLen at hm
  clear hl hv ht i0 i1 i2
  have HE := Lib.hid (show itB 23 d.text d.labels = itB 23 d.text d.labels from rfl)
  rw [hop]
  obtain ⟨G, g0, HG, B1⟩ := good1 w 63 [.int .i64 23, .int .i64 d.arg, .int .i64 d.count, .string (str d.text), .slice A4 d.labels.length c4, .int .i64 d.value.kind, v51, v52, v53, v54, v55, .int .i64 d.value.code, .int .i64 d.value.env]
  have x0 := fun W (h : Ok G W) => (B1.out W h).cell 0 _ rfl
  have x1 := fun W (h : Ok G W) => (B1.out W h).cell 1 _ rfl
  have x2 := fun W (h : Ok G W) => (B1.out W h).cell 2 _ rfl
  have x3 := fun W (h : Ok G W) => (B1.out W h).cell 3 _ rfl
  have x4 := fun W (h : Ok G W) => (B1.out W h).cell 4 _ rfl
  have x5 := fun W (h : Ok G W) => (B1.out W h).cell 5 _ rfl
  have x6 := fun W (h : Ok G W) => (B1.out W h).cell 6 _ rfl
  have x7 := fun W (h : Ok G W) => (B1.out W h).cell 7 _ rfl
  have x8 := fun W (h : Ok G W) => (B1.out W h).cell 8 _ rfl
  have x9 := fun W (h : Ok G W) => (B1.out W h).cell 9 _ rfl
  have x10 := fun W (h : Ok G W) => (B1.out W h).cell 10 _ rfl
  have x11 := fun W (h : Ok G W) => (B1.out W h).cell 11 _ rfl
  have x12 := fun W (h : Ok G W) => (B1.out W h).cell 12 _ rfl
  go_enter Tryz.func94, Tryz.ntmps94
  go_upto_region 1 with fail
  refine gen_w g0 ?_
  clear g0
  intro W0 g0
  go_wp2_with fail
  refine Calls.mono (impl_IsName d.text _ HT.out) ?_
  rintro e w1 ⟨rfl, rfl⟩
  go_wp2_with fail
  go_ret
  exact ⟨ret_bool (by simp [itB, txtB, nameOp, useT, useL]), HG.out.below g0⟩
set_option maxHeartbeats 1000000 in
theorem impl_instrText_24 : InstrTextC 24 := by
  intro d cs w hop h hsl
  have HRR := Lib.hid (fun (W : World) (hb : Below w.heap.size w W) => h.below hb)
  obtain ⟨v4, v51, v52, v53, v54, v55, rfl, i0, i1, i2, ht, hl, hv⟩ := h
  have HL := Lib.hid hl
  have HV := Lib.hid hv
  have HT := Lib.hid ht
  have I0 := Lib.hid i0
  have I1 := Lib.hid i1
  have I2 := Lib.hid i2
  obtain ⟨A4, c4, rfl, hlc, hm, HC⟩ := Txts.open_ hl
  unfold maxLen at hm
  clear hl hv ht i0 i1 i2
  have HE := Lib.hid (show itB 24 d.text d.labels = itB 24 d.text d.labels from rfl)
  rw [hop]
  obtain ⟨G, g0, HG, B1⟩ := good1 w 63 [.int .i64 24, .int .i64 d.arg, .int .i64 d.count, .string (str d.text), .slice A4 d.labels.length c4, .int .i64 d.value.kind, v51, v52, v53, v54, v55, .int .i64 d.value.code, .int .i64 d.value.env]
  have x0 := fun W (h : Ok G W) => (B1.out W h).cell 0 _ rfl
  have x1 := fun W (h : Ok G W) => (B1.out W h).cell 1 _ rfl
  have x2 := fun W (h : Ok G W) => (B1.out W h).cell 2 _ rfl
  have x3 := fun W (h : Ok G W) => (B1.out W h).cell 3 _ rfl
  have x4 := fun W (h : Ok G W) => (B1.out W h).cell 4 _ rfl
  have x5 := fun W (h : Ok G W) => (B1.out W h).cell 5 _ rfl
  have x6 := fun W (h : Ok G W) => (B1.out W h).cell 6 _ rfl
  have x7 := fun W (h : Ok G W) => (B1.out W h).cell 7 _ rfl
  have x8 := fun W (h : Ok G W) => (B1.out W h).cell 8 _ rfl
  have x9 := fun W (h : Ok G W) => (B1.out W h).cell 9 _ rfl
  have x10 := fun W (h : Ok G W) => (B1.out W h).cell 10 _ rfl
  have x11 := fun W (h : Ok G W) => (B1.out W h).cell 11 _ rfl
  have x12 := fun W (h : Ok G W) => (B1.out W h).cell 12 _ rfl
  go_enter Tryz.func94, Tryz.ntmps94
  go_upto_region 1 with fail
  refine gen_w g0 ?_
  clear g0
  intro W0 g0
  go_wp2_with fail
  refine Calls.mono (impl_IsName d.text _ HT.out) ?_
  rintro e w1 ⟨rfl, rfl⟩
  cases q0 : isNameB d.text
  · have Q0 := Lib.hid q0
    clear q0
    go_wp2_with fail
    go_ret
    exact ⟨ret_bool (by simp [itB, txtB, lblB, useT, useL, nameOp, Q0.out]), HG.out.below g0⟩
  have Q0 := Lib.hid q0
  clear q0
  by_cases q1 : d.labels.length = 1
  rotate_left
  · have Q1 := Lib.hid q1
    go_wp2_with fail
    go_ret
    exact ⟨ret_bool (by have := Q1.out; simp [itB, txtB, lblB, useT, useL, nameOp, Q0.out, this]), HG.out.below g0⟩
  obtain ⟨s, hs⟩ : ∃ s, d.labels = [s] := by
    match hd : d.labels, q1 with
    | [s], _ => exact ⟨s, rfl⟩
  have HS := Lib.hid hs
  obtain ⟨b, off, rfl, hbl, hcell, hsz⟩ := HC.out 0 (by omega)
  have e0 : d.labels[0] = s := by simp [hs]
  rw [e0] at hcell hsz
  rw [Nat.add_zero] at hcell
  have hsl2 : s.length ≤ 1000000000000 := hsl s (by rw [hs]; simp)
  have y0 := fun W (h : Ok G W) => ((HG.out.below h).cell (p := ⟨b, off, none⟩) hbl).trans hcell
  clear hcell e0 hs
  cases q2 : decide (1 ≤ (s.length : Int)) <;> cases q3 : decide ((s.length : Int) ≤ 60)
  all_goals
    have Q2 := Lib.hid q2
    have Q3 := Lib.hid q3
    go_wp2_with fail
    go_ret
    exact ⟨ret_bool (by have h1 := Q2.out; have h2 := Q3.out; simp at h1 h2; simp [itB, txtB, lblB, useT, useL, nameOp, Q0.out, HS.out]; try omega), HG.out.below g0⟩
set_option maxHeartbeats 1000000 in
theorem impl_instrText_25 : InstrTextC 25 := by
  intro d cs w hop h hsl
  have HRR := Lib.hid (fun (W : World) (hb : Below w.heap.size w W) => h.below hb)
  obtain ⟨v4, v51, v52, v53, v54, v55, rfl, i0, i1, i2, ht, hl, hv⟩ := h
  have HL := Lib.hid hl
  have HV := Lib.hid hv
  have HT := Lib.hid ht
  have I0 := Lib.hid i0
  have I1 := Lib.hid i1
  have I2 := Lib.hid i2
  obtain ⟨A4, c4, rfl, hlc, hm, HC⟩ := Txts.open_ hl
  unfold maxLen at hm
  clear hl hv ht i0 i1 i2
  have HE := Lib.hid (show itB 25 d.text d.labels = itB 25 d.text d.labels from rfl)
  rw [hop]
  obtain ⟨G, g0, HG, B1⟩ := good1 w 63 [.int .i64 25, .int .i64 d.arg, .int .i64 d.count, .string (str d.text), .slice A4 d.labels.length c4, .int .i64 d.value.kind, v51, v52, v53, v54, v55, .int .i64 d.value.code, .int .i64 d.value.env]
  have x0 := fun W (h : Ok G W) => (B1.out W h).cell 0 _ rfl
  have x1 := fun W (h : Ok G W) => (B1.out W h).cell 1 _ rfl
  have x2 := fun W (h : Ok G W) => (B1.out W h).cell 2 _ rfl
  have x3 := fun W (h : Ok G W) => (B1.out W h).cell 3 _ rfl
  have x4 := fun W (h : Ok G W) => (B1.out W h).cell 4 _ rfl
  have x5 := fun W (h : Ok G W) => (B1.out W h).cell 5 _ rfl
  have x6 := fun W (h : Ok G W) => (B1.out W h).cell 6 _ rfl
  have x7 := fun W (h : Ok G W) => (B1.out W h).cell 7 _ rfl
  have x8 := fun W (h : Ok G W) => (B1.out W h).cell 8 _ rfl
  have x9 := fun W (h : Ok G W) => (B1.out W h).cell 9 _ rfl
  have x10 := fun W (h : Ok G W) => (B1.out W h).cell 10 _ rfl
  have x11 := fun W (h : Ok G W) => (B1.out W h).cell 11 _ rfl
  have x12 := fun W (h : Ok G W) => (B1.out W h).cell 12 _ rfl
  go_enter Tryz.func94, Tryz.ntmps94
  go_upto_region 1 with fail
  refine gen_w g0 ?_
  clear g0
  intro W0 g0
  go_wp2_with fail
  refine Calls.mono (impl_IsName d.text _ HT.out) ?_
  rintro e w1 ⟨rfl, rfl⟩
  cases q0 : isNameB d.text
  · have Q0 := Lib.hid q0
    clear q0
    go_wp2_with fail
    go_ret
    exact ⟨ret_bool (by simp [itB, txtB, lblB, useT, useL, nameOp, Q0.out]), HG.out.below g0⟩
  have Q0 := Lib.hid q0
  clear q0
  by_cases q1 : d.labels.length = 1
  rotate_left
  · have Q1 := Lib.hid q1
    go_wp2_with fail
    go_ret
    exact ⟨ret_bool (by have := Q1.out; simp [itB, txtB, lblB, useT, useL, nameOp, Q0.out, this]), HG.out.below g0⟩
  obtain ⟨s, hs⟩ : ∃ s, d.labels = [s] := by
    match hd : d.labels, q1 with
    | [s], _ => exact ⟨s, rfl⟩
  have HS := Lib.hid hs
  obtain ⟨b, off, rfl, hbl, hcell, hsz⟩ := HC.out 0 (by omega)
  have e0 : d.labels[0] = s := by simp [hs]
  rw [e0] at hcell hsz
  rw [Nat.add_zero] at hcell
  have hsl2 : s.length ≤ 1000000000000 := hsl s (by rw [hs]; simp)
  have y0 := fun W (h : Ok G W) => ((HG.out.below h).cell (p := ⟨b, off, none⟩) hbl).trans hcell
  clear hcell e0 hs
  cases q2 : s.isEmpty
  rotate_left
  · obtain rfl : s = [] := by simpa using q2
    go_wp2_with fail
    go_ret
    exact ⟨ret_bool (by simp [itB, txtB, lblB, useT, useL, nameOp, Q0.out, HS.out]), HG.out.below g0⟩
  have q4 : (s == []) = false := by cases s <;> simp_all
  have Q4 := Lib.hid q4
  go_wp2_with fail
  refine Calls.mono (impl_IsName (s ++ [60, 45]) _ (by unfold maxLen; simp; omega)) ?_
  rintro e w1 ⟨rfl, rfl⟩
  go_wp2_with fail
  go_ret
  exact ⟨ret_bool (by have := Q4.out; simp [itB, txtB, lblB, useT, useL, nameOp, Q0.out, HS.out]; cases s <;> simp_all), HG.out.below g0⟩
set_option maxHeartbeats 1000000 in
theorem impl_instrText_26 : InstrTextC 26 := by
  intro d cs w hop h hsl
  have HRR := Lib.hid (fun (W : World) (hb : Below w.heap.size w W) => h.below hb)
  obtain ⟨v4, v51, v52, v53, v54, v55, rfl, i0, i1, i2, ht, hl, hv⟩ := h
  have HL := Lib.hid hl
  have HV := Lib.hid hv
  have HT := Lib.hid ht
  have I0 := Lib.hid i0
  have I1 := Lib.hid i1
  have I2 := Lib.hid i2
  obtain ⟨A4, c4, rfl, hlc, hm, HC⟩ := Txts.open_ hl
  unfold maxLen at hm
  clear hl hv ht i0 i1 i2
  have HE := Lib.hid (show itB 26 d.text d.labels = itB 26 d.text d.labels from rfl)
  rw [hop]
  obtain ⟨G, g0, HG, B1⟩ := good1 w 63 [.int .i64 26, .int .i64 d.arg, .int .i64 d.count, .string (str d.text), .slice A4 d.labels.length c4, .int .i64 d.value.kind, v51, v52, v53, v54, v55, .int .i64 d.value.code, .int .i64 d.value.env]
  have x0 := fun W (h : Ok G W) => (B1.out W h).cell 0 _ rfl
  have x1 := fun W (h : Ok G W) => (B1.out W h).cell 1 _ rfl
  have x2 := fun W (h : Ok G W) => (B1.out W h).cell 2 _ rfl
  have x3 := fun W (h : Ok G W) => (B1.out W h).cell 3 _ rfl
  have x4 := fun W (h : Ok G W) => (B1.out W h).cell 4 _ rfl
  have x5 := fun W (h : Ok G W) => (B1.out W h).cell 5 _ rfl
  have x6 := fun W (h : Ok G W) => (B1.out W h).cell 6 _ rfl
  have x7 := fun W (h : Ok G W) => (B1.out W h).cell 7 _ rfl
  have x8 := fun W (h : Ok G W) => (B1.out W h).cell 8 _ rfl
  have x9 := fun W (h : Ok G W) => (B1.out W h).cell 9 _ rfl
  have x10 := fun W (h : Ok G W) => (B1.out W h).cell 10 _ rfl
  have x11 := fun W (h : Ok G W) => (B1.out W h).cell 11 _ rfl
  have x12 := fun W (h : Ok G W) => (B1.out W h).cell 12 _ rfl
  go_enter Tryz.func94, Tryz.ntmps94
  go_upto_region 1 with fail
  refine gen_w g0 ?_
  clear g0
  intro W0 g0
  go_wp2_with fail
  go_ret
  exact ⟨ret_bool (by simp [itB, useT, useL, nameOp]), HG.out.below g0⟩
set_option maxHeartbeats 1000000 in
theorem impl_instrText_27 : InstrTextC 27 := by
  intro d cs w hop h hsl
  have HRR := Lib.hid (fun (W : World) (hb : Below w.heap.size w W) => h.below hb)
  obtain ⟨v4, v51, v52, v53, v54, v55, rfl, i0, i1, i2, ht, hl, hv⟩ := h
  have HL := Lib.hid hl
  have HV := Lib.hid hv
  have HT := Lib.hid ht
  have I0 := Lib.hid i0
  have I1 := Lib.hid i1
  have I2 := Lib.hid i2
  obtain ⟨A4, c4, rfl, hlc, hm, HC⟩ := Txts.open_ hl
  unfold maxLen at hm
  clear hl hv ht i0 i1 i2
  have HE := Lib.hid (show itB 27 d.text d.labels = itB 27 d.text d.labels from rfl)
  rw [hop]
  obtain ⟨G, g0, HG, B1⟩ := good1 w 63 [.int .i64 27, .int .i64 d.arg, .int .i64 d.count, .string (str d.text), .slice A4 d.labels.length c4, .int .i64 d.value.kind, v51, v52, v53, v54, v55, .int .i64 d.value.code, .int .i64 d.value.env]
  have x0 := fun W (h : Ok G W) => (B1.out W h).cell 0 _ rfl
  have x1 := fun W (h : Ok G W) => (B1.out W h).cell 1 _ rfl
  have x2 := fun W (h : Ok G W) => (B1.out W h).cell 2 _ rfl
  have x3 := fun W (h : Ok G W) => (B1.out W h).cell 3 _ rfl
  have x4 := fun W (h : Ok G W) => (B1.out W h).cell 4 _ rfl
  have x5 := fun W (h : Ok G W) => (B1.out W h).cell 5 _ rfl
  have x6 := fun W (h : Ok G W) => (B1.out W h).cell 6 _ rfl
  have x7 := fun W (h : Ok G W) => (B1.out W h).cell 7 _ rfl
  have x8 := fun W (h : Ok G W) => (B1.out W h).cell 8 _ rfl
  have x9 := fun W (h : Ok G W) => (B1.out W h).cell 9 _ rfl
  have x10 := fun W (h : Ok G W) => (B1.out W h).cell 10 _ rfl
  have x11 := fun W (h : Ok G W) => (B1.out W h).cell 11 _ rfl
  have x12 := fun W (h : Ok G W) => (B1.out W h).cell 12 _ rfl
  go_enter Tryz.func94, Tryz.ntmps94
  go_upto_region 1 with fail
  refine gen_w g0 ?_
  clear g0
  intro W0 g0
  go_wp2_with fail
  go_ret
  exact ⟨ret_bool (by simp [itB, txtB, nameOp, useT, useL]; try omega), HG.out.below g0⟩
set_option maxHeartbeats 1000000 in
theorem impl_instrText_28 : InstrTextC 28 := by
  intro d cs w hop h hsl
  have HRR := Lib.hid (fun (W : World) (hb : Below w.heap.size w W) => h.below hb)
  obtain ⟨v4, v51, v52, v53, v54, v55, rfl, i0, i1, i2, ht, hl, hv⟩ := h
  have HL := Lib.hid hl
  have HV := Lib.hid hv
  have HT := Lib.hid ht
  have I0 := Lib.hid i0
  have I1 := Lib.hid i1
  have I2 := Lib.hid i2
  obtain ⟨A4, c4, rfl, hlc, hm, HC⟩ := Txts.open_ hl
  unfold maxLen at hm
  clear hl hv ht i0 i1 i2
  have HE := Lib.hid (show itB 28 d.text d.labels = itB 28 d.text d.labels from rfl)
  rw [hop]
  obtain ⟨G, g0, HG, B1⟩ := good1 w 63 [.int .i64 28, .int .i64 d.arg, .int .i64 d.count, .string (str d.text), .slice A4 d.labels.length c4, .int .i64 d.value.kind, v51, v52, v53, v54, v55, .int .i64 d.value.code, .int .i64 d.value.env]
  have x0 := fun W (h : Ok G W) => (B1.out W h).cell 0 _ rfl
  have x1 := fun W (h : Ok G W) => (B1.out W h).cell 1 _ rfl
  have x2 := fun W (h : Ok G W) => (B1.out W h).cell 2 _ rfl
  have x3 := fun W (h : Ok G W) => (B1.out W h).cell 3 _ rfl
  have x4 := fun W (h : Ok G W) => (B1.out W h).cell 4 _ rfl
  have x5 := fun W (h : Ok G W) => (B1.out W h).cell 5 _ rfl
  have x6 := fun W (h : Ok G W) => (B1.out W h).cell 6 _ rfl
  have x7 := fun W (h : Ok G W) => (B1.out W h).cell 7 _ rfl
  have x8 := fun W (h : Ok G W) => (B1.out W h).cell 8 _ rfl
  have x9 := fun W (h : Ok G W) => (B1.out W h).cell 9 _ rfl
  have x10 := fun W (h : Ok G W) => (B1.out W h).cell 10 _ rfl
  have x11 := fun W (h : Ok G W) => (B1.out W h).cell 11 _ rfl
  have x12 := fun W (h : Ok G W) => (B1.out W h).cell 12 _ rfl
  go_enter Tryz.func94, Tryz.ntmps94
  go_upto_region 1 with fail
  refine gen_w g0 ?_
  clear g0
  intro W0 g0
  go_wp2_with fail
  refine Calls.mono (impl_IsName d.text _ HT.out) ?_
  rintro e w1 ⟨rfl, rfl⟩
  go_wp2_with fail
  go_ret
  exact ⟨ret_bool (by simp [itB, txtB, nameOp, useT, useL]), HG.out.below g0⟩
set_option maxHeartbeats 1000000 in
theorem impl_instrText_29 : InstrTextC 29 := by
  intro d cs w hop h hsl
  have HRR := Lib.hid (fun (W : World) (hb : Below w.heap.size w W) => h.below hb)
  obtain ⟨v4, v51, v52, v53, v54, v55, rfl, i0, i1, i2, ht, hl, hv⟩ := h
  have HL := Lib.hid hl
  have HV := Lib.hid hv
  have HT := Lib.hid ht
  have I0 := Lib.hid i0
  have I1 := Lib.hid i1
  have I2 := Lib.hid i2
  obtain ⟨A4, c4, rfl, hlc, hm, HC⟩ := Txts.open_ hl
  unfold maxLen at hm
  clear hl hv ht i0 i1 i2
  have HE := Lib.hid (show itB 29 d.text d.labels = itB 29 d.text d.labels from rfl)
  rw [hop]
  obtain ⟨G, g0, HG, B1⟩ := good1 w 63 [.int .i64 29, .int .i64 d.arg, .int .i64 d.count, .string (str d.text), .slice A4 d.labels.length c4, .int .i64 d.value.kind, v51, v52, v53, v54, v55, .int .i64 d.value.code, .int .i64 d.value.env]
  have x0 := fun W (h : Ok G W) => (B1.out W h).cell 0 _ rfl
  have x1 := fun W (h : Ok G W) => (B1.out W h).cell 1 _ rfl
  have x2 := fun W (h : Ok G W) => (B1.out W h).cell 2 _ rfl
  have x3 := fun W (h : Ok G W) => (B1.out W h).cell 3 _ rfl
  have x4 := fun W (h : Ok G W) => (B1.out W h).cell 4 _ rfl
  have x5 := fun W (h : Ok G W) => (B1.out W h).cell 5 _ rfl
  have x6 := fun W (h : Ok G W) => (B1.out W h).cell 6 _ rfl
  have x7 := fun W (h : Ok G W) => (B1.out W h).cell 7 _ rfl
  have x8 := fun W (h : Ok G W) => (B1.out W h).cell 8 _ rfl
  have x9 := fun W (h : Ok G W) => (B1.out W h).cell 9 _ rfl
  have x10 := fun W (h : Ok G W) => (B1.out W h).cell 10 _ rfl
  have x11 := fun W (h : Ok G W) => (B1.out W h).cell 11 _ rfl
  have x12 := fun W (h : Ok G W) => (B1.out W h).cell 12 _ rfl
  go_enter Tryz.func94, Tryz.ntmps94
  go_upto_region 1 with fail
  refine gen_w g0 ?_
  clear g0
  intro W0 g0
  go_wp2_with fail
  refine Calls.mono (impl_IsName d.text _ HT.out) ?_
  rintro e w1 ⟨rfl, rfl⟩
  go_wp2_with fail
  go_ret
  exact ⟨ret_bool (by simp [itB, txtB, nameOp, useT, useL]), HG.out.below g0⟩
set_option maxHeartbeats 1000000 in
theorem impl_instrText_30 : InstrTextC 30 := by
  intro d cs w hop h hsl
  have HRR := Lib.hid (fun (W : World) (hb : Below w.heap.size w W) => h.below hb)
  obtain ⟨v4, v51, v52, v53, v54, v55, rfl, i0, i1, i2, ht, hl, hv⟩ := h
  have HL := Lib.hid hl
  have HV := Lib.hid hv
  have HT := Lib.hid ht
  have I0 := Lib.hid i0
  have I1 := Lib.hid i1
  have I2 := Lib.hid i2
  obtain ⟨A4, c4, rfl, hlc, hm, HC⟩ := Txts.open_ hl
  unfold maxLen at hm
  clear hl hv ht i0 i1 i2
  have HE := Lib.hid (show itB 30 d.text d.labels = itB 30 d.text d.labels from rfl)
  rw [hop]
  obtain ⟨G, g0, HG, B1⟩ := good1 w 63 [.int .i64 30, .int .i64 d.arg, .int .i64 d.count, .string (str d.text), .slice A4 d.labels.length c4, .int .i64 d.value.kind, v51, v52, v53, v54, v55, .int .i64 d.value.code, .int .i64 d.value.env]
  have x0 := fun W (h : Ok G W) => (B1.out W h).cell 0 _ rfl
  have x1 := fun W (h : Ok G W) => (B1.out W h).cell 1 _ rfl
  have x2 := fun W (h : Ok G W) => (B1.out W h).cell 2 _ rfl
  have x3 := fun W (h : Ok G W) => (B1.out W h).cell 3 _ rfl
  have x4 := fun W (h : Ok G W) => (B1.out W h).cell 4 _ rfl
  have x5 := fun W (h : Ok G W) => (B1.out W h).cell 5 _ rfl
  have x6 := fun W (h : Ok G W) => (B1.out W h).cell 6 _ rfl
  have x7 := fun W (h : Ok G W) => (B1.out W h).cell 7 _ rfl
  have x8 := fun W (h : Ok G W) => (B1.out W h).cell 8 _ rfl
  have x9 := fun W (h : Ok G W) => (B1.out W h).cell 9 _ rfl
  have x10 := fun W (h : Ok G W) => (B1.out W h).cell 10 _ rfl
  have x11 := fun W (h : Ok G W) => (B1.out W h).cell 11 _ rfl
  have x12 := fun W (h : Ok G W) => (B1.out W h).cell 12 _ rfl
  go_enter Tryz.func94, Tryz.ntmps94
  go_upto_region 1 with fail
  refine gen_w g0 ?_
  clear g0
  intro W0 g0
  go_wp2_with fail
  refine Calls.mono (impl_IsName d.text _ HT.out) ?_
  rintro e w1 ⟨rfl, rfl⟩
  go_wp2_with fail
  go_ret
  exact ⟨ret_bool (by simp [itB, txtB, nameOp, useT, useL]), HG.out.below g0⟩
set_option maxHeartbeats 1000000 in
theorem impl_instrText_31 : InstrTextC 31 := by
  intro d cs w hop h hsl
  have HRR := Lib.hid (fun (W : World) (hb : Below w.heap.size w W) => h.below hb)
  obtain ⟨v4, v51, v52, v53, v54, v55, rfl, i0, i1, i2, ht, hl, hv⟩ := h
  have HL := Lib.hid hl
  have HV := Lib.hid hv
  have HT := Lib.hid ht
  have I0 := Lib.hid i0
  have I1 := Lib.hid i1
  have I2 := Lib.hid i2
  obtain ⟨A4, c4, rfl, hlc, hm, HC⟩ := Txts.open_ hl
  unfold maxLen at hm
  clear hl hv ht i0 i1 i2
  have HE := Lib.hid (show itB 31 d.text d.labels = itB 31 d.text d.labels from rfl)
  rw [hop]
  obtain ⟨G, g0, HG, B1⟩ := good1 w 63 [.int .i64 31, .int .i64 d.arg, .int .i64 d.count, .string (str d.text), .slice A4 d.labels.length c4, .int .i64 d.value.kind, v51, v52, v53, v54, v55, .int .i64 d.value.code, .int .i64 d.value.env]
  have x0 := fun W (h : Ok G W) => (B1.out W h).cell 0 _ rfl
  have x1 := fun W (h : Ok G W) => (B1.out W h).cell 1 _ rfl
  have x2 := fun W (h : Ok G W) => (B1.out W h).cell 2 _ rfl
  have x3 := fun W (h : Ok G W) => (B1.out W h).cell 3 _ rfl
  have x4 := fun W (h : Ok G W) => (B1.out W h).cell 4 _ rfl
  have x5 := fun W (h : Ok G W) => (B1.out W h).cell 5 _ rfl
  have x6 := fun W (h : Ok G W) => (B1.out W h).cell 6 _ rfl
  have x7 := fun W (h : Ok G W) => (B1.out W h).cell 7 _ rfl
  have x8 := fun W (h : Ok G W) => (B1.out W h).cell 8 _ rfl
  have x9 := fun W (h : Ok G W) => (B1.out W h).cell 9 _ rfl
  have x10 := fun W (h : Ok G W) => (B1.out W h).cell 10 _ rfl
  have x11 := fun W (h : Ok G W) => (B1.out W h).cell 11 _ rfl
  have x12 := fun W (h : Ok G W) => (B1.out W h).cell 12 _ rfl
  go_enter Tryz.func94, Tryz.ntmps94
  go_upto_region 1 with fail
  refine gen_w g0 ?_
  clear g0
  intro W0 g0
  go_wp2_with fail
  go_ret
  exact ⟨ret_bool (by simp [itB, useT, useL, nameOp]), HG.out.below g0⟩
set_option maxHeartbeats 1000000 in
theorem impl_instrText_32 : InstrTextC 32 := by
  intro d cs w hop h hsl
  have HRR := Lib.hid (fun (W : World) (hb : Below w.heap.size w W) => h.below hb)
  obtain ⟨v4, v51, v52, v53, v54, v55, rfl, i0, i1, i2, ht, hl, hv⟩ := h
  have HL := Lib.hid hl
  have HV := Lib.hid hv
  have HT := Lib.hid ht
  have I0 := Lib.hid i0
  have I1 := Lib.hid i1
  have I2 := Lib.hid i2
  obtain ⟨A4, c4, rfl, hlc, hm, HC⟩ := Txts.open_ hl
  unfold maxLen at hm
  clear hl hv ht i0 i1 i2
  have HE := Lib.hid (show itB 32 d.text d.labels = itB 32 d.text d.labels from rfl)
  rw [hop]
  obtain ⟨G, g0, HG, B1⟩ := good1 w 63 [.int .i64 32, .int .i64 d.arg, .int .i64 d.count, .string (str d.text), .slice A4 d.labels.length c4, .int .i64 d.value.kind, v51, v52, v53, v54, v55, .int .i64 d.value.code, .int .i64 d.value.env]
  have x0 := fun W (h : Ok G W) => (B1.out W h).cell 0 _ rfl
  have x1 := fun W (h : Ok G W) => (B1.out W h).cell 1 _ rfl
  have x2 := fun W (h : Ok G W) => (B1.out W h).cell 2 _ rfl
  have x3 := fun W (h : Ok G W) => (B1.out W h).cell 3 _ rfl
  have x4 := fun W (h : Ok G W) => (B1.out W h).cell 4 _ rfl
  have x5 := fun W (h : Ok G W) => (B1.out W h).cell 5 _ rfl
  have x6 := fun W (h : Ok G W) => (B1.out W h).cell 6 _ rfl
  have x7 := fun W (h : Ok G W) => (B1.out W h).cell 7 _ rfl
  have x8 := fun W (h : Ok G W) => (B1.out W h).cell 8 _ rfl
  have x9 := fun W (h : Ok G W) => (B1.out W h).cell 9 _ rfl
  have x10 := fun W (h : Ok G W) => (B1.out W h).cell 10 _ rfl
  have x11 := fun W (h : Ok G W) => (B1.out W h).cell 11 _ rfl
  have x12 := fun W (h : Ok G W) => (B1.out W h).cell 12 _ rfl
  go_enter Tryz.func94, Tryz.ntmps94
  go_upto_region 1 with fail
  refine gen_w g0 ?_
  clear g0
  intro W0 g0
  go_wp2_with fail
  refine Calls.mono (impl_IsName d.text _ HT.out) ?_
  rintro e w1 ⟨rfl, rfl⟩
  go_wp2_with fail
  go_ret
  exact ⟨ret_bool (by simp [itB, txtB, nameOp, useT, useL]), HG.out.below g0⟩
set_option maxHeartbeats 1000000 in
theorem impl_instrText_33 : InstrTextC 33 := by
  intro d cs w hop h hsl
  have HRR := Lib.hid (fun (W : World) (hb : Below w.heap.size w W) => h.below hb)
  obtain ⟨v4, v51, v52, v53, v54, v55, rfl, i0, i1, i2, ht, hl, hv⟩ := h
  have HL := Lib.hid hl
  have HV := Lib.hid hv
  have HT := Lib.hid ht
  have I0 := Lib.hid i0
  have I1 := Lib.hid i1
  have I2 := Lib.hid i2
  obtain ⟨A4, c4, rfl, hlc, hm, HC⟩ := Txts.open_ hl
  unfold maxLen at hm
  clear hl hv ht i0 i1 i2
  have HE := Lib.hid (show itB 33 d.text d.labels = itB 33 d.text d.labels from rfl)
  rw [hop]
  obtain ⟨G, g0, HG, B1⟩ := good1 w 63 [.int .i64 33, .int .i64 d.arg, .int .i64 d.count, .string (str d.text), .slice A4 d.labels.length c4, .int .i64 d.value.kind, v51, v52, v53, v54, v55, .int .i64 d.value.code, .int .i64 d.value.env]
  have x0 := fun W (h : Ok G W) => (B1.out W h).cell 0 _ rfl
  have x1 := fun W (h : Ok G W) => (B1.out W h).cell 1 _ rfl
  have x2 := fun W (h : Ok G W) => (B1.out W h).cell 2 _ rfl
  have x3 := fun W (h : Ok G W) => (B1.out W h).cell 3 _ rfl
  have x4 := fun W (h : Ok G W) => (B1.out W h).cell 4 _ rfl
  have x5 := fun W (h : Ok G W) => (B1.out W h).cell 5 _ rfl
  have x6 := fun W (h : Ok G W) => (B1.out W h).cell 6 _ rfl
  have x7 := fun W (h : Ok G W) => (B1.out W h).cell 7 _ rfl
  have x8 := fun W (h : Ok G W) => (B1.out W h).cell 8 _ rfl
  have x9 := fun W (h : Ok G W) => (B1.out W h).cell 9 _ rfl
  have x10 := fun W (h : Ok G W) => (B1.out W h).cell 10 _ rfl
  have x11 := fun W (h : Ok G W) => (B1.out W h).cell 11 _ rfl
  have x12 := fun W (h : Ok G W) => (B1.out W h).cell 12 _ rfl
  go_enter Tryz.func94, Tryz.ntmps94
  go_upto_region 1 with fail
  refine gen_w g0 ?_
  clear g0
  intro W0 g0
  go_wp2_with fail
  go_ret
  exact ⟨ret_bool (by simp [itB, useT, useL, nameOp]), HG.out.below g0⟩
theorem impl_instrText (op : Int) (h0 : 0 ≤ op) (h1 : op ≤ 33) : InstrTextC op := op34 impl_instrText_0 impl_instrText_1 impl_instrText_2 impl_instrText_3 impl_instrText_4 impl_instrText_5 impl_instrText_6 impl_instrText_7 impl_instrText_8 impl_instrText_9 impl_instrText_10 impl_instrText_11 impl_instrText_12 impl_instrText_13 impl_instrText_14 impl_instrText_15 impl_instrText_16 impl_instrText_17 impl_instrText_18 impl_instrText_19 impl_instrText_20 impl_instrText_21 impl_instrText_22 impl_instrText_23 impl_instrText_24 impl_instrText_25 impl_instrText_26 impl_instrText_27 impl_instrText_28 impl_instrText_29 impl_instrText_30 impl_instrText_31 impl_instrText_32 impl_instrText_33 op h0 h1
end Go.Proofs.YtjdfancbmjnjfaaGreat
