/-
  Contracts: impl.CheckCode, spec.CheckCode.
-/
import Derived.Test.YtjdfancbmjnjfaaGreatKRef
namespace Go.Proofs.YtjdfancbmjnjfaaGreat
set_option maxRecDepth 100000
open Go.ChangeShapes Go.WideShapes Go.ChangeAt Go.RowKit Go.Deep
set_option linter.unusedVariables false
set_option linter.unusedSimpArgs false

theorem size_at (l : List SegD) (k : Nat) (h : k < l.length) : l[k].instrs.length ≤ sizeC l := by
  have h1 := sizeC_succ l k h
  have h2 := sizeC_take l (k + 1)
  omega
theorem segsB_no {d : CodeD} (k : Nat) (h : k < d.segments.length) (h2 : segB d.segments.length k d.segments[k] = false) : segsB d = false := by
  refine decide_eq_false fun hh => ?_
  rw [hh k h] at h2
  cases h2
theorem inB_no {d : CodeD} (k : Nat) (h : k < d.main.length) (h2 : ¬ (0 ≤ d.main[k] ∧ d.main[k] ≤ (d.segments.length : Int) - 1)) : inB d = false := by
  rw [Bool.eq_false_iff]
  intro hh
  have := List.all_eq_true.1 hh _ (List.getElem_mem h)
  rw [Bool.and_eq_true, decide_eq_true_eq, decide_eq_true_eq] at this
  exact h2 this
theorem inB_yes {d : CodeD} (h2 : ∀ i (h : i < d.main.length), 0 ≤ d.main[i] ∧ d.main[i] ≤ (d.segments.length : Int) - 1) : inB d = true := by
  refine List.all_eq_true.2 fun x hx => ?_
  obtain ⟨i, hi, rfl⟩ := List.getElem_of_mem hx
  have := h2 i hi
  rw [decide_eq_true this.1, decide_eq_true this.2]
  rfl
theorem inB_at {d : CodeD} (h : inB d = true) : ∀ r ∈ d.main, 0 ≤ r ∧ r < d.segments.length := by
  intro r hr
  have := List.all_eq_true.1 h _ hr
  simp only [Bool.and_eq_true, decide_eq_true_eq] at this
  omega
theorem segB_refs {nseg k : Nat} {g : SegD} (h : segB nseg k g = true) : (∀ r ∈ refsG g, 0 ≤ r ∧ r < nseg) ∧ (∀ x ∈ g.instrs, 0 ≤ x.op ∧ x.op ≤ 33) ∧ g.defaults.length ≤ 200 := by
  unfold segB at h
  simp only [Bool.and_eq_true] at h
  obtain ⟨⟨h1, h2⟩, _⟩ := h
  have hl := h1
  unfold lbsB at hl
  simp only [Bool.and_eq_true, decide_eq_true_eq] at hl
  obtain ⟨⟨a, b⟩, c⟩ := hl
  refine ⟨fun r hr => ?_, fun x hx => ?_, by omega⟩
  · unfold refsG at hr
    rcases List.mem_append.1 hr with hr | hr
    · rw [List.mem_filter] at hr
      obtain ⟨hr, h0⟩ := hr
      obtain ⟨i, hi, rfl⟩ := List.getElem_of_mem hr
      have h3 := c i (by omega)
      rw [lb1_eq i (by omega) hi] at h3
      simp only [Bool.and_eq_true, Bool.or_eq_true, decide_eq_true_eq, beq_iff_eq] at h3 h0
      omega
    · rw [List.mem_map] at hr
      obtain ⟨x, hx, rfl⟩ := hr
      rw [List.mem_filter] at hx
      obtain ⟨i, hi, rfl⟩ := List.getElem_of_mem hx.1
      have h3 := of_decide_eq_true h2 i hi
      simp only [insB, Bool.and_eq_true] at h3
      have h4 := h3.2
      unfold argB at h4
      rw [if_pos hx.2] at h4
      simp only [Bool.and_eq_true, decide_eq_true_eq] at h4
      omega
  · have := insAll_facts h2 x hx
    exact ⟨this.1, this.2.1⟩
theorem segsB_at {d : CodeD} (h : segsB d = true) (k : Nat) (hk : k < d.segments.length) : segB d.segments.length k d.segments[k] = true := of_decide_eq_true h k hk
theorem refs_ok {d : CodeD} (h1 : inB d = true) (h2 : segsB d = true) : (∀ r ∈ refsB d, 0 ≤ r ∧ r < d.segments.length) ∧ (∀ g ∈ d.segments, ∀ x ∈ g.instrs, 0 ≤ x.op ∧ x.op ≤ 33) := by
  refine ⟨fun r hr => ?_, fun g hg => ?_⟩
  · unfold refsB at hr
    rcases List.mem_append.1 hr with hr | hr
    · exact inB_at h1 r hr
    · obtain ⟨g, hg, hr⟩ := List.mem_flatMap.1 hr
      obtain ⟨i, hi, rfl⟩ := List.getElem_of_mem hg
      exact (segB_refs (segsB_at h2 i hi)).1 r hr
  · obtain ⟨i, hi, rfl⟩ := List.getElem_of_mem hg
    exact (segB_refs (segsB_at h2 i hi)).2.1
theorem preS_len {d : CodeD} : ∀ j, j ≤ d.segments.length → (∀ i (hi : i < d.segments.length), i < j → d.segments[i].defaults.length ≤ 200 ∧ d.segments[i].instrs.length ≤ 1000) → (preS d j).length ≤ d.main.length + j * 1200 := by
  intro j
  induction j with
  | zero => intro _ _; simp [preS]
  | succ j ih =>
    intro hj h
    rw [preS_succ d j (by omega), List.length_append, List.length_append]
    have h1 := ih (by omega) (fun i hi hj => h i hi (by omega))
    have h2 := defR_len d.segments[j] d.segments[j].defaults.length
    have h3 := insRf_len d.segments[j] d.segments[j].instrs.length
    have h4 := h j (by omega) (by omega)
    omega
theorem nodup_count {R : List Int} {n : Nat} (hR : ∀ r ∈ R, 0 ≤ r ∧ r < n) (h : ∀ i : Nat, i < n → R.count (i : Int) ≤ 1) : decide R.Nodup = true := by
  refine decide_eq_true (List.nodup_iff_count.2 fun a => ?_)
  by_cases ha : a ∈ R
  · obtain ⟨h0, h1⟩ := hR a ha
    obtain ⟨k, rfl⟩ := Int.eq_ofNat_of_zero_le h0
    exact h k (by omega)
  · rw [List.count_eq_zero.2 ha]
    omega
theorem nodup_count_no {R : List Int} {i : Nat} (h : 1 < R.count (i : Int)) : decide R.Nodup = false := by
  refine decide_eq_false fun hn => ?_
  have := List.nodup_iff_count.1 hn (i : Int)
  omega
theorem checkB_a {d : CodeD} (h : mainB d = false) : checkB d = false := by simp [checkB, h]
theorem checkB_b {d : CodeD} (h : inB d = false) : checkB d = false := by simp [checkB, h]
theorem checkB_c {d : CodeD} (h : segsB d = false) : checkB d = false := by simp [checkB, h]
theorem checkB_d {d : CodeD} (h1 : mainB d = true) (h2 : inB d = true) (h3 : segsB d = true) : checkB d = decide (refsB d).Nodup := by simp [checkB, h1, h2, h3]

set_option maxHeartbeats 8000000 in
theorem impl_CheckCode (d : CodeD) (cs : List Value) (w : World) (h : BytecodeR w cs d) (hz : szBytecode d ≤ 1048576) :
    Calls Tryz.prog 9 #[.agg cs.toArray] w (RetB (checkB d) w) := by
  have HBR := Lib.hid h
  obtain ⟨v0, v1, v2, rfl, q0, q1, q2⟩ := h
  obtain ⟨A, c, rfl, hlc, hm, HC⟩ := SlR.open_ q0
  obtain ⟨A1, c1, rfl, l1, m1, HM⟩ := Ints.open_ q1
  obtain ⟨A2, c2, rfl, l2, m2, _⟩ := Bools.open_ q2
  clear q0 q1 q2
  unfold maxLen at hm m1 m2
  obtain ⟨G, g0, HG, B1⟩ := good1 w 31 [.slice A d.segments.length c, .slice A1 d.main.length c1, .slice A2 d.quiet.length c2]
  obtain ⟨x0, x1, x2⟩ := pk_f3 B1
  go_enter Tryz.func9, Tryz.ntmps9
  go_upto_region 1 with fail
  refine gen_w g0 ?_
  clear g0
  intro W0 g0
  by_cases hns : d.segments.length ≤ 200
  rotate_left
  · have HN := Lib.hid (checkB_a (d := d) (by simp [mainB, hns]))
    go_wp2_with fail
    go_ret
    exact ⟨ret_bool HN.out.symm, HG.out.below g0⟩
  go_wp2_with fail
  refine Calls.mono (impl_CodeSize d _ _ (HBR.out.below (HG.out.below g0)) hz) ?_
  rintro e w1 ⟨rfl, hb⟩
  replace g0 := HG.out.step g0 hb
  clear hb
  by_cases hsz : sizeC d.segments ≤ 1000
  rotate_left
  · have HN := Lib.hid (checkB_a (d := d) (by simp [mainB, hsz]))
    go_wp2_with fail
    go_ret
    exact ⟨ret_bool HN.out.symm, HG.out.below g0⟩
  by_cases hlen : d.main.length = d.quiet.length
  rotate_left
  · have HN := Lib.hid (checkB_a (d := d) (by simp [mainB, hlen]))
    have b1 : ((d.main.length : Int) != (d.quiet.length : Int)) = true := by simp; omega
    have b2 : (d.main.length != d.quiet.length) = true := by simp; omega
    clear hlen
    go_wp2_with fail
    go_ret
    exact ⟨ret_bool HN.out.symm, HG.out.below g0⟩
  have HLN := Lib.hid hlen
  have b1 : ((d.main.length : Int) != (d.quiet.length : Int)) = false := by simp [hlen]
  have b2 : (d.main.length != d.quiet.length) = false := by simp [hlen]
  clear hlen
  by_cases hml : d.main.length ≤ 200
  rotate_left
  · have HN := Lib.hid (checkB_a (d := d) (by simp [mainB, hml]))
    go_wp2_with fail
    go_ret
    exact ⟨ret_bool HN.out.symm, HG.out.below g0⟩
  have HMB := Lib.hid (show mainB d = true by have h9 := HLN.out; simp [mainB, hns, hsz, HLN.out]; omega)
  go_wp2_with fail
  clear b1 b2
  go_loopw [33] (fun i wr => ∃ j : Nat, j ≤ d.main.length ∧ i = .int .i64 j ∧ Hid (∀ i (h : i < d.main.length), i < j → 0 ≤ d.main[i] ∧ d.main[i] ≤ (d.segments.length : Int) - 1) ∧ Ok G wr) (fun i _ => d.main.length - (intOf i).toNat)
  case atStart => exact ⟨0, Nat.zero_le _, rfl, fun i h hi => absurd hi (by omega), g0⟩
  case round =>
    clear g0
    obtain ⟨j, hj, rfl, HA, g0⟩ := hrel
    by_cases hlt : j < d.main.length
    · obtain ⟨b0, o0, rfl, hbl0, hc0, _, _⟩ := HM.out j hlt
      have y0 := fun W (h : Ok G W) => ((HG.out.below h).cell (p := ⟨b0, o0 + j, none⟩) hbl0).trans hc0
      clear hc0
      by_cases p1 : d.main[j] < 0
      · have HN := Lib.hid (checkB_b (inB_no j hlt (fun h => by omega)))
        have b1 : decide (d.main[j] < 0) = true := by simp [p1]
        clear p1
        go_wp2_with fail
        go_ret
        exact ⟨ret_bool HN.out.symm, HG.out.below g0⟩
      by_cases p2 : (d.segments.length : Int) ≤ d.main[j]
      · have HN := Lib.hid (checkB_b (inB_no j hlt (fun h => by omega)))
        have b1 : decide (d.main[j] < 0) = false := by simp; omega
        have b2 : decide ((d.segments.length : Int) ≤ d.main[j]) = true := by simp [p2]
        clear p1 p2
        go_wp2_with fail
        go_ret
        exact ⟨ret_bool HN.out.symm, HG.out.below g0⟩
      have HY := Lib.hid (show 0 ≤ d.main[j] ∧ d.main[j] ≤ (d.segments.length : Int) - 1 by omega)
      have b1 : decide (d.main[j] < 0) = false := by simp; omega
      have b2 : decide ((d.segments.length : Int) ≤ d.main[j]) = false := by simp; omega
      clear p1 p2
      go_wp2_with fail
      go_roundw
      case rel => exact ⟨j + 1, by omega, by go_num, fun i h hi => by (rcases Nat.lt_succ_iff_lt_or_eq.1 hi with h3 | rfl); exact HA.out i h h3; exact HY.out, g0⟩
      case measure => simp [intOf]; omega
    · obtain rfl : j = d.main.length := by omega
      have HIN := Lib.hid (inB_yes (fun i h => HA.out i h h))
      clear HA
      go_wp2_with fail
      clear hj hlt
      go_loopw [50] (fun i wr => ∃ j : Nat, j ≤ d.segments.length ∧ i = .int .i64 j ∧ Hid (∀ i (h : i < d.segments.length), i < j → segB d.segments.length i d.segments[i] = true) ∧ Ok G wr) (fun i _ => d.segments.length - (intOf i).toNat)
      case atStart => exact ⟨0, Nat.zero_le _, rfl, fun i h hi => absurd hi (by omega), g0⟩
      case round =>
        clear g0
        obtain ⟨j, hj, rfl, HA, g0⟩ := hrel
        by_cases hlt : j < d.segments.length
        · have hni := size_at d.segments j hlt
          have HNI := Lib.hid (show d.segments[j].instrs.length ≤ 1000 by omega)
          clear hni
          go_wp2_with fail
          refine Calls.mono (impl_segmentRight d _ j _ (HBR.out.below (HG.out.below g0)) hlt hz HNI.out hns) ?_
          rintro e w9 ⟨rfl, hb⟩
          replace g0 := HG.out.step g0 hb
          clear hb
          cases e0 : segB d.segments.length j d.segments[j]
          · have HN := Lib.hid (checkB_c (segsB_no j hlt e0))
            clear e0
            go_wp2_with fail
            go_ret
            exact ⟨ret_bool HN.out.symm, HG.out.below g0⟩
          · have HY := Lib.hid e0
            clear e0
            go_wp2_with fail
            go_roundw
            case rel => exact ⟨j + 1, by omega, by go_num, fun i h hi => by (rcases Nat.lt_succ_iff_lt_or_eq.1 hi with h3 | rfl); exact HA.out i h h3; exact HY.out, g0⟩
            case measure => simp [intOf]; omega
        · have HSB := Lib.hid (show segsB d = true from decide_eq_true fun i h => HA.out i h (by omega))
          have HRO := Lib.hid (refs_ok HIN.out HSB.out)
          have HN := Lib.hid (checkB_d HMB.out HIN.out HSB.out)
          go_wp2_with fail
          refine Calls.mono (impl_referredOnce d _ _ (HBR.out.below (HG.out.below g0)) HRO.out.1 hns hml HRO.out.2) ?_
          rintro e w9 ⟨rfl, hb⟩
          replace g0 := HG.out.step g0 hb
          clear hb
          go_wp2_with fail
          go_ret
          exact ⟨ret_bool HN.out.symm, HG.out.below g0⟩

set_option maxHeartbeats 16000000 in
theorem spec_CheckCode (d : CodeD) (cs : List Value) (w : World) (h : BytecodeR w cs d) (hz : szBytecode d ≤ 1048576) :
    Calls Tryz.prog 7 #[.agg cs.toArray] w (RetB (checkB d) w) := by
  have HBR := Lib.hid h
  obtain ⟨v0, v1, v2, rfl, q0, q1, q2⟩ := h
  obtain ⟨A, c, rfl, hlc, hm, HC⟩ := SlR.open_ q0
  obtain ⟨A1, c1, rfl, l1, m1, HM⟩ := Ints.open_ q1
  obtain ⟨A2, c2, rfl, l2, m2, _⟩ := Bools.open_ q2
  clear q0 q1 q2
  unfold maxLen at hm m1 m2
  obtain ⟨G, g0, HG, B1⟩ := good1 w 31 [.slice A d.segments.length c, .slice A1 d.main.length c1, .slice A2 d.quiet.length c2]
  obtain ⟨x0, x1, x2⟩ := pk_f3 B1
  go_enter Tryz.func7, Tryz.ntmps7
  go_upto_region 1 with fail
  refine gen_w g0 ?_
  clear g0
  intro W0 g0
  by_cases hns : d.segments.length ≤ 200
  rotate_left
  · have HN := Lib.hid (checkB_a (d := d) (by simp [mainB, hns]))
    go_wp2_with fail
    go_ret
    exact ⟨ret_bool HN.out.symm, HG.out.below g0⟩
  go_wp2_with fail
  refine Calls.mono (spec_CodeSize d _ _ (HBR.out.below (HG.out.below g0)) hz) ?_
  rintro e w1 ⟨rfl, hb⟩
  replace g0 := HG.out.step g0 hb
  clear hb
  by_cases hsz : sizeC d.segments ≤ 1000
  rotate_left
  · have HN := Lib.hid (checkB_a (d := d) (by simp [mainB, hsz]))
    go_wp2_with fail
    go_ret
    exact ⟨ret_bool HN.out.symm, HG.out.below g0⟩
  by_cases hlen : d.main.length = d.quiet.length
  rotate_left
  · have HN := Lib.hid (checkB_a (d := d) (by simp [mainB, hlen]))
    have b1 : ((d.main.length : Int) != (d.quiet.length : Int)) = true := by simp; omega
    have b2 : (d.main.length != d.quiet.length) = true := by simp; omega
    clear hlen
    go_wp2_with fail
    go_ret
    exact ⟨ret_bool HN.out.symm, HG.out.below g0⟩
  have HLN := Lib.hid hlen
  have b1 : ((d.main.length : Int) != (d.quiet.length : Int)) = false := by simp [hlen]
  have b2 : (d.main.length != d.quiet.length) = false := by simp [hlen]
  clear hlen
  by_cases hml : d.main.length ≤ 200
  rotate_left
  · have HN := Lib.hid (checkB_a (d := d) (by simp [mainB, hml]))
    go_wp2_with fail
    go_ret
    exact ⟨ret_bool HN.out.symm, HG.out.below g0⟩
  have HMB := Lib.hid (show mainB d = true by have h9 := HLN.out; simp [mainB, hns, hsz, HLN.out]; omega)
  obtain ⟨C9, hC9⟩ : ∃ C9 : List Value, C9 = [.slice A d.segments.length c, .slice A1 d.main.length c1, .slice A2 d.quiet.length c2] := ⟨_, rfl⟩
  have HC9 := Lib.hid hC9
  clear hC9
  have hmk := run_mk (P := Tryz.prog) w1 23 3 (.int .i64 0) 1 8 Tryz.underlying23 info_int d.segments.length (by omega) (by omega)
  rw [Nat.mul_one] at hmk
  go_upto_region 4 with fail
  clear b1 b2 hmk
  have HU := Lib.hid (show Ok (US w w w.heap.size 31 C9 w1.heap.size d.segments.length (preM d 0)) (w1.alloc (.cells (madeCells #[Value.int .i64 0] d.segments.length) 3)) from
    ⟨by rw [HC9.out]; exact (B1.out _ g0).alloc _, by rw [show preM d 0 = [] from rfl, usedL_nil]; exact Blk.new _ _ _, (HG.out.below g0).alloc (HG.out.below g0).size _, grown_of_below ((HG.out.below g0).alloc (HG.out.below g0).size _) _, (HG.out.below g0).size, by have := (B1.out _ g0).lt; omega, by simp; have := (HG.out.below g0).size; omega⟩)
  refine gen_w HU.out ?_
  clear HU g0 x0 x1 x2 B1 HG
  intro W2 F
  generalize w1.heap.size = K at F ⊢
  go_wp2_with fail
  go_loopw [4] (fun i wr => ∃ j : Nat, j ≤ d.main.length ∧ i = .int .i64 j ∧ Hid (∀ i (h : i < d.main.length), i < j → 0 ≤ d.main[i] ∧ d.main[i] ≤ (d.segments.length : Int) - 1) ∧ Ok (US w w w.heap.size 31 C9 K d.segments.length (preM d j)) wr) (fun i _ => d.main.length - (intOf i).toNat)
  case atStart => exact ⟨0, Nat.zero_le _, rfl, fun i h hi => absurd hi (by omega), F⟩
  case round =>
    clear F
    obtain ⟨j, hj, rfl, HA, F⟩ := hrel
    have x0 := F.gb.cell 0 (.slice A d.segments.length c) (by rw [HC9.out]; rfl)
    have x1 := F.gb.cell 1 (.slice A1 d.main.length c1) (by rw [HC9.out]; rfl)
    by_cases hlt : j < d.main.length
    · obtain ⟨b0, o0, rfl, hbl0, hc0, _, _⟩ := HM.out j hlt
      have y0 := (F.b0.cell (p := ⟨b0, o0 + j, none⟩) hbl0).trans hc0
      clear hc0
      have hj1 : (j : Int) < (d.main.length : Int) := by omega
      have w2 : IntKind.i64.wrap ((d.segments.length : Int) - 1) = (d.segments.length : Int) - 1 := IntWalk.i64_in _ (by omega)
      obtain ⟨GX, hGX⟩ : ∃ GX : World → Prop, GX = fun V => V.cell? ⟨w.heap.size, 0, none⟩ = some (.slice A d.segments.length c) ∧ V.cell? ⟨w.heap.size, 1, none⟩ = some (.slice (some ⟨b0, o0, none⟩) d.main.length c1) ∧ V.cell? ⟨b0, o0 + j, none⟩ = some (.int .i64 d.main[j]) := ⟨_, rfl⟩
      have r0 := fun V (h : Ok GX V) => (show V.cell? ⟨w.heap.size, 0, none⟩ = some (.slice A d.segments.length c) by rw [hGX] at h; exact h.1)
      have r1 := fun V (h : Ok GX V) => (show V.cell? ⟨w.heap.size, 1, none⟩ = some (.slice (some ⟨b0, o0, none⟩) d.main.length c1) by rw [hGX] at h; exact h.2.1)
      have r2 := fun V (h : Ok GX V) => (show V.cell? ⟨b0, o0 + j, none⟩ = some (.int .i64 d.main[j]) by rw [hGX] at h; exact h.2.2)
      have gX : Ok GX wr.drew := by rw [hGX]; exact ⟨x0, x1, y0⟩
      clear hGX
      go_upto_region 7 with fail
      refine wp_region_plan (S := Ok GX) (by kernel_rfl) [(true, 0), (true, 1), (true, 2), (true, 3), (true, 4), (true, 5), (true, 6), (true, 7), (true, 8), (false, 9), (true, 10)] (by kernel_rfl) gX ?_
      repeat (refine dyn_take rfl rfl (fun W g => by go_simp; rfl) ?_; go_simp)
      refine dyn_act rfl rfl (fun K9 hK => ?_)
      go_wp2_with fail
      refine Calls.mono (spec_l1In d.main[j] 0 ((d.segments.length : Int) - 1) _) ?_
      rintro e w9 ⟨rfl, hw9⟩
      cases e3 : (decide (0 ≤ d.main[j]) && decide (d.main[j] ≤ (d.segments.length : Int) - 1))
      · have HN := Lib.hid (checkB_b (inB_no j hlt (fun h => by simp [h.1, h.2] at e3)))
        clear e3
        subst hw9
        simp only []
        refine hK.out _ _ gX ?_
        clear hK
        repeat (refine dyn_take rfl rfl (fun W g => by go_simp; rfl) ?_; go_simp)
        refine dyn_done ?_
        clear w2
        go_wp2_with fail
        go_ret
        exact ⟨ret_bool HN.out.symm, F.b0.drew⟩
      have HY := Lib.hid (show 0 ≤ d.main[j] ∧ d.main[j] ≤ (d.segments.length : Int) - 1 by simpa using e3)
      clear e3
      subst hw9
      simp only []
      refine hK.out _ _ gX ?_
      clear hK
      repeat (refine dyn_take rfl rfl (fun W g => by go_simp; rfl) ?_; go_simp)
      refine dyn_done ?_
      clear w2 gX r0 r1 r2
      have HS := Lib.hid (preM_succ d j hlt)
      obtain ⟨a, ha⟩ := Int.eq_ofNat_of_zero_le HY.out.1
      rw [ha] at y0 HS
      have han : a < d.segments.length := by have := HY.out.2; omega
      have han2 : (a : Int) < (d.segments.length : Int) := by omega
      clear ha
      obtain ⟨m, hm⟩ : ∃ m : Nat, (preM d j).count (a : Int) = m := ⟨_, rfl⟩
      have hml2 : m ≤ 10000000 := by
        have h1 := count_len (preM d j) a
        have h2 : (preM d j).length ≤ d.main.length := by simp only [preM, List.length_take]; omega
        omega
      have k0 := F.kn.cell a _ (usedL_at _ d.segments.length a han)
      have k1 := F.kn.frozen a
      rw [hm] at k0
      have HMM := Lib.hid hm
      clear hm
      have w1 : IntKind.i64.wrap ((m : Int) + 1) = (m : Int) + 1 := IntWalk.i64_in _ (by omega)
      obtain ⟨GY, hGY⟩ : ∃ GY : World → Prop, GY = fun V => V.cell? ⟨w.heap.size, 1, none⟩ = some (.slice (some ⟨b0, o0, none⟩) d.main.length c1) ∧ V.cell? ⟨b0, o0 + j, none⟩ = some (.int .i64 a) ∧ V.cell? ⟨K, a, none⟩ = some (.int .i64 m) := ⟨_, rfl⟩
      have p1 := fun V (h : Ok GY V) => (show V.cell? ⟨w.heap.size, 1, none⟩ = some (.slice (some ⟨b0, o0, none⟩) d.main.length c1) by rw [hGY] at h; exact h.1)
      have p2 := fun V (h : Ok GY V) => (show V.cell? ⟨b0, o0 + j, none⟩ = some (.int .i64 a) by rw [hGY] at h; exact h.2.1)
      have p3 := fun V (h : Ok GY V) => (show V.cell? ⟨K, a, none⟩ = some (.int .i64 m) by rw [hGY] at h; exact h.2.2)
      have gY : Ok GY wr.drew.drew := by rw [hGY]; exact ⟨x1, y0, k0⟩
      clear hGY
      go_upto_region 9 with fail
      refine wp_region_phase2 (T := Ok GY) (by kernel_rfl) [(2, 0), (2, 1), (1, 2), (2, 3), (2, 4), (1, 5), (2, 6), (2, 7), (1, 8), (2, 9), (2, 10), (1, 11), (2, 12), (1, 13), (2, 14), (2, 15), (0, 16)] [16] (by kernel_rfl) gY ?_
      repeat ((first | (refine dynL_take rfl rfl (fun W g => by go_simp; rfl) ?_) | (refine dynL_pure rfl rfl (fun W => by go_simp; rfl) ?_)); go_simp)
      refine dynL_last rfl (by simp) rfl (fun K9 hK => ?_)
      go_wp2_with fail
      refine hK.out _ _ ?_
      clear hK p1 p2 p3 gY k0 k1 w1
      refine dynL_done ?_
      have F2 := Lib.hid (show Ok (US w w w.heap.size 31 C9 K d.segments.length (preM d (j + 1))) _ from by
        have h9 := (US.drew (US.drew F)).store a
        rw [HMM.out, ← HS.out] at h9
        exact h9)
      go_wp2_with fail
      go_roundw
      case rel => exact ⟨j + 1, by omega, by go_num, fun i h hi => by (rcases Nat.lt_succ_iff_lt_or_eq.1 hi with h3 | rfl); exact HA.out i h h3; exact HY.out, F2.out⟩
      case measure => simp [intOf]; omega
    · obtain rfl : j = d.main.length := by omega
      have HIN := Lib.hid (inB_yes (fun i h => HA.out i h h))
      rw [← preS_zero] at F
      clear HA
      go_wp2_with fail
      clear hj hlt x0 x1
      go_loopw [5] (fun i wr => ∃ j : Nat, j ≤ d.segments.length ∧ i = .int .i64 j ∧ Hid (∀ i (h : i < d.segments.length), i < j → segB d.segments.length i d.segments[i] = true) ∧ Ok (US w w w.heap.size 31 C9 K d.segments.length (preS d j)) wr) (fun i _ => d.segments.length - (intOf i).toNat)
      case atStart => exact ⟨0, Nat.zero_le _, rfl, fun i h hi => absurd hi (by omega), F⟩
      case round =>
        clear F
        obtain ⟨j, hj, rfl, HA, F⟩ := hrel
        have x0 := F.gb.cell 0 (.slice A d.segments.length c) (by rw [HC9.out]; rfl)
        have x1 := F.gb.cell 1 (.slice A1 d.main.length c1) (by rw [HC9.out]; rfl)
        have x2 := F.gb.cell 2 (.slice A2 d.quiet.length c2) (by rw [HC9.out]; rfl)
        by_cases hlt : j < d.segments.length
        · have hni := size_at d.segments j hlt
          have HNI := Lib.hid (show d.segments[j].instrs.length ≤ 1000 by omega)
          clear hni
          go_wp2_with fail
          refine Calls.mono (spec_l32Segment d _ j _ (HBR.out.below F.b0) hlt hz HNI.out hns) ?_
          rintro e w9 ⟨rfl, hb⟩
          replace F := US.step F hb
          clear hb x0 x1 x2
          cases e0 : segB d.segments.length j d.segments[j]
          · have HN := Lib.hid (checkB_c (segsB_no j hlt e0))
            clear e0
            go_wp2_with fail
            go_ret
            exact ⟨ret_bool HN.out.symm, F.b0⟩
          have HY := Lib.hid e0
          have HSR := Lib.hid (segB_refs e0)
          clear e0
          obtain ⟨b, off, gc, rfl, hbl, _, hat, hr⟩ := HC.out j hlt
          have HGR := Lib.hid hr
          obtain ⟨u0, u1, u2, rfl, r0, r1, r2⟩ := hr
          obtain ⟨L0, n0, rfl, _⟩ := Txts.open_ r0
          obtain ⟨D0, e0, rfl, _⟩ := Ints.open_ r1
          obtain ⟨I0, f0, rfl, _⟩ := SlR.open_ r2
          clear r0 r1 r2
          have x0 := F.gb.cell 0 (.slice (some ⟨b, off, none⟩) d.segments.length c) (by rw [HC9.out]; rfl)
          have z0 := (F.b0.cell (p := ⟨b, off + j * 3, none⟩) hbl).trans (by simpa using hat 0 _ rfl)
          have z1 := (F.b0.cell (p := ⟨b, off + j * 3 + 1, none⟩) hbl).trans (hat 1 _ rfl)
          have z2 := (F.b0.cell (p := ⟨b, off + j * 3 + 2, none⟩) hbl).trans (hat 2 _ rfl)
          clear hat
          have hpl := Lib.hid (preS_len (d := d) j hj (fun i hi hij => ⟨(segB_refs (HA.out i hi hij)).2.2, by have := size_at d.segments i hi; omega⟩))
          go_wp2_with fail
          refine Calls.mono (spec_l32Uses d.segments[j] _ K d.segments.length (preS d j) w _ HGR.out F.b0 F.ne.1 F.kn (by omega) HSR.out.1 HSR.out.2.1 (by have := hpl.out; have := HSR.out.2.2; have := HNI.out; omega)) ?_
          rintro e w10 ⟨rfl, hk, hg⟩
          have F2 := Lib.hid (show Ok (US w w w.heap.size 31 C9 K d.segments.length (preS d (j + 1))) w10 from by
            rw [preS_succ d j hlt, List.append_assoc, ← refsG_all]
            exact US.grow F hk hg)
          clear hk hg F x0 z0 z1 z2
          go_wp2_with fail
          go_roundw
          case rel => exact ⟨j + 1, by omega, by go_num, fun i h hi => by (rcases Nat.lt_succ_iff_lt_or_eq.1 hi with h3 | rfl); exact HA.out i h h3; exact HY.out, F2.out⟩
          case measure => simp [intOf]; omega
        · have HSB := Lib.hid (show segsB d = true from decide_eq_true fun i h => HA.out i h (by omega))
          have HRO := Lib.hid (refs_ok HIN.out HSB.out)
          have HN := Lib.hid (checkB_d HMB.out HIN.out HSB.out)
          obtain rfl : j = d.segments.length := by omega
          rw [preS_end] at F
          go_wp2_with fail
          clear hj hlt x0 x1 x2 HA
          go_loopw [6] (fun i wr => ∃ j : Nat, j ≤ d.segments.length ∧ i = .int .i64 j ∧ Hid (∀ i : Nat, i < j → (refsB d).count (i : Int) ≤ 1) ∧ Ok (US w w w.heap.size 31 C9 K d.segments.length (refsB d)) wr) (fun i _ => d.segments.length - (intOf i).toNat)
          case atStart => exact ⟨0, Nat.zero_le _, rfl, fun i hi => absurd hi (by omega), F⟩
          case round =>
            clear F
            obtain ⟨j, hj, rfl, HA, F⟩ := hrel
            by_cases hlt : j < d.segments.length
            · have k0 := F.kn.cell j _ (usedL_at _ d.segments.length j hlt)
              by_cases hc1 : 1 < (refsB d).count (j : Int)
              · have HND := Lib.hid (nodup_count_no hc1)
                have hb1 : decide ((1 : Int) < ((refsB d).count (j : Int) : Int)) = true := by simp; omega
                clear hc1
                go_wp2_with fail
                go_ret
                exact ⟨ret_bool (by rw [HN.out, HND.out]), F.b0⟩
              · have HC1 := Lib.hid (show (refsB d).count (j : Int) ≤ 1 by omega)
                have hb1 : decide ((1 : Int) < ((refsB d).count (j : Int) : Int)) = false := by simp; omega
                clear hc1
                go_wp2_with fail
                go_roundw
                case rel => exact ⟨j + 1, by omega, by go_num, fun i hi => by (rcases Nat.lt_succ_iff_lt_or_eq.1 hi with h3 | rfl); exact HA.out i h3; exact HC1.out, F⟩
                case measure => simp [intOf]; omega
            · have HND := Lib.hid (nodup_count (n := d.segments.length) HRO.out.1 (fun i hi => HA.out i (by omega)))
              go_wp2_with fail
              go_ret
              exact ⟨ret_bool (by rw [HN.out, HND.out]), F.b0⟩
end Go.Proofs.YtjdfancbmjnjfaaGreat
