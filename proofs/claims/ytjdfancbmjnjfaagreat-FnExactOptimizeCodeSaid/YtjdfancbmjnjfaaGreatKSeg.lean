/-
  Merged texts: Chk10, Chk11.
-/
import Derived.Test.YtjdfancbmjnjfaaGreatChk3
import Derived.Test.YtjdfancbmjnjfaaGreatChk7
import Derived.Test.YtjdfancbmjnjfaaGreatKCode
namespace Go.Proofs.YtjdfancbmjnjfaaGreat
set_option maxRecDepth 100000
set_option maxRecDepth 100000
open Go.ChangeShapes Go.WideShapes Go.ChangeAt Go.RowKit Go.Deep
set_option linter.unusedVariables false
set_option linter.unusedSimpArgs false

theorem Txts.take {w : World} {A : Option Addr} {n c : Nat} {l : List (List UInt8)} (h : Txts w (.slice A n c) l) (i : Nat) (hi : i ≤ l.length) : Txts w (.slice A i c) (l.take i) := by
  obtain ⟨A', c', e, hn, hc, hx⟩ := h
  injection e with e1 e2 e3
  subst e1 e2 e3
  have hl : (l.take i).length = i := by rw [List.length_take]; omega
  refine ⟨A, c, by rw [hl], by omega, hc, fun h0 => ?_⟩
  obtain ⟨b, off, rfl, hlt, hat⟩ := hx (by omega)
  refine ⟨b, off, rfl, hlt, fun k hk => ?_⟩
  obtain ⟨cs, h1, h2, h3⟩ := hat k (by omega)
  exact ⟨cs, h1, h2, by rw [List.getElem_take]; exact h3⟩


def refI (x : InstrD) : Int := if refOp x.op then x.arg else -1
set_option maxHeartbeats 1000000 in
theorem impl_refersTo (d : InstrD) (cs : List Value) (w : World) (h : InstrR w cs d) :
    Calls Tryz.prog 58 #[.agg cs.toArray] w (RetI (refI d) w) := by
  obtain ⟨v4, v51, v52, v53, v54, v55, rfl, _⟩ := h
  have HB := Lib.hid (fun o => (Below.refl w.heap.size w).alloc (Nat.le_refl _) o)
  cases q3 : (d.op == 3)
  rotate_left
  · have HN := Lib.hid (show refI d = d.arg by simp [refI, refOp, q3])
    go_enter Tryz.func58, Tryz.ntmps58
    go_wp2_with fail
    go_ret
    exact ⟨ret_int HN.out.symm, HB.out _⟩
  cases q4 : (d.op == 4)
  rotate_left
  · have HN := Lib.hid (show refI d = d.arg by simp [refI, refOp, q4])
    go_enter Tryz.func58, Tryz.ntmps58
    go_wp2_with fail
    go_ret
    exact ⟨ret_int HN.out.symm, HB.out _⟩
  cases q28 : (d.op == 28)
  rotate_left
  · have HN := Lib.hid (show refI d = d.arg by simp [refI, refOp, q28])
    go_enter Tryz.func58, Tryz.ntmps58
    go_wp2_with fail
    go_ret
    exact ⟨ret_int HN.out.symm, HB.out _⟩
  cases q31 : (d.op == 31)
  rotate_left
  · have HN := Lib.hid (show refI d = d.arg by simp [refI, refOp, q31])
    go_enter Tryz.func58, Tryz.ntmps58
    go_wp2_with fail
    go_ret
    exact ⟨ret_int HN.out.symm, HB.out _⟩
  · have HN := Lib.hid (show refI d = -1 by simp [refI, refOp, q3, q4, q28, q31])
    go_enter Tryz.func58, Tryz.ntmps58
    go_wp2_with fail
    go_ret
    exact ⟨ret_int HN.out.symm, HB.out _⟩

/-! ### The plain law of an instruction's place -/
theorem insI_no {nseg k pc n : Nat} {x : InstrD} (h : insI x = false) : insB nseg k pc n x = false := by
  unfold insI at h
  rw [Bool.and_eq_false_iff] at h
  rcases h with h | h
  · simp [insB, h]
  · simp only [Bool.or_eq_false_iff, useA] at h
    obtain ⟨⟨h1, h2⟩, h3⟩ := h
    have h13 : x.op ≠ 13 := by intro e; rw [e] at h2; exact absurd h2 (by decide)
    unfold insB argB
    rw [h1, h2]
    simp only [Bool.false_eq_true, if_false, if_neg h13, h3, Bool.and_false]
theorem insI_yes {nseg k pc n : Nat} {x : InstrD} (h : insI x = true) : 0 ≤ x.op ∧ x.op ≤ 33 ∧ insB nseg k pc n x = argB nseg k pc n x.op x.arg ∧ (refOp x.op = false → jmpOp x.op = false → x.arg = 0) := by
  unfold insI at h
  rw [Bool.and_eq_true] at h
  have h1 := h.1
  unfold insR at h1
  simp only [Bool.and_eq_true, decide_eq_true_eq] at h1
  refine ⟨h1.1.1.1.1.1, h1.1.1.1.1.2, by unfold insB; rw [h.1, Bool.true_and], fun r j => ?_⟩
  have h2 := h.2
  rw [useA, r, j] at h2
  simpa using h2
theorem insB_facts {nseg k pc n : Nat} {x : InstrD} (h : insB nseg k pc n x = true) : 0 ≤ x.op ∧ x.op ≤ 33 ∧ (jmpOp x.op = true → 0 ≤ x.arg ∧ x.arg ≤ n) ∧ (0 ≤ x.count ∧ x.count ≤ 200) ∧ x.labels.length ≤ 200 := by
  unfold insB at h
  rw [Bool.and_eq_true] at h
  obtain ⟨h1, h2⟩ := h
  unfold insR at h1
  simp only [Bool.and_eq_true, decide_eq_true_eq] at h1
  obtain ⟨⟨⟨⟨⟨a0, a1⟩, _⟩, hl⟩, c0, c1⟩, _⟩ := h1
  refine ⟨a0, a1, argB_jump h2, ⟨c0, ?_⟩, ?_⟩
  · unfold topC at c1
    split at c1
    · omega
    · split at c1 <;> omega
  · unfold lblB at hl
    split at hl
    · simp only [Bool.and_eq_true, decide_eq_true_eq] at hl; exact hl.2
    · split at hl
      · simp only [Bool.and_eq_true, decide_eq_true_eq] at hl; omega
      · split at hl
        · simp only [Bool.and_eq_true, decide_eq_true_eq] at hl; omega
        · cases hh : x.labels with
          | nil => simp
          | cons a b => rw [hh] at hl; cases hl
theorem lbsB_step {nseg k : Nat} {g : SegD} (h1 : g.labels.length = g.defaults.length) (h2 : g.labels.length ≤ 200) (h3 : ∀ i (h : i < g.labels.length), lb1 nseg k g i = true) : lbsB nseg k g = true := by
  unfold lbsB
  rw [decide_eq_true h1, decide_eq_true h2, decide_eq_true h3]
  rfl
theorem lbsB_no {nseg k : Nat} {g : SegD} (i : Nat) (h : i < g.labels.length) (h3 : lb1 nseg k g i = false) : lbsB nseg k g = false := by
  unfold lbsB
  rw [Bool.and_eq_false_iff]
  right
  refine decide_eq_false fun hh => ?_
  rw [hh i h] at h3
  cases h3
theorem insAll_no {nseg k : Nat} {g : SegD} (i : Nat) (h : i < g.instrs.length) (h3 : insB nseg k i g.instrs.length g.instrs[i] = false) : insAll nseg k g = false := by
  refine decide_eq_false fun hh => ?_
  rw [hh i h] at h3
  cases h3
theorem insAll_facts {nseg k : Nat} {g : SegD} (h : insAll nseg k g = true) : ∀ x ∈ g.instrs, 0 ≤ x.op ∧ x.op ≤ 33 ∧ (jmpOp x.op = true → 0 ≤ x.arg ∧ x.arg ≤ g.instrs.length) ∧ (0 ≤ x.count ∧ x.count ≤ 200) ∧ x.labels.length ≤ 200 := by
  intro x hx
  obtain ⟨i, hi, rfl⟩ := List.getElem_of_mem hx
  exact insB_facts (of_decide_eq_true h i hi)
theorem lb1_eq {nseg k : Nat} {g : SegD} (i : Nat) (h : i < g.labels.length) (h2 : i < g.defaults.length) :
    lb1 nseg k g i = (isNameB g.labels[i] && !hasB (g.labels.take i) g.labels[i] && (g.defaults[i] == -1 || (decide ((k : Int) + 1 ≤ g.defaults[i]) && decide (g.defaults[i] ≤ (nseg : Int) - 1)))) := by
  unfold lb1
  rw [List.getElem?_eq_getElem h, List.getElem?_eq_getElem h2]
  rfl
end Go.Proofs.YtjdfancbmjnjfaaGreat
namespace Go.Proofs.YtjdfancbmjnjfaaGreat
set_option maxRecDepth 100000
open Go.ChangeShapes Go.WideShapes Go.ChangeAt Go.RowKit Go.Deep
set_option linter.unusedVariables false
set_option linter.unusedSimpArgs false

theorem seg_small {d : CodeD} {k : Nat} (hk : k < d.segments.length) (hz : szBytecode d ≤ 1048576) : szSegment d.segments[k] ≤ 1048576 := by
  have := szS_at szSegment d.segments k hk
  unfold szBytecode at hz
  omega
theorem ins_small {g : SegD} {k : Nat} (hk : k < g.instrs.length) (hz : szSegment g ≤ 1048576) : szInstr g.instrs[k] ≤ 1048576 := by
  have := szS_at szInstr g.instrs k hk
  unfold szSegment at hz
  omega
set_option maxHeartbeats 16000000 in
theorem impl_segmentRight (d : CodeD) (cs : List Value) (k : Nat) (w : World) (h : BytecodeR w cs d) (hk : k < d.segments.length) (hz : szBytecode d ≤ 1048576) (hni : d.segments[k].instrs.length ≤ 1000) (hns : d.segments.length ≤ 200) :
    Calls Tryz.prog 28 #[.agg cs.toArray, .int .i64 k] w (RetB (segB d.segments.length k d.segments[k]) w) := by
  have hsz := seg_small hk hz
  clear hz
  obtain ⟨v0, v1, v2, rfl, q0, q1, q2⟩ := h
  obtain ⟨A, c, rfl, hlc, hm, HC⟩ := SlR.open_ q0
  clear q0 q1 q2
  unfold maxLen at hm
  obtain ⟨b, off, sc, rfl, hbl, _, hat, hr⟩ := HC.out k hk
  have HGR := Lib.hid hr
  obtain ⟨u0, u1, u2, rfl, r0, r1, r2⟩ := hr
  obtain ⟨A0, c0, rfl, l0, m0, HL⟩ := Txts.open_ r0
  obtain ⟨A1, c1, rfl, l1, m1, HD⟩ := Ints.open_ r1
  obtain ⟨A2, c2, rfl, l2, m2, HI⟩ := SlR.open_ r2
  have HT := Lib.hid r0
  clear r0 r1 r2 HC
  unfold maxLen at m0 m1 m2
  generalize d.segments[k] = g at hat HGR HL HD HI HT hni hsz l0 l1 l2 ⊢
  obtain ⟨G, g0, HG, B1⟩ := good1 w 31 [.slice (some ⟨b, off, none⟩) d.segments.length c, v1, v2]
  obtain ⟨xs0, xs1, xs2⟩ := pk_f3 B1
  obtain ⟨z0, z1, z2⟩ := pk_e3 HG hbl hat
  clear hat
  go_enter Tryz.func28, Tryz.ntmps28
  go_upto_region 1 with fail
  refine gen_w g0 ?_
  clear g0
  intro W0 g0
  obtain ⟨G', g1, HG', B'⟩ := good1 W0 49 [.slice A0 g.labels.length c0, .slice A1 g.defaults.length c1, .slice A2 g.instrs.length c2]
  have hGG := fun W (h : Ok G' W) => HG.out.step g0 (HG'.out.below h)
  obtain ⟨y0, y1, y2⟩ := pk_f3 B'
  have ys0 := fun W (h : Ok G' W) => xs0 W (hGG W h)
  go_upto_region 2 with fail
  refine gen_w g1 ?_
  clear g1 z0 z1 z2 xs0 xs1 xs2
  intro W1 g1
  by_cases h200 : g.labels.length ≤ 200
  rotate_left
  · have HN := Lib.hid (show segB d.segments.length k g = false by rw [segB, (show lbsB d.segments.length k g = false by simp [lbsB, h200]), Bool.false_and, Bool.false_and])
    go_wp2_with fail
    go_ret
    exact ⟨ret_bool HN.out.symm, HG.out.below (hGG _ g1)⟩
  by_cases hlen : g.labels.length = g.defaults.length
  rotate_left
  · have HLN := Lib.hid hlen
    have b1 : ((g.labels.length : Int) != (g.defaults.length : Int)) = true := by simp; omega
    have b2 : (g.labels.length != g.defaults.length) = true := by simp; omega
    clear hlen
    have HN := Lib.hid (show segB d.segments.length k g = false by rw [segB, (show lbsB d.segments.length k g = false by simp [lbsB, HLN.out]), Bool.false_and, Bool.false_and])
    go_wp2_with fail
    go_ret
    exact ⟨ret_bool HN.out.symm, HG.out.below (hGG _ g1)⟩
  have HLN := Lib.hid hlen
  have hle : g.labels.length ≤ g.defaults.length := by omega
  have b1 : ((g.labels.length : Int) != (g.defaults.length : Int)) = false := by simp [hlen]
  have b2 : (g.labels.length != g.defaults.length) = false := by simp [hlen]
  clear hlen
  go_wp2_with fail
  clear b1 b2
  go_loopw [32] (fun i wr => ∃ j : Nat, j ≤ g.labels.length ∧ i = .int .i64 j ∧ Hid (∀ i (h : i < g.labels.length), i < j → lb1 d.segments.length k g i = true) ∧ Ok G' wr) (fun i _ => g.labels.length - (intOf i).toNat)
  case atStart => exact ⟨0, Nat.zero_le _, rfl, fun i h hi => absurd hi (by omega), g1⟩
  case round =>
    clear g1
    obtain ⟨j, hj, rfl, HA, g1⟩ := hrel
    by_cases hlt : j < g.labels.length
    · have hlt2 : j < g.defaults.length := by omega
      obtain ⟨b0, o0, rfl, hbl0, hc0, hsl⟩ := HL.out j hlt
      obtain ⟨b3, o3, rfl, hbl3, hc3, hi3, hi4⟩ := HD.out j hlt2
      have x0 := fun W (h : Ok G' W) => ((HG.out.below (hGG W h)).cell (p := ⟨b0, o0 + j, none⟩) hbl0).trans hc0
      have x1 := fun W (h : Ok G' W) => ((HG.out.below (hGG W h)).cell (p := ⟨b3, o3 + j, none⟩) hbl3).trans hc3
      clear hc0 hc3
      go_wp2_with fail
      refine Calls.mono (impl_IsName g.labels[j] _ hsl) ?_
      rintro e w9 ⟨rfl, rfl⟩
      cases e1 : isNameB g.labels[j]
      · have HN := Lib.hid (show segB d.segments.length k g = false by rw [segB, lbsB_no j hlt (by rw [lb1_eq j hlt hlt2]; simp [e1]), Bool.false_and, Bool.false_and])
        go_wp2_with fail
        go_ret
        exact ⟨ret_bool HN.out.symm, HG.out.below (hGG _ g1)⟩
      have E1 := Lib.hid e1
      clear e1
      go_wp2_with fail
      refine Calls.mono (impl_hasText (g.labels.take j) g.labels[j] _ _ ((HT.out.take j (by omega)).below (HG.out.below (hGG _ g1)))) ?_
      rintro e w9 ⟨rfl, rfl⟩
      cases e2 : hasB (g.labels.take j) g.labels[j]
      rotate_left
      · have HN := Lib.hid (show segB d.segments.length k g = false by rw [segB, lbsB_no j hlt (by rw [lb1_eq j hlt hlt2]; simp [e2]), Bool.false_and, Bool.false_and])
        go_wp2_with fail
        go_ret
        exact ⟨ret_bool HN.out.symm, HG.out.below (hGG _ g1)⟩
      have E2 := Lib.hid e2
      clear e2
      by_cases a1 : g.defaults[j] = -1
      · have A1' := Lib.hid a1
        have b1 : (g.defaults[j] != -1) = false := by simp [a1]
        clear a1
        have HY := Lib.hid (show lb1 d.segments.length k g j = true by rw [lb1_eq j hlt hlt2]; simp [E1.out, E2.out, A1'.out])
        go_wp2_with fail
        go_roundw
        case rel => exact ⟨j + 1, by omega, by go_num, fun i h hi => by (rcases Nat.lt_succ_iff_lt_or_eq.1 hi with h3 | rfl); exact HA.out i h h3; exact HY.out, g1⟩
        case measure => simp [intOf]; omega
      have A1' := Lib.hid a1
      have b1 : (g.defaults[j] != -1) = true := by simp [a1]
      clear a1
      by_cases p1 : g.defaults[j] ≤ k
      · have P1 := Lib.hid p1
        have b3 : decide (g.defaults[j] ≤ (k : Int)) = true := by simp [p1]
        clear p1
        have HN := Lib.hid (show segB d.segments.length k g = false by rw [segB, lbsB_no j hlt (by rw [lb1_eq j hlt hlt2]; have := P1.out; simp [E1.out, E2.out, A1'.out]; omega), Bool.false_and, Bool.false_and])
        go_wp2_with fail
        go_ret
        exact ⟨ret_bool HN.out.symm, HG.out.below (hGG _ g1)⟩
      have P1 := Lib.hid p1
      have b3 : decide (g.defaults[j] ≤ (k : Int)) = false := by simp; omega
      clear p1
      by_cases p2 : (d.segments.length : Int) ≤ g.defaults[j]
      · have P2 := Lib.hid p2
        have b4 : decide ((d.segments.length : Int) ≤ g.defaults[j]) = true := by simp [p2]
        clear p2
        have HN := Lib.hid (show segB d.segments.length k g = false by rw [segB, lbsB_no j hlt (by rw [lb1_eq j hlt hlt2]; have := P2.out; simp [E1.out, E2.out, A1'.out]; omega), Bool.false_and, Bool.false_and])
        go_wp2_with fail
        go_ret
        exact ⟨ret_bool HN.out.symm, HG.out.below (hGG _ g1)⟩
      have P2 := Lib.hid p2
      have b4 : decide ((d.segments.length : Int) ≤ g.defaults[j]) = false := by simp; omega
      clear p2
      have HY := Lib.hid (show lb1 d.segments.length k g j = true by rw [lb1_eq j hlt hlt2]; have := P1.out; have := P2.out; simp [E1.out, E2.out, A1'.out]; omega)
      go_wp2_with fail
      go_roundw
      case rel => exact ⟨j + 1, by omega, by go_num, fun i h hi => by (rcases Nat.lt_succ_iff_lt_or_eq.1 hi with h3 | rfl); exact HA.out i h h3; exact HY.out, g1⟩
      case measure => simp [intOf]; omega
    · have HLB := Lib.hid (lbsB_step HLN.out h200 (fun i h => HA.out i h (by omega)))
      obtain rfl : j = g.labels.length := by omega
      clear HA HL HD HT HLN
      go_wp2_with fail
      clear hj hlt
      go_loopw [73] (fun i wr => ∃ j : Nat, j ≤ g.instrs.length ∧ i = .int .i64 j ∧ Hid (∀ i (h : i < g.instrs.length), i < j → insB d.segments.length k i g.instrs.length g.instrs[i] = true) ∧ Ok G' wr) (fun i _ => g.instrs.length - (intOf i).toNat)
      case atStart => exact ⟨0, Nat.zero_le _, rfl, fun i h hi => absurd hi (by omega), g1⟩
      case round =>
        clear g1
        obtain ⟨j, hj, rfl, HA, g1⟩ := hrel
        by_cases hlt : j < g.instrs.length
        · obtain ⟨b0, o0, ic, rfl, hbl0, _, hat0, hr0⟩ := HI.out j hlt
          have HIR := Lib.hid hr0
          obtain ⟨A4, c4, A5, c5, A6, c6, A7, c7, A8, c8, A9, c9, rfl⟩ := hr0.slices
          clear hr0
          have hzx := ins_small hlt hsz
          obtain ⟨x, hx⟩ : ∃ x, g.instrs[j] = x := ⟨_, rfl⟩
          rw [hx] at hat0 HIR hzx
          have HXE := Lib.hid hx
          clear hx
          obtain ⟨G2, g2, HG2, B2⟩ := good1 wr 63 [.int .i64 x.op, .int .i64 x.arg, .int .i64 x.count, .string (str x.text), .slice A4 x.labels.length c4, .int .i64 x.value.kind, .slice A5 x.value.items.length c5, .slice A6 x.value.parts.length c6, .slice A7 x.value.names.length c7, .slice A8 x.value.cls.length c8, .slice A9 x.value.levels.length c9, .int .i64 x.value.code, .int .i64 x.value.env]
          have hG2 := fun W (h : Ok G2 W) => HG'.out.step g1 (HG2.out.below h)
          obtain ⟨p0, p1, p2, p3, p4, p5, p6, p7, p8, p9, p10, p11, p12⟩ := pk_f13 B2
          have ys0' := fun W (h : Ok G2 W) => ys0 W (hG2 W h)
          have y0' := fun W (h : Ok G2 W) => y0 W (hG2 W h)
          have y1' := fun W (h : Ok G2 W) => y1 W (hG2 W h)
          have y2' := fun W (h : Ok G2 W) => y2 W (hG2 W h)
          have q0 := fun W (h : Ok G' W) => ((HG.out.below (hGG W h)).cell (p := ⟨b0, o0 + j * 13, none⟩) hbl0).trans (by simpa using hat0 0 _ rfl)
          have q1 := fun W (h : Ok G' W) => ((HG.out.below (hGG W h)).cell (p := ⟨b0, o0 + j * 13 + 1, none⟩) hbl0).trans (hat0 1 _ rfl)
          have q2 := fun W (h : Ok G' W) => ((HG.out.below (hGG W h)).cell (p := ⟨b0, o0 + j * 13 + 2, none⟩) hbl0).trans (hat0 2 _ rfl)
          have q3 := fun W (h : Ok G' W) => ((HG.out.below (hGG W h)).cell (p := ⟨b0, o0 + j * 13 + 3, none⟩) hbl0).trans (hat0 3 _ rfl)
          have q4 := fun W (h : Ok G' W) => ((HG.out.below (hGG W h)).cell (p := ⟨b0, o0 + j * 13 + 4, none⟩) hbl0).trans (hat0 4 _ rfl)
          have q5 := fun W (h : Ok G' W) => ((HG.out.below (hGG W h)).cell (p := ⟨b0, o0 + j * 13 + 5, none⟩) hbl0).trans (hat0 5 _ rfl)
          have q6 := fun W (h : Ok G' W) => ((HG.out.below (hGG W h)).cell (p := ⟨b0, o0 + j * 13 + 6, none⟩) hbl0).trans (hat0 6 _ rfl)
          have q7 := fun W (h : Ok G' W) => ((HG.out.below (hGG W h)).cell (p := ⟨b0, o0 + j * 13 + 7, none⟩) hbl0).trans (hat0 7 _ rfl)
          have q8 := fun W (h : Ok G' W) => ((HG.out.below (hGG W h)).cell (p := ⟨b0, o0 + j * 13 + 8, none⟩) hbl0).trans (hat0 8 _ rfl)
          have q9 := fun W (h : Ok G' W) => ((HG.out.below (hGG W h)).cell (p := ⟨b0, o0 + j * 13 + 9, none⟩) hbl0).trans (hat0 9 _ rfl)
          have q10 := fun W (h : Ok G' W) => ((HG.out.below (hGG W h)).cell (p := ⟨b0, o0 + j * 13 + 10, none⟩) hbl0).trans (hat0 10 _ rfl)
          have q11 := fun W (h : Ok G' W) => ((HG.out.below (hGG W h)).cell (p := ⟨b0, o0 + j * 13 + 11, none⟩) hbl0).trans (hat0 11 _ rfl)
          have q12 := fun W (h : Ok G' W) => ((HG.out.below (hGG W h)).cell (p := ⟨b0, o0 + j * 13 + 12, none⟩) hbl0).trans (hat0 12 _ rfl)
          clear hat0
          go_upto_region 14 with fail
          refine gen_w g2 ?_
          clear g2 q0 q1 q2 q3 q4 q5 q6 q7 q8 q9 q10 q11 q12
          intro W2 g2
          go_wp2_with fail
          refine Calls.mono (impl_instrRight x _ _ (HIR.out.below (HG.out.below (hGG _ (hG2 _ g2)))) (by omega)) ?_
          rintro e w9 ⟨rfl, hb⟩
          replace g2 := HG2.out.step g2 hb
          clear hb
          cases e0 : insI x
          · have HN := Lib.hid (show segB d.segments.length k g = false by rw [segB, insAll_no j hlt (by rw [HXE.out]; exact insI_no e0), Bool.and_false, Bool.false_and])
            go_wp2_with fail
            go_ret
            exact ⟨ret_bool HN.out.symm, HG.out.below (hGG _ (hG2 _ g2))⟩
          have HB := Lib.hid (insI_yes (nseg := d.segments.length) (k := k) (pc := j) (n := g.instrs.length) e0)
          have h0 := HB.out.1
          have h1 := HB.out.2.1
          clear e0
          go_wp2_with fail
          refine Calls.mono (impl_refersTo x _ _ (HIR.out.below (HG.out.below (hGG _ (hG2 _ g2))))) ?_
          rintro e w9 ⟨rfl, hb⟩
          replace g2 := HG2.out.step g2 hb
          clear hb
          cases r : refOp x.op
          · have R := Lib.hid r
            have HRF := Lib.hid (show refI x = -1 by simp [refI, r])
            rw [HRF.out]
            clear r
            cases a1 : (x.arg == -1)
            · cases q13 : (x.op == 13)
              · have Q13 := Lib.hid (show x.op ≠ 13 by simpa using q13)
                go_wp2_with fail
                refine Calls.mono (impl_isForward x.op _) ?_
                rintro e w9 ⟨rfl, rfl⟩
                cases f : (x.op == 14 || x.op == 15 || x.op == 16 || x.op == 19)
                · have F := Lib.hid (show jmpOp x.op = false by have := Q13.out; simp only [jmpOp]; simp only [Bool.or_eq_false_iff] at f ⊢; simp_all)
                  clear f
                  have HY := Lib.hid (show insB d.segments.length k j g.instrs.length g.instrs[j] = true by rw [HXE.out]; rw [HB.out.2.2.1, HB.out.2.2.2 R.out F.out]; simp [argB, R.out, Q13.out, F.out])
                  go_wp2_with fail
                  go_roundw
                  case rel => exact ⟨j + 1, by omega, by go_num, fun i h hi => by (rcases Nat.lt_succ_iff_lt_or_eq.1 hi with h3 | rfl); exact HA.out i h h3; exact HY.out, hG2 _ g2⟩
                  case measure => simp [intOf]; omega
                · have F := Lib.hid (show jmpOp x.op = true by simp only [jmpOp]; simp only [Bool.or_eq_true] at f ⊢; simp_all)
                  clear f
                  by_cases p1 : x.arg ≤ j
                  · have P1 := Lib.hid p1
                    have b1 : decide (x.arg ≤ (j : Int)) = true := by simp [p1]
                    clear p1
                    have HN := Lib.hid (show segB d.segments.length k g = false by rw [segB, insAll_no j hlt (by rw [HXE.out]; rw [HB.out.2.2.1]; have := P1.out; simp [argB, R.out, Q13.out, F.out]; omega), Bool.and_false, Bool.false_and])
                    go_wp2_with fail
                    go_ret
                    exact ⟨ret_bool HN.out.symm, HG.out.below (hGG _ (hG2 _ g2))⟩
                  · have P1 := Lib.hid p1
                    have b1 : decide (x.arg ≤ (j : Int)) = false := by simp; omega
                    clear p1
                    by_cases p2 : (g.instrs.length : Int) < x.arg
                    · have P2 := Lib.hid p2
                      have b2 : decide ((g.instrs.length : Int) < x.arg) = true := by simp [p2]
                      clear p2
                      have HN := Lib.hid (show segB d.segments.length k g = false by rw [segB, insAll_no j hlt (by rw [HXE.out]; rw [HB.out.2.2.1]; have := P2.out; simp [argB, R.out, Q13.out, F.out]; omega), Bool.and_false, Bool.false_and])
                      go_wp2_with fail
                      go_ret
                      exact ⟨ret_bool HN.out.symm, HG.out.below (hGG _ (hG2 _ g2))⟩
                    · have P2 := Lib.hid p2
                      have b2 : decide ((g.instrs.length : Int) < x.arg) = false := by simp; omega
                      clear p2
                      have HY := Lib.hid (show insB d.segments.length k j g.instrs.length g.instrs[j] = true by rw [HXE.out]; rw [HB.out.2.2.1]; have := P1.out; have := P2.out; simp [argB, R.out, Q13.out, F.out]; omega)
                      go_wp2_with fail
                      go_roundw
                      case rel => exact ⟨j + 1, by omega, by go_num, fun i h hi => by (rcases Nat.lt_succ_iff_lt_or_eq.1 hi with h3 | rfl); exact HA.out i h h3; exact HY.out, hG2 _ g2⟩
                      case measure => simp [intOf]; omega
              · have Q13 := Lib.hid (show x.op = 13 by simpa using q13)
                by_cases p1 : x.arg < 0
                · have P1 := Lib.hid p1
                  have b1 : decide (x.arg < 0) = true := by simp [p1]
                  clear p1
                  have HN := Lib.hid (show segB d.segments.length k g = false by rw [segB, insAll_no j hlt (by rw [HXE.out]; rw [HB.out.2.2.1]; have := P1.out; simp [argB, refOp, Q13.out]; omega), Bool.and_false, Bool.false_and])
                  go_wp2_with fail
                  go_ret
                  exact ⟨ret_bool HN.out.symm, HG.out.below (hGG _ (hG2 _ g2))⟩
                · have P1 := Lib.hid p1
                  have b1 : decide (x.arg < 0) = false := by simp; omega
                  clear p1
                  by_cases p2 : (g.instrs.length : Int) < x.arg
                  · have P2 := Lib.hid p2
                    have b2 : decide ((g.instrs.length : Int) < x.arg) = true := by simp [p2]
                    clear p2
                    have HN := Lib.hid (show segB d.segments.length k g = false by rw [segB, insAll_no j hlt (by rw [HXE.out]; rw [HB.out.2.2.1]; have := P2.out; simp [argB, refOp, Q13.out]; omega), Bool.and_false, Bool.false_and])
                    go_wp2_with fail
                    go_ret
                    exact ⟨ret_bool HN.out.symm, HG.out.below (hGG _ (hG2 _ g2))⟩
                  · have P2 := Lib.hid p2
                    have b2 : decide ((g.instrs.length : Int) < x.arg) = false := by simp; omega
                    clear p2
                    go_wp2_with fail
                    refine Calls.mono (impl_isForward x.op _) ?_
                    rintro e w9 ⟨rfl, rfl⟩
                    rw [show (x.op == 14 || x.op == 15 || x.op == 16 || x.op == 19) = false by rw [Q13.out]; decide]
                    have HY := Lib.hid (show insB d.segments.length k j g.instrs.length g.instrs[j] = true by rw [HXE.out]; rw [HB.out.2.2.1]; have := P1.out; have := P2.out; simp [argB, refOp, Q13.out]; omega)
                    go_wp2_with fail
                    go_roundw
                    case rel => exact ⟨j + 1, by omega, by go_num, fun i h hi => by (rcases Nat.lt_succ_iff_lt_or_eq.1 hi with h3 | rfl); exact HA.out i h h3; exact HY.out, hG2 _ g2⟩
                    case measure => simp [intOf]; omega
            · go_wp2_with fail
              refine Calls.mono (impl_hasReference x.op h0 h1 _) ?_
              rintro e w9 ⟨rfl, rfl⟩
              rw [R.out]
              cases q13 : (x.op == 13)
              · have Q13 := Lib.hid (show x.op ≠ 13 by simpa using q13)
                go_wp2_with fail
                refine Calls.mono (impl_isForward x.op _) ?_
                rintro e w9 ⟨rfl, rfl⟩
                cases f : (x.op == 14 || x.op == 15 || x.op == 16 || x.op == 19)
                · have F := Lib.hid (show jmpOp x.op = false by have := Q13.out; simp only [jmpOp]; simp only [Bool.or_eq_false_iff] at f ⊢; simp_all)
                  clear f
                  have HY := Lib.hid (show insB d.segments.length k j g.instrs.length g.instrs[j] = true by rw [HXE.out]; rw [HB.out.2.2.1, HB.out.2.2.2 R.out F.out]; simp [argB, R.out, Q13.out, F.out])
                  go_wp2_with fail
                  go_roundw
                  case rel => exact ⟨j + 1, by omega, by go_num, fun i h hi => by (rcases Nat.lt_succ_iff_lt_or_eq.1 hi with h3 | rfl); exact HA.out i h h3; exact HY.out, hG2 _ g2⟩
                  case measure => simp [intOf]; omega
                · have F := Lib.hid (show jmpOp x.op = true by simp only [jmpOp]; simp only [Bool.or_eq_true] at f ⊢; simp_all)
                  clear f
                  by_cases p1 : x.arg ≤ j
                  · have P1 := Lib.hid p1
                    have b1 : decide (x.arg ≤ (j : Int)) = true := by simp [p1]
                    clear p1
                    have HN := Lib.hid (show segB d.segments.length k g = false by rw [segB, insAll_no j hlt (by rw [HXE.out]; rw [HB.out.2.2.1]; have := P1.out; simp [argB, R.out, Q13.out, F.out]; omega), Bool.and_false, Bool.false_and])
                    go_wp2_with fail
                    go_ret
                    exact ⟨ret_bool HN.out.symm, HG.out.below (hGG _ (hG2 _ g2))⟩
                  · have P1 := Lib.hid p1
                    have b1 : decide (x.arg ≤ (j : Int)) = false := by simp; omega
                    clear p1
                    by_cases p2 : (g.instrs.length : Int) < x.arg
                    · have P2 := Lib.hid p2
                      have b2 : decide ((g.instrs.length : Int) < x.arg) = true := by simp [p2]
                      clear p2
                      have HN := Lib.hid (show segB d.segments.length k g = false by rw [segB, insAll_no j hlt (by rw [HXE.out]; rw [HB.out.2.2.1]; have := P2.out; simp [argB, R.out, Q13.out, F.out]; omega), Bool.and_false, Bool.false_and])
                      go_wp2_with fail
                      go_ret
                      exact ⟨ret_bool HN.out.symm, HG.out.below (hGG _ (hG2 _ g2))⟩
                    · have P2 := Lib.hid p2
                      have b2 : decide ((g.instrs.length : Int) < x.arg) = false := by simp; omega
                      clear p2
                      have HY := Lib.hid (show insB d.segments.length k j g.instrs.length g.instrs[j] = true by rw [HXE.out]; rw [HB.out.2.2.1]; have := P1.out; have := P2.out; simp [argB, R.out, Q13.out, F.out]; omega)
                      go_wp2_with fail
                      go_roundw
                      case rel => exact ⟨j + 1, by omega, by go_num, fun i h hi => by (rcases Nat.lt_succ_iff_lt_or_eq.1 hi with h3 | rfl); exact HA.out i h h3; exact HY.out, hG2 _ g2⟩
                      case measure => simp [intOf]; omega
              · have Q13 := Lib.hid (show x.op = 13 by simpa using q13)
                by_cases p1 : x.arg < 0
                · have P1 := Lib.hid p1
                  have b1 : decide (x.arg < 0) = true := by simp [p1]
                  clear p1
                  have HN := Lib.hid (show segB d.segments.length k g = false by rw [segB, insAll_no j hlt (by rw [HXE.out]; rw [HB.out.2.2.1]; have := P1.out; simp [argB, refOp, Q13.out]; omega), Bool.and_false, Bool.false_and])
                  go_wp2_with fail
                  go_ret
                  exact ⟨ret_bool HN.out.symm, HG.out.below (hGG _ (hG2 _ g2))⟩
                · have P1 := Lib.hid p1
                  have b1 : decide (x.arg < 0) = false := by simp; omega
                  clear p1
                  by_cases p2 : (g.instrs.length : Int) < x.arg
                  · have P2 := Lib.hid p2
                    have b2 : decide ((g.instrs.length : Int) < x.arg) = true := by simp [p2]
                    clear p2
                    have HN := Lib.hid (show segB d.segments.length k g = false by rw [segB, insAll_no j hlt (by rw [HXE.out]; rw [HB.out.2.2.1]; have := P2.out; simp [argB, refOp, Q13.out]; omega), Bool.and_false, Bool.false_and])
                    go_wp2_with fail
                    go_ret
                    exact ⟨ret_bool HN.out.symm, HG.out.below (hGG _ (hG2 _ g2))⟩
                  · have P2 := Lib.hid p2
                    have b2 : decide ((g.instrs.length : Int) < x.arg) = false := by simp; omega
                    clear p2
                    go_wp2_with fail
                    refine Calls.mono (impl_isForward x.op _) ?_
                    rintro e w9 ⟨rfl, rfl⟩
                    rw [show (x.op == 14 || x.op == 15 || x.op == 16 || x.op == 19) = false by rw [Q13.out]; decide]
                    have HY := Lib.hid (show insB d.segments.length k j g.instrs.length g.instrs[j] = true by rw [HXE.out]; rw [HB.out.2.2.1]; have := P1.out; have := P2.out; simp [argB, refOp, Q13.out]; omega)
                    go_wp2_with fail
                    go_roundw
                    case rel => exact ⟨j + 1, by omega, by go_num, fun i h hi => by (rcases Nat.lt_succ_iff_lt_or_eq.1 hi with h3 | rfl); exact HA.out i h h3; exact HY.out, hG2 _ g2⟩
                    case measure => simp [intOf]; omega
          · have R := Lib.hid r
            have HRF := Lib.hid (show refI x = x.arg by simp [refI, r])
            rw [HRF.out]
            have HJ := Lib.hid (show x.op ≠ 13 ∧ (x.op == 14 || x.op == 15 || x.op == 16 || x.op == 19) = false by
              simp only [refOp, Bool.or_eq_true, beq_iff_eq] at r
              rcases r with ((h | h) | h) | h <;> rw [h] <;> decide)
            clear r
            by_cases a1 : x.arg = -1
            · have A1' := Lib.hid a1
              have b1 : (x.arg != -1) = false := by simp [a1]
              have b2 : (x.arg == -1) = true := by simp [a1]
              clear a1
              go_wp2_with fail
              refine Calls.mono (impl_hasReference x.op h0 h1 _) ?_
              rintro e w9 ⟨rfl, rfl⟩
              rw [R.out]
              have HN := Lib.hid (show segB d.segments.length k g = false by rw [segB, insAll_no j hlt (by rw [HXE.out]; rw [HB.out.2.2.1, A1'.out]; simp [argB, R.out]; omega), Bool.and_false, Bool.false_and])
              go_wp2_with fail
              go_ret
              exact ⟨ret_bool HN.out.symm, HG.out.below (hGG _ (hG2 _ g2))⟩
            have b1 : (x.arg != -1) = true := by simp [a1]
            have b2 : (x.arg == -1) = false := by simp [a1]
            clear a1
            by_cases p1 : x.arg ≤ k
            · have P1 := Lib.hid p1
              have b3 : decide (x.arg ≤ (k : Int)) = true := by simp [p1]
              clear p1
              have HN := Lib.hid (show segB d.segments.length k g = false by rw [segB, insAll_no j hlt (by rw [HXE.out]; rw [HB.out.2.2.1]; have := P1.out; simp [argB, R.out]; omega), Bool.and_false, Bool.false_and])
              go_wp2_with fail
              go_ret
              exact ⟨ret_bool HN.out.symm, HG.out.below (hGG _ (hG2 _ g2))⟩
            have P1 := Lib.hid p1
            have b3 : decide (x.arg ≤ (k : Int)) = false := by simp; omega
            clear p1
            by_cases p2 : (d.segments.length : Int) ≤ x.arg
            · have P2 := Lib.hid p2
              have b4 : decide ((d.segments.length : Int) ≤ x.arg) = true := by simp [p2]
              clear p2
              have HN := Lib.hid (show segB d.segments.length k g = false by rw [segB, insAll_no j hlt (by rw [HXE.out]; rw [HB.out.2.2.1]; have := P2.out; simp [argB, R.out]; omega), Bool.and_false, Bool.false_and])
              go_wp2_with fail
              go_ret
              exact ⟨ret_bool HN.out.symm, HG.out.below (hGG _ (hG2 _ g2))⟩
            have P2 := Lib.hid p2
            have b4 : decide ((d.segments.length : Int) ≤ x.arg) = false := by simp; omega
            clear p2
            have b5 : (x.op == 13) = false := by simpa using HJ.out.1
            go_wp2_with fail
            refine Calls.mono (impl_isForward x.op _) ?_
            rintro e w9 ⟨rfl, rfl⟩
            rw [HJ.out.2]
            have HY := Lib.hid (show insB d.segments.length k j g.instrs.length g.instrs[j] = true by rw [HXE.out]; rw [HB.out.2.2.1]; have := P1.out; have := P2.out; simp [argB, R.out]; omega)
            go_wp2_with fail
            go_roundw
            case rel => exact ⟨j + 1, by omega, by go_num, fun i h hi => by (rcases Nat.lt_succ_iff_lt_or_eq.1 hi with h3 | rfl); exact HA.out i h h3; exact HY.out, hG2 _ g2⟩
            case measure => simp [intOf]; omega
        · have HALL := Lib.hid (show insAll d.segments.length k g = true from decide_eq_true fun i h => HA.out i h (by omega))
          have HN := Lib.hid (show segB d.segments.length k g = flowI g.instrs by rw [segB, HLB.out, HALL.out, insAll_flow HALL.out]; rfl)
          go_wp2_with fail
          refine Calls.mono (impl_operandsFit g _ _ (HGR.out.below (HG.out.below (hGG _ g1))) (insAll_facts HALL.out) hni) ?_
          rintro e w9 ⟨rfl, hb⟩
          replace g1 := HG'.out.step g1 hb
          clear hb
          go_wp2_with fail
          go_ret
          exact ⟨ret_bool HN.out.symm, HG.out.below (hGG _ g1)⟩
end Go.Proofs.YtjdfancbmjnjfaaGreat
