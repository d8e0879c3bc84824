/-
  Contract: spec.l32Segment.
-/
import Derived.Test.YtjdfancbmjnjfaaGreatChk8
import Derived.Test.YtjdfancbmjnjfaaGreatChk9
import Derived.Test.YtjdfancbmjnjfaaGreatKSeg
import Derived.IntWalk
namespace Go.Proofs.YtjdfancbmjnjfaaGreat
set_option maxRecDepth 100000
open Go.ChangeShapes Go.WideShapes Go.ChangeAt Go.RowKit Go.Deep
set_option linter.unusedVariables false
set_option linter.unusedSimpArgs false

set_option maxHeartbeats 16000000 in
theorem spec_l32Segment (d : CodeD) (cs : List Value) (k : Nat) (w : World) (h : BytecodeR w cs d) (hk : k < d.segments.length) (hz : szBytecode d ≤ 1048576) (hni : d.segments[k].instrs.length ≤ 1000) (hns : d.segments.length ≤ 200) :
    Calls Tryz.prog 22 #[.agg cs.toArray, .int .i64 k] w (RetB (segB d.segments.length k d.segments[k]) w) := by
  have hsz := seg_small hk hz
  clear hz
  have HBR := Lib.hid h
  obtain ⟨v0, v1, v2, rfl, q0, q1, q2⟩ := h
  obtain ⟨A, c, rfl, hlc, hm, HC⟩ := SlR.open_ q0
  clear q0 q1 q2
  unfold maxLen at hm
  obtain ⟨b, off, sc, rfl, hbl, _, hat, hr⟩ := HC.out k hk
  have HGR := Lib.hid hr
  obtain ⟨u0, u1, u2, rfl, r0, r1, r2⟩ := hr
  obtain ⟨A0, c0, rfl, l0, m0, HL⟩ := Txts.open_ r0
  obtain ⟨A1, c1, rfl, l1, m1, HD⟩ := Ints.open_ r1
  obtain ⟨A2, c2, rfl, l2, m2, HI⟩ := SlR.open_ r2
  have HT := Lib.hid r0
  clear r0 r1 r2 HC HI
  unfold maxLen at m0 m1 m2
  obtain ⟨g, hg⟩ : ∃ g, d.segments[k] = g := ⟨_, rfl⟩
  rw [hg] at hat HGR HL HD HT hni hsz l0 l1 l2 ⊢
  have HGE := Lib.hid hg
  clear hg
  obtain ⟨G, g0, HG, B1⟩ := good1 w 31 [.slice (some ⟨b, off, none⟩) d.segments.length c, v1, v2]
  obtain ⟨xs0, xs1, xs2⟩ := pk_f3 B1
  obtain ⟨z0, z1, z2⟩ := pk_e3 HG hbl hat
  clear hat
  go_enter Tryz.func22, Tryz.ntmps22
  go_upto_region 1 with fail
  refine gen_w g0 ?_
  clear g0
  intro W0 g0
  obtain ⟨G', g1, HG', B'⟩ := good1 W0 49 [.slice A0 g.labels.length c0, .slice A1 g.defaults.length c1, .slice A2 g.instrs.length c2]
  have hGG := fun W (h : Ok G' W) => HG.out.step g0 (HG'.out.below h)
  obtain ⟨y0, y1, y2⟩ := pk_f3 B'
  have ys0 := fun W (h : Ok G' W) => xs0 W (hGG W h)
  have ys1 := fun W (h : Ok G' W) => xs1 W (hGG W h)
  have ys2 := fun W (h : Ok G' W) => xs2 W (hGG W h)
  go_upto_region 2 with fail
  refine gen_w g1 ?_
  clear g1 z0 z1 z2 xs0 xs1 xs2
  intro W1 g1
  by_cases hlen : g.labels.length = g.defaults.length
  rotate_left
  · have HLN := Lib.hid hlen
    have b1 : ((g.labels.length : Int) != (g.defaults.length : Int)) = true := by simp; omega
    have b2 : (g.labels.length != g.defaults.length) = true := by simp; omega
    clear hlen
    have HN := Lib.hid (show segB d.segments.length k g = false by rw [segB, (show lbsB d.segments.length k g = false by simp [lbsB, HLN.out]), Bool.false_and, Bool.false_and])
    go_wp2_with fail
    go_ret
    exact ⟨ret_bool HN.out.symm, HG.out.below (hGG _ g1)⟩
  have HLN := Lib.hid hlen
  have hle : g.labels.length ≤ g.defaults.length := by omega
  have b1 : ((g.labels.length : Int) != (g.defaults.length : Int)) = false := by simp [hlen]
  have b2 : (g.labels.length != g.defaults.length) = false := by simp [hlen]
  clear hlen
  by_cases h200 : g.labels.length ≤ 200
  rotate_left
  · have HN := Lib.hid (show segB d.segments.length k g = false by rw [segB, (show lbsB d.segments.length k g = false by simp [lbsB, h200]), Bool.false_and, Bool.false_and])
    go_wp2_with fail
    go_ret
    exact ⟨ret_bool HN.out.symm, HG.out.below (hGG _ g1)⟩
  go_wp2_with fail
  clear b1 b2
  go_loopw [6] (fun i wr => ∃ j : Nat, j ≤ g.labels.length ∧ i = .int .i64 j ∧ Hid (∀ i (h : i < g.labels.length), i < j → lb1 d.segments.length k g i = true) ∧ Ok G' wr) (fun i _ => g.labels.length - (intOf i).toNat)
  case atStart => exact ⟨0, Nat.zero_le _, rfl, fun i h hi => absurd hi (by omega), g1⟩
  case round =>
    clear g1
    obtain ⟨j, hj, rfl, HA, g1⟩ := hrel
    by_cases hlt : j < g.labels.length
    · have hlt2 : j < g.defaults.length := by omega
      obtain ⟨b0, o0, rfl, hbl0, hc0, hsl⟩ := HL.out j hlt
      obtain ⟨b3, o3, rfl, hbl3, hc3, hi3, hi4⟩ := HD.out j hlt2
      have x0 := fun W (h : Ok G' W) => ((HG.out.below (hGG W h)).cell (p := ⟨b0, o0 + j, none⟩) hbl0).trans hc0
      have x1 := fun W (h : Ok G' W) => ((HG.out.below (hGG W h)).cell (p := ⟨b3, o3 + j, none⟩) hbl3).trans hc3
      clear hc0 hc3
      have hj1 : (j : Int) < (g.labels.length : Int) := by omega
      have hj2 : (j : Int) < (g.defaults.length : Int) := by omega
      cases e1 : isNameB g.labels[j]
      · have E1 := Lib.hid e1
        clear e1
        go_upto_region 7 with fail
        have gd := HG'.out.drew g1
        refine wp_region_plan (S := Ok G') (by kernel_rfl) [(true, 0), (true, 1), (true, 2), (true, 3), (true, 4), (false, 5), (true, 6), (true, 7), (true, 8), (true, 9), (true, 10), (true, 11), (true, 12), (true, 13), (true, 14), (true, 16), (false, 15), (true, 17), (true, 18), (true, 19), (true, 20), (true, 21), (true, 22), (true, 23), (true, 24), (true, 25), (true, 26), (true, 27), (true, 28), (true, 29), (true, 30), (true, 31), (true, 32), (true, 33), (true, 34), (true, 35), (true, 36), (true, 37), (false, 38), (true, 39), (true, 40), (true, 41)] (by kernel_rfl) gd ?_
        clear g1
        have g1 := gd
        clear gd
        repeat ((first | (refine dyn_take rfl rfl (fun W g => by go_simp; rfl) ?_) | (refine dyn_skip rfl rfl ?_)); go_simp)
        refine dyn_act rfl rfl (fun K hK => ?_)
        go_wp2_with fail
        refine Calls.mono (spec_IsName g.labels[j] _ hsl) ?_
        rintro e w9 ⟨rfl, rfl⟩
        rw [E1.out]
        simp only []
        refine hK.out _ _ g1 ?_
        clear hK
        repeat ((first | (refine dyn_take rfl rfl (fun W g => by go_simp; rfl) ?_) | (refine dyn_skip rfl rfl ?_)); go_simp)
        refine dyn_pass rfl rfl g1 ?_
        go_simp
        repeat ((first | (refine dyn_take rfl rfl (fun W g => by go_simp; rfl) ?_) | (refine dyn_skip rfl rfl ?_)); go_simp)
        refine dyn_pass rfl rfl g1 ?_
        go_simp
        repeat ((first | (refine dyn_take rfl rfl (fun W g => by go_simp; rfl) ?_) | (refine dyn_skip rfl rfl ?_)); go_simp)
        refine dyn_done ?_
        have HN := Lib.hid (show segB d.segments.length k g = false by rw [segB, lbsB_no j hlt (by rw [lb1_eq j hlt hlt2]; simp [E1.out]), Bool.false_and, Bool.false_and])
        go_wp2_with fail
        go_ret
        exact ⟨ret_bool HN.out.symm, HG.out.below (hGG _ g1)⟩
      have E1 := Lib.hid e1
      clear e1
      have HFT := Lib.hid (findB_take g.labels j hlt)
      have hfl := findB_le g.labels g.labels[j]
      obtain ⟨F, hF⟩ : ∃ F, findB g.labels g.labels[j] = F := ⟨_, rfl⟩
      rw [hF] at HFT hfl
      have HF := Lib.hid hF
      clear hF
      cases e2 : hasB (g.labels.take j) g.labels[j]
      rotate_left
      · have E2 := Lib.hid e2
        have f1 : decide (F < (j : Int)) = true := by rw [HFT.out, e2]
        clear e2
        go_upto_region 7 with fail
        have gd := HG'.out.drew g1
        refine wp_region_plan (S := Ok G') (by kernel_rfl) [(true, 0), (true, 1), (true, 2), (true, 3), (true, 4), (false, 5), (true, 6), (true, 7), (true, 8), (true, 9), (true, 10), (true, 11), (true, 12), (true, 13), (true, 14), (true, 16), (false, 15), (true, 17), (true, 18), (true, 19), (true, 20), (true, 21), (true, 22), (true, 23), (true, 24), (true, 25), (true, 26), (true, 27), (true, 28), (true, 29), (true, 30), (true, 31), (true, 32), (true, 33), (true, 34), (true, 35), (true, 36), (true, 37), (false, 38), (true, 39), (true, 40), (true, 41)] (by kernel_rfl) gd ?_
        clear g1
        have g1 := gd
        clear gd
        repeat ((first | (refine dyn_take rfl rfl (fun W g => by go_simp; rfl) ?_) | (refine dyn_skip rfl rfl ?_)); go_simp)
        refine dyn_act rfl rfl (fun K hK => ?_)
        go_wp2_with fail
        refine Calls.mono (spec_IsName g.labels[j] _ hsl) ?_
        rintro e w9 ⟨rfl, rfl⟩
        rw [E1.out]
        simp only []
        refine hK.out _ _ g1 ?_
        clear hK
        repeat ((first | (refine dyn_take rfl rfl (fun W g => by go_simp; rfl) ?_) | (refine dyn_skip rfl rfl ?_)); go_simp)
        refine dyn_act rfl rfl (fun K hK => ?_)
        go_wp2_with fail
        refine Calls.mono (spec_l1Find g.labels g.labels[j] _ _ (HT.out.below (HG.out.below (hGG _ g1)))) ?_
        rintro e w9 ⟨rfl, rfl⟩
        rw [HF.out]
        simp only []
        refine hK.out _ _ g1 ?_
        clear hK
        repeat ((first | (refine dyn_take rfl rfl (fun W g => by go_simp; rfl) ?_) | (refine dyn_skip rfl rfl ?_)); go_simp)
        refine dyn_pass rfl rfl g1 ?_
        go_simp
        repeat ((first | (refine dyn_take rfl rfl (fun W g => by go_simp; rfl) ?_) | (refine dyn_skip rfl rfl ?_)); go_simp)
        refine dyn_done ?_
        have HN := Lib.hid (show segB d.segments.length k g = false by rw [segB, lbsB_no j hlt (by rw [lb1_eq j hlt hlt2]; simp [E2.out]), Bool.false_and, Bool.false_and])
        go_wp2_with fail
        go_ret
        exact ⟨ret_bool HN.out.symm, HG.out.below (hGG _ g1)⟩
      have E2 := Lib.hid e2
      have f1 : decide (F < (j : Int)) = false := by rw [HFT.out, e2]
      clear e2
      by_cases a1 : g.defaults[j] = -1
      · have A1' := Lib.hid a1
        have b1 : (g.defaults[j] != -1) = false := by simp [a1]
        clear a1
        go_upto_region 7 with fail
        have gd := HG'.out.drew g1
        refine wp_region_plan (S := Ok G') (by kernel_rfl) [(true, 0), (true, 1), (true, 2), (true, 3), (true, 4), (false, 5), (true, 6), (true, 7), (true, 8), (true, 9), (true, 10), (true, 11), (true, 12), (true, 13), (true, 14), (true, 16), (false, 15), (true, 17), (true, 18), (true, 19), (true, 20), (true, 21), (true, 22), (true, 23), (true, 24), (true, 25), (true, 26), (true, 27), (true, 28), (true, 29), (true, 30), (true, 31), (true, 32), (true, 33), (true, 34), (true, 35), (true, 36), (true, 37), (false, 38), (true, 39), (true, 40), (true, 41)] (by kernel_rfl) gd ?_
        clear g1
        have g1 := gd
        clear gd
        repeat ((first | (refine dyn_take rfl rfl (fun W g => by go_simp; rfl) ?_) | (refine dyn_skip rfl rfl ?_)); go_simp)
        refine dyn_act rfl rfl (fun K hK => ?_)
        go_wp2_with fail
        refine Calls.mono (spec_IsName g.labels[j] _ hsl) ?_
        rintro e w9 ⟨rfl, rfl⟩
        rw [E1.out]
        simp only []
        refine hK.out _ _ g1 ?_
        clear hK
        repeat ((first | (refine dyn_take rfl rfl (fun W g => by go_simp; rfl) ?_) | (refine dyn_skip rfl rfl ?_)); go_simp)
        refine dyn_act rfl rfl (fun K hK => ?_)
        go_wp2_with fail
        refine Calls.mono (spec_l1Find g.labels g.labels[j] _ _ (HT.out.below (HG.out.below (hGG _ g1)))) ?_
        rintro e w9 ⟨rfl, rfl⟩
        rw [HF.out]
        simp only []
        refine hK.out _ _ g1 ?_
        clear hK
        repeat ((first | (refine dyn_take rfl rfl (fun W g => by go_simp; rfl) ?_) | (refine dyn_skip rfl rfl ?_)); go_simp)
        refine dyn_pass rfl rfl g1 ?_
        go_simp
        repeat ((first | (refine dyn_take rfl rfl (fun W g => by go_simp; rfl) ?_) | (refine dyn_skip rfl rfl ?_)); go_simp)
        refine dyn_done ?_
        have HY := Lib.hid (show lb1 d.segments.length k g j = true by rw [lb1_eq j hlt hlt2]; simp [E1.out, E2.out, A1'.out])
        go_wp2_with fail
        go_roundw
        case rel => exact ⟨j + 1, by omega, by go_num, fun i h hi => by (rcases Nat.lt_succ_iff_lt_or_eq.1 hi with h3 | rfl); exact HA.out i h h3; exact HY.out, g1⟩
        case measure => simp [intOf]; omega
      have A1' := Lib.hid a1
      have b1 : (g.defaults[j] != -1) = true := by simp [a1]
      clear a1
      have w1 : IntKind.i64.wrap ((k : Int) + 1) = (k : Int) + 1 := IntWalk.i64_in _ (by omega)
      have w2 : IntKind.i64.wrap ((d.segments.length : Int) - 1) = (d.segments.length : Int) - 1 := IntWalk.i64_in _ (by omega)
      cases e3 : (decide ((k : Int) + 1 ≤ g.defaults[j]) && decide (g.defaults[j] ≤ (d.segments.length : Int) - 1))
      · have E3 := Lib.hid e3
        clear e3
        go_upto_region 7 with fail
        have gd := HG'.out.drew g1
        refine wp_region_plan (S := Ok G') (by kernel_rfl) [(true, 0), (true, 1), (true, 2), (true, 3), (true, 4), (false, 5), (true, 6), (true, 7), (true, 8), (true, 9), (true, 10), (true, 11), (true, 12), (true, 13), (true, 14), (true, 16), (false, 15), (true, 17), (true, 18), (true, 19), (true, 20), (true, 21), (true, 22), (true, 23), (true, 24), (true, 25), (true, 26), (true, 27), (true, 28), (true, 29), (true, 30), (true, 31), (true, 32), (true, 33), (true, 34), (true, 35), (true, 36), (true, 37), (false, 38), (true, 39), (true, 40), (true, 41)] (by kernel_rfl) gd ?_
        clear g1
        have g1 := gd
        clear gd
        repeat ((first | (refine dyn_take rfl rfl (fun W g => by go_simp; rfl) ?_) | (refine dyn_skip rfl rfl ?_)); go_simp)
        refine dyn_act rfl rfl (fun K hK => ?_)
        go_wp2_with fail
        refine Calls.mono (spec_IsName g.labels[j] _ hsl) ?_
        rintro e w9 ⟨rfl, rfl⟩
        rw [E1.out]
        simp only []
        refine hK.out _ _ g1 ?_
        clear hK
        repeat ((first | (refine dyn_take rfl rfl (fun W g => by go_simp; rfl) ?_) | (refine dyn_skip rfl rfl ?_)); go_simp)
        refine dyn_act rfl rfl (fun K hK => ?_)
        go_wp2_with fail
        refine Calls.mono (spec_l1Find g.labels g.labels[j] _ _ (HT.out.below (HG.out.below (hGG _ g1)))) ?_
        rintro e w9 ⟨rfl, rfl⟩
        rw [HF.out]
        simp only []
        refine hK.out _ _ g1 ?_
        clear hK
        repeat ((first | (refine dyn_take rfl rfl (fun W g => by go_simp; rfl) ?_) | (refine dyn_skip rfl rfl ?_)); go_simp)
        refine dyn_act rfl rfl (fun K hK => ?_)
        go_wp2_with fail
        refine Calls.mono (spec_l1In g.defaults[j] ((k : Int) + 1) ((d.segments.length : Int) - 1) _) ?_
        rintro e w9 ⟨rfl, rfl⟩
        rw [E3.out]
        simp only []
        refine hK.out _ _ g1 ?_
        clear hK
        repeat ((first | (refine dyn_take rfl rfl (fun W g => by go_simp; rfl) ?_) | (refine dyn_skip rfl rfl ?_)); go_simp)
        refine dyn_done ?_
        clear w1 w2
        have HN := Lib.hid (show segB d.segments.length k g = false by rw [segB, lbsB_no j hlt (by rw [lb1_eq j hlt hlt2]; rw [E3.out]; have h9 := A1'.out; simp [h9]), Bool.false_and, Bool.false_and])
        go_wp2_with fail
        go_ret
        exact ⟨ret_bool HN.out.symm, HG.out.below (hGG _ g1)⟩
      · have E3 := Lib.hid e3
        clear e3
        go_upto_region 7 with fail
        have gd := HG'.out.drew g1
        refine wp_region_plan (S := Ok G') (by kernel_rfl) [(true, 0), (true, 1), (true, 2), (true, 3), (true, 4), (false, 5), (true, 6), (true, 7), (true, 8), (true, 9), (true, 10), (true, 11), (true, 12), (true, 13), (true, 14), (true, 16), (false, 15), (true, 17), (true, 18), (true, 19), (true, 20), (true, 21), (true, 22), (true, 23), (true, 24), (true, 25), (true, 26), (true, 27), (true, 28), (true, 29), (true, 30), (true, 31), (true, 32), (true, 33), (true, 34), (true, 35), (true, 36), (true, 37), (false, 38), (true, 39), (true, 40), (true, 41)] (by kernel_rfl) gd ?_
        clear g1
        have g1 := gd
        clear gd
        repeat ((first | (refine dyn_take rfl rfl (fun W g => by go_simp; rfl) ?_) | (refine dyn_skip rfl rfl ?_)); go_simp)
        refine dyn_act rfl rfl (fun K hK => ?_)
        go_wp2_with fail
        refine Calls.mono (spec_IsName g.labels[j] _ hsl) ?_
        rintro e w9 ⟨rfl, rfl⟩
        rw [E1.out]
        simp only []
        refine hK.out _ _ g1 ?_
        clear hK
        repeat ((first | (refine dyn_take rfl rfl (fun W g => by go_simp; rfl) ?_) | (refine dyn_skip rfl rfl ?_)); go_simp)
        refine dyn_act rfl rfl (fun K hK => ?_)
        go_wp2_with fail
        refine Calls.mono (spec_l1Find g.labels g.labels[j] _ _ (HT.out.below (HG.out.below (hGG _ g1)))) ?_
        rintro e w9 ⟨rfl, rfl⟩
        rw [HF.out]
        simp only []
        refine hK.out _ _ g1 ?_
        clear hK
        repeat ((first | (refine dyn_take rfl rfl (fun W g => by go_simp; rfl) ?_) | (refine dyn_skip rfl rfl ?_)); go_simp)
        refine dyn_act rfl rfl (fun K hK => ?_)
        go_wp2_with fail
        refine Calls.mono (spec_l1In g.defaults[j] ((k : Int) + 1) ((d.segments.length : Int) - 1) _) ?_
        rintro e w9 ⟨rfl, rfl⟩
        rw [E3.out]
        simp only []
        refine hK.out _ _ g1 ?_
        clear hK
        repeat ((first | (refine dyn_take rfl rfl (fun W g => by go_simp; rfl) ?_) | (refine dyn_skip rfl rfl ?_)); go_simp)
        refine dyn_done ?_
        clear w1 w2
        have HY := Lib.hid (show lb1 d.segments.length k g j = true by rw [lb1_eq j hlt hlt2]; rw [E3.out, E1.out, E2.out]; simp)
        go_wp2_with fail
        go_roundw
        case rel => exact ⟨j + 1, by omega, by go_num, fun i h hi => by (rcases Nat.lt_succ_iff_lt_or_eq.1 hi with h3 | rfl); exact HA.out i h h3; exact HY.out, g1⟩
        case measure => simp [intOf]; omega
    · have HLB := Lib.hid (lbsB_step HLN.out h200 (fun i h => HA.out i h (by omega)))
      obtain rfl : j = g.labels.length := by omega
      clear HA HL HD HT HLN
      go_wp2_with fail
      clear hj hlt
      go_loopw [7] (fun i wr => ∃ j : Nat, j ≤ g.instrs.length ∧ i = .int .i64 j ∧ Hid (∀ i (h : i < g.instrs.length), i < j → insB d.segments.length k i g.instrs.length g.instrs[i] = true) ∧ Ok G' wr) (fun i _ => g.instrs.length - (intOf i).toNat)
      case atStart => exact ⟨0, Nat.zero_le _, rfl, fun i h hi => absurd hi (by omega), g1⟩
      case round =>
        clear g1
        obtain ⟨j, hj, rfl, HA, g1⟩ := hrel
        by_cases hlt : j < g.instrs.length
        · have hzx := ins_small hlt hsz
          have hin := fun W hR h1 h2 h3 h4 h5 h6 h7 => spec_l32Instr d [.slice (some ⟨b, off, none⟩) d.segments.length c, v1, v2] k j g.instrs.length W hR h1 h2 h3 h4 h5 h6 h7
          have HIN := Lib.hid (fun (W : World) (hR : BytecodeR W [.slice (some ⟨b, off, none⟩) d.segments.length c, v1, v2] d) => hin W hR hk (by rw [HGE.out]; exact hlt) (by rw [HGE.out]) (by omega) (by omega) (by simp only [HGE.out]; intro s hs; have := szL_mem _ _ hs; unfold szInstr at hzx; omega) (by simp only [HGE.out]; unfold szInstr at hzx; omega))
          clear hin
          simp only [HGE.out] at HIN
          go_wp2_with fail
          refine Calls.mono (HIN.out _ (HBR.out.below (HG.out.below (hGG _ g1)))) ?_
          rintro e w9 ⟨rfl, hb⟩
          replace g1 := HG'.out.step g1 hb
          clear hb HIN
          cases e0 : insB d.segments.length k j g.instrs.length g.instrs[j]
          · have HN := Lib.hid (show segB d.segments.length k g = false by rw [segB, insAll_no j hlt e0, Bool.and_false, Bool.false_and])
            clear e0
            go_wp2_with fail
            go_ret
            exact ⟨ret_bool HN.out.symm, HG.out.below (hGG _ g1)⟩
          · have HY := Lib.hid e0
            clear e0
            go_wp2_with fail
            go_roundw
            case rel => exact ⟨j + 1, by omega, by go_num, fun i h hi => by (rcases Nat.lt_succ_iff_lt_or_eq.1 hi with h3 | rfl); exact HA.out i h h3; exact HY.out, g1⟩
            case measure => simp [intOf]; omega
        · have HALL := Lib.hid (show insAll d.segments.length k g = true from decide_eq_true fun i h => HA.out i h (by omega))
          have HN := Lib.hid (show segB d.segments.length k g = flowS g.instrs by rw [segB, HLB.out, HALL.out]; rfl)
          go_wp2_with fail
          refine Calls.mono (spec_l32Flow g _ _ (HGR.out.below (HG.out.below (hGG _ g1))) (insAll_facts HALL.out) hni) ?_
          rintro e w9 ⟨rfl, hb⟩
          replace g1 := HG'.out.step g1 hb
          clear hb
          go_wp2_with fail
          go_ret
          exact ⟨ret_bool HN.out.symm, HG.out.below (hGG _ g1)⟩
end Go.Proofs.YtjdfancbmjnjfaaGreat
