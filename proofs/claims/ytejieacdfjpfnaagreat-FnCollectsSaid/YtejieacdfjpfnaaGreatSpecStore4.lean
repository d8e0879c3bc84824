/-
  Contract: l26Slot, of the reference.
-/
import Derived.Test.YtejieacdfjpfnaaGreatKSp1
import Derived.Test.YtejieacdfjpfnaaGreatSpecStore3
import Derived.Test.YtejieacdfjpfnaaGreatKGood
import Derived.Deep.RegionHeld3
namespace Go.Proofs.YtejieacdfjpfnaaGreat
set_option maxRecDepth 100000
open Go.ChangeShapes Go.WideShapes Go.ChangeAt Go.RowKit Go.Deep

set_option maxHeartbeats 4000000 in
theorem spec_l26Slot (s : StoreD) (x : SlotD) (ss cs : List Value) (w : World) (hs : StoreR w ss s) (h : SlotR w cs x) (hz0 : szSlot x ≤ 1000000000000) :
    Calls Tryz.prog 131 #[.agg ss.toArray, .agg cs.toArray] w (RetB (slotOk s x) w) := by
  have hz : szVector x.value ≤ 1000000000000 := by unfold szSlot at hz0; omega
  have hpl : x.promises.length ≤ 1000000000000 := by unfold szSlot at hz0; omega
  have hll : x.labels.length ≤ 1000000000000 := by unfold szSlot at hz0; have := szL_length x.labels; omega
  clear hz0
  have HS := Lib.hid hs
  obtain ⟨G, g0, HG, B1, B2⟩ := good2 w 33 ss 96 cs
  obtain ⟨E0, e0, E1, e1, rfl, l0, l1, _⟩ := hs.open_
  obtain ⟨A1, c1, A2, c2, A3, c3, A4, c4, A5, c5, P, p, L, l, rfl, k0, k1, m1, m2, HV, HPI, HLT⟩ := h.open_
  clear h hs
  have HQ := Lib.hid (show slotOk s x = slU s x from (slU_eq s x).symm)
  obtain ⟨xs0, xs1⟩ := pk_f2 B1
  obtain ⟨x0, x1, x2, x3, x4, x5, x6, x7, x8, x9, x10, x11⟩ := pk_f12 B2
  go_enter Tryz.func131, Tryz.ntmps131
  go_upto_region 1 with fail
  refine gen_w g0 ?_
  clear g0
  intro W0 g0
  generalize (Value.agg #[.int .i64 x.kind, .int .i64 x.value.kind, .slice A1 x.value.items.length c1, .slice A2 x.value.parts.length c2, .slice A3 x.value.names.length c3, .slice A4 x.value.cls.length c4, .slice A5 x.value.levels.length c5, .int .i64 x.value.code, .int .i64 x.value.env, .int .i64 x.promise, .slice P x.promises.length p, .slice L x.labels.length l]) = V1
  generalize (Value.agg #[.slice E0 s.envs.length e0, .slice E1 s.promises.length e1]) = V0
  obtain ⟨_, _, g1, hl1, hm1, HC1⟩ := Ints.open_ HPI.out
  injection g1 with g11 g12 g13
  subst g11 g13
  clear g12
  unfold maxLen at hm1
  obtain ⟨_, _, g1, hl2, hm2, HC2⟩ := Txts.open_ HLT.out
  injection g1 with g11 g12 g13
  subst g11 g13
  clear g12
  unfold maxLen at hm2
  go_cut [40] from 6 to 40 (fun v wx => v = .bool (!slT x) ∧ Ok G wx)
  case first =>
    cases hzv : zeroV x.value <;> cases p1 : decide (0 < (x.promises.length : Int) + (x.labels.length : Int)) <;> cases p3 : (x.kind != 3)
    all_goals
      have HZV := Lib.hid hzv
      clear hzv
      go_wp2_with (go_at_call 94; refine (spec_l4Same_zero x.value _ _ (HV.out.below (HG.out.below g0))).mono ?_; rintro e w1 ⟨rfl, hb⟩; rw [HZV.out]; have g1 := HG.out.step g0 hb; clear hb)
      all_goals
        go_meet
        case rel => exact ⟨by congr 1; go_light; have := HZV.out; grind [slT], by assumption⟩
  obtain ⟨rfl, g1⟩ := hcut
  clear g0
  cases hT : slT x
  · go_wp2_with fail
    go_ret
    exact ⟨ret_bool (by rw [HQ.out, slU, hT]; rfl), HG.out.below g1⟩
  have HT := Lib.hid hT
  clear hT
  by_cases k3 : x.kind = 3
  rotate_left
  · have HU := Lib.hid (show slotOk s x = (x.kind == 0 || (x.kind == 1 && valFit s x.value) || (x.kind == 2 && promU s x.promise)) by rw [HQ.out, slU, HT.out, if_neg k3]; rfl)
    have b3 : (x.kind == 3) = false := by simp [k3]
    clear k3
    cases hvf : valFit s x.value <;> cases hpu : promU s x.promise <;> cases q0 : (x.kind == 0) <;> cases q1 : (x.kind == 1) <;> cases q2 : (x.kind == 2)
    all_goals
      have HVF := Lib.hid hvf
      have HPU := Lib.hid hpu
      clear hvf hpu
      go_wp2_with (first | (go_at_call 79; refine (spec_l26Value s x.value _ _ _ (HS.out.below (HG.out.below g1)) (HV.out.below (HG.out.below g1)) hz).mono ?_; rintro e w2 ⟨rfl, hb⟩; rw [HVF.out]; have g2 := HG.out.step g1 hb; clear hb) | (go_at_call 148; refine (spec_l26Promise s x.promise _ _ (by first | exact HS.out.below (HG.out.below g2) | exact HS.out.below (HG.out.below g1))).mono ?_; rintro e w3 ⟨rfl, hb⟩; rw [HPU.out]; first | (have g3 := HG.out.step g2 hb; clear hb) | (have g3 := HG.out.step g1 hb; clear hb)))
      all_goals
        go_ret
        exact ⟨ret_bool (by rw [HU.out, HVF.out, HPU.out, q0, q1, q2]; rfl), HG.out.below (by assumption)⟩
  have HLD := Lib.hid (show slotOk s x = (slD s x && decide (x.promises.length = x.labels.length)) by rw [HQ.out, slU, HT.out, if_pos k3]; rfl)
  have b3 : (x.kind == 3) = true := by simp [k3]
  clear k3
  go_wp2_with fail
  go_loopw [5] (fun i wr => ∃ k : Nat, k ≤ x.promises.length ∧ k ≤ x.labels.length ∧ i = .int .i64 k ∧ Hid (∀ j (h : j < x.promises.length) (h' : j < x.labels.length), j < k → promU s x.promises[j] = true ∧ x.labels[j].length ≤ 60) ∧ Ok G wr) (fun i _ => x.promises.length - (intOf i).toNat)
  case atStart => exact ⟨0, Nat.zero_le _, Nat.zero_le _, rfl, fun j _ _ h => absurd h (by omega), g1⟩
  case round =>
    clear g1
    obtain ⟨k, hk, hk', rfl, hn, g1⟩ := hrel
    by_cases hlt : k < x.promises.length
    · by_cases hlt' : k < x.labels.length
      · obtain ⟨b, off, rfl, hbl, hcell, i1, i2⟩ := HC1.out k hlt
        obtain ⟨b', off', rfl, hbl', hcell', hsz⟩ := HC2.out k hlt'
        unfold maxLen at hsz
        have y0 := fun W (h : Ok G W) => ((HG.out.below h).cell (p := ⟨b, off + k, none⟩) hbl).trans hcell
        have y1 := fun W (h : Ok G W) => ((HG.out.below h).cell (p := ⟨b', off' + k, none⟩) hbl').trans hcell'
        clear hcell hcell'
        go_wp2_with fail
        cases hq : promU s x.promises[k]
        · have HPU := Lib.hid hq
          have HD := Lib.hid (slD_no (s := s) k hlt hlt' (fun h => by rw [hq] at h; cases h.1))
          clear hq
          refine wp_region_plan (S := Ok G) (by kernel_rfl) [(true, 0), (true, 1), (true, 2), (true, 3), (true, 4), (true, 5), (false, 6), (true, 7), (true, 8), (true, 9), (true, 10), (true, 11), (true, 12), (true, 13), (true, 14), (true, 15), (true, 16)] (by kernel_rfl) (HG.out.drew g1) ?_
          replace g1 := HG.out.drew g1
          repeat (refine dyn_take rfl rfl (fun W g => by go_simp; rfl) ?_; go_simp)
          refine dyn_act rfl rfl (fun K hK => ?_)
          go_wp2_with fail
          refine (spec_l26Promise s x.promises[k] _ _ (HS.out.below (HG.out.below g1))).mono ?_
          rintro e w2 ⟨rfl, hb⟩
          rw [HPU.out]
          have g2 := HG.out.step g1 hb
          clear hb
          simp only []
          refine hK.out _ _ g2 ?_
          clear hK
          repeat ((first | (refine dyn_take rfl rfl (fun W g => by go_simp; rfl) ?_) | (refine dyn_skip rfl rfl ?_)); go_simp)
          refine dyn_done ?_
          go_wp2_with fail
          go_ret
          exact ⟨ret_bool (by rw [HLD.out, HD.out]; rfl), HG.out.below g2⟩
        have HPU := Lib.hid hq
        clear hq
        refine wp_region_plan (S := Ok G) (by kernel_rfl) [(true, 0), (true, 1), (true, 2), (true, 3), (true, 4), (true, 5), (false, 6), (true, 7), (true, 8), (true, 9), (true, 10), (true, 11), (true, 12), (true, 13), (true, 14), (true, 15), (true, 16)] (by kernel_rfl) (HG.out.drew g1) ?_
        replace g1 := HG.out.drew g1
        repeat (refine dyn_take rfl rfl (fun W g => by go_simp; rfl) ?_; go_simp)
        refine dyn_act rfl rfl (fun K hK => ?_)
        go_wp2_with fail
        refine (spec_l26Promise s x.promises[k] _ _ (HS.out.below (HG.out.below g1))).mono ?_
        rintro e w2 ⟨rfl, hb⟩
        rw [HPU.out]
        have g2 := HG.out.step g1 hb
        clear hb
        simp only []
        refine hK.out _ _ g2 ?_
        clear hK
        repeat ((first | (refine dyn_take rfl rfl (fun W g => by go_simp; rfl) ?_) | (refine dyn_skip rfl rfl ?_)); go_simp)
        refine dyn_done ?_
        by_cases g6 : 60 < x.labels[k].length
        · have HD := Lib.hid (slD_no (s := s) k hlt hlt' (fun h => by have := h.2; omega))
          go_wp2_with fail
          go_ret
          exact ⟨ret_bool (by rw [HLD.out, HD.out]; rfl), HG.out.below (by assumption)⟩
        · go_wp2_with fail
          go_roundw
          case rel => first | exact ⟨k + 1, by omega, by omega, by go_num, fun j h1 h2 hj => by (rcases Nat.lt_succ_iff_lt_or_eq.1 hj with h3 | rfl); exact hn.out j h1 h2 h3; exact ⟨HPU.out, by omega⟩, g2⟩ | ((repeat apply Exists.intro); exact ⟨⟨k + 1, by omega, by omega, by go_num, fun j h1 h2 hj => by (rcases Nat.lt_succ_iff_lt_or_eq.1 hj with h3 | rfl); exact hn.out j h1 h2 h3; exact ⟨HPU.out, by omega⟩, g2⟩, rfl⟩)
          case measure => simp [intOf]; omega
      · have HD := Lib.hid (show slotOk s x = decide (x.promises.length = x.labels.length) by
          rw [HLD.out, show slD s x = true by unfold slD; exact decide_eq_true (fun j h h' => hn.out j h h' (by omega))]; rfl)
        go_wp2_with fail
        all_goals
          go_ret
          exact ⟨ret_bool (by rw [HD.out]; go_light; grind), HG.out.below g1⟩
    · have HD := Lib.hid (show slotOk s x = decide (x.promises.length = x.labels.length) by
        rw [HLD.out, show slD s x = true by unfold slD; exact decide_eq_true (fun j h h' => hn.out j h h' (by omega))]; rfl)
      go_wp2_with fail
      all_goals
        go_ret
        exact ⟨ret_bool (by rw [HD.out]; go_light; grind), HG.out.below g1⟩

end Go.Proofs.YtejieacdfjpfnaaGreat
