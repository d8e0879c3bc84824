/-
  Contract: l26Env, of the reference.
-/
import Derived.Test.YtejieacdfjpfnaaGreatSpecStore4
import Derived.Test.YtejieacdfjpfnaaGreatStoreOk5
namespace Go.Proofs.YtejieacdfjpfnaaGreat
set_option maxRecDepth 100000
open Go.ChangeShapes Go.WideShapes Go.ChangeAt Go.RowKit Go.Deep

def envOkS (s : StoreD) (k : Nat) (x : EnvD) : Bool := if x.used = true then envOk s k x else decide (0 < (k : Int)) && enU x
theorem env_used_cell {s : StoreD} {w : World} {b off : Nat} (HE : ∀ k (hk : k < s.envs.length), ∃ b' off' cs, (some ⟨b, off, none⟩ : Option Addr) = some ⟨b', off', none⟩ ∧ b' < w.heap.size ∧ cs.length = 4 ∧ At w b' (off' + k * 4) cs ∧ EnvR w cs s.envs[k]) (p : Nat) (hp : p < s.envs.length) :
    w.cell? ⟨b, off + p * 4, none⟩ = some (.bool s.envs[p].used) := by
  obtain ⟨b', off', cs, he, _, _, hat, v2, v3, rfl, _⟩ := HE p hp
  injection he with he
  injection he with h1 h2
  subst h1 h2
  simpa using hat 0 _ rfl

set_option maxHeartbeats 4000000 in
theorem spec_l26Env (s : StoreD) (k : Nat) (hlt : k < s.envs.length) (ss : List Value) (w : World) (hs : StoreR w ss s) (hz0 : szEnv s.envs[k] ≤ 1000000000000) :
    Calls Tryz.prog 92 #[.agg ss.toArray, .int .i64 k] w (RetB (envOkS s k s.envs[k]) w) := by
  have HZ0 := Lib.hid hz0
  have hnl : s.envs[k].names.length ≤ 1000000000000 := by unfold szEnv at hz0; have := szL_length s.envs[k].names; omega
  have hsl : s.envs[k].slots.length ≤ 1000000000000 := by unfold szEnv at hz0; have := szS_length szSlot s.envs[k].slots; omega
  clear hz0
  have HS := Lib.hid hs
  obtain ⟨E0, e0, E1, e1, rfl, l0, l1, HE, HP⟩ := hs.open_
  clear hs
  obtain ⟨b, off, cs, rfl, hbl, _, hat, hr⟩ := HE.out k hlt
  obtain ⟨G, g0, HG, B1, B2⟩ := good2 w 33 [.slice (some ⟨b, off, none⟩) s.envs.length e0, .slice E1 s.promises.length e1] 71 cs
  obtain ⟨N, n, M, m, rfl, k0, m1, m2, HN, HM⟩ := hr.open_
  clear hr
  have hb1 := below_alloc1 w (.cells #[.slice (some ⟨b, off, none⟩) s.envs.length e0, .slice E1 s.promises.length e1] 33)
  have y0 := (hb1.cell (p := ⟨b, off + k * 4, none⟩) hbl).trans (by simpa using hat 0 _ rfl)
  have y1 := (hb1.cell (p := ⟨b, off + k * 4 + 1, none⟩) hbl).trans (hat 1 _ rfl)
  have y2 := (hb1.cell (p := ⟨b, off + k * 4 + 2, none⟩) hbl).trans (hat 2 _ rfl)
  have y3 := (hb1.cell (p := ⟨b, off + k * 4 + 3, none⟩) hbl).trans (hat 3 _ rfl)
  clear hat hb1
  have HUC := Lib.hid (env_used_cell HE.out)
  go_enter Tryz.func92, Tryz.ntmps92
  go_upto_region 2 with fail
  refine gen_w g0 ?_
  clear g0 y0 y1 y2 y3
  intro W0 g0
  generalize (Value.agg #[.bool s.envs[k].used, .int .i64 s.envs[k].parent, .slice N s.envs[k].names.length n, .slice M s.envs[k].slots.length m]) = V1
  generalize (Value.agg #[.slice (some ⟨b, off, none⟩) s.envs.length e0, .slice E1 s.promises.length e1]) = V0
  obtain ⟨xs0, xs1⟩ := pk_f2 B1
  obtain ⟨x0, x1, x2, x3⟩ := pk_f4 B2
  cases hu : s.envs[k].used
  · have HQ := Lib.hid (show envOkS s k s.envs[k] = (decide (0 < (k : Int)) && enU s.envs[k]) by simp [envOkS, hu])
    rw [hu] at x0
    clear hu
    cases q1 : decide (0 < (k : Int)) <;> cases q2 : (s.envs[k].parent == 0)
    all_goals
      go_wp2_with fail
      all_goals
        go_ret
        exact ⟨ret_bool (by rw [HQ.out]; go_light; grind [enU]), HG.out.below g0⟩
  have HQ := Lib.hid (show envOkS s k s.envs[k] = (enA s k s.envs[k] && enB s s.envs[k]) by simp [envOkS, envOk, hu])
  rw [hu] at x0
  clear hu
  go_upto_region 4 with fail
  go_cut [69] from 32 to 69 (fun v wx => v = .bool (!enA s k s.envs[k]) ∧ Ok G wx)
  case first =>
    by_cases hr : 0 ≤ s.envs[k].parent ∧ s.envs[k].parent ≤ (k : Int) - 1
    · obtain ⟨p, hp⟩ := Int.eq_ofNat_of_zero_le hr.1
      have hpl : p < s.envs.length := by omega
      have hpk : s.envs[k].parent.toNat = p := by omega
      have z0 := fun W (h : Ok G W) => ((HG.out.below h).cell (p := ⟨b, off + s.envs[k].parent.toNat * 4, none⟩) hbl).trans (show _ = some (Value.bool s.envs[p].used) from by rw [hpk]; exact HUC.out p hpl)
      have HEV := Lib.hid (show envU s s.envs[k].parent = s.envs[p].used by rw [hp]; exact envU_at p hpl)
      have r1 := hr.1
      have r2 : s.envs[k].parent < s.envs.length := by omega
      have r3 : s.envs[k].parent < k := by omega
      have q1 : ((k : Int) == 0) = false := by simp; omega
      have q2 : decide (0 < (k : Int)) = true := by simp; omega
      have q3 : (s.envs[k].parent != -1) = true := by simp; omega
      have HR := Lib.hid hr
      clear hp hpk hr
      go_wp2_with (go_at_call 93; refine (spec_l1In_t _ _ _ _ HR.out.1 HR.out.2).mono ?_; rintro e w' ⟨rfl, rfl⟩)
      all_goals
        go_meet
        case rel => exact ⟨by congr 1; go_light; have := HEV.out; grind [enA], g0⟩
    · have HEV := Lib.hid (show (decide (s.envs[k].parent < k) && envU s s.envs[k].parent) = false by
        by_cases h1 : 0 ≤ s.envs[k].parent
        · rw [decide_eq_false (by omega)]; rfl
        · rw [envU_neg h1]; simp)
      have hkk : (((k : Int) == 0) = true ∧ decide (0 < (k : Int)) = false ∧ decide (0 < k) = false ∧ decide (k = 0) = true) ∨ (((k : Int) == 0) = false ∧ decide (0 < (k : Int)) = true ∧ decide (0 < k) = true ∧ decide (k = 0) = false) := by
        rcases Nat.eq_zero_or_pos k with h | h
        · left; subst h; simp
        · right; simp; omega
      rcases hkk with ⟨q1, q2, q4, q5⟩ | ⟨q1, q2, q4, q5⟩ <;> cases q3 : (s.envs[k].parent != -1)
      all_goals
        have HR := Lib.hid hr
        clear hr
        go_wp2_with (go_at_call 93; refine (spec_l1In_f _ _ _ _ HR.out).mono ?_; rintro e w' ⟨rfl, rfl⟩)
        all_goals
          go_meet
          case rel => exact ⟨by congr 1; go_light; have := HEV.out; grind [enA], g0⟩
  obtain ⟨rfl, g1⟩ := hcut
  clear g0
  cases hA : enA s k s.envs[k]
  · go_wp2_with fail
    go_ret
    exact ⟨ret_bool (by rw [HQ.out, hA]; rfl), HG.out.below g1⟩
  have HLE := Lib.hid (show s.envs[k].names.length = s.envs[k].slots.length by grind [enA])
  have HA := Lib.hid hA
  clear hA
  obtain ⟨_, _, g2, hl1, hm1, HC1⟩ := Txts.open_ HN.out
  injection g2 with g11 g12 g13
  subst g11 g13
  clear g12
  unfold maxLen at hm1
  obtain ⟨_, _, g2, hl2, hm2, HC2⟩ := SlR.open_ HM.out
  injection g2 with g11 g12 g13
  subst g11 g13
  clear g12
  unfold maxLen at hm2
  go_wp2_with fail
  go_loopw [6] (fun i wr => ∃ j : Nat, j ≤ s.envs[k].names.length ∧ i = .int .i64 j ∧ Hid (∀ j' (h : j' < s.envs[k].names.length) (h' : j' < s.envs[k].slots.length), j' < j → enT s s.envs[k] j' h h' = true) ∧ Ok G wr) (fun i _ => s.envs[k].names.length - (intOf i).toNat)
  case atStart => exact ⟨0, Nat.zero_le _, rfl, fun j _ _ h => absurd h (by omega), g1⟩
  case round =>
    clear g1
    obtain ⟨j, hj, rfl, hn, g1⟩ := hrel
    by_cases hjl : j < s.envs[k].names.length
    · have hjl' : j < s.envs[k].slots.length := by have := HLE.out; omega
      have hzj : szSlot s.envs[k].slots[j] ≤ 1000000000000 := by have h1 := szS_at szSlot s.envs[k].slots j hjl'; have h2 := HZ0.out; unfold szEnv at h2; omega
      obtain ⟨b', off', rfl, hbl', hcell, hsz⟩ := HC1.out j hjl
      obtain ⟨g, go, cs, rfl, hgl, _, hat, hr⟩ := HC2.out j hjl'
      have HSL := Lib.hid hr
      obtain ⟨A1, c1, A2, c2, A3, c3, A4, c4, A5, c5, P, p, L, l, rfl, i0, i1, i2, i3, _⟩ := hr.open_
      clear hr
      have n0 := fun W (h : Ok G W) => ((HG.out.below h).cell (p := ⟨b', off' + j, none⟩) hbl').trans hcell
      obtain ⟨z0, z1, z2, z3, z4, z5, z6, z7, z8, z9, z10, z11⟩ := pk_e12 HG hgl hat
      clear hcell hat
      go_wp2_with fail
      have hft := find_take s.envs[k].names j hjl
      cases c1 : isNameB s.envs[k].names[j]
      · have HD := Lib.hid (enB_no (s := s) j hjl hjl' (by simp [enT, c1]))
        have C1 := Lib.hid c1
        clear c1
        refine wp_region_plan (S := Ok G) (by kernel_rfl) [(true, 0), (true, 1), (true, 2), (true, 3), (true, 4), (false, 5), (true, 6), (true, 7), (true, 8), (true, 9), (true, 10), (true, 11), (true, 12), (true, 13), (true, 14), (true, 16), (false, 15), (true, 17), (true, 18), (true, 19), (true, 20), (true, 21), (true, 22), (true, 23), (true, 24), (true, 25), (false, 26), (true, 27), (true, 28)] (by kernel_rfl) (HG.out.drew g1) ?_
        replace g1 := HG.out.drew g1
        repeat ((first | (refine dyn_take rfl rfl (fun W g => by go_simp; rfl) ?_) | (refine dyn_skip rfl rfl ?_)); go_simp)
        refine dyn_act rfl rfl (fun K hK => ?_)
        go_wp2_with fail
        refine (spec_IsName s.envs[k].names[j] _ hsz).mono ?_
        rintro e w' ⟨rfl, rfl⟩
        rw [C1.out]
        simp only []
        refine hK.out _ _ g1 ?_
        clear hK
        repeat ((first | (refine dyn_take rfl rfl (fun W g => by go_simp; rfl) ?_) | (refine dyn_skip rfl rfl ?_)); go_simp)
        refine dyn_pass rfl rfl g1 ?_
        go_simp
        repeat ((first | (refine dyn_take rfl rfl (fun W g => by go_simp; rfl) ?_) | (refine dyn_skip rfl rfl ?_)); go_simp)
        refine dyn_pass rfl rfl g1 ?_
        go_simp
        repeat ((first | (refine dyn_take rfl rfl (fun W g => by go_simp; rfl) ?_) | (refine dyn_skip rfl rfl ?_)); go_simp)
        refine dyn_done ?_
        go_wp2_with fail
        go_ret
        exact ⟨ret_bool (by rw [HQ.out, HD.out]; simp), HG.out.below g1⟩
      cases c2 : hasB (s.envs[k].names.take j) s.envs[k].names[j]
      rotate_left
      · have HD := Lib.hid (enB_no (s := s) j hjl hjl' (by simp [enT, c2]))
        rw [c2] at hft
        have C1 := Lib.hid c1
        have C2 := Lib.hid c2
        clear c1 c2
        refine wp_region_plan (S := Ok G) (by kernel_rfl) [(true, 0), (true, 1), (true, 2), (true, 3), (true, 4), (false, 5), (true, 6), (true, 7), (true, 8), (true, 9), (true, 10), (true, 11), (true, 12), (true, 13), (true, 14), (true, 16), (false, 15), (true, 17), (true, 18), (true, 19), (true, 20), (true, 21), (true, 22), (true, 23), (true, 24), (true, 25), (false, 26), (true, 27), (true, 28)] (by kernel_rfl) (HG.out.drew g1) ?_
        replace g1 := HG.out.drew g1
        repeat ((first | (refine dyn_take rfl rfl (fun W g => by go_simp; rfl) ?_) | (refine dyn_skip rfl rfl ?_)); go_simp)
        refine dyn_act rfl rfl (fun K hK => ?_)
        go_wp2_with fail
        refine (spec_IsName s.envs[k].names[j] _ hsz).mono ?_
        rintro e w' ⟨rfl, rfl⟩
        rw [C1.out]
        simp only []
        refine hK.out _ _ g1 ?_
        clear hK
        repeat ((first | (refine dyn_take rfl rfl (fun W g => by go_simp; rfl) ?_) | (refine dyn_skip rfl rfl ?_)); go_simp)
        refine dyn_act rfl rfl (fun K hK => ?_)
        go_wp2_with fail
        refine (spec_l1Find s.envs[k].names s.envs[k].names[j] _ _ (Txts.below HN.out (HG.out.below g1))).mono ?_
        rintro e w' ⟨rfl, rfl⟩
        simp only []
        refine hK.out _ _ g1 ?_
        clear hK
        repeat ((first | (refine dyn_take rfl rfl (fun W g => by go_simp; rfl) ?_) | (refine dyn_skip rfl rfl ?_)); go_simp)
        refine dyn_pass rfl rfl g1 ?_
        go_simp
        repeat ((first | (refine dyn_take rfl rfl (fun W g => by go_simp; rfl) ?_) | (refine dyn_skip rfl rfl ?_)); go_simp)
        refine dyn_done ?_
        go_wp2_with fail
        go_ret
        exact ⟨ret_bool (by rw [HQ.out, HD.out]; simp), HG.out.below g1⟩
      rw [c2] at hft
      cases c3 : slotOk s s.envs[k].slots[j]
      · have HD := Lib.hid (enB_no (s := s) j hjl hjl' (by simp [enT, c3]))
        have C1 := Lib.hid c1
        have C2 := Lib.hid c2
        have C3 := Lib.hid c3
        clear c1 c2 c3
        refine wp_region_plan (S := Ok G) (by kernel_rfl) [(true, 0), (true, 1), (true, 2), (true, 3), (true, 4), (false, 5), (true, 6), (true, 7), (true, 8), (true, 9), (true, 10), (true, 11), (true, 12), (true, 13), (true, 14), (true, 16), (false, 15), (true, 17), (true, 18), (true, 19), (true, 20), (true, 21), (true, 22), (true, 23), (true, 24), (true, 25), (false, 26), (true, 27), (true, 28)] (by kernel_rfl) (HG.out.drew g1) ?_
        replace g1 := HG.out.drew g1
        repeat ((first | (refine dyn_take rfl rfl (fun W g => by go_simp; rfl) ?_) | (refine dyn_skip rfl rfl ?_)); go_simp)
        refine dyn_act rfl rfl (fun K hK => ?_)
        go_wp2_with fail
        refine (spec_IsName s.envs[k].names[j] _ hsz).mono ?_
        rintro e w' ⟨rfl, rfl⟩
        rw [C1.out]
        simp only []
        refine hK.out _ _ g1 ?_
        clear hK
        repeat ((first | (refine dyn_take rfl rfl (fun W g => by go_simp; rfl) ?_) | (refine dyn_skip rfl rfl ?_)); go_simp)
        refine dyn_act rfl rfl (fun K hK => ?_)
        go_wp2_with fail
        refine (spec_l1Find s.envs[k].names s.envs[k].names[j] _ _ (Txts.below HN.out (HG.out.below g1))).mono ?_
        rintro e w' ⟨rfl, rfl⟩
        simp only []
        refine hK.out _ _ g1 ?_
        clear hK
        repeat ((first | (refine dyn_take rfl rfl (fun W g => by go_simp; rfl) ?_) | (refine dyn_skip rfl rfl ?_)); go_simp)
        refine dyn_act rfl rfl (fun K hK => ?_)
        go_wp2_with fail
        refine (spec_l26Slot s s.envs[k].slots[j] _ _ _ (HS.out.below (HG.out.below g1)) (SlotR.below HSL.out (HG.out.below g1)) hzj).mono ?_
        rintro e w2 ⟨rfl, hb⟩
        rw [C3.out]
        replace g1 := HG.out.step g1 hb
        clear hb
        simp only []
        refine hK.out _ _ g1 ?_
        clear hK
        repeat ((first | (refine dyn_take rfl rfl (fun W g => by go_simp; rfl) ?_) | (refine dyn_skip rfl rfl ?_)); go_simp)
        refine dyn_done ?_
        go_wp2_with fail
        go_ret
        exact ⟨ret_bool (by rw [HQ.out, HD.out]; simp), HG.out.below g1⟩
      have C1 := Lib.hid c1
      have C2 := Lib.hid c2
      have C3 := Lib.hid c3
      clear c1 c2 c3
      refine wp_region_plan (S := Ok G) (by kernel_rfl) [(true, 0), (true, 1), (true, 2), (true, 3), (true, 4), (false, 5), (true, 6), (true, 7), (true, 8), (true, 9), (true, 10), (true, 11), (true, 12), (true, 13), (true, 14), (true, 16), (false, 15), (true, 17), (true, 18), (true, 19), (true, 20), (true, 21), (true, 22), (true, 23), (true, 24), (true, 25), (false, 26), (true, 27), (true, 28)] (by kernel_rfl) (HG.out.drew g1) ?_
      replace g1 := HG.out.drew g1
      repeat ((first | (refine dyn_take rfl rfl (fun W g => by go_simp; rfl) ?_) | (refine dyn_skip rfl rfl ?_)); go_simp)
      refine dyn_act rfl rfl (fun K hK => ?_)
      go_wp2_with fail
      refine (spec_IsName s.envs[k].names[j] _ hsz).mono ?_
      rintro e w' ⟨rfl, rfl⟩
      rw [C1.out]
      simp only []
      refine hK.out _ _ g1 ?_
      clear hK
      repeat ((first | (refine dyn_take rfl rfl (fun W g => by go_simp; rfl) ?_) | (refine dyn_skip rfl rfl ?_)); go_simp)
      refine dyn_act rfl rfl (fun K hK => ?_)
      go_wp2_with fail
      refine (spec_l1Find s.envs[k].names s.envs[k].names[j] _ _ (Txts.below HN.out (HG.out.below g1))).mono ?_
      rintro e w' ⟨rfl, rfl⟩
      simp only []
      refine hK.out _ _ g1 ?_
      clear hK
      repeat ((first | (refine dyn_take rfl rfl (fun W g => by go_simp; rfl) ?_) | (refine dyn_skip rfl rfl ?_)); go_simp)
      refine dyn_act rfl rfl (fun K hK => ?_)
      go_wp2_with fail
      refine (spec_l26Slot s s.envs[k].slots[j] _ _ _ (HS.out.below (HG.out.below g1)) (SlotR.below HSL.out (HG.out.below g1)) hzj).mono ?_
      rintro e w2 ⟨rfl, hb⟩
      rw [C3.out]
      replace g1 := HG.out.step g1 hb
      clear hb
      simp only []
      refine hK.out _ _ g1 ?_
      clear hK
      repeat ((first | (refine dyn_take rfl rfl (fun W g => by go_simp; rfl) ?_) | (refine dyn_skip rfl rfl ?_)); go_simp)
      refine dyn_done ?_
      go_wp2_with fail
      go_roundw
      case rel => first | exact ⟨j + 1, by omega, by go_num, fun j' h1 h2 h3 => by (rcases Nat.lt_succ_iff_lt_or_eq.1 h3 with h4 | rfl); exact hn.out j' h1 h2 h4; simp [enT, C1.out, C2.out, C3.out], g1⟩ | ((repeat apply Exists.intro); exact ⟨⟨j + 1, by omega, by go_num, fun j' h1 h2 h3 => by (rcases Nat.lt_succ_iff_lt_or_eq.1 h3 with h4 | rfl); exact hn.out j' h1 h2 h4; simp [enT, C1.out, C2.out, C3.out], g1⟩, rfl⟩)
      case measure => simp [intOf]; omega
    · have HD := Lib.hid (show enB s s.envs[k] = true by unfold enB; exact decide_eq_true (fun j' h h' => hn.out j' h h' (by omega)))
      go_wp2_with fail
      go_ret
      exact ⟨ret_bool (by rw [HQ.out, HA.out, HD.out]; rfl), HG.out.below g1⟩

end Go.Proofs.YtejieacdfjpfnaaGreat
