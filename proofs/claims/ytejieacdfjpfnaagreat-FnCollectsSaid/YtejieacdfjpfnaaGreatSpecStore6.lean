/-
  Contracts: IsStore, l26Used, l26Find and FindIn, of the reference.
-/
import Derived.Test.YtejieacdfjpfnaaGreatSpecStore5
import Derived.Test.YtejieacdfjpfnaaGreatStoreFind
namespace Go.Proofs.YtejieacdfjpfnaaGreat
set_option maxRecDepth 100000
open Go.ChangeShapes Go.WideShapes Go.ChangeAt Go.RowKit Go.Deep

def prS1 (s : StoreD) (x : PromD) : Bool := (decide (0 ≤ x.state) && decide (x.state ≤ 2)) && (decide (0 ≤ x.code) && decide (x.code ≤ 99999)) && !(x.state != 2 && !zeroV x.value) && valFit s x.value
def prS2 (s : StoreD) (x : PromD) : Bool := !(x.used && !envU s x.env) && !((!x.used || x.state == 2) && x.env != 0) && !(!x.used && (x.state != 0 || x.code != 0))
theorem prS_eq (s : StoreD) (x : PromD) : (prS1 s x && prS2 s x) = prOk s x := by
  have hz := @zero_fit s x.value
  unfold prS1 prS2 prOk prA prU
  cases x.used
  · simp only [Bool.false_eq_true, if_false]
    grind
  · simp only [if_true]
    grind
def storeOkS (s : StoreD) : Bool := decide (∀ k (h : k < s.envs.length), envOkS s k s.envs[k] = true) && promsOk s && decide (0 < s.envs.length)
theorem storeOkS_eq (s : StoreD) : storeOkS s = storeOk s := by
  rw [Bool.eq_iff_iff]
  unfold storeOkS storeOk envsOk
  simp only [Bool.and_eq_true, decide_eq_true_eq]
  constructor
  · rintro ⟨⟨h1, h2⟩, h3⟩
    have hu : s.envs[0].used = true := by
      have := h1 0 h3
      unfold envOkS at this
      cases hu : s.envs[0].used
      · rw [hu] at this; simp at this
      · rfl
    refine ⟨⟨⟨h3, by rw [List.getElem?_eq_getElem h3]; simpa using hu⟩, fun k h => ?_⟩, h2⟩
    have := h1 k h
    unfold envOkS at this
    unfold envOk
    cases hk : s.envs[k].used
    · rw [hk] at this
      simp only [Bool.false_eq_true, if_false, Bool.and_eq_true] at this ⊢
      exact this.2
    · rw [hk] at this
      simp only [if_true] at this ⊢
      unfold envOk at this
      rwa [if_pos hk] at this
  · rintro ⟨⟨⟨h3, h0⟩, h1⟩, h2⟩
    refine ⟨⟨fun k h => ?_, h2⟩, h3⟩
    have := h1 k h
    unfold envOkS
    cases hk : s.envs[k].used
    · simp only [Bool.false_eq_true, if_false, Bool.and_eq_true, decide_eq_true_eq]
      unfold envOk at this
      rw [if_neg (by rw [hk]; decide)] at this
      refine ⟨?_, this⟩
      rcases Nat.eq_zero_or_pos k with h4 | h4
      · subst h4
        rw [List.getElem?_eq_getElem h3] at h0
        simp only [Option.map_some, Option.getD_some] at h0
        rw [h0] at hk
        cases hk
      · omega
    · simp only [if_true]
      exact this

set_option maxHeartbeats 4000000 in
theorem spec_IsStore (s : StoreD) (ss : List Value) (w : World) (hs : StoreR w ss s) (hz : szStore s ≤ 1000000000000) :
    Calls Tryz.prog 39 #[.agg ss.toArray] w (RetB (storeOk s) w) := by
  rw [← storeOkS_eq]
  have HS := Lib.hid hs
  obtain ⟨G, g0, HG, B1⟩ := good1 w 33 ss
  obtain ⟨E0, e0, E1, e1, rfl, l0, l1, HE, HP⟩ := hs.open_
  clear hs
  obtain ⟨xs0, xs1⟩ := pk_f2 B1
  go_enter Tryz.func39, Tryz.ntmps39
  go_upto_region 1 with fail
  refine gen_w g0 ?_
  clear g0
  intro W0 g0
  generalize (Value.agg #[.slice E0 s.envs.length e0, .slice E1 s.promises.length e1]) = V0
  go_wp2_with fail
  go_loopw [3] (fun i wr => ∃ k : Nat, k ≤ s.envs.length ∧ i = .int .i64 k ∧ Hid (∀ j (h : j < s.envs.length), j < k → envOkS s j s.envs[j] = true) ∧ Ok G wr) (fun i _ => s.envs.length - (intOf i).toNat)
  case atStart => exact ⟨0, Nat.zero_le _, rfl, fun j _ h => absurd h (by omega), g0⟩
  case round =>
    clear g0
    obtain ⟨k, hk, rfl, hn, g1⟩ := hrel
    by_cases hlt : k < s.envs.length
    · have hzk := sz_env k hlt
      go_wp2_with fail
      refine (spec_l26Env s k hlt _ _ (HS.out.below (HG.out.below g1)) (by omega)).mono ?_
      rintro e w2 ⟨rfl, hb⟩
      replace g1 := HG.out.step g1 hb
      clear hb
      cases hq : envOkS s k s.envs[k]
      · have HQ := Lib.hid (show storeOkS s = false by
          unfold storeOkS
          rw [decide_eq_false (fun h' => by rw [h' k hlt] at hq; cases hq)]
          rfl)
        clear hq
        go_wp2_with fail
        go_ret
        exact ⟨ret_bool HQ.out.symm, HG.out.below g1⟩
      · have HQ2 := Lib.hid hq
        clear hq
        go_wp2_with fail
        go_roundw
        case rel => exact ⟨k + 1, by omega, by go_num, fun j h1 hj => by (rcases Nat.lt_succ_iff_lt_or_eq.1 hj with h3 | rfl); exact hn.out j h1 h3; exact HQ2.out, g1⟩
        case measure => simp [intOf]; omega
    have HEO := Lib.hid (show storeOkS s = (promsOk s && decide (0 < s.envs.length)) by
      unfold storeOkS
      rw [decide_eq_true (fun j h => hn.out j h (by omega))]
      rfl)
    clear hn
    go_wp2_with fail
    obtain ⟨wo, rfl⟩ : ∃ wo : World, wo = wr := ⟨_, rfl⟩
    go_loopw [4, 5] (fun i _ wr => ∃ k : Nat, k ≤ s.promises.length ∧ i = .int .i64 k ∧ Hid (∀ j (h : j < s.promises.length), j < k → prOk s s.promises[j] = true) ∧ Ok G wr) (fun i _ _ => s.promises.length - (intOf i).toNat)
    case atStart => exact ⟨0, Nat.zero_le _, rfl, fun j _ h => absurd h (by omega), g1⟩
    case round =>
      clear g1 hk hlt
      obtain ⟨k, hk, rfl, hn, g1⟩ := hrel
      by_cases hlt : k < s.promises.length
      · have hzk := sz_prom k hlt
        obtain ⟨b, off, cs, rfl, hbl, _, hat, hr⟩ := HP.out k hlt
        obtain ⟨G', g', HG', B'⟩ := good1 wr 74 cs
        have hGG := fun W (h : Ok G' W) => HG.out.step g1 (HG'.out.below h)
        have HPR := Lib.hid hr
        obtain ⟨A1, c1, A2, c2, A3, c3, A4, c4, A5, c5, rfl, i0, i1, i2, HV0⟩ := hr.open_
        have HV := Lib.hid (VecR.below HV0.out (HG.out.below g1))
        clear hr HV0
        obtain ⟨y0, y1, y2, y3, y4, y5, y6, y7, y8, y9, y10, y11⟩ := pk_e12 HG hbl hat
        clear hat
        go_upto_region 10 with fail
        refine gen_w g' ?_
        clear g' y0 y1 y2 y3 y4 y5 y6 y7 y8 y9 y10 y11
        intro W1 g'
        generalize (Value.agg #[.bool s.promises[k].used, .int .i64 s.promises[k].code, .int .i64 s.promises[k].env, .int .i64 s.promises[k].state, .int .i64 s.promises[k].value.kind, .slice A1 s.promises[k].value.items.length c1, .slice A2 s.promises[k].value.parts.length c2, .slice A3 s.promises[k].value.names.length c3, .slice A4 s.promises[k].value.cls.length c4, .slice A5 s.promises[k].value.levels.length c5, .int .i64 s.promises[k].value.code, .int .i64 s.promises[k].value.env]) = V2
        obtain ⟨x0, x1, x2, x3, x4, x5, x6, x7, x8, x9, x10, x11⟩ := pk_f12 B'
        go_cut [57] from 29 to 57 (fun v wx => v = .bool (!prS1 s s.promises[k]) ∧ Ok G' wx)
        case first =>
          cases q1 : (decide (0 ≤ s.promises[k].state) && decide (s.promises[k].state ≤ 2))
          · have Q1 := Lib.hid q1
            clear q1
            go_wp2_with (first | (go_at_call 93; refine (spec_l1In _ _ _ _).mono ?_; rintro e w' ⟨rfl, rfl⟩; first | rw [Q1.out] | rw [Q2.out]) | (go_at_call 94; refine (spec_l4Same_zero s.promises[k].value _ _ (VecR.below HV.out (HG'.out.below g'))).mono ?_; rintro e w1 ⟨rfl, hb⟩; rw [ZV.out]; replace g' := HG'.out.step g' hb; clear hb) | (go_at_call 79; refine (spec_l26Value s s.promises[k].value _ _ _ (HS.out.below (HG.out.below (hGG _ g'))) (VecR.below HV.out (HG'.out.below g')) (by omega)).mono ?_; rintro e w1 ⟨rfl, hb⟩; rw [VF.out]; replace g' := HG'.out.step g' hb; clear hb))
            all_goals
              go_meet
              case rel => exact ⟨by congr 1; go_light; have := Q1.out; grind [prS1], g'⟩
          have Q1 := Lib.hid q1
          clear q1
          cases q2 : (decide (0 ≤ s.promises[k].code) && decide (s.promises[k].code ≤ 99999))
          · have Q2 := Lib.hid q2
            clear q2
            go_wp2_with (first | (go_at_call 93; refine (spec_l1In _ _ _ _).mono ?_; rintro e w' ⟨rfl, rfl⟩; first | rw [Q1.out] | rw [Q2.out]) | (go_at_call 94; refine (spec_l4Same_zero s.promises[k].value _ _ (VecR.below HV.out (HG'.out.below g'))).mono ?_; rintro e w1 ⟨rfl, hb⟩; rw [ZV.out]; replace g' := HG'.out.step g' hb; clear hb) | (go_at_call 79; refine (spec_l26Value s s.promises[k].value _ _ _ (HS.out.below (HG.out.below (hGG _ g'))) (VecR.below HV.out (HG'.out.below g')) (by omega)).mono ?_; rintro e w1 ⟨rfl, hb⟩; rw [VF.out]; replace g' := HG'.out.step g' hb; clear hb))
            all_goals
              go_meet
              case rel => exact ⟨by congr 1; go_light; have := Q1.out; have := Q2.out; grind [prS1], g'⟩
          have Q2 := Lib.hid q2
          clear q2
          cases q3 : (s.promises[k].state != 2) <;> cases zv : zeroV s.promises[k].value <;> cases vf : valFit s s.promises[k].value
          all_goals
            have ZV := Lib.hid zv
            have VF := Lib.hid vf
            clear zv vf
            go_wp2_with (first | (go_at_call 93; refine (spec_l1In _ _ _ _).mono ?_; rintro e w' ⟨rfl, rfl⟩; first | rw [Q1.out] | rw [Q2.out]) | (go_at_call 94; refine (spec_l4Same_zero s.promises[k].value _ _ (VecR.below HV.out (HG'.out.below g'))).mono ?_; rintro e w1 ⟨rfl, hb⟩; rw [ZV.out]; replace g' := HG'.out.step g' hb; clear hb) | (go_at_call 79; refine (spec_l26Value s s.promises[k].value _ _ _ (HS.out.below (HG.out.below (hGG _ g'))) (VecR.below HV.out (HG'.out.below g')) (by omega)).mono ?_; rintro e w1 ⟨rfl, hb⟩; rw [VF.out]; replace g' := HG'.out.step g' hb; clear hb))
            all_goals
              go_meet
              case rel => exact ⟨by congr 1; go_light; have := Q1.out; have := Q2.out; have := ZV.out; have := VF.out; grind [prS1], g'⟩
        obtain ⟨rfl, g2⟩ := hcut
        clear g'
        have g' := g2
        clear g2
        cases hp1 : prS1 s s.promises[k]
        · have HQ := Lib.hid (show storeOkS s = false by
            rw [HEO.out, show promsOk s = false from decide_eq_false (fun h' => by have := h' k hlt; rw [← prS_eq, hp1] at this; cases this)]
            rfl)
          clear hp1
          go_wp2_with fail
          go_ret
          exact ⟨ret_bool HQ.out.symm, HG.out.below (hGG _ g')⟩
        have HP1 := Lib.hid hp1
        clear hp1
        go_upto_region 12 with fail
        go_cut [109] from 58 to 109 (fun v wx => v = .bool (!prS2 s s.promises[k]) ∧ Ok G' wx)
        case first =>
          cases uu : s.promises[k].used
          · rw [uu] at x0
            have UU := Lib.hid uu
            clear uu
            cases q4 : (s.promises[k].env != 0) <;> cases q5 : (s.promises[k].state != 0) <;> cases q6 : (s.promises[k].code != 0)
            all_goals
              go_wp2_with fail
              all_goals
                go_meet
                case rel => exact ⟨by congr 1; go_light; have := UU.out; grind [prS2], g'⟩
          rw [uu] at x0
          have UU := Lib.hid uu
          clear uu
          by_cases hr : 0 ≤ s.promises[k].env ∧ s.promises[k].env ≤ (s.envs.length : Int) - 1
          · have hpl : s.promises[k].env.toNat < s.envs.length := by omega
            obtain ⟨b0, off0, cs0, hE, hbl0, _, hat0, v2, v3, rfl, _⟩ := HE.out s.promises[k].env.toNat hpl
            subst hE
            have z0 := fun W (h : Ok G' W) => ((HG.out.below (hGG W h)).cell (p := ⟨b0, off0 + s.promises[k].env.toNat * 4, none⟩) hbl0).trans (show _ = some (Value.bool s.envs[s.promises[k].env.toNat].used) from by simpa using hat0 0 _ rfl)
            have HU := Lib.hid (show envU s s.promises[k].env = s.envs[s.promises[k].env.toNat].used by
              have := envU_at (s := s) s.promises[k].env.toNat hpl
              rw [show ((s.promises[k].env.toNat : Nat) : Int) = s.promises[k].env by omega] at this
              exact this)
            have r1 := hr.1
            have r2 : s.promises[k].env < s.envs.length := by omega
            have HR := Lib.hid hr
            clear hat0 hr
            cases hu2 : s.envs[s.promises[k].env.toNat].used <;> cases q4 : (s.promises[k].state == 2) <;> cases q5 : (s.promises[k].env != 0)
            all_goals
              rw [hu2] at z0
              have HU2 := Lib.hid hu2
              clear hu2
              go_wp2_with (go_at_call 93; refine (spec_l1In_t _ _ _ _ HR.out.1 HR.out.2).mono ?_; rintro e w' ⟨rfl, rfl⟩)
              all_goals
                go_meet
                case rel => exact ⟨by congr 1; go_light; have := UU.out; have := HU.out; have := HU2.out; grind [prS2], g'⟩
          · have HU := Lib.hid (show envU s s.promises[k].env = false by by_cases h1 : 0 ≤ s.promises[k].env; exact envU_big (by omega); exact envU_neg h1)
            have HR := Lib.hid hr
            clear hr
            cases q4 : (s.promises[k].state == 2) <;> cases q5 : (s.promises[k].env != 0)
            all_goals
              go_wp2_with (go_at_call 93; refine (spec_l1In_f _ _ _ _ HR.out).mono ?_; rintro e w' ⟨rfl, rfl⟩)
              all_goals
                go_meet
                case rel => exact ⟨by congr 1; go_light; have := UU.out; have := HU.out; grind [prS2], g'⟩
        obtain ⟨rfl, g2⟩ := hcut
        clear g'
        have g' := g2
        clear g2
        cases hp2 : prS2 s s.promises[k]
        · have HQ := Lib.hid (show storeOkS s = false by
            rw [HEO.out, show promsOk s = false from decide_eq_false (fun h' => by have := h' k hlt; rw [← prS_eq, hp2, Bool.and_false] at this; cases this)]
            rfl)
          clear hp2
          go_wp2_with fail
          go_ret
          exact ⟨ret_bool HQ.out.symm, HG.out.below (hGG _ g')⟩
        have HP2 := Lib.hid (show prOk s s.promises[k] = true by rw [← prS_eq, HP1.out, hp2]; rfl)
        clear hp2
        have g3 := hGG _ g'
        go_wp2_with fail
        go_roundw
        case rel => first | exact ⟨k + 1, by omega, by go_num, fun j h1 hj => by (rcases Nat.lt_succ_iff_lt_or_eq.1 hj with h3 | rfl); exact hn.out j h1 h3; exact HP2.out, g3⟩ | ((repeat apply Exists.intro); exact ⟨⟨k + 1, by omega, by go_num, fun j h1 hj => by (rcases Nat.lt_succ_iff_lt_or_eq.1 hj with h3 | rfl); exact hn.out j h1 h3; exact HP2.out, g3⟩, rfl⟩)
        case measure => simp [intOf]; omega
      · have HPO := Lib.hid (show promsOk s = true from decide_eq_true (fun j h => hn.out j h (by omega)))
        go_wp2_with fail
        go_ret
        exact ⟨ret_bool (by rw [HEO.out, HPO.out]; go_light; grind), HG.out.below g1⟩

set_option maxHeartbeats 2000000 in
theorem spec_l26Used (s : StoreD) (env : Int) (ss : List Value) (w : World) (hs : StoreR w ss s) (hz : szStore s ≤ 1000000000000) :
    Calls Tryz.prog 69 #[.agg ss.toArray, .int .i64 env] w (RetB (storeOk s && envU s env) w) := by
  have HS := Lib.hid hs
  obtain ⟨G, g0, HG, B1⟩ := good1 w 33 ss
  obtain ⟨E0, e0, E1, e1, rfl, l0, l1, HE, HP⟩ := hs.open_
  clear hs
  obtain ⟨xs0, xs1⟩ := pk_f2 B1
  go_enter Tryz.func69, Tryz.ntmps69
  go_upto_region 1 with fail
  refine gen_w g0 ?_
  clear g0
  intro W0 g0
  generalize (Value.agg #[.slice E0 s.envs.length e0, .slice E1 s.promises.length e1]) = V0
  cases hok : storeOk s
  · have HOK := Lib.hid hok
    clear hok
    go_wp2_with (go_at_call 39; refine (spec_IsStore s _ _ (HS.out.below (HG.out.below g0)) hz).mono ?_; rintro e w1 ⟨rfl, hb⟩; rw [HOK.out]; replace g0 := HG.out.step g0 hb; clear hb)
    go_ret
    exact ⟨ret_bool (by rw [HOK.out]; rfl), HG.out.below g0⟩
  have HOK := Lib.hid hok
  clear hok
  by_cases hr : 0 ≤ env ∧ env ≤ (s.envs.length : Int) - 1
  rotate_left
  · have HU := Lib.hid (show envU s env = false by by_cases h1 : 0 ≤ env; exact envU_big (by omega); exact envU_neg h1)
    have HR := Lib.hid hr
    clear hr
    go_wp2_with (first | (go_at_call 39; refine (spec_IsStore s _ _ (HS.out.below (HG.out.below g0)) hz).mono ?_; rintro e w1 ⟨rfl, hb⟩; rw [HOK.out]; replace g0 := HG.out.step g0 hb; clear hb) | (go_at_call 93; refine (spec_l1In_f _ _ _ _ HR.out).mono ?_; rintro e w' ⟨rfl, rfl⟩))
    go_ret
    exact ⟨ret_bool (by rw [HOK.out, HU.out]; rfl), HG.out.below g0⟩
  obtain ⟨p, rfl⟩ := Int.eq_ofNat_of_zero_le hr.1
  have hlt : p < s.envs.length := by omega
  have HU := Lib.hid (envU_at (s := s) p hlt)
  obtain ⟨b, off, cs, rfl, hbl, _, hat, v2, v3, rfl, _⟩ := HE.out p hlt
  have y0 := fun W (h : Ok G W) => ((HG.out.below h).cell (p := ⟨b, off + p * 4, none⟩) hbl).trans (show _ = some (Value.bool s.envs[p].used) from by simpa using hat 0 _ rfl)
  have HR := Lib.hid hr
  clear hat hr
  go_wp2_with (first | (go_at_call 39; refine (spec_IsStore s _ _ (HS.out.below (HG.out.below g0)) hz).mono ?_; rintro e w1 ⟨rfl, hb⟩; rw [HOK.out]; replace g0 := HG.out.step g0 hb; clear hb) | (go_at_call 93; refine (spec_l1In_t _ _ _ _ HR.out.1 HR.out.2).mono ?_; rintro e w' ⟨rfl, rfl⟩))
  go_ret
  exact ⟨ret_bool (by rw [HOK.out, HU.out]; rfl), HG.out.below g0⟩

set_option maxHeartbeats 2000000 in
theorem spec_l26Find (s : StoreD) (name : List UInt8) (env : Int) (ss : List Value) (w : World) (hs : StoreR w ss s) (hok : storeOk s = true) (hu : -1 ≤ env ∧ env < s.envs.length ∧ (env < 0 ∨ envU s env = true)) :
    Calls Tryz.prog 107 #[.agg ss.toArray, .int .i64 env, .string (str name)] w (RetII (findS s name (s.envs.length + 1) env) w) := by
  obtain ⟨G, g0, HG, B1⟩ := good1 w 33 ss
  obtain ⟨E0, e0, E1, e1, rfl, l0, l1, HE, HP⟩ := hs.open_
  clear hs
  have HOK := Lib.hid hok
  have HU := Lib.hid hu
  generalize hR : findS s name (s.envs.length + 1) env = R
  have HR := Lib.hid hR
  obtain ⟨hu1, hu2, _⟩ := hu
  clear hR hok
  obtain ⟨xs0, xs1⟩ := pk_f2 B1
  go_enter Tryz.func107, Tryz.ntmps107
  go_upto_region 1 with fail
  refine gen_w g0 ?_
  clear g0
  intro W0 g0
  generalize (Value.agg #[.slice E0 s.envs.length e0, .slice E1 s.promises.length e1]) = V0
  go_wp2_with fail
  go_loop [8, 9] (fun x _ => ∃ (f : Nat) (e : Int), x = .int .i64 e ∧ -1 ≤ e ∧ e < s.envs.length ∧ Hid (e < f) ∧ Hid (e < 0 ∨ envU s e = true) ∧ Hid (findS s name f e = R)) (fun x _ => (intOf x + 1).toNat)
  case atStart => exact ⟨s.envs.length + 1, env, rfl, by omega, by omega, by show env < _; omega, HU.out.2.2, HR.out⟩
  case round =>
    obtain ⟨f, e, rfl, he1, he2, hf, hu', hr⟩ := hrel
    by_cases h0 : 0 ≤ e
    · obtain ⟨k, rfl⟩ := Int.eq_ofNat_of_zero_le h0
      have hlt : k < s.envs.length := by omega
      have hpu : envU s k = true := by rcases hu'.out with h | h; omega; exact h
      obtain ⟨p1, p2, p3⟩ := env_parent HOK.out k hlt hpu
      have HP3 := Lib.hid p3
      clear hpu p3 h0
      obtain ⟨b, off, cs, rfl, hbl, _, hat, hr2⟩ := HE.out k hlt
      obtain ⟨N, n, M, m, rfl, k0, m1, m2, HN, HM⟩ := hr2.open_
      clear hr2
      obtain ⟨y0, y1, y2, y3⟩ := pk_e4 HG hbl hat
      clear hat
      obtain ⟨f', hff⟩ : ∃ f', f = f' + 1 := ⟨f - 1, by have := hf.out; omega⟩
      have HFF := Lib.hid hff
      clear hff
      by_cases hh : 0 ≤ findB s.envs[k].names name
      · have HH := Lib.hid (show R = ((k : Int), findB s.envs[k].names name) by rw [← hr.out, HFF.out]; exact findS_hit hlt hh)
        go_wp2_with (go_at_call 119; refine (spec_l1Find s.envs[k].names name _ _ (Txts.below HN.out (HG.out.below g0))).mono ?_; rintro e w' ⟨rfl, rfl⟩)
        go_ret2
        exact ⟨by rw [HH.out]; rfl, HG.out.below g0⟩
      · have HH := Lib.hid (show findS s name f' s.envs[k].parent = R by rw [← hr.out, HFF.out]; exact (findS_go hlt hh).symm)
        have hh' : findB s.envs[k].names name < 0 := by omega
        go_wp2_with (go_at_call 119; refine (spec_l1Find s.envs[k].names name _ _ (Txts.below HN.out (HG.out.below g0))).mono ?_; rintro e w' ⟨rfl, rfl⟩)
        go_round
        case rel => exact ⟨f', s.envs[k].parent, rfl, p1, by omega, by show _ < _; have := hf.out; have := HFF.out; omega, HP3.out, HH.out⟩
        case measure => simp [intOf]; omega
    · have HH := Lib.hid (show R = (-1, -1) by rw [← hr.out]; exact findS_neg (by omega))
      go_wp2_with fail
      go_ret2
      exact ⟨by rw [HH.out]; rfl, HG.out.below g0⟩

set_option maxHeartbeats 1000000 in
theorem spec_FindIn (s : StoreD) (env : Int) (name : List UInt8) (ss : List Value) (w : World) (hs : StoreR w ss s) (hz : szStore s ≤ 1000000000000) :
    Calls Tryz.prog 56 #[.agg ss.toArray, .int .i64 env, .string (str name)] w (RetII (findIn s env name) w) := by
  have HS := Lib.hid hs
  obtain ⟨G, g0, HG, B1⟩ := good1 w 33 ss
  obtain ⟨E0, e0, E1, e1, rfl, l0, l1, _⟩ := hs.open_
  clear hs
  obtain ⟨xs0, xs1⟩ := pk_f2 B1
  go_enter Tryz.func56, Tryz.ntmps56
  go_upto_region 1 with fail
  refine gen_w g0 ?_
  clear g0
  intro W0 g0
  generalize (Value.agg #[.slice E0 s.envs.length e0, .slice E1 s.promises.length e1]) = V0
  cases hok : storeOk s && envU s env
  · have HOK := Lib.hid hok
    have HQ := Lib.hid (show findIn s env name = (-1, -1) by unfold findIn; rw [hok]; rfl)
    clear hok
    go_wp2_with (go_at_call 69; refine (spec_l26Used s env _ _ (HS.out.below (HG.out.below g0)) hz).mono ?_; rintro e w1 ⟨rfl, hb⟩; rw [HOK.out]; replace g0 := HG.out.step g0 hb; clear hb)
    go_ret2
    exact ⟨by rw [HQ.out]; rfl, HG.out.below g0⟩
  have HOK := Lib.hid hok
  have HQ := Lib.hid (show findIn s env name = findS s name (s.envs.length + 1) env by unfold findIn; rw [hok]; rfl)
  have HK := Lib.hid ((Bool.and_eq_true _ _).mp hok)
  clear hok
  go_wp2_with (first | (go_at_call 69; refine (spec_l26Used s env _ _ (HS.out.below (HG.out.below g0)) hz).mono ?_; rintro e w1 ⟨rfl, hb⟩; rw [HOK.out]; replace g0 := HG.out.step g0 hb; clear hb) | (go_at_call 107; refine (spec_l26Find s name env _ _ (HS.out.below (HG.out.below g0)) HK.out.1 ⟨by have := envU_lt HK.out.2; omega, (envU_lt HK.out.2).2, .inr HK.out.2⟩).mono ?_; rintro e w1 ⟨rfl, hb⟩; replace g0 := HG.out.step g0 hb; clear hb))
  go_ret2
  exact ⟨by rw [HQ.out]; rfl, HG.out.below g0⟩

end Go.Proofs.YtejieacdfjpfnaaGreat
