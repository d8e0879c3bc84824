/-
  The law FnRandom returns true for every list of bytes: for every state and number that is drawn both sides give the same order, which is a permutation, its beginnings are the samples, and skipping is stepping.
-/
import Derived.Test.YtkdlekonfjeidaaRows
import Derived.Test.YtkdlekonfjeidaaJoin
import Derived.Test.YtkdlekonfjeidaaRandDraw2
import Derived.Test.YtkdlekonfjeidaaOpen
namespace Go.Proofs.Ytkdlekonfjeidaa
set_option maxRecDepth 100000
open Go.ChangeShapes Go.WideShapes Go.ChangeAt Go.RowKit Go.Deep
set_option linter.unusedVariables false

namespace fnRandom
theorem laws_big (v : Value) (l : List Nat) (w : World) (h : Bytes w v l) :
    Calls Try.prog 4 #[v] w fun e w' => e = .returned (.bool (decide (1048576 < l.length))) ∧ w = w' := by
  obtain ⟨A, c, rfl, hlc, hm, HC⟩ := SlR.open_ h
  clear h HC
  unfold maxLen at hm
  go_enter Try.func4, Try.ntmps4
  go_wp2_with fail
  go_ret
  exact ⟨ret_bool (by rw [decide_eq_decide]; omega), rfl⟩
theorem shufA_len (s n : Int) (h1 : -1 ≤ n) (h2 : n ≤ 10) : (shufA s n).1.length ≤ 10 := by
  unfold shufA
  split
  · rw [shufL_length, idL_length]; omega
  · exact Nat.zero_le _
theorem shufA_has (s n : Int) (i : Int) (h1 : 1 ≤ i) (h2 : i ≤ (shufA s n).1.length) : i ∈ (shufA s n).1 := by
  unfold shufA at h2 ⊢
  split at h2
  · rename_i h
    rw [if_pos h]
    simp only [Bool.and_eq_true] at h
    rw [shufL_length, idL_length] at h2
    exact shufL_mem _ _ _ (by rw [idL_length]; omega) h.1 i (idL_mem _ i h1 h2)
  · simp at h2; omega

set_option maxHeartbeats 1000000 in
theorem walk (v : Value) (l : List Nat) {w : World} (h : Bytes w v l) :
    Calls Try.prog 3 #[v] w fun e w' => e = .returned (.bool true) ∧ Below w.heap.size w w' := by
  have HH := Lib.hid h
  clear h
  by_cases hl : l.length ≤ 1048576
  rotate_left
  · go_enter Try.func3, Try.ntmps3
    go_wp2_with fail
    refine (laws_big v l _ HH.out).mono ?_
    rw [show decide (1048576 < l.length) = true by simp; omega]
    rintro e w1 ⟨rfl, rfl⟩
    go_wp2_with fail
    go_ret
    exact ⟨rfl, Below.refl _ _⟩
  obtain ⟨A, c, hv, hlc, hm, _⟩ := SlR.open_ HH.out
  subst hv
  unfold maxLen at hm
  go_enter Try.func3, Try.ntmps3
  go_wp2_with fail
  refine (laws_big _ l _ HH.out).mono ?_
  rw [show decide (1048576 < l.length) = false by simp; omega]
  rintro e w1 ⟨rfl, rfl⟩
  go_wp2_with fail
  refine (spec_DrawShuffleOf _ l _ HH.out hl).mono ?_
  rintro e w1 ⟨s, n, rfl, h1, h2, hs, hb⟩
  have HB := Lib.hid hb
  clear hb
  have HL := shufA_len s n h1 h2
  have HP := Lib.hid (shufA_has s n)
  have HC1 := Lib.hid (fun w => impl_ShuffleA s n w h1 h2)
  have HC2 := Lib.hid (fun w => spec_ShuffleA s n w h1 h2)
  have HC3 := Lib.hid (fun k w hk => impl_SampleOf s n k w h1 h2 hk HL)
  have HC4 := Lib.hid (fun k w hk => spec_SampleOf s n k w h1 h2 hk HL)
  have HI := Lib.hid (shufA_i64 s n (by omega))
  have hs0 := hs.1
  have hs9 := hs.2
  generalize shufA s n = p at *
  obtain ⟨m, t⟩ := p
  dsimp only at HL HP HC1 HC2 HC3 HC4 HI
  go_wp2_with fail
  refine (HC1.out _).mono ?_
  rintro e w2 ⟨v1, rfl, ho, hb⟩
  have HT1 := Lib.hid (show Ints w2 v1 m from Ints.of_own ho HI.out)
  replace HB := Lib.hid (HB.out.trans (hb.mono HB.out.size))
  obtain ⟨A1, c1, hv1⟩ := SlR.shape HT1.out
  subst hv1
  clear ho hb
  dsimp only
  go_wp2_with fail
  refine (HC2.out _).mono ?_
  rintro e w3 ⟨v2, rfl, ho, hb⟩
  have HT2 := Lib.hid (show Ints w3 v2 m from Ints.of_own ho HI.out)
  replace HT1 := Lib.hid (HT1.out.below hb)
  replace HB := Lib.hid (HB.out.trans (hb.mono HB.out.size))
  obtain ⟨A2, c2, hv2, hsl⟩ : ∃ A2 c2, v2 = .slice A2 m.length c2 ∧ ((A2 = none ∧ c2 = 0 ∧ m.length = 0) ∨ ∃ g, A2 = some ⟨g, 0, none⟩ ∧ m.length ≤ c2 ∧ c2 ≤ maxLen) := by
    rcases ho.2 with ⟨rfl, hz⟩ | ⟨g, cap, cur, rfl, hgb, hg, hnc, hcm, hcs, htake⟩
    · have hz' : m.length = 0 := hz
      exact ⟨none, 0, by rw [hz'], .inl ⟨rfl, rfl, hz'⟩⟩
    · exact ⟨_, cap, rfl, .inr ⟨g, rfl, hnc, hcm⟩⟩
  subst hv2
  have HSL := Lib.hid hsl
  clear ho hb hsl
  dsimp only
  go_wp2_with fail
  refine (laws_sameInts m m _ _ _ HT1.out HT2.out).mono ?_
  rw [eqL_self]
  rintro e w4 ⟨rfl, q, rfl⟩
  replace HT2 := Lib.hid (show Ints (w3.drewN q) _ m from HT2.out)
  replace HB := Lib.hid (below_drewN HB.out q)
  generalize w3.drewN q = w4 at *
  clear HT1
  go_wp2_with fail
  go_loop [9] (fun i => ∃ k : Nat, k ≤ m.length ∧ i = .int .i64 ((k : Int) + 1)) (fun i => m.length + 1 - (intOf i).toNat)
  case atStart => exact ⟨0, Nat.zero_le _, rfl⟩
  case round =>
    obtain ⟨k, hk, rfl⟩ := hrel
    by_cases hlt : k < m.length
    · go_wp2_with fail
      refine (laws_has m ((k : Int) + 1) _ _ HT2.out (HP.out _ (by omega) (by omega))).mono ?_
      rintro e w5 ⟨rfl, rfl⟩
      go_wp2_with fail
      go_round
      case rel => exact ⟨k + 1, by omega, by go_num⟩
      case measure => simp [intOf]; omega
    · obtain rfl : k = m.length := by omega
      clear hk hlt
      obtain ⟨k2, hk2, hcast⟩ : ∃ k2 : Nat, k2 ≤ m.length ∧ ((m.length : Int) / 2) = (k2 : Int) := ⟨m.length / 2, by omega, by omega⟩
      have HC5 := Lib.hid hcast
      have hmin : (m.take k2).length = k2 := by rw [List.length_take]; omega
      clear hcast
      go_wp2_with fail
      rw [HC5.out]
      refine (HC3.out k2 _ hk2).mono ?_
      rintro e w5 ⟨v3, rfl, ht3, hb⟩
      have HT3 := Lib.hid ht3
      replace HT2 := Lib.hid (HT2.out.below hb)
      replace HB := Lib.hid (HB.out.trans (hb.mono HB.out.size))
      obtain ⟨A3, c3, hv3⟩ := SlR.shape HT3.out
      rw [hmin] at hv3
      subst hv3
      clear ht3 hb
      dsimp only
      go_wp2_with fail
      refine (HC4.out k2 _ hk2).mono ?_
      rintro e w6 ⟨v4, rfl, ht4, hb⟩
      have HT4 := Lib.hid ht4
      replace HT2 := Lib.hid (HT2.out.below hb)
      replace HT3 := Lib.hid (HT3.out.below hb)
      replace HB := Lib.hid (HB.out.trans (hb.mono HB.out.size))
      obtain ⟨A4, c4, hv4⟩ := SlR.shape HT4.out
      rw [hmin] at hv4
      clear hmin
      subst hv4
      clear ht4 hb
      dsimp only
      go_wp2_with fail
      refine (laws_sameInts (m.take k2) (m.take k2) _ _ _ HT3.out HT4.out).mono ?_
      rw [eqL_self]
      rintro e w7 ⟨rfl, q2, rfl⟩
      replace HT2 := Lib.hid (show Ints (w6.drewN q2) _ m from HT2.out)
      replace HT4 := Lib.hid (show Ints (w6.drewN q2) _ (m.take k2) from HT4.out)
      replace HB := Lib.hid (below_drewN HB.out q2)
      generalize w6.drewN q2 = w7 at *
      clear HT3
      have HTK := Lib.hid (ints_take HT2.out k2 hk2)
      rcases HSL.out with ⟨rfl, rfl, hz⟩ | ⟨g, rfl, hc1, hc2⟩
      case inl =>
        obtain rfl : k2 = 0 := by omega
        go_wp2_with fail
        refine (laws_sameInts (m.take 0) (m.take 0) _ _ _ HT4.out (by simpa [hz] using HTK.out)).mono ?_
        rw [eqL_self]
        rintro e w8 ⟨rfl, q3, rfl⟩
        replace HB := Lib.hid (below_drewN HB.out q3)
        generalize w7.drewN q3 = w8 at *
        clear HT4 HT2 HTK HC1 HC2 HC3 HC4 HP HI HSL
        cases hst : isSt s with
        | false =>
          by_cases hlo : s < 0
          · go_wp2_with fail
            go_ret
            exact ⟨rfl, HB.out⟩
          · have hhi : 65535 < s := by simp [isSt] at hst; omega
            go_wp2_with fail
            go_ret
            exact ⟨rfl, HB.out⟩
        | true =>
          have HST := Lib.hid hst
          obtain ⟨hlo, hhi⟩ := isSt_iff.1 hst
          clear hst
          obtain ⟨sn, hsn⟩ : ∃ n : Nat, s = n := ⟨s.toNat, by omega⟩
          have HSP := Lib.hid (show ∀ w, Calls Try.prog 14 #[.int .i64 s, .int .i64 (1000 + (l.length : Int))] w fun e w' => e = .returned (.int .i64 (itS (1000 + l.length) s)) ∧ w = w' from fun w => by
            have h9 := spec_SkipState sn (1000 + l.length) w (by omega) (by omega)
            rw [← hsn] at h9
            simpa using h9)
          clear hsn
          obtain ⟨r, hr, hcr⟩ : ∃ r : Nat, r ≤ 60 ∧ ((l.length : Int) % 60) = (r : Int) := ⟨l.length % 60, by omega, by omega⟩
          have HCR := Lib.hid hcr
          clear hcr
          go_wp2_with fail
          go_loop [15, 16] (fun x i => ∃ k : Nat, k ≤ r ∧ x = .int .i64 (itS k s) ∧ i = .int .i64 k) (fun x i => r - (intOf i).toNat)
          case atStart => exact ⟨0, Nat.zero_le _, rfl, rfl⟩
          case round =>
            obtain ⟨k, hk, rfl, rfl⟩ := hrel
            have hcr := HCR.out
            by_cases hlt : k < r
            · go_wp2_with fail
              refine (impl_NextState _ _).mono ?_
              rw [← itS_succ]
              rintro e w9 ⟨rfl, rfl⟩
              clear hcr
              go_wp2_with fail
              go_round
              case rel => exact ⟨k + 1, by omega, rfl, by go_num⟩
              case measure => simp [intOf]; omega
            · obtain rfl : k = r := by omega
              clear hk hlt
              go_wp2_with fail
              refine (impl_SkipState s k _ HST.out (by omega)).mono ?_
              rintro e w9 ⟨rfl, hb9⟩
              replace HB := Lib.hid (HB.out.trans (hb9.mono HB.out.size))
              clear hb9 hcr
              go_wp2_with fail
              refine (impl_SkipState s 1000 _ HST.out (by omega)).mono ?_
              rintro e w10 ⟨rfl, hb9⟩
              replace HB := Lib.hid (HB.out.trans (hb9.mono HB.out.size))
              clear hb9
              go_wp2_with fail
              refine (impl_SkipState (itS 1000 s) l.length _ (itS_st HST.out) (by omega)).mono ?_
              rw [← itS_add]
              rintro e w11 ⟨rfl, hb9⟩
              replace HB := Lib.hid (HB.out.trans (hb9.mono HB.out.size))
              clear hb9
              go_wp2_with fail
              refine (HSP.out _).mono ?_
              rintro e w12 ⟨rfl, rfl⟩
              go_wp2_with fail
              refine (impl_SkipState s 65536 _ HST.out (by omega)).mono ?_
              rw [itS_full HST.out]
              rintro e w13 ⟨rfl, hb9⟩
              replace HB := Lib.hid (HB.out.trans (hb9.mono HB.out.size))
              clear hb9
              go_wp2_with fail
              go_ret
              exact ⟨rfl, HB.out⟩
      case inr =>
        unfold maxLen at hc2
        go_wp2_with fail
        refine (laws_sameInts (m.take k2) (m.take k2) _ _ _ HT4.out (by simpa using HTK.out)).mono ?_
        rw [eqL_self]
        rintro e w8 ⟨rfl, q3, rfl⟩
        replace HB := Lib.hid (below_drewN HB.out q3)
        generalize w7.drewN q3 = w8 at *
        clear HT4 HT2 HTK HC1 HC2 HC3 HC4 HP HI HSL
        cases hst : isSt s with
        | false =>
          by_cases hlo : s < 0
          · go_wp2_with fail
            go_ret
            exact ⟨rfl, HB.out⟩
          · have hhi : 65535 < s := by simp [isSt] at hst; omega
            go_wp2_with fail
            go_ret
            exact ⟨rfl, HB.out⟩
        | true =>
          have HST := Lib.hid hst
          obtain ⟨hlo, hhi⟩ := isSt_iff.1 hst
          clear hst
          obtain ⟨sn, hsn⟩ : ∃ n : Nat, s = n := ⟨s.toNat, by omega⟩
          have HSP := Lib.hid (show ∀ w, Calls Try.prog 14 #[.int .i64 s, .int .i64 (1000 + (l.length : Int))] w fun e w' => e = .returned (.int .i64 (itS (1000 + l.length) s)) ∧ w = w' from fun w => by
            have h9 := spec_SkipState sn (1000 + l.length) w (by omega) (by omega)
            rw [← hsn] at h9
            simpa using h9)
          clear hsn
          obtain ⟨r, hr, hcr⟩ : ∃ r : Nat, r ≤ 60 ∧ ((l.length : Int) % 60) = (r : Int) := ⟨l.length % 60, by omega, by omega⟩
          have HCR := Lib.hid hcr
          clear hcr
          go_wp2_with fail
          go_loop [15, 16] (fun x i => ∃ k : Nat, k ≤ r ∧ x = .int .i64 (itS k s) ∧ i = .int .i64 k) (fun x i => r - (intOf i).toNat)
          case atStart => exact ⟨0, Nat.zero_le _, rfl, rfl⟩
          case round =>
            obtain ⟨k, hk, rfl, rfl⟩ := hrel
            have hcr := HCR.out
            by_cases hlt : k < r
            · go_wp2_with fail
              refine (impl_NextState _ _).mono ?_
              rw [← itS_succ]
              rintro e w9 ⟨rfl, rfl⟩
              clear hcr
              go_wp2_with fail
              go_round
              case rel => exact ⟨k + 1, by omega, rfl, by go_num⟩
              case measure => simp [intOf]; omega
            · obtain rfl : k = r := by omega
              clear hk hlt
              go_wp2_with fail
              refine (impl_SkipState s k _ HST.out (by omega)).mono ?_
              rintro e w9 ⟨rfl, hb9⟩
              replace HB := Lib.hid (HB.out.trans (hb9.mono HB.out.size))
              clear hb9 hcr
              go_wp2_with fail
              refine (impl_SkipState s 1000 _ HST.out (by omega)).mono ?_
              rintro e w10 ⟨rfl, hb9⟩
              replace HB := Lib.hid (HB.out.trans (hb9.mono HB.out.size))
              clear hb9
              go_wp2_with fail
              refine (impl_SkipState (itS 1000 s) l.length _ (itS_st HST.out) (by omega)).mono ?_
              rw [← itS_add]
              rintro e w11 ⟨rfl, hb9⟩
              replace HB := Lib.hid (HB.out.trans (hb9.mono HB.out.size))
              clear hb9
              go_wp2_with fail
              refine (HSP.out _).mono ?_
              rintro e w12 ⟨rfl, rfl⟩
              go_wp2_with fail
              refine (impl_SkipState s 65536 _ HST.out (by omega)).mono ?_
              rw [itS_full HST.out]
              rintro e w13 ⟨rfl, hb9⟩
              replace HB := Lib.hid (HB.out.trans (hb9.mono HB.out.size))
              clear hb9
              go_wp2_with fail
              go_ret
              exact ⟨rfl, HB.out⟩
set_option maxRecDepth 100000 in
theorem lifted (os : Os) (started : os.Started) (H : Type) (enc : TypeId × Value → H) :
    ReturnsInHanded {} Try.checked os 3 .any (Rows.fnRandomSpec.pre6 enc Try.prog Try.f3 Rows.fnRandomRow.domain false) (Rows.fnRandomSpec.post enc Try.prog Try.f3 false true false false) := by
  refine returnsInHanded_of_change (C := Try.checked) own started (by kernel_rfl) Try.func3
    (ChangeSpec.witness6 (enc := enc) (C := Try.checked) false ⟨#[], #[.slice none 0 0], []⟩ 8 (by kernel_rfl) (by kernel_rfl) (by kernel_rfl) (by kernel_rfl)) ?_
  intro W base args ds gs before hval0 hW hcnd _
  have hval : ∀ (j : Nat) t v, Try.f3.params[j]? = some t → args[j]? = some v → Value.okWide Try.prog W .any base t v := hval0
  have hW' := hW
  obtain ⟨p, q, hA0, hV, rfl, hfz, hnd⟩ := hW
  have hA : DataW.TrodAll enc Try.prog W 0 (fun _ => true) true Try.f3.params.toList args.toList ds p := hA0
  rw [Try.params3] at hA hval
  obtain ⟨v0, vs0, d0, ds0, p0, q0, hargs, rfl, rfl, h0, r0⟩ := trodAll_cons hA
  obtain ⟨rfl, rfl, rfl⟩ := trodAll_nil r0
  obtain rfl : args = #[v0] := by cases args; simp_all
  obtain ⟨rfl, rfl⟩ := trodVars_none hV
  obtain ⟨x0, u0⟩ := open_bytes Try.underlying22 Try.underlying5 (by kernel_rfl) (hval 0 22 v0 rfl rfl) h0
  clear hA0 hval0
  refine (walk v0 x0 u0).mono fun e W' ⟨he, hg⟩ => ?_
  subst he
  exact ⟨_, rfl, law_post laidOut hW' rfl rfl Try.underlying4 rfl rfl rfl (by intro t ht; rw [Try.params3] at ht; have ht2 : t ∈ [22] := ht; simp only [List.mem_cons, List.not_mem_nil, or_false] at ht2; rcases ht2 with rfl <;> exact ⟨by kernel_rfl, of_decide_eq_true (by kernel_rfl)⟩) hg⟩

theorem fact0 : jf0 Try.prog 3 Try.f3 Rows.fnRandomSpec Rows.fnRandomRow = true := by kernel_rfl
theorem fact1 : jf1 Try.prog 3 Try.f3 Rows.fnRandomSpec Rows.fnRandomRow = true := by kernel_rfl
theorem fact2 : jf2 Try.prog 3 Try.f3 Rows.fnRandomSpec Rows.fnRandomRow = true := by kernel_rfl
theorem fact3 : jf3 Try.prog 3 Try.f3 Rows.fnRandomSpec Rows.fnRandomRow = true := by kernel_rfl
theorem fact4 : jf4 Try.prog 3 Try.f3 Rows.fnRandomSpec Rows.fnRandomRow = true := by kernel_rfl
theorem fact5 : jf5 Try.prog 3 Try.f3 Rows.fnRandomSpec Rows.fnRandomRow = true := by kernel_rfl
theorem fact6 : jf6 Try.prog 3 Try.f3 Rows.fnRandomSpec Rows.fnRandomRow = true := by kernel_rfl
theorem fact7 : jf7 Try.prog 3 Try.f3 Rows.fnRandomSpec Rows.fnRandomRow = true := by kernel_rfl
theorem fact8 : jf8 Try.prog 3 Try.f3 Rows.fnRandomSpec Rows.fnRandomRow = true := by kernel_rfl
theorem fact9 : jf9 Try.prog 3 Try.f3 Rows.fnRandomSpec Rows.fnRandomRow = true := by kernel_rfl
theorem fact10 : jf10 Try.prog 3 Try.f3 Rows.fnRandomSpec Rows.fnRandomRow = true := by kernel_rfl
theorem fact11 : jf11 Try.prog 3 Try.f3 Rows.fnRandomSpec Rows.fnRandomRow = true := by kernel_rfl
theorem fact12 : jf12 Try.prog 3 Try.f3 Rows.fnRandomSpec Rows.fnRandomRow = true := by kernel_rfl
theorem fact13 : jf13 Try.prog 3 Try.f3 Rows.fnRandomSpec Rows.fnRandomRow = true := by kernel_rfl
theorem fact14 : jf14 Try.prog 3 Try.f3 Rows.fnRandomSpec Rows.fnRandomRow = true := by kernel_rfl
theorem fact15 : jf15 Try.prog 3 Try.f3 Rows.fnRandomSpec Rows.fnRandomRow = true := by kernel_rfl
theorem fact16 : jf16 Try.prog 3 Try.f3 Rows.fnRandomSpec Rows.fnRandomRow = true := by kernel_rfl
theorem fact17 : jf17 Try.prog 3 Try.f3 Rows.fnRandomSpec Rows.fnRandomRow = true := by kernel_rfl
theorem fact18 : jf18 Try.prog 3 Try.f3 Rows.fnRandomSpec Rows.fnRandomRow = true := by kernel_rfl
theorem fact19 : jf19 Try.prog 3 Try.f3 Rows.fnRandomSpec Rows.fnRandomRow = true := by kernel_rfl
theorem fact20 : jf20 Try.prog 3 Try.f3 Rows.fnRandomSpec Rows.fnRandomRow = true := by kernel_rfl
theorem fact21 : jf21 Try.prog 3 Try.f3 Rows.fnRandomSpec Rows.fnRandomRow = true := by kernel_rfl
theorem fact22 : jf22 Try.prog 3 Try.f3 Rows.fnRandomSpec Rows.fnRandomRow = true := by kernel_rfl
theorem fact23 : jf23 Try.prog 3 Try.f3 Rows.fnRandomSpec Rows.fnRandomRow = true := by kernel_rfl
theorem fact24 : jf24 Try.prog 3 Try.f3 Rows.fnRandomSpec Rows.fnRandomRow = true := by kernel_rfl
theorem fact25 : jf25 Try.prog 3 Try.f3 Rows.fnRandomSpec Rows.fnRandomRow = true := by kernel_rfl
theorem fact26 : jf26 Try.prog 3 Try.f3 Rows.fnRandomSpec Rows.fnRandomRow = true := by kernel_rfl
theorem fact27 : jf27 Try.prog 3 Try.f3 Rows.fnRandomSpec Rows.fnRandomRow = true := by kernel_rfl
theorem fact28 : jf28 Try.prog 3 Try.f3 Rows.fnRandomSpec Rows.fnRandomRow = true := by kernel_rfl
theorem fact29 : jf29 Try.prog 3 Try.f3 Rows.fnRandomSpec Rows.fnRandomRow = true := by kernel_rfl
theorem fact30 : jf30 Try.prog 3 Try.f3 Rows.fnRandomSpec Rows.fnRandomRow = true := by kernel_rfl
theorem fact31 : jf31 Try.prog 3 Try.f3 Rows.fnRandomSpec Rows.fnRandomRow = true := by kernel_rfl
theorem over : Rows.fnRandomRow.holds Try.pinned (OpenSpec.ofChange Rows.fnRandomSpec) :=
  OpenClaim.holds_of_wide 3 Try.f3 rfl rfl rfl rfl rfl rfl rfl ⟨rfl, rfl, rfl, rfl, rfl⟩ rfl rfl rfl rfl rfl (by kernel_rfl) Try.func3 (joined fact0 fact1 fact2 fact3 fact4 fact5 fact6 fact7 fact8 fact9 fact10 fact11 fact12 fact13 fact14 fact15 fact16 fact17 fact18 fact19 fact20 fact21 fact22 fact23 fact24 fact25 fact26 fact27 fact28 fact29 fact30 fact31)
    (of_decide_eq_true (by kernel_rfl)) (by unfold Func.isWrapper; first | (rw [if_pos (by decide +kernel)]; kernel_rfl) | (rw [if_neg (by decide +kernel)]; exact ⟨rfl, rfl⟩))
    (fun os started H enc _ => lifted os started H enc)

/-- THE STATEMENT -/
theorem proved : Rows.FnRandomSaid :=
  over
#print axioms proved
end fnRandom
end Go.Proofs.Ytkdlekonfjeidaa
