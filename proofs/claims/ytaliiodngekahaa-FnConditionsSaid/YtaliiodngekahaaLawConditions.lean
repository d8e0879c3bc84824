/-
  The law FnConditions returns true for every list of bytes: what is drawn out of them is a list of handlers, a class and a message; for all such, the signal's way and the condition are as the law says.
-/
import Derived.Test.YtaliiodngekahaaRows
import Derived.Test.YtaliiodngekahaaJoin
import Derived.Test.YtaliiodngekahaaDrawCond
import Derived.Test.YtaliiodngekahaaMatching
import Derived.Test.YtaliiodngekahaaFindRestart
import Derived.Test.YtaliiodngekahaaSameVec
import Derived.Test.YtaliiodngekahaaCondMake
import Derived.Test.YtaliiodngekahaaMessage
namespace Go.Proofs.Ytaliiodngekahaa
set_option maxRecDepth 100000
open Go.ChangeShapes Go.WideShapes Go.ChangeAt Go.RowKit Go.Deep
open Go.ChangeMaps (open_string shut_string)
set_option linter.unusedVariables false

theorem matchF_law (l : List HandD) (s : List UInt8) : ∀ n, n ≤ l.length → ∀ (i : Nat) (y : Int), (matchF l s n)[i]? = some y →
    ∃ (x : Nat) (hx : x < l.length), y = x ∧ x < n ∧ l[x].name = s ∧ (l[x].kind = 1 ∨ l[x].kind = 0 ∧ i + 1 = (matchF l s n).length) ∧ ∀ (j : Nat) (z : Int), j + 1 = i → (matchF l s n)[j]? = some z → y < z := by
  intro n
  induction n with
  | zero => intro _ i y h; simp [matchF] at h
  | succ n ih =>
    intro hn i y h
    have ih := ih (by omega)
    rw [matchF_at l s n (by omega)] at h ⊢
    by_cases h1 : l[n].name = s
    · rw [if_pos h1] at h ⊢
      by_cases h2 : l[n].kind = 1
      · rw [if_pos h2] at h ⊢
        cases i with
        | zero =>
          have h5 : (n : Int) = y := by simpa using h
          exact ⟨n, by omega, h5.symm, by omega, h1, .inl h2, fun j z hj => by omega⟩
        | succ i =>
          rw [List.getElem?_cons_succ] at h
          obtain ⟨x, hx, e1, e2, e3, e4, e5⟩ := ih i y h
          refine ⟨x, hx, e1, by omega, e3, ?_, ?_⟩
          · rcases e4 with e4 | ⟨e4, e6⟩
            · exact .inl e4
            · exact .inr ⟨e4, by simp; omega⟩
          · intro j z hj hz
            cases j with
            | zero =>
              have h5 : (n : Int) = z := by simpa using hz
              omega
            | succ j => rw [List.getElem?_cons_succ] at hz; exact e5 j z (by omega) hz
      · rw [if_neg h2] at h ⊢
        by_cases h3 : l[n].kind = 0
        · rw [if_pos h3] at h ⊢
          cases i with
          | zero =>
            have h5 : (n : Int) = y := by simpa using h
            exact ⟨n, by omega, h5.symm, by omega, h1, .inr ⟨h3, rfl⟩, fun j z hj => by omega⟩
          | succ i => simp at h
        · rw [if_neg h3] at h ⊢
          obtain ⟨x, hx, e1, e2, e3, e4, e5⟩ := ih i y h
          exact ⟨x, hx, e1, by omega, e3, e4, e5⟩
    · rw [if_neg h1] at h ⊢
      obtain ⟨x, hx, e1, e2, e3, e4, e5⟩ := ih i y h
      exact ⟨x, hx, e1, by omega, e3, e4, e5⟩
theorem findR_law (l : List HandD) (s : List UInt8) : ∀ n, n ≤ l.length → -1 ≤ findR l s n ∧ findR l s n < n ∧ ∀ (j : Nat) (hj : j < l.length), j < n → findR l s n < j → isRestart s l[j] = false := by
  intro n
  induction n with
  | zero => intro _; exact ⟨by simp [findR], by simp [findR], fun j _ h => by omega⟩
  | succ n ih =>
    intro hn
    obtain ⟨i1, i2, i3⟩ := ih (by omega)
    by_cases hr : isRestart s (l[n]'(by omega)) = true
    · rw [findR_yes l s n (by omega) hr]
      exact ⟨by omega, by omega, fun j _ h1 h2 => by omega⟩
    · have hr' : isRestart s (l[n]'(by omega)) = false := by simpa using hr
      rw [findR_no l s n (by omega) hr']
      refine ⟨i1, by omega, fun j hj h1 h2 => ?_⟩
      by_cases hjn : j = n
      · subst hjn; exact hr'
      · exact i3 j hj (by omega) h2

theorem msgB_cond (c m : List UInt8) (h : vecOk (condD c m) = true) : msgB (condD c m) = some (m.take 60) := by
  have h0 : findB (condD c m).names tMessage = (0 : Nat) := by
    refine findB_at _ _ 0 (by simp [condD, VecD.names]) (fun j _ h => by omega) ?_
    simp [condD, VecD.names, sMessage, tMessage]
  rw [msg_at h rfl (by simp [hasB, condD, VecD.cls, sCondition, tCondition]) 0 h0 (by simp [condD, VecD.parts])]
  simp [condD, VecD.parts, partMsg, textV1, VecD.items, VecD.kind, missing, tItem]
theorem condV_law (c m : List UInt8) (hc : c.length ≤ 1048576) : vecOk (condV c m) = true ∧ szVector (condV c m) ≤ 1000000000000 ∧ (((condV c m).kind = 4 ∧ msgB (condV c m) = some (m.take 60)) ∨ ((condV c m).kind = 0 ∧ msgB (condV c m) = none)) := by
  unfold condV
  by_cases h : vecOk (condD c m) = true
  · rw [if_pos h]
    exact ⟨h, sz_condD c m hc, .inl ⟨rfl, msgB_cond c m h⟩⟩
  · rw [if_neg h]
    refine ⟨by decide, ?_, .inr ⟨rfl, msg_no (fun h => by have := h.2.1; simp [zeroD, VecD.kind] at this)⟩⟩
    rw [szVector_eq]
    simp [zeroD, szS, szL, VecD.items, VecD.parts, VecD.names, VecD.cls, VecD.levels]
theorem take60 (m : List UInt8) : (str m).extract 0 (m.take 60).length = str (m.take 60) := by
  apply ByteArray.ext
  simp [str]

namespace fnConditions
set_option maxHeartbeats 8000000 in
theorem walk (v : Value) (l : List Nat) {w : World} (h : Bytes w v l) :
    Calls Try.prog 3 #[v] w fun e w' => e = .returned (.bool true) ∧ Below w.heap.size w w' := by
  have HH := Lib.hid h
  clear h
  by_cases hl : l.length ≤ 1048576
  rotate_left
  · go_enter Try.func3, Try.ntmps3
    go_wp2_with fail
    refine (laws_big v l _ HH.out).mono ?_
    rw [show decide (1048576 < l.length) = true by simp; omega]
    rintro e w1 ⟨rfl, rfl⟩
    go_wp2_with fail
    go_ret
    exact ⟨rfl, Below.refl _ _⟩
  go_enter Try.func3, Try.ntmps3
  go_wp2_with fail
  refine (laws_big v l _ HH.out).mono ?_
  rw [show decide (1048576 < l.length) = false by simp; omega]
  rintro e w1 ⟨rfl, rfl⟩
  go_wp2_with fail
  refine Calls.mono (spec_DrawMatchingHandlers v l _ HH.out hl) ?_
  rintro e w1 ⟨A, c, hs, s, rfl, hh, hl1, hl2, hs1, hb⟩
  have HB1 := Lib.hid hb
  have HN1 := Lib.hid hh
  have HOK := Lib.hid hl2
  clear hh hb hl2
  go_wp2_with fail
  refine Calls.mono (impl_MatchingHandlers hs s _ _ HN1.out (by omega)) ?_
  have hML := matchF_len hs s hs.length
  have HLAW := Lib.hid (matchF_law hs s hs.length (Nat.le_refl _))
  have hS2 := fun v w h => spec_MatchingHandlers hs s v w h (by omega)
  unfold RetMH at hS2 ⊢
  generalize matchF hs s hs.length = M at hML HLAW hS2 ⊢
  have HS2 := Lib.hid hS2
  have HSM := Lib.hid (show ∀ n ∈ M, I64 n from fun n hn => by have := hML.2 n hn; exact ⟨by omega, by omega⟩)
  have hmn := hML.1
  clear hML hS2
  rintro e w2 ⟨A2, c2, rfl, om, hb⟩
  have HB2 := Lib.hid (HB1.out.trans (hb.mono HB1.out.size))
  have HN2 := Lib.hid (HN1.out.below hb)
  have HM2 := Lib.hid (Ints.of_own om HSM.out)
  clear hb HB1 HN1 om
  go_wp2_with fail
  refine Calls.mono (HS2.out _ _ HN2.out) ?_
  rintro e w3 ⟨A3, c3, rfl, om, hb⟩
  have HB3 := Lib.hid (HB2.out.trans (hb.mono HB2.out.size))
  have HN3 := Lib.hid (HN2.out.below hb)
  have HM3 := Lib.hid (SlR.below HM2.out hb (fun _ _ h => h))
  have HX3 := Lib.hid (Ints.of_own om HSM.out)
  clear hb HB2 HN2 HM2 om
  go_wp2_with fail
  refine Calls.mono (laws_sameInts_same M _ _ _ HM3.out HX3.out) ?_
  rintro e w4 ⟨rfl, hb⟩
  have HB4 := Lib.hid (HB3.out.trans (hb.mono HB3.out.size))
  have HN4 := Lib.hid (HN3.out.below hb)
  obtain ⟨_, _, g2, hm1, hm2, HM⟩ := Ints.open_ (SlR.below HM3.out hb (fun _ _ h => h))
  injection g2 with g21 g22 g23
  subst g21 g23
  clear hb HB3 HN3 HM3 HX3 HS2 g22
  obtain ⟨_, _, g2, hm3, hm4, HC⟩ := Hands.open_ HN4.out
  injection g2 with g21 g22 g23
  subst g21 g23
  clear g22
  unfold maxLen at hm2 hm4
  go_wp2_with fail
  obtain ⟨G, g0, HG⟩ := good0 w4
  go_loopw [6] (fun i wr => ∃ k : Nat, k ≤ M.length ∧ i = .int .i64 k ∧ Ok G wr) (fun i _ => M.length - (intOf i).toNat)
  case atStart => exact ⟨0, Nat.zero_le _, rfl, g0⟩
  case round =>
    clear g0
    obtain ⟨k, hk, rfl, g1⟩ := hrel
    by_cases hlt : k < M.length
    · obtain ⟨x, hx, e1, _, e3, e4, e5⟩ := HLAW.out k _ (List.getElem?_eq_getElem hlt)
      obtain ⟨b, off, rfl, hbl, hcell, _, _⟩ := HM.out k hlt
      rw [e1] at hcell
      obtain ⟨b2, off2, rfl, hbl2, hc0, hc1, _⟩ := HC.out x hx
      rw [e3] at hc1
      have HE5 := Lib.hid e5
      have HE1 := Lib.hid e1
      have y0 := fun W (h : Ok G W) => ((HG.out.below h).cell (p := ⟨b2, off2 + x * 2, none⟩) hbl2).trans hc0
      have y1 := fun W (h : Ok G W) => ((HG.out.below h).cell (p := ⟨b2, off2 + x * 2 + 1, none⟩) hbl2).trans hc1
      have q1 : decide ((x : Int) < 0) = false := decide_eq_false (by omega)
      have q2 : decide ((hs.length : Int) ≤ x) = false := decide_eq_false (by omega)
      have q2n : decide (hs.length ≤ x) = false := decide_eq_false (by omega)
      clear e5 e3 e1 hc0 hc1
      by_cases hk0 : k = 0
      · subst hk0
        rw [Nat.add_zero] at hcell
        have hw1 : IntKind.i64.wrap 1 = 1 := by rw [IntKind.wrap_i64]; omega
        have x0 := fun W (h : Ok G W) => ((HG.out.below h).cell (p := ⟨b, off, none⟩) hbl).trans hcell
        clear hcell
        rcases e4 with e4 | ⟨e4, e6⟩ <;> rw [e4] at y0
        rotate_left
        have q5 : decide ((1 : Int) < M.length) = false := decide_eq_false (by omega)
        have q6 : decide (1 < M.length) = false := decide_eq_false (by omega)
        clear e6
        rotate_left
        all_goals
          as_aux_lemma =>
            clear e4
            go_wp2_with fail
            refine wp_region_plan (S := Ok G) (by kernel_rfl) [(true, 0), (true, 1), (true, 2), (true, 3), (true, 4), (true, 5), (true, 6), (true, 7), (true, 8), (true, 9), (true, 10), (true, 11), (true, 12), (true, 13), (true, 14), (true, 15), (true, 16), (true, 17), (true, 18), (true, 19), (true, 20), (true, 21), (true, 22), (true, 23), (true, 24), (true, 25), (true, 26), (true, 27), (true, 28), (true, 29), (true, 30), (true, 31), (true, 32), (true, 33), (true, 34), (true, 35), (true, 36), (true, 37), (true, 38), (true, 39), (true, 40), (true, 41), (true, 42), (true, 43), (true, 44), (true, 45), (true, 46), (true, 47), (true, 48), (true, 49), (true, 50), (true, 51), (true, 52), (true, 53), (true, 54), (true, 55), (true, 56), (true, 57), (true, 58), (true, 59), (true, 60), (true, 61), (true, 62), (true, 63), (true, 64), (true, 65), (true, 66), (true, 67), (true, 68), (true, 69), (true, 70)] (by kernel_rfl) (HG.out.drew g1) ?_
            replace g1 := HG.out.drew g1
            repeat ((first | (refine dyn_take rfl rfl (fun W g => by go_simp; rfl) ?_) | (refine dyn_skip rfl rfl ?_)); go_simp)
            refine dyn_done ?_
            go_wp2_with fail
            go_roundw
            case rel => exact ⟨1, by omega, by go_num, g1⟩
            case measure => simp [intOf]; omega
      · obtain ⟨j, rfl⟩ : ∃ j, k = j + 1 := ⟨k - 1, by omega⟩
        have x0 := fun W (h : Ok G W) => ((HG.out.below h).cell (p := ⟨b, off + (j + 1), none⟩) hbl).trans hcell
        obtain ⟨b3, off3, he, hbl3, hcell3, _, _⟩ := HM.out j (by omega)
        injection he with he
        injection he with he1 he2
        subst he1 he2
        have e7 := HE5.out j _ rfl (List.getElem?_eq_getElem (by omega))
        rw [HE1.out] at e7
        obtain ⟨z, hz⟩ : ∃ z, M[j] = z := ⟨_, rfl⟩
        rw [hz] at e7 hcell3
        have x1 := fun W (h : Ok G W) => ((HG.out.below h).cell (p := ⟨b, off + j, none⟩) hbl).trans hcell3
        clear hz hcell hcell3
        have q3 : decide (z ≤ (x : Int)) = false := decide_eq_false (by omega)
        have q4 : decide (0 < (j : Int) + 1) = true := decide_eq_true (by omega)
        have hjl : j < M.length := by omega
        have hwj : IntKind.i64.wrap (j : Int) = j := by rw [IntKind.wrap_i64]; omega
        have hwj2 : IntKind.i64.wrap ((j : Int) + 1 + 1) = (j : Int) + 1 + 1 := by rw [IntKind.wrap_i64]; omega
        have q4n : decide (0 < j + 1) = true := decide_eq_true (by omega)
        rcases e4 with e4 | ⟨e4, e6⟩ <;> rw [e4] at y0
        rotate_left
        have q5 : decide ((j : Int) + 1 + 1 < M.length) = false := decide_eq_false (by omega)
        have q6 : decide (j + 1 + 1 < M.length) = false := decide_eq_false (by omega)
        clear e6
        rotate_left
        all_goals
          as_aux_lemma =>
            clear e4
            go_wp2_with fail
            refine wp_region_plan (S := Ok G) (by kernel_rfl) [(true, 0), (true, 1), (true, 2), (true, 3), (true, 4), (true, 5), (true, 6), (true, 7), (true, 8), (true, 9), (true, 10), (true, 11), (true, 12), (true, 13), (true, 14), (true, 15), (true, 16), (true, 17), (true, 18), (true, 19), (true, 20), (true, 21), (true, 22), (true, 23), (true, 24), (true, 25), (true, 26), (true, 27), (true, 28), (true, 29), (true, 30), (true, 31), (true, 32), (true, 33), (true, 34), (true, 35), (true, 36), (true, 37), (true, 38), (true, 39), (true, 40), (true, 41), (true, 42), (true, 43), (true, 44), (true, 45), (true, 46), (true, 47), (true, 48), (true, 49), (true, 50), (true, 51), (true, 52), (true, 53), (true, 54), (true, 55), (true, 56), (true, 57), (true, 58), (true, 59), (true, 60), (true, 61), (true, 62), (true, 63), (true, 64), (true, 65), (true, 66), (true, 67), (true, 68), (true, 69), (true, 70)] (by kernel_rfl) (HG.out.drew g1) ?_
            replace g1 := HG.out.drew g1
            repeat ((first | (refine dyn_take rfl rfl (fun W g => by go_simp; rfl) ?_) | (refine dyn_skip rfl rfl ?_)); go_simp)
            refine dyn_done ?_
            go_wp2_with fail
            go_roundw
            case rel => exact ⟨j + 1 + 1, by omega, by go_num, g1⟩
            case measure => simp [intOf]; omega
    · obtain rfl : k = M.length := by omega
      clear hlt hk
      have HN5 := Lib.hid (HN4.out.below (HG.out.below g1))
      have HB5 := Lib.hid (HB4.out.trans ((HG.out.below g1).mono HB4.out.size))
      obtain ⟨_, _, g2, hm5, hm6, HC5⟩ := Hands.open_ HN5.out
      injection g2 with g21 g22 g23
      subst g21 g23
      clear g22 HC
      go_wp2_with fail
      refine Calls.mono (impl_FindRestart hs s _ _ HN5.out) ?_
      have hF := findR_law hs s hs.length (Nat.le_refl _)
      obtain ⟨r, hr⟩ : ∃ r, findR hs s hs.length = r := ⟨_, rfl⟩
      rw [hr] at hF ⊢
      clear hr
      obtain ⟨f1, f2, f3⟩ := hF
      obtain ⟨k0, rfl⟩ : ∃ k0 : Nat, r = (k0 : Int) - 1 := ⟨(r + 1).toNat, by omega⟩
      have HF3 := Lib.hid f3
      have q5 : decide ((-1 : Int) ≤ (k0 : Int) - 1) = true := decide_eq_true (by omega)
      clear f3 f1
      rintro e w5 ⟨rfl, rfl⟩
      go_wp2_with fail
      go_loop [8] (fun i => ∃ k : Nat, k ≤ hs.length ∧ i = .int .i64 k ∧ k0 ≤ k) (fun i => hs.length - (intOf i).toNat)
      case atStart => exact ⟨k0, by omega, by go_num, by omega⟩
      case round =>
        obtain ⟨k, hk, rfl, hkk⟩ := hrel
        by_cases hlt : k < hs.length
        · obtain ⟨b2, off2, rfl, hbl2, hc0, hc1, _⟩ := HC5.out k hlt
          have HI := HF3.out k hlt hlt (by omega)
          unfold isRestart at HI
          cases hq : (hs[k].kind == 2)
          · clear HI
            go_wp2_with fail
            go_round
            case rel => exact ⟨k + 1, by omega, by go_num, by omega⟩
            case measure => simp [intOf]; omega
          · rw [hq, Bool.true_and] at HI
            go_wp2_with fail
            go_round
            case rel => exact ⟨k + 1, by omega, by go_num, by omega⟩
            case measure => simp [intOf]; omega
        · obtain rfl : k = hs.length := by omega
          clear hlt hk hkk
          have q6 : decide ((k0 : Int) - 1 < hs.length) = true := decide_eq_true (by omega)
          go_wp2_with fail
          refine Calls.mono (spec_DrawMakeCondition v l _ (SlR.below HH.out HB5.out (fun _ _ h => h)) hl) ?_
          rintro e w6 ⟨c', m, rfl, hc', hm', hb⟩
          have HB6 := Lib.hid (HB5.out.trans (hb.mono HB5.out.size))
          obtain ⟨hv, hz, hk⟩ := condV_law c' m (by omega)
          have hI1 := fun w => impl_MakeCondition c' m (by omega) (by omega) w
          have hS1 := fun w => spec_MakeCondition c' m (by omega) (by omega) w
          generalize condV c' m = d at hv hz hk hI1 hS1
          have HI1 := Lib.hid hI1
          have HS1 := Lib.hid hS1
          have HV := Lib.hid hv
          have ht1 : (m.take 60).length ≤ 60 := List.length_take_le _ _
          have ht2 : (m.take 60).length ≤ m.length := List.length_take_le' _ _
          have ht3 := take60 m
          generalize m.take 60 = t at ht1 ht2 ht3 hk
          clear hI1 hS1 hv hb HB4 HB5
          go_wp2_with fail
          refine Calls.mono (HI1.out _) ?_
          rintro e w7 ⟨cg, rfl, og, hb⟩
          have HB7 := Lib.hid (HB6.out.trans (hb.mono HB6.out.size))
          have HG7 := Lib.hid og.read
          obtain ⟨A1, a1, A2, a2, A3, a3, A4, a4, A5, a5, rfl⟩ := og.shape
          obtain ⟨G, g0, HG, BX⟩ := good1 w7 39 [.int .i64 d.kind, .slice A1 d.items.length a1, .slice A2 d.parts.length a2, .slice A3 d.names.length a3, .slice A4 d.cls.length a4, .slice A5 d.levels.length a5, .int .i64 d.code, .int .i64 d.env]
          have x0 := fun W (h : Ok G W) => (BX.out W h).cell 0 _ rfl
          have x1 := fun W (h : Ok G W) => (BX.out W h).cell 1 _ rfl
          have x2 := fun W (h : Ok G W) => (BX.out W h).cell 2 _ rfl
          have x3 := fun W (h : Ok G W) => (BX.out W h).cell 3 _ rfl
          have x4 := fun W (h : Ok G W) => (BX.out W h).cell 4 _ rfl
          have x5 := fun W (h : Ok G W) => (BX.out W h).cell 5 _ rfl
          have x6 := fun W (h : Ok G W) => (BX.out W h).cell 6 _ rfl
          have x7 := fun W (h : Ok G W) => (BX.out W h).cell 7 _ rfl
          clear hb HB6 og HI1
          go_upto_region 20 with fail
          refine gen_w g0 ?_
          clear g0
          intro W0 g0
          go_wp2_with fail
          refine Calls.mono (impl_MessageOf d _ _ (HG7.out.below (HG.out.below g0)) hz) ?_
          rintro e w8 ⟨rfl, hb⟩
          replace g0 := HG.out.step g0 hb
          clear hb
          obtain ⟨is, tt, htt, hfin⟩ : ∃ (is : Bool) (tt : List UInt8), (tt = (msgB d).getD [] ∧ is = (msgB d).isSome) ∧ ((is = true ∧ tt = t ∧ d.kind = 4) ∨ (is = false ∧ d.kind = 0)) := by
            refine ⟨_, _, ⟨rfl, rfl⟩, ?_⟩
            rcases hk with ⟨h1, h2⟩ | ⟨h1, h2⟩
            · left; rw [h2]; exact ⟨rfl, rfl, h1⟩
            · right; rw [h2]; exact ⟨rfl, h1⟩
          rw [← htt.1, ← htt.2]
          clear htt hk
          go_wp2_with fail
          refine Calls.mono (HS1.out _) ?_
          rintro e w9 ⟨cw, rfl, ow, hb⟩
          replace g0 := HG.out.step g0 hb
          have HG9 := Lib.hid ow.read
          obtain ⟨D1, d1, D2, d2, D3, d3, D4, d4, D5, d5, rfl⟩ := ow.shape
          obtain ⟨G', g', HG', BY⟩ := good1 w9 39 [.int .i64 d.kind, .slice D1 d.items.length d1, .slice D2 d.parts.length d2, .slice D3 d.names.length d3, .slice D4 d.cls.length d4, .slice D5 d.levels.length d5, .int .i64 d.code, .int .i64 d.env]
          have hGG := fun W (h : Ok G' W) => HG.out.step g0 (HG'.out.below h)
          have y0 := fun W (h : Ok G' W) => (BY.out W h).cell 0 _ rfl
          have y1 := fun W (h : Ok G' W) => (BY.out W h).cell 1 _ rfl
          have y2 := fun W (h : Ok G' W) => (BY.out W h).cell 2 _ rfl
          have y3 := fun W (h : Ok G' W) => (BY.out W h).cell 3 _ rfl
          have y4 := fun W (h : Ok G' W) => (BY.out W h).cell 4 _ rfl
          have y5 := fun W (h : Ok G' W) => (BY.out W h).cell 5 _ rfl
          have y6 := fun W (h : Ok G' W) => (BY.out W h).cell 6 _ rfl
          have y7 := fun W (h : Ok G' W) => (BY.out W h).cell 7 _ rfl
          have z0 := fun (W : World) (h : Ok G' W) => x0 W (hGG W h)
          have z1 := fun (W : World) (h : Ok G' W) => x1 W (hGG W h)
          have z2 := fun (W : World) (h : Ok G' W) => x2 W (hGG W h)
          have z3 := fun (W : World) (h : Ok G' W) => x3 W (hGG W h)
          have z4 := fun (W : World) (h : Ok G' W) => x4 W (hGG W h)
          have z5 := fun (W : World) (h : Ok G' W) => x5 W (hGG W h)
          have z6 := fun (W : World) (h : Ok G' W) => x6 W (hGG W h)
          have z7 := fun (W : World) (h : Ok G' W) => x7 W (hGG W h)
          clear hb ow HS1
          go_upto_region 22 with fail
          refine gen_w g' ?_
          clear g'
          intro W2 g2
          go_wp2_with fail
          refine Calls.mono (spec_EqualVectors_same d _ _ _ (HG7.out.below (HG.out.below (hGG _ g2))) (HG9.out.below (HG'.out.below g2)) HV.out hz) ?_
          rintro e w10 ⟨rfl, hb⟩
          replace g2 := HG'.out.step g2 hb
          clear hb
          have HEND := Lib.hid (HB7.out.trans ((HG.out.below (hGG _ g2)).mono HB7.out.size))
          clear g0
          rcases hfin with ⟨rfl, rfl, hd⟩ | ⟨rfl, hd⟩
          all_goals
            rw [hd] at y0
            go_wp2_with fail
            go_ret
            exact ⟨ret_bool (by simp), HEND.out⟩
set_option maxRecDepth 100000 in
theorem lifted (os : Os) (started : os.Started) (H : Type) (enc : TypeId × Value → H) :
    ReturnsInHanded {} Try.checked os 3 .any (Rows.fnConditionsSpec.pre6 enc Try.prog Try.f3 Rows.fnConditionsRow.domain false) (Rows.fnConditionsSpec.post enc Try.prog Try.f3 false true false false) := by
  refine returnsInHanded_of_change (C := Try.checked) own started (by kernel_rfl) Try.func3
    (ChangeSpec.witness6 (enc := enc) (C := Try.checked) false ⟨#[], #[.slice none 0 0], []⟩ 8 (by kernel_rfl) (by kernel_rfl) (by kernel_rfl) (by kernel_rfl)) ?_
  intro W base args ds gs before hval0 hW hcnd _
  have hval : ∀ (j : Nat) t v, Try.f3.params[j]? = some t → args[j]? = some v → Value.okWide Try.prog W .any base t v := hval0
  have hW' := hW
  obtain ⟨p, q, hA0, hV, rfl, hfz, hnd⟩ := hW
  have hA : DataW.TrodAll enc Try.prog W 0 (fun _ => true) true Try.f3.params.toList args.toList ds p := hA0
  rw [Try.params3] at hA hval
  obtain ⟨v0, vs0, d0, ds0, p0, q0, hargs, rfl, rfl, h0, r0⟩ := trodAll_cons hA
  obtain ⟨rfl, rfl, rfl⟩ := trodAll_nil r0
  obtain rfl : args = #[v0] := by cases args; simp_all
  obtain ⟨rfl, rfl⟩ := trodVars_none hV
  obtain ⟨x0, u0⟩ := open_bytes Try.underlying22 Try.underlying5 (by kernel_rfl) (hval 0 22 v0 rfl rfl) h0
  clear hA0 hval0
  refine (walk v0 x0 u0).mono fun e W' ⟨he, hg⟩ => ?_
  subst he
  exact ⟨_, rfl, law_post laidOut hW' rfl rfl Try.underlying4 rfl rfl rfl (by intro t ht; rw [Try.params3] at ht; have ht2 : t ∈ [22] := ht; simp only [List.mem_cons, List.not_mem_nil, or_false] at ht2; rcases ht2 with rfl <;> exact ⟨by kernel_rfl, of_decide_eq_true (by kernel_rfl)⟩) hg⟩

theorem fact0 : jf0 Try.prog 3 Try.f3 Rows.fnConditionsSpec Rows.fnConditionsRow = true := by kernel_rfl
theorem fact1 : jf1 Try.prog 3 Try.f3 Rows.fnConditionsSpec Rows.fnConditionsRow = true := by kernel_rfl
theorem fact2 : jf2 Try.prog 3 Try.f3 Rows.fnConditionsSpec Rows.fnConditionsRow = true := by kernel_rfl
theorem fact3 : jf3 Try.prog 3 Try.f3 Rows.fnConditionsSpec Rows.fnConditionsRow = true := by kernel_rfl
theorem fact4 : jf4 Try.prog 3 Try.f3 Rows.fnConditionsSpec Rows.fnConditionsRow = true := by kernel_rfl
theorem fact5 : jf5 Try.prog 3 Try.f3 Rows.fnConditionsSpec Rows.fnConditionsRow = true := by kernel_rfl
theorem fact6 : jf6 Try.prog 3 Try.f3 Rows.fnConditionsSpec Rows.fnConditionsRow = true := by kernel_rfl
theorem fact7 : jf7 Try.prog 3 Try.f3 Rows.fnConditionsSpec Rows.fnConditionsRow = true := by kernel_rfl
theorem fact8 : jf8 Try.prog 3 Try.f3 Rows.fnConditionsSpec Rows.fnConditionsRow = true := by kernel_rfl
theorem fact9 : jf9 Try.prog 3 Try.f3 Rows.fnConditionsSpec Rows.fnConditionsRow = true := by kernel_rfl
theorem fact10 : jf10 Try.prog 3 Try.f3 Rows.fnConditionsSpec Rows.fnConditionsRow = true := by kernel_rfl
theorem fact11 : jf11 Try.prog 3 Try.f3 Rows.fnConditionsSpec Rows.fnConditionsRow = true := by kernel_rfl
theorem fact12 : jf12 Try.prog 3 Try.f3 Rows.fnConditionsSpec Rows.fnConditionsRow = true := by kernel_rfl
theorem fact13 : jf13 Try.prog 3 Try.f3 Rows.fnConditionsSpec Rows.fnConditionsRow = true := by kernel_rfl
theorem fact14 : jf14 Try.prog 3 Try.f3 Rows.fnConditionsSpec Rows.fnConditionsRow = true := by kernel_rfl
theorem fact15 : jf15 Try.prog 3 Try.f3 Rows.fnConditionsSpec Rows.fnConditionsRow = true := by kernel_rfl
theorem fact16 : jf16 Try.prog 3 Try.f3 Rows.fnConditionsSpec Rows.fnConditionsRow = true := by kernel_rfl
theorem fact17 : jf17 Try.prog 3 Try.f3 Rows.fnConditionsSpec Rows.fnConditionsRow = true := by kernel_rfl
theorem fact18 : jf18 Try.prog 3 Try.f3 Rows.fnConditionsSpec Rows.fnConditionsRow = true := by kernel_rfl
theorem fact19 : jf19 Try.prog 3 Try.f3 Rows.fnConditionsSpec Rows.fnConditionsRow = true := by kernel_rfl
theorem fact20 : jf20 Try.prog 3 Try.f3 Rows.fnConditionsSpec Rows.fnConditionsRow = true := by kernel_rfl
theorem fact21 : jf21 Try.prog 3 Try.f3 Rows.fnConditionsSpec Rows.fnConditionsRow = true := by kernel_rfl
theorem fact22 : jf22 Try.prog 3 Try.f3 Rows.fnConditionsSpec Rows.fnConditionsRow = true := by kernel_rfl
theorem fact23 : jf23 Try.prog 3 Try.f3 Rows.fnConditionsSpec Rows.fnConditionsRow = true := by kernel_rfl
theorem fact24 : jf24 Try.prog 3 Try.f3 Rows.fnConditionsSpec Rows.fnConditionsRow = true := by kernel_rfl
theorem fact25 : jf25 Try.prog 3 Try.f3 Rows.fnConditionsSpec Rows.fnConditionsRow = true := by kernel_rfl
theorem fact26 : jf26 Try.prog 3 Try.f3 Rows.fnConditionsSpec Rows.fnConditionsRow = true := by kernel_rfl
theorem fact27 : jf27 Try.prog 3 Try.f3 Rows.fnConditionsSpec Rows.fnConditionsRow = true := by kernel_rfl
theorem fact28 : jf28 Try.prog 3 Try.f3 Rows.fnConditionsSpec Rows.fnConditionsRow = true := by kernel_rfl
theorem fact29 : jf29 Try.prog 3 Try.f3 Rows.fnConditionsSpec Rows.fnConditionsRow = true := by kernel_rfl
theorem fact30 : jf30 Try.prog 3 Try.f3 Rows.fnConditionsSpec Rows.fnConditionsRow = true := by kernel_rfl
theorem fact31 : jf31 Try.prog 3 Try.f3 Rows.fnConditionsSpec Rows.fnConditionsRow = true := by kernel_rfl
theorem over : Rows.fnConditionsRow.holds Try.pinned (OpenSpec.ofChange Rows.fnConditionsSpec) :=
  OpenClaim.holds_of_wide 3 Try.f3 rfl rfl rfl rfl rfl rfl rfl ⟨rfl, rfl, rfl, rfl, rfl⟩ rfl rfl rfl rfl rfl (by kernel_rfl) Try.func3 (joined fact0 fact1 fact2 fact3 fact4 fact5 fact6 fact7 fact8 fact9 fact10 fact11 fact12 fact13 fact14 fact15 fact16 fact17 fact18 fact19 fact20 fact21 fact22 fact23 fact24 fact25 fact26 fact27 fact28 fact29 fact30 fact31)
    (of_decide_eq_true (by kernel_rfl)) (by unfold Func.isWrapper; first | (rw [if_pos (by decide +kernel)]; kernel_rfl) | (rw [if_neg (by decide +kernel)]; exact ⟨rfl, rfl⟩))
    (fun os started H enc _ => lifted os started H enc)

/-- THE STATEMENT -/
theorem proved : Rows.FnConditionsSaid :=
  over
#print axioms proved
end fnConditions
end Go.Proofs.Ytaliiodngekahaa
