/-
  Contracts: FormatTranscript and EqualTranscripts, of the program and of the reference; used by the two laws on them.
-/
import Derived.Test.YtclcljibdhkkoaaGTranscript
import Derived.Test.YtclcljibdhkkoaaSame
namespace Go.Proofs.Ytclcljibdhkkoaa
open Go.ChangeShapes Go.WideShapes Go.ChangeAt Go.RowKit Go.Deep
open Go.ChangeMaps (open_string shut_string)
set_option linter.unusedVariables false

def fmtLines (l : List (List UInt8)) : List UInt8 := l.flatMap fun s => s ++ [10]
def tailT (c : Int) : List UInt8 := if c = 1 then [91, 115, 121, 110, 116, 97, 120, 32, 101, 114, 114, 111, 114, 93, 10] else if c = 3 then [91, 116, 111, 111, 32, 109, 97, 110, 121, 32, 101, 118, 101, 110, 116, 115, 93, 10] else if c = 4 then [91, 116, 111, 111, 32, 100, 101, 101, 112, 93, 10] else if c = 5 then [91, 116, 111, 111, 32, 109, 117, 99, 104, 32, 111, 117, 116, 112, 117, 116, 93, 10] else []
def fmtT (d : TranD) : List UInt8 := fmtLines d.lines ++ tailT d.code
theorem fmtLines_succ (l : List (List UInt8)) (k : Nat) (h : k < l.length) : fmtLines (l.take (k + 1)) = fmtLines (l.take k) ++ (l[k] ++ [10]) := by
  unfold fmtLines; rw [List.take_succ_eq_append_getElem h, List.flatMap_append]; simp
theorem fmtLines_length (l : List (List UInt8)) : (fmtLines l).length = szL l := by
  unfold fmtLines szL
  induction l with
  | nil => rfl
  | cons x l ih => simp only [List.flatMap_cons, List.length_append, ih, List.length_cons, List.length_nil, List.map_cons, List.sum_cons]; omega
theorem szL_take (l : List (List UInt8)) (k : Nat) : szL (l.take k) ≤ szL l := by
  unfold szL
  have := sum_take_le l k
  have : (l.take k).length ≤ l.length := by rw [List.length_take]; omega
  omega

set_option maxHeartbeats 1000000 in
theorem impl_FormatTranscript (d : TranD) (cs : List Value) (w : World) (h : TranscriptR w cs d) (hz : szL d.lines ≤ 1048576) :
    Calls Try.prog 32 #[.agg cs.toArray] w fun e w' => e = .returned (.string (str (fmtT d))) ∧ Below w.heap.size w w' := by
  obtain ⟨v1, v2, rfl, q0, q1, q2, q3, q4⟩ := h
  obtain ⟨A, c, rfl, hlc, hm, HC⟩ := q1.open_
  clear q1 q2
  unfold maxLen at hm
  go_enter Try.func32, Try.ntmps32
  go_wp2
  go_loop [3, 9] (fun o i => ∃ k : Nat, k ≤ d.lines.length ∧ i = .int .i64 k ∧ ∃ s, o = .string (str s) ∧ s.length ≤ 1048576 ∧ Hid (s = fmtLines (d.lines.take k))) (fun _ i => d.lines.length - (intOf i).toNat)
  case atStart => exact ⟨0, Nat.zero_le _, rfl, [], rfl, by simp, by simp [Hid, fmtLines]⟩
  case round =>
    obtain ⟨k, hk, rfl, s, rfl, hs, hS⟩ := hrel
    by_cases hlt : k < d.lines.length
    · obtain ⟨b, off, rfl, hbl, hcell, hsz⟩ := HC.out k hlt
      have h1 := szL_mem d.lines _ (List.getElem_mem hlt)
      have h2 := szL_take d.lines (k + 1)
      rw [← fmtLines_length, fmtLines_succ _ _ hlt, ← hS.out] at h2
      have hc1 : (w.alloc (.cells #[.int .i64 d.code, .slice (some ⟨b, off, none⟩) d.lines.length c, v2, .int .i64 d.events, .int .i64 d.live] 47)).cell? ⟨b, off + k, none⟩ = some (.string (str d.lines[k])) := (World.cell?_alloc_lt w _ ⟨b, off + k, none⟩ hbl).trans hcell
      clear hcell hsz
      go_wp2
      go_round
      case rel =>
        refine ⟨k + 1, by omega, by go_num, _, rfl, ?_, ?_⟩
        · simp at h2 ⊢; try omega
        · show _ = _
          rw [fmtLines_succ _ _ hlt, ← hS.out]
      case measure => simp [intOf]; omega
    · obtain rfl : k = d.lines.length := by omega
      rw [List.take_length] at hS
      have HF := Lib.hid (show fmtT d = s ++ tailT d.code by unfold fmtT; rw [hS.out])
      clear hS
      have hfin : ∀ o, Below w.heap.size w (w.alloc o) := fun o => (Below.refl _ _).alloc (Nat.le_refl _) _
      have HB := Lib.hid hfin
      clear hfin
      by_cases h1 : d.code = 1
      · have h1b : (d.code == 1) = true := by simp [h1]
        have HT := Lib.hid (show tailT d.code = [91, 115, 121, 110, 116, 97, 120, 32, 101, 114, 114, 111, 114, 93, 10] by rw [h1]; rfl)
        clear h1
        go_wp2
        go_ret
        exact ⟨ret_str (by rw [HF.out, HT.out]), HB.out _⟩
      have h1b : (d.code == 1) = false := by simp [h1]
      by_cases h3 : d.code = 3
      · have h3b : (d.code == 3) = true := by simp [h3]
        have HT := Lib.hid (show tailT d.code = [91, 116, 111, 111, 32, 109, 97, 110, 121, 32, 101, 118, 101, 110, 116, 115, 93, 10] by rw [h3]; rfl)
        clear h3 h1
        go_wp2
        go_ret
        exact ⟨ret_str (by rw [HF.out, HT.out]), HB.out _⟩
      have h3b : (d.code == 3) = false := by simp [h3]
      by_cases h4 : d.code = 4
      · have h4b : (d.code == 4) = true := by simp [h4]
        have HT := Lib.hid (show tailT d.code = [91, 116, 111, 111, 32, 100, 101, 101, 112, 93, 10] by rw [h4]; rfl)
        clear h4 h3 h1
        go_wp2
        go_ret
        exact ⟨ret_str (by rw [HF.out, HT.out]), HB.out _⟩
      have h4b : (d.code == 4) = false := by simp [h4]
      by_cases h5 : d.code = 5
      · have h5b : (d.code == 5) = true := by simp [h5]
        have HT := Lib.hid (show tailT d.code = [91, 116, 111, 111, 32, 109, 117, 99, 104, 32, 111, 117, 116, 112, 117, 116, 93, 10] by rw [h5]; rfl)
        clear h5 h4 h3 h1
        go_wp2
        go_ret
        exact ⟨ret_str (by rw [HF.out, HT.out]), HB.out _⟩
      have h5b : (d.code == 5) = false := by simp [h5]
      have HT := Lib.hid (show tailT d.code = [] by simp [tailT, h1, h3, h4, h5])
      clear h5 h4 h3 h1
      go_wp2
      go_ret
      exact ⟨ret_str (by rw [HF.out, HT.out, List.append_nil]), HB.out _⟩

theorem spec_l1In (x a b : Int) (w : World) :
    Calls Try.prog 50 #[.int .i64 x, .int .i64 a, .int .i64 b] w fun e w' => e = .returned (.bool (decide (a ≤ x) && decide (x ≤ b))) ∧ w = w' := by
  by_cases h : a ≤ x
  · go_enter Try.func50, Try.ntmps50
    go_wp2
    go_ret
    exact ⟨ret_bool (by simp [h]), rfl⟩
  · go_enter Try.func50, Try.ntmps50
    go_wp2
    go_ret
    exact ⟨ret_bool (by simp; omega), rfl⟩

set_option maxHeartbeats 2000000 in
theorem spec_FormatTranscript (d : TranD) (cs : List Value) (w : World) (h : TranscriptR w cs d) (hz : szL d.lines ≤ 1048576) :
    Calls Try.prog 30 #[.agg cs.toArray] w fun e w' => e = .returned (.string (str (fmtT d))) ∧ Below w.heap.size w w' := by
  obtain ⟨v1, v2, rfl, q0, q1, q2, q3, q4⟩ := h
  obtain ⟨A, c, rfl, hlc, hm, HC⟩ := q1.open_
  clear q1 q2
  unfold maxLen at hm
  go_enter Try.func30, Try.ntmps30
  go_wp2
  go_loop [3, 4] (fun o i => ∃ k : Nat, k ≤ d.lines.length ∧ i = .int .i64 k ∧ ∃ s, o = .string (str s) ∧ s.length ≤ 1048576 ∧ Hid (s = fmtLines (d.lines.take k))) (fun _ i => d.lines.length - (intOf i).toNat)
  case atStart => exact ⟨0, Nat.zero_le _, rfl, [], rfl, by simp, by simp [Hid, fmtLines]⟩
  case round =>
    obtain ⟨k, hk, rfl, s, rfl, hs, hS⟩ := hrel
    by_cases hlt : k < d.lines.length
    · obtain ⟨b, off, rfl, hbl, hcell, hsz⟩ := HC.out k hlt
      have h1 := szL_mem d.lines _ (List.getElem_mem hlt)
      have h2 := szL_take d.lines (k + 1)
      rw [← fmtLines_length, fmtLines_succ _ _ hlt, ← hS.out] at h2
      have hc1 : (w.alloc (.cells #[.int .i64 d.code, .slice (some ⟨b, off, none⟩) d.lines.length c, v2, .int .i64 d.events, .int .i64 d.live] 47)).cell? ⟨b, off + k, none⟩ = some (.string (str d.lines[k])) := (World.cell?_alloc_lt w _ ⟨b, off + k, none⟩ hbl).trans hcell
      clear hcell hsz
      go_wp2
      go_round
      case rel =>
        refine ⟨k + 1, by omega, by go_num, _, rfl, ?_, ?_⟩
        · simp at h2 ⊢; try omega
        · show _ = _
          rw [fmtLines_succ _ _ hlt, ← hS.out]
      case measure => simp [intOf]; omega
    · obtain rfl : k = d.lines.length := by omega
      rw [List.take_length] at hS
      have HF := Lib.hid (show fmtT d = s ++ tailT d.code by unfold fmtT; rw [hS.out])
      clear hS HC
      have HB := Lib.hid (fun o => (Below.refl w.heap.size w).alloc (Nat.le_refl _) o)
      obtain ⟨code, lines, forced, events, live⟩ := d
      dsimp only at *
      by_cases hin : code = 1 ∨ code = 3 ∨ code = 4 ∨ code = 5
      · rcases hin with rfl | rfl | rfl | rfl
        all_goals
          go_wp2_with fail
          refine (spec_l1In _ 1 5 _).mono ?_
          rintro e w1 ⟨rfl, rfl⟩
          go_wp2_with fail
          go_ret
          exact ⟨ret_str (by rw [HF.out]; simp [tailT]), (HB.out _).alloc (by simp) _⟩
      · have HT := Lib.hid (show tailT code = [] by simp only [not_or] at hin; simp [tailT, hin])
        by_cases h2 : code = 2
        · subst h2
          clear hin
          go_wp2_with fail
          refine (spec_l1In _ 1 5 _).mono ?_
          rintro e w1 ⟨rfl, rfl⟩
          go_wp2_with fail
          go_ret
          exact ⟨ret_str (by rw [HF.out, HT.out, List.append_nil]), HB.out _⟩
        · have hr : (decide (1 ≤ code) && decide (code ≤ 5)) = false := by simp; omega
          have HR := Lib.hid hr
          clear hin h2 hr
          go_wp2_with fail
          refine (spec_l1In _ 1 5 _).mono ?_
          rw [HR.out]
          rintro e w1 ⟨rfl, rfl⟩
          go_wp2_with fail
          go_ret
          exact ⟨ret_str (by rw [HF.out, HT.out, List.append_nil]), HB.out _⟩

def eqT (a b : TranD) : Bool := decide (a.code = b.code) && decide (a.events = b.events) && decide (a.live = b.live) && eqL a.lines b.lines && eqL a.forced b.forced
theorem eqT1 {a b : TranD} (h : a.code ≠ b.code) : eqT a b = false := by simp [eqT, h]
theorem eqT2 {a b : TranD} (h : a.events ≠ b.events) : eqT a b = false := by simp [eqT, h]
theorem eqT3 {a b : TranD} (h : a.live ≠ b.live) : eqT a b = false := by simp [eqT, h]
theorem eqT4 {a b : TranD} (h1 : a.code = b.code) (h2 : a.events = b.events) (h3 : a.live = b.live) : eqT a b = (eqL a.lines b.lines && eqL a.forced b.forced) := by simp [eqT, h1, h2, h3]

set_option maxHeartbeats 2000000 in
theorem impl_EqualTranscripts (a b : TranD) (cs cs' : List Value) (w : World) (h : TranscriptR w cs a) (h' : TranscriptR w cs' b) :
    Calls Try.prog 35 #[.agg cs.toArray, .agg cs'.toArray] w fun e w' => e = .returned (.bool (eqT a b)) ∧ Below w.heap.size w w' := by
  obtain ⟨v1, v2, rfl, _, q1, q2, _, _⟩ := h
  obtain ⟨u1, u2, rfl, _, p1, p2, _, _⟩ := h'
  have Q1 := Lib.hid q1
  have Q2 := Lib.hid q2
  have P1 := Lib.hid p1
  have P2 := Lib.hid p2
  clear q1 q2 p1 p2
  have HB := Lib.hid (fun o1 o2 => ((Below.refl w.heap.size w).alloc (Nat.le_refl _) o1).alloc (by simp) o2)
  by_cases h1 : a.code = b.code
  rotate_left
  · have h1b : (a.code == b.code) = false := by simp [h1]
    have HE := Lib.hid (eqT1 h1)
    clear h1
    go_enter Try.func35, Try.ntmps35
    go_wp2_with fail
    go_ret
    exact ⟨ret_bool HE.out.symm, HB.out _ _⟩
  have h1b : (a.code == b.code) = true := by simp [h1]
  have H1 := Lib.hid h1
  clear h1
  by_cases h2 : a.events = b.events
  rotate_left
  · have h2b : (a.events == b.events) = false := by simp [h2]
    have HE := Lib.hid (eqT2 h2)
    clear h2
    go_enter Try.func35, Try.ntmps35
    go_wp2_with fail
    go_ret
    exact ⟨ret_bool HE.out.symm, HB.out _ _⟩
  have h2b : (a.events == b.events) = true := by simp [h2]
  have H2 := Lib.hid h2
  clear h2
  by_cases h3 : a.live = b.live
  rotate_left
  · have h3b : (a.live == b.live) = false := by simp [h3]
    have HE := Lib.hid (eqT3 h3)
    clear h3
    go_enter Try.func35, Try.ntmps35
    go_wp2_with fail
    go_ret
    exact ⟨ret_bool HE.out.symm, HB.out _ _⟩
  have h3b : (a.live == b.live) = true := by simp [h3]
  have HE := Lib.hid (eqT4 H1.out H2.out h3)
  clear h3 H1 H2
  go_enter Try.func35, Try.ntmps35
  go_wp2_with fail
  refine (impl_sameTexts a.lines b.lines v1 u1 _ (by exact Q1.out.below (HB.out _ _)) (by exact P1.out.below (HB.out _ _))).mono ?_
  rintro e w1 ⟨rfl, n, rfl⟩
  generalize eqL a.lines b.lines = r at *
  cases r with
  | false =>
    go_wp2_with fail
    go_ret
    exact ⟨ret_bool (by rw [HE.out]; rfl), below_drewN (HB.out _ _) _⟩
  | true =>
    go_wp2_with fail
    refine (impl_sameTexts a.forced b.forced v2 u2 _ (by exact Q2.out.below (below_drewN (HB.out _ _) _)) (by exact P2.out.below (below_drewN (HB.out _ _) _))).mono ?_
    rintro e w1 ⟨rfl, m, rfl⟩
    generalize eqL a.forced b.forced = r at *
    go_wp2_with fail
    go_ret
    exact ⟨ret_bool (by rw [HE.out]; rfl), by exact below_drewN (HB.out _ _) _⟩

set_option maxHeartbeats 2000000 in
theorem spec_EqualTranscripts (a b : TranD) (cs cs' : List Value) (w : World) (h : TranscriptR w cs a) (h' : TranscriptR w cs' b) :
    Calls Try.prog 34 #[.agg cs.toArray, .agg cs'.toArray] w fun e w' => e = .returned (.bool (eqT a b)) ∧ Below w.heap.size w w' := by
  obtain ⟨v1, v2, rfl, _, q1, q2, _, _⟩ := h
  obtain ⟨u1, u2, rfl, _, p1, p2, _, _⟩ := h'
  have Q1 := Lib.hid q1
  have Q2 := Lib.hid q2
  have P1 := Lib.hid p1
  have P2 := Lib.hid p2
  clear q1 q2 p1 p2
  have HB := Lib.hid (fun o1 o2 => ((Below.refl w.heap.size w).alloc (Nat.le_refl _) o1).alloc (by simp) o2)
  by_cases h1 : a.code = b.code
  rotate_left
  · have h1b : (a.code == b.code) = false := by simp [h1]
    have HE := Lib.hid (eqT1 h1)
    clear h1
    go_enter Try.func34, Try.ntmps34
    go_wp2_with fail
    go_ret
    exact ⟨ret_bool HE.out.symm, HB.out _ _⟩
  have h1b : (a.code == b.code) = true := by simp [h1]
  have H1 := Lib.hid h1
  clear h1
  by_cases h2 : a.events = b.events
  rotate_left
  · have h2b : (a.events == b.events) = false := by simp [h2]
    have HE := Lib.hid (eqT2 h2)
    clear h2
    go_enter Try.func34, Try.ntmps34
    go_wp2_with fail
    go_ret
    exact ⟨ret_bool HE.out.symm, HB.out _ _⟩
  have h2b : (a.events == b.events) = true := by simp [h2]
  have H2 := Lib.hid h2
  clear h2
  by_cases h3 : a.live = b.live
  rotate_left
  · have h3b : (a.live == b.live) = false := by simp [h3]
    have HE := Lib.hid (eqT3 h3)
    clear h3
    go_enter Try.func34, Try.ntmps34
    go_wp2_with fail
    go_ret
    exact ⟨ret_bool HE.out.symm, HB.out _ _⟩
  have h3b : (a.live == b.live) = true := by simp [h3]
  have HE := Lib.hid (eqT4 H1.out H2.out h3)
  clear h3 H1 H2
  go_enter Try.func34, Try.ntmps34
  go_wp2_with fail
  refine (spec_l4Strings a.lines b.lines v1 u1 _ (by exact Q1.out.below (HB.out _ _)) (by exact P1.out.below (HB.out _ _))).mono ?_
  rintro e w1 ⟨rfl, n, rfl⟩
  generalize eqL a.lines b.lines = r at *
  cases r with
  | false =>
    go_wp2_with fail
    go_ret
    exact ⟨ret_bool (by rw [HE.out]; rfl), below_drewN (HB.out _ _) _⟩
  | true =>
    go_wp2_with fail
    refine (spec_l4Strings a.forced b.forced v2 u2 _ (by exact Q2.out.below (below_drewN (HB.out _ _) _)) (by exact P2.out.below (below_drewN (HB.out _ _) _))).mono ?_
    rintro e w1 ⟨rfl, m, rfl⟩
    generalize eqL a.forced b.forced = r at *
    go_wp2_with fail
    go_ret
    exact ⟨ret_bool (by rw [HE.out]; rfl), by exact below_drewN (HB.out _ _) _⟩

end Go.Proofs.Ytclcljibdhkkoaa
