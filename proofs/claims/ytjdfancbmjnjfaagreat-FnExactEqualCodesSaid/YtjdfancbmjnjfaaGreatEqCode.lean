/-
  Contracts: comparisons of lists of numbers, instructions, segments and bytecodes (impl.EqualCodes, spec.EqualCodes).
-/
import Derived.Test.YtjdfancbmjnjfaaGreatChk15
namespace Go.Proofs.YtjdfancbmjnjfaaGreat
set_option maxRecDepth 100000
open Go.ChangeShapes Go.WideShapes Go.ChangeAt Go.RowKit Go.Deep
set_option linter.unusedVariables false
set_option linter.unusedSimpArgs false

def eqIn (x y : InstrD) : Bool := x.op == y.op && x.arg == y.arg && x.count == y.count && x.text == y.text && eqL x.labels y.labels && eqV x.value y.value
def eqSeg (g h : SegD) : Bool := eqL g.labels h.labels && eqL g.defaults h.defaults && decide (g.instrs.length = h.instrs.length) && (g.instrs.zip h.instrs).all fun q => eqIn q.1 q.2
def eqCode (a b : CodeD) : Bool := checkB a && checkB b && decide (a.segments.length = b.segments.length) && eqL a.main b.main && (a.quiet.zip b.quiet).all (fun q => q.1 == q.2) && (a.segments.zip b.segments).all fun q => eqSeg q.1 q.2
theorem checkB_quiet {a : CodeD} (h : checkB a = true) : a.main.length = a.quiet.length := by
  simp only [checkB, mainB, Bool.and_eq_true, decide_eq_true_eq] at h
  exact h.1.1.1.1.2
theorem eqL_length {α : Type} [DecidableEq α] {l m : List α} (h : eqL l m = true) : l.length = m.length := by
  by_cases e : l.length = m.length
  · exact e
  · rw [eqL_len e] at h; cases h

set_option maxHeartbeats 400000 in
theorem impl_sameInts (l m : List Int) (v u : Value) (w : World) (h : Ints w v l) (h' : Ints w u m) :
    Calls Tryz.prog 36 #[v, u] w fun e w' => e = .returned (.bool (eqL l m)) ∧ ∃ n, w' = w.drewN n := by
  obtain ⟨A, c, rfl, hlc, hm, HC⟩ := h.open_
  obtain ⟨A', c', rfl, hlc', hm', HC'⟩ := h'.open_
  clear h h'
  unfold maxLen at hm hm'
  by_cases hlen : l.length = m.length
  · have hL := Lib.hid hlen
    have hb1 : ((l.length : Int) != (m.length : Int)) = false := by simp [hlen]
    have hb2 : (l.length != m.length) = false := by simp [hlen]
    have hle : l.length ≤ m.length := by omega
    clear hlen
    go_enter Tryz.func36, Tryz.ntmps36
    go_wp2
    go_loopw [13] (fun i wr => ∃ k : Nat, k ≤ l.length ∧ i = .int .i64 k ∧ Hid (∀ j (h1 : j < l.length) (h2 : j < m.length), j < k → l[j] = m[j]) ∧ ∃ n, wr = w.drewN n) (fun i _ => l.length - (intOf i).toNat)
    case atStart => exact ⟨0, Nat.zero_le _, rfl, fun j h hj _ => absurd hj (by omega), 0, rfl⟩
    case round =>
      obtain ⟨k, hk, rfl, hn, n, rfl⟩ := hrel
      by_cases hlt : k < l.length
      · obtain ⟨b, off, rfl, hbl, hcell, hsz⟩ := HC.out k hlt
        have hlt' : k < m.length := by omega
        obtain ⟨b', off', rfl, hbl', hcell', hsz'⟩ := HC'.out k hlt'
        go_wp2
        go_quiet (fail)
        go_wp2
        · go_ret
          exact ⟨ret_bool (eqL_at k hlt hlt' (by have h9 : (l[k] != m[k]) = true := by assumption
                                                 simpa using h9)).symm, n + nq, by rw [World.drewN_drewN]⟩
        · have h9 : (l[k] != m[k]) = false := by assumption
          go_roundw
          case rel => exact ⟨k + 1, by omega, by go_num, fun j h1 h2 hj => by rcases Nat.lt_succ_iff_lt_or_eq.1 hj with h3 | rfl; exact hn.out j h1 h2 h3; simpa using h9, _, rfl⟩
          case measure => simp [intOf]; omega
      · go_wp2
        go_ret
        exact ⟨ret_bool (eqL_all hL.out (fun j h1 h2 => hn.out j h1 h2 (by omega))).symm, _, rfl⟩
  · have hb1 : ((l.length : Int) != (m.length : Int)) = true := by simp; omega
    have hb2 : (l.length != m.length) = true := by simp; omega
    go_enter Tryz.func36, Tryz.ntmps36
    go_wp2
    go_ret
    exact ⟨ret_bool (eqL_len hlen).symm, 0, rfl⟩

set_option maxHeartbeats 400000 in
theorem spec_l32Ints (l m : List Int) (v u : Value) (w : World) (h : Ints w v l) (h' : Ints w u m) :
    Calls Tryz.prog 33 #[v, u] w fun e w' => e = .returned (.bool (eqL l m)) ∧ ∃ n, w' = w.drewN n := by
  obtain ⟨A, c, rfl, hlc, hm, HC⟩ := h.open_
  obtain ⟨A', c', rfl, hlc', hm', HC'⟩ := h'.open_
  clear h h'
  unfold maxLen at hm hm'
  by_cases hlen : l.length = m.length
  · have hL := Lib.hid hlen
    have hb1 : ((l.length : Int) != (m.length : Int)) = false := by simp [hlen]
    have hb2 : (l.length != m.length) = false := by simp [hlen]
    have hle : l.length ≤ m.length := by omega
    clear hlen
    go_enter Tryz.func33, Tryz.ntmps33
    go_wp2
    go_loopw [5] (fun i wr => ∃ k : Nat, k ≤ l.length ∧ i = .int .i64 k ∧ Hid (∀ j (h1 : j < l.length) (h2 : j < m.length), j < k → l[j] = m[j]) ∧ ∃ n, wr = w.drewN n) (fun i _ => l.length - (intOf i).toNat)
    case atStart => exact ⟨0, Nat.zero_le _, rfl, fun j h hj _ => absurd hj (by omega), 0, rfl⟩
    case round =>
      obtain ⟨k, hk, rfl, hn, n, rfl⟩ := hrel
      by_cases hlt : k < l.length
      · obtain ⟨b, off, rfl, hbl, hcell, hsz⟩ := HC.out k hlt
        have hlt' : k < m.length := by omega
        obtain ⟨b', off', rfl, hbl', hcell', hsz'⟩ := HC'.out k hlt'
        go_wp2
        go_quiet (fail)
        go_wp2
        · go_ret
          exact ⟨ret_bool (eqL_at k hlt hlt' (by have h9 : (l[k] != m[k]) = true := by assumption
                                                 simpa using h9)).symm, n + nq, by rw [World.drewN_drewN]⟩
        · have h9 : (l[k] != m[k]) = false := by assumption
          go_roundw
          case rel => exact ⟨k + 1, by omega, by go_num, fun j h1 h2 hj => by rcases Nat.lt_succ_iff_lt_or_eq.1 hj with h3 | rfl; exact hn.out j h1 h2 h3; simpa using h9, _, rfl⟩
          case measure => simp [intOf]; omega
      · go_wp2
        go_ret
        exact ⟨ret_bool (eqL_all hL.out (fun j h1 h2 => hn.out j h1 h2 (by omega))).symm, _, rfl⟩
  · have hb1 : ((l.length : Int) != (m.length : Int)) = true := by simp; omega
    have hb2 : (l.length != m.length) = true := by simp; omega
    go_enter Tryz.func33, Tryz.ntmps33
    go_wp2
    go_ret
    exact ⟨ret_bool (eqL_len hlen).symm, 0, rfl⟩

set_option maxHeartbeats 4000000 in
theorem impl_sameInstr (d d2 : InstrD) (cs cs2 : List Value) (w : World) (h : InstrR w cs d) (h2 : InstrR w cs2 d2) :
    Calls Tryz.prog 66 #[.agg cs.toArray, .agg cs2.toArray] w (RetB (eqIn d d2) w) := by
  obtain ⟨v4, v51, v52, v53, v54, v55, rfl, _, _, _, _, h4, h5⟩ := h
  obtain ⟨u4, u51, u52, u53, u54, u55, rfl, _, _, _, _, k4, k5⟩ := h2
  have H4 := Lib.hid h4
  have H5 := Lib.hid h5
  have K4 := Lib.hid k4
  have K5 := Lib.hid k5
  clear h4 h5 k4 k5
  obtain ⟨G, g0, HG, B1, B2⟩ := good2 w 63 [.int .i64 d.op, .int .i64 d.arg, .int .i64 d.count, .string (str d.text), v4, .int .i64 d.value.kind, v51, v52, v53, v54, v55, .int .i64 d.value.code, .int .i64 d.value.env] 63 [.int .i64 d2.op, .int .i64 d2.arg, .int .i64 d2.count, .string (str d2.text), u4, .int .i64 d2.value.kind, u51, u52, u53, u54, u55, .int .i64 d2.value.code, .int .i64 d2.value.env]
  have x0 := fun W (h : Ok G W) => (B1.out W h).cell 0 _ rfl
  have x1 := fun W (h : Ok G W) => (B1.out W h).cell 1 _ rfl
  have x2 := fun W (h : Ok G W) => (B1.out W h).cell 2 _ rfl
  have x3 := fun W (h : Ok G W) => (B1.out W h).cell 3 _ rfl
  have x4 := fun W (h : Ok G W) => (B1.out W h).cell 4 _ rfl
  have x5 := fun W (h : Ok G W) => (B1.out W h).cell 5 _ rfl
  have x6 := fun W (h : Ok G W) => (B1.out W h).cell 6 _ rfl
  have x7 := fun W (h : Ok G W) => (B1.out W h).cell 7 _ rfl
  have x8 := fun W (h : Ok G W) => (B1.out W h).cell 8 _ rfl
  have x9 := fun W (h : Ok G W) => (B1.out W h).cell 9 _ rfl
  have x10 := fun W (h : Ok G W) => (B1.out W h).cell 10 _ rfl
  have x11 := fun W (h : Ok G W) => (B1.out W h).cell 11 _ rfl
  have x12 := fun W (h : Ok G W) => (B1.out W h).cell 12 _ rfl
  have y0 := fun W (h : Ok G W) => (B2.out W h).cell 0 _ rfl
  have y1 := fun W (h : Ok G W) => (B2.out W h).cell 1 _ rfl
  have y2 := fun W (h : Ok G W) => (B2.out W h).cell 2 _ rfl
  have y3 := fun W (h : Ok G W) => (B2.out W h).cell 3 _ rfl
  have y4 := fun W (h : Ok G W) => (B2.out W h).cell 4 _ rfl
  have y5 := fun W (h : Ok G W) => (B2.out W h).cell 5 _ rfl
  have y6 := fun W (h : Ok G W) => (B2.out W h).cell 6 _ rfl
  have y7 := fun W (h : Ok G W) => (B2.out W h).cell 7 _ rfl
  have y8 := fun W (h : Ok G W) => (B2.out W h).cell 8 _ rfl
  have y9 := fun W (h : Ok G W) => (B2.out W h).cell 9 _ rfl
  have y10 := fun W (h : Ok G W) => (B2.out W h).cell 10 _ rfl
  have y11 := fun W (h : Ok G W) => (B2.out W h).cell 11 _ rfl
  have y12 := fun W (h : Ok G W) => (B2.out W h).cell 12 _ rfl
  go_enter Tryz.func66, Tryz.ntmps66
  go_upto_region 1 with fail
  refine gen_w g0 ?_
  clear g0
  intro W0 g0
  cases q_op : (d.op == d2.op)
  · have HN := Lib.hid (show eqIn d d2 = false by simp only [eqIn, q_op, Bool.and_false, Bool.false_and])
    go_wp2_with fail
    go_ret
    exact ⟨ret_bool HN.out.symm, HG.out.below g0⟩
  have E_op := Lib.hid q_op
  cases q_arg : (d.arg == d2.arg)
  · have HN := Lib.hid (show eqIn d d2 = false by simp only [eqIn, q_arg, Bool.and_false, Bool.false_and])
    go_wp2_with fail
    go_ret
    exact ⟨ret_bool HN.out.symm, HG.out.below g0⟩
  have E_arg := Lib.hid q_arg
  cases q_count : (d.count == d2.count)
  · have HN := Lib.hid (show eqIn d d2 = false by simp only [eqIn, q_count, Bool.and_false, Bool.false_and])
    go_wp2_with fail
    go_ret
    exact ⟨ret_bool HN.out.symm, HG.out.below g0⟩
  have E_count := Lib.hid q_count
  cases q_text : (d.text == d2.text)
  · have HN := Lib.hid (show eqIn d d2 = false by simp only [eqIn, q_text, Bool.and_false, Bool.false_and])
    go_wp2_with fail
    go_ret
    exact ⟨ret_bool HN.out.symm, HG.out.below g0⟩
  have E_text := Lib.hid q_text
  go_wp2_with fail
  refine Calls.mono (impl_sameTexts d.labels d2.labels _ _ _ (H4.out.below (HG.out.below g0)) (K4.out.below (HG.out.below g0))) ?_
  rintro e w3 ⟨rfl, n3, hw3⟩
  replace g0 : Ok G w3 := hw3 ▸ HG.out.drewN n3 g0
  clear hw3
  cases q_labels : eqL d.labels d2.labels
  · have HN := Lib.hid (show eqIn d d2 = false by simp only [eqIn, q_labels, Bool.and_false, Bool.false_and])
    clear q_labels
    go_wp2_with fail
    go_ret
    exact ⟨ret_bool HN.out.symm, HG.out.below g0⟩
  have E_labels := Lib.hid q_labels
  clear q_labels
  have HE := Lib.hid (show eqIn d d2 = eqV d.value d2.value by simp only [eqIn, E_op.out, E_arg.out, E_count.out, E_text.out, E_labels.out, Bool.true_and])
  go_wp2_with fail
  refine Calls.mono (impl_equal_eq d.value d2.value _ _ _ (H5.out.below (HG.out.below g0)) (K5.out.below (HG.out.below g0))) ?_
  rintro e w4 ⟨rfl, hb⟩
  replace g0 := HG.out.step g0 hb
  clear hb
  go_wp2_with fail
  go_ret
  exact ⟨ret_bool HE.out.symm, HG.out.below g0⟩

set_option maxHeartbeats 4000000 in
theorem spec_l32Same (d d2 : InstrD) (cs cs2 : List Value) (w : World) (h : InstrR w cs d) (h2 : InstrR w cs2 d2) :
    Calls Tryz.prog 35 #[.agg cs.toArray, .agg cs2.toArray] w (RetB (eqIn d d2) w) := by
  obtain ⟨v4, v51, v52, v53, v54, v55, rfl, _, _, _, _, h4, h5⟩ := h
  obtain ⟨u4, u51, u52, u53, u54, u55, rfl, _, _, _, _, k4, k5⟩ := h2
  have H4 := Lib.hid h4
  have H5 := Lib.hid h5
  have K4 := Lib.hid k4
  have K5 := Lib.hid k5
  clear h4 h5 k4 k5
  obtain ⟨G, g0, HG, B1, B2⟩ := good2 w 63 [.int .i64 d.op, .int .i64 d.arg, .int .i64 d.count, .string (str d.text), v4, .int .i64 d.value.kind, v51, v52, v53, v54, v55, .int .i64 d.value.code, .int .i64 d.value.env] 63 [.int .i64 d2.op, .int .i64 d2.arg, .int .i64 d2.count, .string (str d2.text), u4, .int .i64 d2.value.kind, u51, u52, u53, u54, u55, .int .i64 d2.value.code, .int .i64 d2.value.env]
  have x0 := fun W (h : Ok G W) => (B1.out W h).cell 0 _ rfl
  have x1 := fun W (h : Ok G W) => (B1.out W h).cell 1 _ rfl
  have x2 := fun W (h : Ok G W) => (B1.out W h).cell 2 _ rfl
  have x3 := fun W (h : Ok G W) => (B1.out W h).cell 3 _ rfl
  have x4 := fun W (h : Ok G W) => (B1.out W h).cell 4 _ rfl
  have x5 := fun W (h : Ok G W) => (B1.out W h).cell 5 _ rfl
  have x6 := fun W (h : Ok G W) => (B1.out W h).cell 6 _ rfl
  have x7 := fun W (h : Ok G W) => (B1.out W h).cell 7 _ rfl
  have x8 := fun W (h : Ok G W) => (B1.out W h).cell 8 _ rfl
  have x9 := fun W (h : Ok G W) => (B1.out W h).cell 9 _ rfl
  have x10 := fun W (h : Ok G W) => (B1.out W h).cell 10 _ rfl
  have x11 := fun W (h : Ok G W) => (B1.out W h).cell 11 _ rfl
  have x12 := fun W (h : Ok G W) => (B1.out W h).cell 12 _ rfl
  have y0 := fun W (h : Ok G W) => (B2.out W h).cell 0 _ rfl
  have y1 := fun W (h : Ok G W) => (B2.out W h).cell 1 _ rfl
  have y2 := fun W (h : Ok G W) => (B2.out W h).cell 2 _ rfl
  have y3 := fun W (h : Ok G W) => (B2.out W h).cell 3 _ rfl
  have y4 := fun W (h : Ok G W) => (B2.out W h).cell 4 _ rfl
  have y5 := fun W (h : Ok G W) => (B2.out W h).cell 5 _ rfl
  have y6 := fun W (h : Ok G W) => (B2.out W h).cell 6 _ rfl
  have y7 := fun W (h : Ok G W) => (B2.out W h).cell 7 _ rfl
  have y8 := fun W (h : Ok G W) => (B2.out W h).cell 8 _ rfl
  have y9 := fun W (h : Ok G W) => (B2.out W h).cell 9 _ rfl
  have y10 := fun W (h : Ok G W) => (B2.out W h).cell 10 _ rfl
  have y11 := fun W (h : Ok G W) => (B2.out W h).cell 11 _ rfl
  have y12 := fun W (h : Ok G W) => (B2.out W h).cell 12 _ rfl
  go_enter Tryz.func35, Tryz.ntmps35
  go_upto_region 1 with fail
  refine gen_w g0 ?_
  clear g0
  intro W0 g0
  cases q_op : (d.op == d2.op)
  · have HN := Lib.hid (show eqIn d d2 = false by simp only [eqIn, q_op, Bool.and_false, Bool.false_and])
    go_wp2_with fail
    go_ret
    exact ⟨ret_bool HN.out.symm, HG.out.below g0⟩
  have E_op := Lib.hid q_op
  cases q_arg : (d.arg == d2.arg)
  · have HN := Lib.hid (show eqIn d d2 = false by simp only [eqIn, q_arg, Bool.and_false, Bool.false_and])
    go_wp2_with fail
    go_ret
    exact ⟨ret_bool HN.out.symm, HG.out.below g0⟩
  have E_arg := Lib.hid q_arg
  cases q_count : (d.count == d2.count)
  · have HN := Lib.hid (show eqIn d d2 = false by simp only [eqIn, q_count, Bool.and_false, Bool.false_and])
    go_wp2_with fail
    go_ret
    exact ⟨ret_bool HN.out.symm, HG.out.below g0⟩
  have E_count := Lib.hid q_count
  cases q_text : (d.text == d2.text)
  · have HN := Lib.hid (show eqIn d d2 = false by simp only [eqIn, q_text, Bool.and_false, Bool.false_and])
    go_wp2_with fail
    go_ret
    exact ⟨ret_bool HN.out.symm, HG.out.below g0⟩
  have E_text := Lib.hid q_text
  go_wp2_with fail
  refine Calls.mono (spec_l4Strings d.labels d2.labels _ _ _ (H4.out.below (HG.out.below g0)) (K4.out.below (HG.out.below g0))) ?_
  rintro e w3 ⟨rfl, n3, hw3⟩
  replace g0 : Ok G w3 := hw3 ▸ HG.out.drewN n3 g0
  clear hw3
  cases q_labels : eqL d.labels d2.labels
  · have HN := Lib.hid (show eqIn d d2 = false by simp only [eqIn, q_labels, Bool.and_false, Bool.false_and])
    clear q_labels
    go_wp2_with fail
    go_ret
    exact ⟨ret_bool HN.out.symm, HG.out.below g0⟩
  have E_labels := Lib.hid q_labels
  clear q_labels
  have HE := Lib.hid (show eqIn d d2 = eqV d.value d2.value by simp only [eqIn, E_op.out, E_arg.out, E_count.out, E_text.out, E_labels.out, Bool.true_and])
  go_wp2_with fail
  refine Calls.mono (spec_l4Same_eq d.value d2.value _ _ _ (H5.out.below (HG.out.below g0)) (K5.out.below (HG.out.below g0))) ?_
  rintro e w4 ⟨rfl, hb⟩
  replace g0 := HG.out.step g0 hb
  clear hb
  go_wp2_with fail
  go_ret
  exact ⟨ret_bool HE.out.symm, HG.out.below g0⟩

set_option maxHeartbeats 8000000 in
theorem impl_sameSegment (d d2 : SegD) (cs cs2 : List Value) (w : World) (h : SegmentR w cs d) (h2 : SegmentR w cs2 d2) :
    Calls Tryz.prog 37 #[.agg cs.toArray, .agg cs2.toArray] w (RetB (eqSeg d d2) w) := by
  obtain ⟨v0, v1, v2, rfl, h0, h1, h2'⟩ := h
  obtain ⟨u0, u1, u2, rfl, k0, k1, k2⟩ := h2
  obtain ⟨A2, a2, rfl, la2, ma2, HI⟩ := SlR.open_ h2'
  obtain ⟨B2, b2, rfl, lb2, mb2, KI⟩ := SlR.open_ k2
  have H0 := Lib.hid h0
  have H1 := Lib.hid h1
  have K0 := Lib.hid k0
  have K1 := Lib.hid k1
  clear h0 h1 h2' k0 k1 k2
  unfold maxLen at ma2 mb2
  obtain ⟨G, g0, HG, BX, BY⟩ := good2 w 49 [v0, v1, .slice A2 d.instrs.length a2] 49 [u0, u1, .slice B2 d2.instrs.length b2]
  have x0 := fun W (h : Ok G W) => (BX.out W h).cell 0 _ rfl
  have x1 := fun W (h : Ok G W) => (BX.out W h).cell 1 _ rfl
  have x2 := fun W (h : Ok G W) => (BX.out W h).cell 2 _ rfl
  have y0 := fun W (h : Ok G W) => (BY.out W h).cell 0 _ rfl
  have y1 := fun W (h : Ok G W) => (BY.out W h).cell 1 _ rfl
  have y2 := fun W (h : Ok G W) => (BY.out W h).cell 2 _ rfl
  go_enter Tryz.func37, Tryz.ntmps37
  go_upto_region 1 with fail
  refine gen_w g0 ?_
  clear g0
  intro W0 g0
  go_wp2_with fail
  refine Calls.mono (impl_sameTexts d.labels d2.labels _ _ _ (H0.out.below (HG.out.below g0)) (K0.out.below (HG.out.below g0))) ?_
  rintro e w3 ⟨rfl, n3, hw3⟩
  replace g0 : Ok G w3 := hw3 ▸ HG.out.drewN n3 g0
  clear hw3
  cases q_labels : eqL d.labels d2.labels
  · have HN := Lib.hid (id (α := eqSeg d d2 = false) (by simp only [eqSeg, q_labels, Bool.and_false, Bool.false_and]))
    clear q_labels
    go_wp2_with fail
    go_ret
    exact ⟨ret_bool HN.out.symm, HG.out.below g0⟩
  have E_labels := Lib.hid q_labels
  clear q_labels
  go_wp2_with fail
  refine Calls.mono (impl_sameInts d.defaults d2.defaults _ _ _ (H1.out.below (HG.out.below g0)) (K1.out.below (HG.out.below g0))) ?_
  rintro e w4 ⟨rfl, n4, hw4⟩
  replace g0 : Ok G w4 := hw4 ▸ HG.out.drewN n4 g0
  clear hw4
  cases q_defaults : eqL d.defaults d2.defaults
  · have HN := Lib.hid (id (α := eqSeg d d2 = false) (by simp only [eqSeg, q_defaults, Bool.and_false, Bool.false_and]))
    clear q_defaults
    go_wp2_with fail
    go_ret
    exact ⟨ret_bool HN.out.symm, HG.out.below g0⟩
  have E_defaults := Lib.hid q_defaults
  clear q_defaults
  by_cases e_len : d.instrs.length = d2.instrs.length
  rotate_left
  · have q_len : ((d.instrs.length : Int) != (d2.instrs.length : Int)) = true := by simp; omega
    have HN := Lib.hid (id (α := eqSeg d d2 = false) (by simp [eqSeg, e_len]))
    clear e_len
    go_wp2_with fail
    go_ret
    exact ⟨ret_bool HN.out.symm, HG.out.below g0⟩
  have q_len : ((d.instrs.length : Int) != (d2.instrs.length : Int)) = false := by simp; omega
  have E_len := Lib.hid e_len
  clear e_len
  have ES := Lib.hid (show eqSeg d d2 = (d.instrs.zip d2.instrs).all (fun q => eqIn q.1 q.2) by simp [eqSeg, E_labels.out, E_defaults.out, E_len.out])
  go_wp2_with fail
  go_loopw [32] (fun i wr => ∃ k : Nat, k ≤ d.instrs.length ∧ i = .int .i64 k ∧ Hid (∀ j (h1 : j < d.instrs.length) (h2 : j < d2.instrs.length), j < k → eqIn d.instrs[j] d2.instrs[j] = true) ∧ Ok G wr) (fun i _ => d.instrs.length - (intOf i).toNat)
  case atStart => exact ⟨0, Nat.zero_le _, rfl, fun j _ _ hj => absurd hj (by omega), g0⟩
  case round =>
    clear g0
    obtain ⟨k, hk, rfl, HA, g0⟩ := hrel
    by_cases hlt : k < d.instrs.length
    · have hlt2 : k < d2.instrs.length := by have := E_len.out; omega
      have HNO := Lib.hid (fun hq : eqIn d.instrs[k] d2.instrs[k] = false => show eqSeg d d2 = false by rw [ES.out, zip_no eqIn k hlt hlt2 hq])
      obtain ⟨b, off, cs, rfl, hbl, _, hat, hr⟩ := HI.out k hlt
      have HRK := Lib.hid hr
      obtain ⟨r4, r51, r52, r53, r54, r55, rfl⟩ := hr.shape
      clear hr
      have p0 := fun W (h : Ok G W) => ((HG.out.below h).cell (p := ⟨b, off + k * 13, none⟩) hbl).trans (by simpa using hat 0 _ rfl)
      have p1 := fun W (h : Ok G W) => ((HG.out.below h).cell (p := ⟨b, off + k * 13 + 1, none⟩) hbl).trans (hat 1 _ rfl)
      have p2 := fun W (h : Ok G W) => ((HG.out.below h).cell (p := ⟨b, off + k * 13 + 2, none⟩) hbl).trans (hat 2 _ rfl)
      have p3 := fun W (h : Ok G W) => ((HG.out.below h).cell (p := ⟨b, off + k * 13 + 3, none⟩) hbl).trans (hat 3 _ rfl)
      have p4 := fun W (h : Ok G W) => ((HG.out.below h).cell (p := ⟨b, off + k * 13 + 4, none⟩) hbl).trans (hat 4 _ rfl)
      have p5 := fun W (h : Ok G W) => ((HG.out.below h).cell (p := ⟨b, off + k * 13 + 5, none⟩) hbl).trans (hat 5 _ rfl)
      have p6 := fun W (h : Ok G W) => ((HG.out.below h).cell (p := ⟨b, off + k * 13 + 6, none⟩) hbl).trans (hat 6 _ rfl)
      have p7 := fun W (h : Ok G W) => ((HG.out.below h).cell (p := ⟨b, off + k * 13 + 7, none⟩) hbl).trans (hat 7 _ rfl)
      have p8 := fun W (h : Ok G W) => ((HG.out.below h).cell (p := ⟨b, off + k * 13 + 8, none⟩) hbl).trans (hat 8 _ rfl)
      have p9 := fun W (h : Ok G W) => ((HG.out.below h).cell (p := ⟨b, off + k * 13 + 9, none⟩) hbl).trans (hat 9 _ rfl)
      have p10 := fun W (h : Ok G W) => ((HG.out.below h).cell (p := ⟨b, off + k * 13 + 10, none⟩) hbl).trans (hat 10 _ rfl)
      have p11 := fun W (h : Ok G W) => ((HG.out.below h).cell (p := ⟨b, off + k * 13 + 11, none⟩) hbl).trans (hat 11 _ rfl)
      have p12 := fun W (h : Ok G W) => ((HG.out.below h).cell (p := ⟨b, off + k * 13 + 12, none⟩) hbl).trans (hat 12 _ rfl)
      clear hat
      obtain ⟨b', off', cs', rfl, hbl2, _, hat2, hr⟩ := KI.out k hlt2
      have HRL := Lib.hid hr
      obtain ⟨s4, s51, s52, s53, s54, s55, rfl⟩ := hr.shape
      clear hr
      have q0 := fun W (h : Ok G W) => ((HG.out.below h).cell (p := ⟨b', off' + k * 13, none⟩) hbl2).trans (by simpa using hat2 0 _ rfl)
      have q1 := fun W (h : Ok G W) => ((HG.out.below h).cell (p := ⟨b', off' + k * 13 + 1, none⟩) hbl2).trans (hat2 1 _ rfl)
      have q2 := fun W (h : Ok G W) => ((HG.out.below h).cell (p := ⟨b', off' + k * 13 + 2, none⟩) hbl2).trans (hat2 2 _ rfl)
      have q3 := fun W (h : Ok G W) => ((HG.out.below h).cell (p := ⟨b', off' + k * 13 + 3, none⟩) hbl2).trans (hat2 3 _ rfl)
      have q4 := fun W (h : Ok G W) => ((HG.out.below h).cell (p := ⟨b', off' + k * 13 + 4, none⟩) hbl2).trans (hat2 4 _ rfl)
      have q5 := fun W (h : Ok G W) => ((HG.out.below h).cell (p := ⟨b', off' + k * 13 + 5, none⟩) hbl2).trans (hat2 5 _ rfl)
      have q6 := fun W (h : Ok G W) => ((HG.out.below h).cell (p := ⟨b', off' + k * 13 + 6, none⟩) hbl2).trans (hat2 6 _ rfl)
      have q7 := fun W (h : Ok G W) => ((HG.out.below h).cell (p := ⟨b', off' + k * 13 + 7, none⟩) hbl2).trans (hat2 7 _ rfl)
      have q8 := fun W (h : Ok G W) => ((HG.out.below h).cell (p := ⟨b', off' + k * 13 + 8, none⟩) hbl2).trans (hat2 8 _ rfl)
      have q9 := fun W (h : Ok G W) => ((HG.out.below h).cell (p := ⟨b', off' + k * 13 + 9, none⟩) hbl2).trans (hat2 9 _ rfl)
      have q10 := fun W (h : Ok G W) => ((HG.out.below h).cell (p := ⟨b', off' + k * 13 + 10, none⟩) hbl2).trans (hat2 10 _ rfl)
      have q11 := fun W (h : Ok G W) => ((HG.out.below h).cell (p := ⟨b', off' + k * 13 + 11, none⟩) hbl2).trans (hat2 11 _ rfl)
      have q12 := fun W (h : Ok G W) => ((HG.out.below h).cell (p := ⟨b', off' + k * 13 + 12, none⟩) hbl2).trans (hat2 12 _ rfl)
      clear hat2
      go_wp2_with fail
      go_still_tail 10, (by kernel_rfl)
      change wpList _ _ _ _ _ wr.drew
      replace g0 := HG.out.drew g0
      generalize wr.drew = w6 at g0 ⊢
      go_wp2_with fail
      refine Calls.mono (impl_sameInstr d.instrs[k] d2.instrs[k] _ _ _ (HRK.out.below (HG.out.below g0)) (HRL.out.below (HG.out.below g0))) ?_
      rintro e w7 ⟨rfl, hb⟩
      replace g0 := HG.out.step g0 hb
      clear hb
      cases hq : eqIn d.instrs[k] d2.instrs[k]
      · have HN := Lib.hid (HNO.out hq)
        clear hq
        go_wp2_with fail
        go_ret
        exact ⟨ret_bool HN.out.symm, HG.out.below g0⟩
      · have HY := Lib.hid hq
        clear hq
        go_wp2_with fail
        go_roundw
        case rel => exact ⟨k + 1, by omega, by go_num, fun j h1 h2 hj => by rcases Nat.lt_succ_iff_lt_or_eq.1 hj with h3 | rfl; exact HA.out j h1 h2 h3; exact HY.out, g0⟩
        case measure => simp [intOf]; omega
    · have HY := Lib.hid (show eqSeg d d2 = true by rw [ES.out]; exact zip_yes eqIn E_len.out fun j h1 h2 => HA.out j h1 h2 (by omega))
      go_wp2_with fail
      go_ret
      exact ⟨ret_bool HY.out.symm, HG.out.below g0⟩

theorem eqCode_a {a b : CodeD} (h : checkB a = false) : eqCode a b = false := by simp [eqCode, h]
theorem eqCode_b {a b : CodeD} (h : checkB b = false) : eqCode a b = false := by simp [eqCode, h]
theorem eqCode_c {a b : CodeD} (h : ¬ a.segments.length = b.segments.length) : eqCode a b = false := by simp [eqCode, h]
theorem eqCode_d {a b : CodeD} (h : eqL a.main b.main = false) : eqCode a b = false := by simp [eqCode, h]
theorem eqCode_q {a b : CodeD} (h : ((a.quiet.zip b.quiet).all fun q => q.1 == q.2) = false) : eqCode a b = false := by simp only [eqCode, h, Bool.and_false, Bool.false_and]
theorem eqCode_e {a b : CodeD} (h1 : checkB a = true) (h2 : checkB b = true) (h3 : a.segments.length = b.segments.length) (h4 : eqL a.main b.main = true) (h5 : ((a.quiet.zip b.quiet).all fun q => q.1 == q.2) = true) : eqCode a b = (a.segments.zip b.segments).all fun q => eqSeg q.1 q.2 := by
  simp only [eqCode, h1, h2, h3, h4, h5, decide_true, Bool.true_and]

set_option maxHeartbeats 16000000 in
theorem impl_EqualCodes (d d2 : CodeD) (cs cs2 : List Value) (w : World) (h : BytecodeR w cs d) (h2 : BytecodeR w cs2 d2) (hz : szBytecode d ≤ 1048576) (hz2 : szBytecode d2 ≤ 1048576) :
    Calls Tryz.prog 12 #[.agg cs.toArray, .agg cs2.toArray] w (RetB (eqCode d d2) w) := by
  have HR1 := Lib.hid h
  have HR2 := Lib.hid h2
  obtain ⟨v0, v1, v2, rfl, h0, h1, h2'⟩ := h
  obtain ⟨u0, u1, u2, rfl, k0, k1, k2⟩ := h2
  obtain ⟨A0, a0, rfl, la0, ma0, HS⟩ := SlR.open_ h0
  obtain ⟨B0, b0, rfl, lb0, mb0, KS⟩ := SlR.open_ k0
  obtain ⟨A2, a2, rfl, la2, ma2, HQ⟩ := Bools.open_ h2'
  obtain ⟨B2, b2, rfl, lb2, mb2, KQ⟩ := Bools.open_ k2
  have H1 := Lib.hid h1
  have K1 := Lib.hid k1
  clear h0 h1 h2' k0 k1 k2
  unfold maxLen at ma0 mb0 ma2 mb2
  obtain ⟨G, g0, HG, BX, BY⟩ := good2 w 31 [.slice A0 d.segments.length a0, v1, .slice A2 d.quiet.length a2] 31 [.slice B0 d2.segments.length b0, u1, .slice B2 d2.quiet.length b2]
  have x0 := fun W (h : Ok G W) => (BX.out W h).cell 0 _ rfl
  have x1 := fun W (h : Ok G W) => (BX.out W h).cell 1 _ rfl
  have x2 := fun W (h : Ok G W) => (BX.out W h).cell 2 _ rfl
  have y0 := fun W (h : Ok G W) => (BY.out W h).cell 0 _ rfl
  have y1 := fun W (h : Ok G W) => (BY.out W h).cell 1 _ rfl
  have y2 := fun W (h : Ok G W) => (BY.out W h).cell 2 _ rfl
  go_enter Tryz.func12, Tryz.ntmps12
  go_upto_region 1 with fail
  refine gen_w g0 ?_
  clear g0
  intro W0 g0
  go_wp2_with fail
  refine Calls.mono (impl_CheckCode d _ _ (HR1.out.below (HG.out.below g0)) hz) ?_
  rintro e w3 ⟨rfl, hb⟩
  replace g0 := HG.out.step g0 hb
  clear hb
  cases q1 : checkB d
  · have HN := Lib.hid (eqCode_a (b := d2) q1)
    clear q1
    go_wp2_with fail
    go_ret
    exact ⟨ret_bool HN.out.symm, HG.out.below g0⟩
  have E1 := Lib.hid q1
  clear q1
  go_wp2_with fail
  refine Calls.mono (impl_CheckCode d2 _ _ (HR2.out.below (HG.out.below g0)) hz2) ?_
  rintro e w3 ⟨rfl, hb⟩
  replace g0 := HG.out.step g0 hb
  clear hb
  cases q2 : checkB d2
  · have HN := Lib.hid (eqCode_b (a := d) q2)
    clear q2
    go_wp2_with fail
    go_ret
    exact ⟨ret_bool HN.out.symm, HG.out.below g0⟩
  have E2 := Lib.hid q2
  clear q2
  by_cases e_len : d.segments.length = d2.segments.length
  rotate_left
  · have q_len : ((d.segments.length : Int) != (d2.segments.length : Int)) = true := by simp; omega
    have HN := Lib.hid (eqCode_c e_len)
    clear e_len
    go_wp2_with fail
    go_ret
    exact ⟨ret_bool HN.out.symm, HG.out.below g0⟩
  have q_len : ((d.segments.length : Int) != (d2.segments.length : Int)) = false := by simp; omega
  have E_len := Lib.hid e_len
  clear e_len
  go_wp2_with fail
  refine Calls.mono (impl_sameInts d.main d2.main _ _ _ (H1.out.below (HG.out.below g0)) (K1.out.below (HG.out.below g0))) ?_
  rintro e w4 ⟨rfl, n4, hw4⟩
  replace g0 : Ok G w4 := hw4 ▸ HG.out.drewN n4 g0
  clear hw4
  cases q3 : eqL d.main d2.main
  · have HN := Lib.hid (eqCode_d q3)
    clear q3
    go_wp2_with fail
    go_ret
    exact ⟨ret_bool HN.out.symm, HG.out.below g0⟩
  have E3 := Lib.hid q3
  clear q3
  have EQ := Lib.hid (show d.quiet.length = d2.quiet.length by have := checkB_quiet E1.out; have := checkB_quiet E2.out; have := eqL_length E3.out; omega)
  go_wp2_with fail
  clear q_len
  go_loopw [35] (fun i wr => ∃ k : Nat, k ≤ d.quiet.length ∧ i = .int .i64 k ∧ Hid (∀ j (h1 : j < d.quiet.length) (h2 : j < d2.quiet.length), j < k → (d.quiet[j] == d2.quiet[j]) = true) ∧ Ok G wr) (fun i _ => d.quiet.length - (intOf i).toNat)
  case atStart => exact ⟨0, Nat.zero_le _, rfl, fun j _ _ hj => absurd hj (by omega), g0⟩
  case round =>
    clear g0
    obtain ⟨k, hk, rfl, HA, g0⟩ := hrel
    by_cases hlt : k < d.quiet.length
    · have hlt2 : k < d2.quiet.length := by have := EQ.out; omega
      obtain ⟨b, off, rfl, hbl, hcell⟩ := HQ.out k hlt
      obtain ⟨b', off', rfl, hbl2, hcell2⟩ := KQ.out k hlt2
      have p0 := fun W (h : Ok G W) => ((HG.out.below h).cell (p := ⟨b, off + k, none⟩) hbl).trans hcell
      have r0 := fun W (h : Ok G W) => ((HG.out.below h).cell (p := ⟨b', off' + k, none⟩) hbl2).trans hcell2
      clear hcell hcell2
      have HNO := Lib.hid (fun hq : (d.quiet[k] == d2.quiet[k]) = false => eqCode_q (zip_no (fun a b : Bool => a == b) k hlt hlt2 hq))
      cases c1 : d.quiet[k] <;> cases c2 : d2.quiet[k]
      all_goals
        rw [c1] at p0
        rw [c2] at r0
        have HC1 := Lib.hid c1
        have HC2 := Lib.hid c2
        clear c1 c2
        go_wp2_with fail
        go_quiet (fail)
        replace g0 := HG.out.step g0 (below_drewN (Below.refl _ _) nq)
        go_wp2_with fail
      rotate_left
      iterate 2
        · go_ret
          exact ⟨ret_bool (HNO.out (by rw [HC1.out, HC2.out]; rfl)).symm, HG.out.below g0⟩
      all_goals
        go_roundw
        case rel => exact ⟨k + 1, by omega, by go_num, fun j h1 h2 hj => by (rcases Nat.lt_succ_iff_lt_or_eq.1 hj with h3 | rfl); exact HA.out j h1 h2 h3; rw [HC1.out, HC2.out]; rfl, g0⟩
        case measure => simp [intOf]; omega
    · obtain rfl : k = d.quiet.length := by omega
      have EE := Lib.hid (eqCode_e E1.out E2.out E_len.out E3.out (zip_yes (fun a b : Bool => a == b) EQ.out fun j h1 h2 => HA.out j h1 h2 (by omega)))
      clear hlt hk HA
      go_wp2_with fail
      go_loopw [53] (fun i wr => ∃ k : Nat, k ≤ d.segments.length ∧ i = .int .i64 k ∧ Hid (∀ j (h1 : j < d.segments.length) (h2 : j < d2.segments.length), j < k → eqSeg d.segments[j] d2.segments[j] = true) ∧ Ok G wr) (fun i _ => d.segments.length - (intOf i).toNat)
      case atStart => exact ⟨0, Nat.zero_le _, rfl, fun j _ _ hj => absurd hj (by omega), g0⟩
      case round =>
        clear g0
        obtain ⟨k, hk, rfl, HA, g0⟩ := hrel
        by_cases hlt : k < d.segments.length
        · have hlt2 : k < d2.segments.length := by have := E_len.out; omega
          have HNO := Lib.hid (fun hq : eqSeg d.segments[k] d2.segments[k] = false => show eqCode d d2 = false by rw [EE.out, zip_no eqSeg k hlt hlt2 hq])
          obtain ⟨b, off, cs, rfl, hbl, _, hat, hr⟩ := HS.out k hlt
          have HRK := Lib.hid hr
          obtain ⟨r0, r1, r2, rfl⟩ := hr.shape
          clear hr
          have p0 := fun W (h : Ok G W) => ((HG.out.below h).cell (p := ⟨b, off + k * 3, none⟩) hbl).trans (by simpa using hat 0 _ rfl)
          have p1 := fun W (h : Ok G W) => ((HG.out.below h).cell (p := ⟨b, off + k * 3 + 1, none⟩) hbl).trans (hat 1 _ rfl)
          have p2 := fun W (h : Ok G W) => ((HG.out.below h).cell (p := ⟨b, off + k * 3 + 2, none⟩) hbl).trans (hat 2 _ rfl)
          clear hat
          obtain ⟨b', off', cs', rfl, hbl2, _, hat2, hr⟩ := KS.out k hlt2
          have HRL := Lib.hid hr
          obtain ⟨s0, s1, s2, rfl⟩ := hr.shape
          clear hr
          have q0 := fun W (h : Ok G W) => ((HG.out.below h).cell (p := ⟨b', off' + k * 3, none⟩) hbl2).trans (by simpa using hat2 0 _ rfl)
          have q1 := fun W (h : Ok G W) => ((HG.out.below h).cell (p := ⟨b', off' + k * 3 + 1, none⟩) hbl2).trans (hat2 1 _ rfl)
          have q2 := fun W (h : Ok G W) => ((HG.out.below h).cell (p := ⟨b', off' + k * 3 + 2, none⟩) hbl2).trans (hat2 2 _ rfl)
          clear hat2
          go_wp2_with fail
          go_still_tail 10, (by kernel_rfl)
          change wpList _ _ _ _ _ wr.drew
          replace g0 := HG.out.drew g0
          generalize wr.drew = w6 at g0 ⊢
          go_wp2_with fail
          refine Calls.mono (impl_sameSegment d.segments[k] d2.segments[k] _ _ _ (HRK.out.below (HG.out.below g0)) (HRL.out.below (HG.out.below g0))) ?_
          rintro e w7 ⟨rfl, hb⟩
          replace g0 := HG.out.step g0 hb
          clear hb
          cases hq : eqSeg d.segments[k] d2.segments[k]
          · have HN := Lib.hid (HNO.out hq)
            clear hq
            go_wp2_with fail
            go_ret
            exact ⟨ret_bool HN.out.symm, HG.out.below g0⟩
          · have HY := Lib.hid hq
            clear hq
            go_wp2_with fail
            go_roundw
            case rel => exact ⟨k + 1, by omega, by go_num, fun j h1 h2 hj => by (rcases Nat.lt_succ_iff_lt_or_eq.1 hj with h3 | rfl); exact HA.out j h1 h2 h3; exact HY.out, g0⟩
            case measure => simp [intOf]; omega
        · have HY := Lib.hid (show eqCode d d2 = true by rw [EE.out]; exact zip_yes eqSeg E_len.out fun j h1 h2 => HA.out j h1 h2 (by omega))
          go_wp2_with fail
          go_ret
          exact ⟨ret_bool HY.out.symm, HG.out.below g0⟩

set_option maxHeartbeats 16000000 in
theorem spec_EqualCodes (d d2 : CodeD) (cs cs2 : List Value) (w : World) (h : BytecodeR w cs d) (h2 : BytecodeR w cs2 d2) (hz : szBytecode d ≤ 1048576) (hz2 : szBytecode d2 ≤ 1048576) :
    Calls Tryz.prog 11 #[.agg cs.toArray, .agg cs2.toArray] w (RetB (eqCode d d2) w) := by
  have HR1 := Lib.hid h
  have HR2 := Lib.hid h2
  obtain ⟨v0, v1, v2, rfl, h0, h1, h2'⟩ := h
  obtain ⟨u0, u1, u2, rfl, k0, k1, k2⟩ := h2
  obtain ⟨A0, a0, rfl, la0, ma0, HS⟩ := SlR.open_ h0
  obtain ⟨B0, b0, rfl, lb0, mb0, KS⟩ := SlR.open_ k0
  obtain ⟨A2, a2, rfl, la2, ma2, HQ⟩ := Bools.open_ h2'
  obtain ⟨B2, b2, rfl, lb2, mb2, KQ⟩ := Bools.open_ k2
  have H1 := Lib.hid h1
  have K1 := Lib.hid k1
  clear h0 h1 h2' k0 k1 k2
  unfold maxLen at ma0 mb0 ma2 mb2
  obtain ⟨G, g0, HG, BX, BY⟩ := good2 w 31 [.slice A0 d.segments.length a0, v1, .slice A2 d.quiet.length a2] 31 [.slice B0 d2.segments.length b0, u1, .slice B2 d2.quiet.length b2]
  have x0 := fun W (h : Ok G W) => (BX.out W h).cell 0 _ rfl
  have x1 := fun W (h : Ok G W) => (BX.out W h).cell 1 _ rfl
  have x2 := fun W (h : Ok G W) => (BX.out W h).cell 2 _ rfl
  have y0 := fun W (h : Ok G W) => (BY.out W h).cell 0 _ rfl
  have y1 := fun W (h : Ok G W) => (BY.out W h).cell 1 _ rfl
  have y2 := fun W (h : Ok G W) => (BY.out W h).cell 2 _ rfl
  go_enter Tryz.func11, Tryz.ntmps11
  go_upto_region 1 with fail
  refine gen_w g0 ?_
  clear g0
  intro W0 g0
  go_wp2_with fail
  refine Calls.mono (spec_CheckCode d _ _ (HR1.out.below (HG.out.below g0)) hz) ?_
  rintro e w3 ⟨rfl, hb⟩
  replace g0 := HG.out.step g0 hb
  clear hb
  cases q1 : checkB d
  · have HN := Lib.hid (eqCode_a (b := d2) q1)
    clear q1
    go_wp2_with fail
    go_ret
    exact ⟨ret_bool HN.out.symm, HG.out.below g0⟩
  have E1 := Lib.hid q1
  clear q1
  go_wp2_with fail
  refine Calls.mono (spec_CheckCode d2 _ _ (HR2.out.below (HG.out.below g0)) hz2) ?_
  rintro e w3 ⟨rfl, hb⟩
  replace g0 := HG.out.step g0 hb
  clear hb
  cases q2 : checkB d2
  · have HN := Lib.hid (eqCode_b (a := d) q2)
    clear q2
    go_wp2_with fail
    go_ret
    exact ⟨ret_bool HN.out.symm, HG.out.below g0⟩
  have E2 := Lib.hid q2
  clear q2
  by_cases e_len : d.segments.length = d2.segments.length
  rotate_left
  · have q_len : ((d.segments.length : Int) != (d2.segments.length : Int)) = true := by simp; omega
    have HN := Lib.hid (eqCode_c e_len)
    clear e_len
    go_wp2_with fail
    go_ret
    exact ⟨ret_bool HN.out.symm, HG.out.below g0⟩
  have q_len : ((d.segments.length : Int) != (d2.segments.length : Int)) = false := by simp; omega
  have E_len := Lib.hid e_len
  clear e_len
  go_wp2_with fail
  refine Calls.mono (spec_l32Ints d.main d2.main _ _ _ (H1.out.below (HG.out.below g0)) (K1.out.below (HG.out.below g0))) ?_
  rintro e w4 ⟨rfl, n4, hw4⟩
  replace g0 : Ok G w4 := hw4 ▸ HG.out.drewN n4 g0
  clear hw4
  cases q3 : eqL d.main d2.main
  · have HN := Lib.hid (eqCode_d q3)
    clear q3
    go_wp2_with fail
    go_ret
    exact ⟨ret_bool HN.out.symm, HG.out.below g0⟩
  have E3 := Lib.hid q3
  clear q3
  have EQ := Lib.hid (show d.quiet.length = d2.quiet.length by have := checkB_quiet E1.out; have := checkB_quiet E2.out; have := eqL_length E3.out; omega)
  go_wp2_with fail
  clear q_len
  go_loopw [5] (fun i wr => ∃ k : Nat, k ≤ d.quiet.length ∧ i = .int .i64 k ∧ Hid (∀ j (h1 : j < d.quiet.length) (h2 : j < d2.quiet.length), j < k → (d.quiet[j] == d2.quiet[j]) = true) ∧ Ok G wr) (fun i _ => d.quiet.length - (intOf i).toNat)
  case atStart => exact ⟨0, Nat.zero_le _, rfl, fun j _ _ hj => absurd hj (by omega), g0⟩
  case round =>
    clear g0
    obtain ⟨k, hk, rfl, HA, g0⟩ := hrel
    by_cases hlt : k < d.quiet.length
    · have hlt2 : k < d2.quiet.length := by have := EQ.out; omega
      obtain ⟨b, off, rfl, hbl, hcell⟩ := HQ.out k hlt
      obtain ⟨b', off', rfl, hbl2, hcell2⟩ := KQ.out k hlt2
      have p0 := fun W (h : Ok G W) => ((HG.out.below h).cell (p := ⟨b, off + k, none⟩) hbl).trans hcell
      have r0 := fun W (h : Ok G W) => ((HG.out.below h).cell (p := ⟨b', off' + k, none⟩) hbl2).trans hcell2
      clear hcell hcell2
      have HNO := Lib.hid (fun hq : (d.quiet[k] == d2.quiet[k]) = false => eqCode_q (zip_no (fun a b : Bool => a == b) k hlt hlt2 hq))
      cases c1 : d.quiet[k] <;> cases c2 : d2.quiet[k]
      all_goals
        rw [c1] at p0
        rw [c2] at r0
        have HC1 := Lib.hid c1
        have HC2 := Lib.hid c2
        clear c1 c2
        go_wp2_with fail
        go_quiet (fail)
        replace g0 := HG.out.step g0 (below_drewN (Below.refl _ _) nq)
        go_wp2_with fail
      rotate_left
      iterate 2
        · go_ret
          exact ⟨ret_bool (HNO.out (by rw [HC1.out, HC2.out]; rfl)).symm, HG.out.below g0⟩
      all_goals
        go_roundw
        case rel => exact ⟨k + 1, by omega, by go_num, fun j h1 h2 hj => by (rcases Nat.lt_succ_iff_lt_or_eq.1 hj with h3 | rfl); exact HA.out j h1 h2 h3; rw [HC1.out, HC2.out]; rfl, g0⟩
        case measure => simp [intOf]; omega
    · obtain rfl : k = d.quiet.length := by omega
      have EE := Lib.hid (eqCode_e E1.out E2.out E_len.out E3.out (zip_yes (fun a b : Bool => a == b) EQ.out fun j h1 h2 => HA.out j h1 h2 (by omega)))
      clear hlt hk HA
      go_wp2_with fail
      go_loopw [6] (fun i wr => ∃ k : Nat, k ≤ d.segments.length ∧ i = .int .i64 k ∧ Hid (∀ j (h1 : j < d.segments.length) (h2 : j < d2.segments.length), j < k → eqSeg d.segments[j] d2.segments[j] = true) ∧ Ok G wr) (fun i _ => d.segments.length - (intOf i).toNat)
      case atStart => exact ⟨0, Nat.zero_le _, rfl, fun j _ _ hj => absurd hj (by omega), g0⟩
      case round =>
        clear g0
        obtain ⟨k, hk, rfl, HA, g0⟩ := hrel
        by_cases hlt : k < d.segments.length
        · have hlt2 : k < d2.segments.length := by have := E_len.out; omega
          have HNO := Lib.hid (fun hq : eqSeg d.segments[k] d2.segments[k] = false => show eqCode d d2 = false by rw [EE.out, zip_no eqSeg k hlt hlt2 hq])
          obtain ⟨b, off, cs, rfl, hbl, _, hat, hr⟩ := HS.out k hlt
          have HRK := Lib.hid hr
          obtain ⟨v0, v1, v2, rfl, h0, h1, h2'⟩ := hr
          obtain ⟨A9, a9, rfl, la9, ma9, HI⟩ := SlR.open_ h2'
          have H0 := Lib.hid h0
          have H1 := Lib.hid h1
          obtain ⟨L0, n0, rfl, _⟩ := Txts.open_ h0
          obtain ⟨L1, n1, rfl, _⟩ := Ints.open_ h1
          clear h0 h1 h2'
          have p0 := fun W (h : Ok G W) => ((HG.out.below h).cell (p := ⟨b, off + k * 3, none⟩) hbl).trans (by simpa using hat 0 _ rfl)
          have p1 := fun W (h : Ok G W) => ((HG.out.below h).cell (p := ⟨b, off + k * 3 + 1, none⟩) hbl).trans (hat 1 _ rfl)
          have p2 := fun W (h : Ok G W) => ((HG.out.below h).cell (p := ⟨b, off + k * 3 + 2, none⟩) hbl).trans (hat 2 _ rfl)
          clear hat
          obtain ⟨b', off', cs', rfl, hbl2, _, hat2, hr⟩ := KS.out k hlt2
          obtain ⟨u0, u1, u2, rfl, k0, k1, k2⟩ := hr
          obtain ⟨B9, b9, rfl, lb9, mb9, KI⟩ := SlR.open_ k2
          have K0 := Lib.hid k0
          have K1 := Lib.hid k1
          obtain ⟨M0, m0, rfl, _⟩ := Txts.open_ k0
          obtain ⟨M1, m1, rfl, _⟩ := Ints.open_ k1
          clear k0 k1 k2
          have q0 := fun W (h : Ok G W) => ((HG.out.below h).cell (p := ⟨b', off' + k * 3, none⟩) hbl2).trans (by simpa using hat2 0 _ rfl)
          have q1 := fun W (h : Ok G W) => ((HG.out.below h).cell (p := ⟨b', off' + k * 3 + 1, none⟩) hbl2).trans (hat2 1 _ rfl)
          have q2 := fun W (h : Ok G W) => ((HG.out.below h).cell (p := ⟨b', off' + k * 3 + 2, none⟩) hbl2).trans (hat2 2 _ rfl)
          clear hat2
          unfold maxLen at ma9 mb9
          obtain ⟨G1, g1, HG1, B2⟩ := good1 wr 49 [.slice L0 d.segments[k].labels.length n0, .slice L1 d.segments[k].defaults.length n1, .slice A9 d.segments[k].instrs.length a9]
          have hG1 := fun W (h : Ok G1 W) => HG.out.step g0 (HG1.out.below h)
          have e0 := fun W (h : Ok G1 W) => (B2.out W h).cell 0 _ rfl
          have e1 := fun W (h : Ok G1 W) => (B2.out W h).cell 1 _ rfl
          have e2 := fun W (h : Ok G1 W) => (B2.out W h).cell 2 _ rfl
          go_upto_region 12 with fail
          refine gen_w g1 ?_
          clear g1
          intro W1 g1
          obtain ⟨G2, g2, HG2, B3⟩ := good1 W1 49 [.slice M0 d2.segments[k].labels.length m0, .slice M1 d2.segments[k].defaults.length m1, .slice B9 d2.segments[k].instrs.length b9]
          have hG12 := fun W (h : Ok G2 W) => HG1.out.step g1 (HG2.out.below h)
          have hG2 := fun W (h : Ok G2 W) => hG1 W (hG12 W h)
          have f0 := fun W (h : Ok G2 W) => (B3.out W h).cell 0 _ rfl
          have f1 := fun W (h : Ok G2 W) => (B3.out W h).cell 1 _ rfl
          have f2 := fun W (h : Ok G2 W) => (B3.out W h).cell 2 _ rfl
          go_upto_region 13 with fail
          refine gen_w g2 ?_
          clear g2
          intro W2 g2
          generalize hs1 : d.segments[k] = sd at *
          generalize hs2 : d2.segments[k] = sd2 at *
          have HS1 := Lib.hid hs1
          have HS2 := Lib.hid hs2
          clear hs1 hs2 p0 p1 p2 q0 q1 q2
          go_wp2_with fail
          refine Calls.mono (spec_l4Strings sd.labels sd2.labels _ _ _ (H0.out.below (HG.out.below (hG2 _ g2))) (K0.out.below (HG.out.below (hG2 _ g2)))) ?_
          rintro e w3 ⟨rfl, n3, hw3⟩
          replace g2 : Ok G2 w3 := hw3 ▸ HG2.out.drewN n3 g2
          clear hw3
          cases q_labels : eqL sd.labels sd2.labels
          · have HN := Lib.hid (HNO.out (by simp only [eqSeg, q_labels, Bool.and_false, Bool.false_and]))
            clear q_labels
            go_wp2_with fail
            go_ret
            exact ⟨ret_bool HN.out.symm, HG.out.below (hG2 _ g2)⟩
          have E_labels := Lib.hid q_labels
          clear q_labels
          go_wp2_with fail
          refine Calls.mono (spec_l32Ints sd.defaults sd2.defaults _ _ _ (H1.out.below (HG.out.below (hG2 _ g2))) (K1.out.below (HG.out.below (hG2 _ g2)))) ?_
          rintro e w4 ⟨rfl, n4, hw4⟩
          replace g2 : Ok G2 w4 := hw4 ▸ HG2.out.drewN n4 g2
          clear hw4
          cases q_defaults : eqL sd.defaults sd2.defaults
          · have HN := Lib.hid (HNO.out (by simp only [eqSeg, q_defaults, Bool.and_false, Bool.false_and]))
            clear q_defaults
            go_wp2_with fail
            go_ret
            exact ⟨ret_bool HN.out.symm, HG.out.below (hG2 _ g2)⟩
          have E_defaults := Lib.hid q_defaults
          clear q_defaults
          by_cases e_len : sd.instrs.length = sd2.instrs.length
          rotate_left
          · have q_len : ((sd.instrs.length : Int) != (sd2.instrs.length : Int)) = true := by simp; omega
            have HN := Lib.hid (HNO.out (by simp [eqSeg, e_len]))
            clear e_len
            go_wp2_with fail
            go_ret
            exact ⟨ret_bool HN.out.symm, HG.out.below (hG2 _ g2)⟩
          have q_len : ((sd.instrs.length : Int) != (sd2.instrs.length : Int)) = false := by simp; omega
          have E_len := Lib.hid e_len
          clear e_len
          have ES := Lib.hid (show eqSeg sd sd2 = (sd.instrs.zip sd2.instrs).all (fun q => eqIn q.1 q.2) by simp [eqSeg, E_labels.out, E_defaults.out, E_len.out])
          go_wp2_with fail
          go_loopw [9] (fun i wr => ∃ k : Nat, k ≤ sd.instrs.length ∧ i = .int .i64 k ∧ Hid (∀ j (h1 : j < sd.instrs.length) (h2 : j < sd2.instrs.length), j < k → eqIn sd.instrs[j] sd2.instrs[j] = true) ∧ Ok G2 wr) (fun i _ => sd.instrs.length - (intOf i).toNat)
          case atStart => exact ⟨0, Nat.zero_le _, rfl, fun j _ _ hj => absurd hj (by omega), g2⟩
          case round =>
            clear g2
            obtain ⟨k2, hk2, rfl, HA2, g2⟩ := hrel
            by_cases hlt3 : k2 < sd.instrs.length
            · have hlt4 : k2 < sd2.instrs.length := by have := E_len.out; omega
              have HNO2 := Lib.hid (fun hq : eqIn sd.instrs[k2] sd2.instrs[k2] = false => HNO.out (show eqSeg sd sd2 = false by rw [ES.out, zip_no eqIn k2 hlt3 hlt4 hq]))
              obtain ⟨b, off, cs, rfl, hbl, _, hat, hr⟩ := HI.out k2 hlt3
              have HRK := Lib.hid hr
              obtain ⟨r4, r51, r52, r53, r54, r55, rfl⟩ := hr.shape
              clear hr
              have p0 := fun W (h : Ok G W) => ((HG.out.below h).cell (p := ⟨b, off + k2 * 13, none⟩) hbl).trans (by simpa using hat 0 _ rfl)
              have p1 := fun W (h : Ok G W) => ((HG.out.below h).cell (p := ⟨b, off + k2 * 13 + 1, none⟩) hbl).trans (hat 1 _ rfl)
              have p2 := fun W (h : Ok G W) => ((HG.out.below h).cell (p := ⟨b, off + k2 * 13 + 2, none⟩) hbl).trans (hat 2 _ rfl)
              have p3 := fun W (h : Ok G W) => ((HG.out.below h).cell (p := ⟨b, off + k2 * 13 + 3, none⟩) hbl).trans (hat 3 _ rfl)
              have p4 := fun W (h : Ok G W) => ((HG.out.below h).cell (p := ⟨b, off + k2 * 13 + 4, none⟩) hbl).trans (hat 4 _ rfl)
              have p5 := fun W (h : Ok G W) => ((HG.out.below h).cell (p := ⟨b, off + k2 * 13 + 5, none⟩) hbl).trans (hat 5 _ rfl)
              have p6 := fun W (h : Ok G W) => ((HG.out.below h).cell (p := ⟨b, off + k2 * 13 + 6, none⟩) hbl).trans (hat 6 _ rfl)
              have p7 := fun W (h : Ok G W) => ((HG.out.below h).cell (p := ⟨b, off + k2 * 13 + 7, none⟩) hbl).trans (hat 7 _ rfl)
              have p8 := fun W (h : Ok G W) => ((HG.out.below h).cell (p := ⟨b, off + k2 * 13 + 8, none⟩) hbl).trans (hat 8 _ rfl)
              have p9 := fun W (h : Ok G W) => ((HG.out.below h).cell (p := ⟨b, off + k2 * 13 + 9, none⟩) hbl).trans (hat 9 _ rfl)
              have p10 := fun W (h : Ok G W) => ((HG.out.below h).cell (p := ⟨b, off + k2 * 13 + 10, none⟩) hbl).trans (hat 10 _ rfl)
              have p11 := fun W (h : Ok G W) => ((HG.out.below h).cell (p := ⟨b, off + k2 * 13 + 11, none⟩) hbl).trans (hat 11 _ rfl)
              have p12 := fun W (h : Ok G W) => ((HG.out.below h).cell (p := ⟨b, off + k2 * 13 + 12, none⟩) hbl).trans (hat 12 _ rfl)
              clear hat
              obtain ⟨b', off', cs', rfl, hbl2, _, hat2, hr⟩ := KI.out k2 hlt4
              have HRL := Lib.hid hr
              obtain ⟨s4, s51, s52, s53, s54, s55, rfl⟩ := hr.shape
              clear hr
              have q0 := fun W (h : Ok G W) => ((HG.out.below h).cell (p := ⟨b', off' + k2 * 13, none⟩) hbl2).trans (by simpa using hat2 0 _ rfl)
              have q1 := fun W (h : Ok G W) => ((HG.out.below h).cell (p := ⟨b', off' + k2 * 13 + 1, none⟩) hbl2).trans (hat2 1 _ rfl)
              have q2 := fun W (h : Ok G W) => ((HG.out.below h).cell (p := ⟨b', off' + k2 * 13 + 2, none⟩) hbl2).trans (hat2 2 _ rfl)
              have q3 := fun W (h : Ok G W) => ((HG.out.below h).cell (p := ⟨b', off' + k2 * 13 + 3, none⟩) hbl2).trans (hat2 3 _ rfl)
              have q4 := fun W (h : Ok G W) => ((HG.out.below h).cell (p := ⟨b', off' + k2 * 13 + 4, none⟩) hbl2).trans (hat2 4 _ rfl)
              have q5 := fun W (h : Ok G W) => ((HG.out.below h).cell (p := ⟨b', off' + k2 * 13 + 5, none⟩) hbl2).trans (hat2 5 _ rfl)
              have q6 := fun W (h : Ok G W) => ((HG.out.below h).cell (p := ⟨b', off' + k2 * 13 + 6, none⟩) hbl2).trans (hat2 6 _ rfl)
              have q7 := fun W (h : Ok G W) => ((HG.out.below h).cell (p := ⟨b', off' + k2 * 13 + 7, none⟩) hbl2).trans (hat2 7 _ rfl)
              have q8 := fun W (h : Ok G W) => ((HG.out.below h).cell (p := ⟨b', off' + k2 * 13 + 8, none⟩) hbl2).trans (hat2 8 _ rfl)
              have q9 := fun W (h : Ok G W) => ((HG.out.below h).cell (p := ⟨b', off' + k2 * 13 + 9, none⟩) hbl2).trans (hat2 9 _ rfl)
              have q10 := fun W (h : Ok G W) => ((HG.out.below h).cell (p := ⟨b', off' + k2 * 13 + 10, none⟩) hbl2).trans (hat2 10 _ rfl)
              have q11 := fun W (h : Ok G W) => ((HG.out.below h).cell (p := ⟨b', off' + k2 * 13 + 11, none⟩) hbl2).trans (hat2 11 _ rfl)
              have q12 := fun W (h : Ok G W) => ((HG.out.below h).cell (p := ⟨b', off' + k2 * 13 + 12, none⟩) hbl2).trans (hat2 12 _ rfl)
              clear hat2
              go_wp2_with fail
              have gg := hG2 _ g2
              go_still_tail 10, (by kernel_rfl)
              change wpList _ _ _ _ _ wr.drew
              replace g2 := HG2.out.drew g2
              generalize wr.drew = w6 at g2 ⊢
              replace gg := hG2 _ g2
              go_wp2_with fail
              refine Calls.mono (spec_l32Same sd.instrs[k2] sd2.instrs[k2] _ _ _ (HRK.out.below (HG.out.below gg)) (HRL.out.below (HG.out.below gg))) ?_
              rintro e w7 ⟨rfl, hb⟩
              replace g2 := HG2.out.step g2 hb
              clear hb gg
              cases hq : eqIn sd.instrs[k2] sd2.instrs[k2]
              · have HN := Lib.hid (HNO2.out hq)
                clear hq
                go_wp2_with fail
                go_ret
                exact ⟨ret_bool HN.out.symm, HG.out.below (hG2 _ g2)⟩
              · have HY := Lib.hid hq
                clear hq
                go_wp2_with fail
                go_roundw
                case rel => exact ⟨k2 + 1, by omega, by go_num, fun j h1 h2 hj => by (rcases Nat.lt_succ_iff_lt_or_eq.1 hj with h3 | rfl); exact HA2.out j h1 h2 h3; exact HY.out, g2⟩
                case measure => simp [intOf]; omega
            · have HY := Lib.hid (show eqSeg sd sd2 = true by rw [ES.out]; exact zip_yes eqIn E_len.out fun j h1 h2 => HA2.out j h1 h2 (by omega))
              have g9 := hG2 _ g2
              go_wp2_with fail
              go_roundw
              case rel => exact ⟨k + 1, by omega, by go_num, fun j h1 h2 hj => by (rcases Nat.lt_succ_iff_lt_or_eq.1 hj with h3 | rfl); exact HA.out j h1 h2 h3; rw [HS1.out, HS2.out]; exact HY.out, g9⟩
              case measure => simp [intOf]; omega
        · have HY := Lib.hid (show eqCode d d2 = true by rw [EE.out]; exact zip_yes eqSeg E_len.out fun j h1 h2 => HA.out j h1 h2 (by omega))
          go_wp2_with fail
          go_ret
          exact ⟨ret_bool HY.out.symm, HG.out.below g0⟩

end Go.Proofs.YtjdfancbmjnjfaaGreat
