/-
  Merged texts: Methods, Inherits, AttrP, SameVec.
-/
import Derived.Test.YtjdimlhdkmkmbaaKBase
import Derived.Test.YtjdimlhdkmkmbaaKOk5
import Derived.Test.YtjdimlhdkmkmbaaKStE
import Derived.Test.YtjdimlhdkmkmbaaKGood
import Derived.StillTailTactics
namespace Go.Proofs.Ytjdimlhdkmkmbaa
set_option maxRecDepth 100000
set_option maxRecDepth 100000
open Go.ChangeShapes Go.WideShapes Go.ChangeAt Go.RowKit Go.Deep

end Go.Proofs.Ytjdimlhdkmkmbaa
namespace Go.Proofs.Ytjdimlhdkmkmbaa
set_option maxRecDepth 100000
open Go.ChangeShapes Go.WideShapes Go.ChangeAt Go.RowKit Go.Deep

end Go.Proofs.Ytjdimlhdkmkmbaa
namespace Go.Proofs.Ytjdimlhdkmkmbaa
set_option maxRecDepth 100000
open Go.ChangeShapes Go.WideShapes Go.ChangeAt Go.RowKit Go.Deep
set_option linter.unusedVariables false

theorem vecOk_shape {d : VecD} (h : vecOk d = true) : shapeOk d = true := by
  unfold vecOk at h
  rw [Bool.and_eq_true] at h
  have := h.1
  rw [okN, Bool.and_eq_true] at this
  exact this.1
end Go.Proofs.Ytjdimlhdkmkmbaa
namespace Go.Proofs.Ytjdimlhdkmkmbaa
set_option maxRecDepth 100000
open Go.ChangeShapes Go.WideShapes Go.ChangeAt Go.RowKit Go.Deep
set_option linter.unusedVariables false

set_option maxHeartbeats 400000 in
theorem spec_l4Strings_same (l : List (List UInt8)) (v u : Value) (w : World) (h : Txts w v l) (h' : Txts w u l) :
    Calls Try.prog 101 #[v, u] w fun e w' => e = .returned (.bool true) ∧ Below w.heap.size w w' := by
  obtain ⟨A, c, rfl, hlc, hm, HC⟩ := h.open_
  obtain ⟨A', c', rfl, hlc', hm', HC'⟩ := h'.open_
  clear h h'
  unfold maxLen at hm hm'
  go_enter Try.func101, Try.ntmps101
  go_wp2
  go_loopw [5] (fun i wr => ∃ k : Nat, k ≤ l.length ∧ i = .int .i64 k ∧ ∃ n, wr = w.drewN n) (fun i _ => l.length - (intOf i).toNat)
  case atStart => exact ⟨0, Nat.zero_le _, rfl, 0, rfl⟩
  case round =>
    obtain ⟨k, hk, rfl, n, rfl⟩ := hrel
    by_cases hlt : k < l.length
    · obtain ⟨b, off, rfl, hbl, hcell, _⟩ := HC.out k hlt
      obtain ⟨b', off', rfl, hbl', hcell', _⟩ := HC'.out k hlt
      go_wp2
      go_quiet (fail)
      go_wp2
      go_roundw
      case rel => exact ⟨k + 1, by omega, by go_num, _, rfl⟩
      case measure => simp [intOf]; omega
    · go_wp2
      go_ret
      exact ⟨rfl, below_drewN (Below.refl _ _) _⟩

set_option maxHeartbeats 400000 in
theorem laws_sameInts_same (l : List Int) (v u : Value) (w : World) (h : Ints w v l) (h' : Ints w u l) :
    Calls Try.prog 25 #[v, u] w fun e w' => e = .returned (.bool true) ∧ Below w.heap.size w w' := by
  obtain ⟨A, c, rfl, hlc, hm, HC⟩ := h.open_
  obtain ⟨A', c', rfl, hlc', hm', HC'⟩ := h'.open_
  clear h h'
  unfold maxLen at hm hm'
  go_enter Try.func25, Try.ntmps25
  go_wp2
  go_loopw [5] (fun i wr => ∃ k : Nat, k ≤ l.length ∧ i = .int .i64 k ∧ ∃ n, wr = w.drewN n) (fun i _ => l.length - (intOf i).toNat)
  case atStart => exact ⟨0, Nat.zero_le _, rfl, 0, rfl⟩
  case round =>
    obtain ⟨k, hk, rfl, n, rfl⟩ := hrel
    by_cases hlt : k < l.length
    · obtain ⟨b, off, rfl, hbl, hcell, _, _⟩ := HC.out k hlt
      obtain ⟨b', off', rfl, hbl', hcell', _, _⟩ := HC'.out k hlt
      go_wp2
      go_quiet (fail)
      go_wp2
      go_roundw
      case rel => exact ⟨k + 1, by omega, by go_num, _, rfl⟩
      case measure => simp [intOf]; omega
    · go_wp2
      go_ret
      exact ⟨rfl, below_drewN (Below.refl _ _) _⟩

def L4SameC (n : Nat) : Prop := ∀ (d : VecD) (cs cs' : List Value) (w : World), VectorR n w cs d → VectorR n w cs' d →
    Calls Try.prog 51 #[.agg cs.toArray, .agg cs'.toArray] w fun e w' => e = .returned (.bool true) ∧ Below w.heap.size w w'

set_option maxHeartbeats 4000000 in
theorem l4Same_step (n : Nat) (ih : L4SameC n) : L4SameC (n + 1) := by
  intro d cs cs' w h h'
  obtain ⟨v1, v2, v3, v4, v5, rfl, _, h1, h2, h3, h4, h5, _, _⟩ := h
  obtain ⟨u1, u2, u3, u4, u5, rfl, _, k1, k2, k3, k4, k5, _, _⟩ := h'
  obtain ⟨A1, a1, rfl, la1, ma1, HI⟩ := SlR.open_ h1
  obtain ⟨A2, a2, rfl, la2, ma2, HP⟩ := SlR.open_ h2
  obtain ⟨B1, b1, rfl, lb1, mb1, KI⟩ := SlR.open_ k1
  obtain ⟨B2, b2, rfl, lb2, mb2, KP⟩ := SlR.open_ k2
  have H3 := Lib.hid h3
  have H4 := Lib.hid h4
  have H5 := Lib.hid h5
  have K3 := Lib.hid k3
  have K4 := Lib.hid k4
  have K5 := Lib.hid k5
  clear h1 h2 h3 h4 h5 k1 k2 k3 k4 k5
  unfold maxLen at ma1 ma2 mb1 mb2
  obtain ⟨G, g0, HG, BX, BY⟩ := good2 w 28 [.int .i64 d.kind, .slice A1 d.items.length a1, .slice A2 d.parts.length a2, v3, v4, v5, .int .i64 d.code, .int .i64 d.env] 28 [.int .i64 d.kind, .slice B1 d.items.length b1, .slice B2 d.parts.length b2, u3, u4, u5, .int .i64 d.code, .int .i64 d.env]
  obtain ⟨x0, x1, x2, x3, x4, x5, x6, x7⟩ := pk_f8 BX
  obtain ⟨y0, y1, y2, y3, y4, y5, y6, y7⟩ := pk_f8 BY
  go_enter Try.func51, Try.ntmps51
  go_upto_region 1 with fail
  refine gen_w g0 ?_
  clear g0
  intro W0 g0
  go_wp2_with fail
  refine Calls.mono (spec_l4Strings_same d.names _ _ _ (H3.out.below (HG.out.below g0)) (K3.out.below (HG.out.below g0))) ?_
  rintro e w1 ⟨rfl, hb⟩
  replace g0 := HG.out.step g0 hb
  clear hb
  go_wp2_with fail
  refine Calls.mono (spec_l4Strings_same d.cls _ _ _ (H4.out.below (HG.out.below g0)) (K4.out.below (HG.out.below g0))) ?_
  rintro e w2 ⟨rfl, hb⟩
  replace g0 := HG.out.step g0 hb
  clear hb
  go_wp2_with fail
  refine Calls.mono (spec_l4Strings_same d.levels _ _ _ (H5.out.below (HG.out.below g0)) (K5.out.below (HG.out.below g0))) ?_
  rintro e w3 ⟨rfl, hb⟩
  replace g0 := HG.out.step g0 hb
  clear hb
  go_wp2_with fail
  go_loopw [5] (fun i wr => ∃ k : Nat, k ≤ d.items.length ∧ i = .int .i64 k ∧ Ok G wr) (fun i _ => d.items.length - (intOf i).toNat)
  case atStart => exact ⟨0, Nat.zero_le _, rfl, g0⟩
  case round =>
    clear g0
    obtain ⟨k, hk, rfl, g0⟩ := hrel
    by_cases hlt : k < d.items.length
    · obtain ⟨b, off, cs, rfl, hbl, _, hat, hr⟩ := HI.out k hlt
      obtain ⟨rfl, _⟩ := hr
      obtain ⟨p0, p1, p2⟩ := pk_e3 HG hbl hat
      clear hat
      obtain ⟨b', off', cs', rfl, hbl2, _, hat2, hr⟩ := KI.out k hlt
      obtain ⟨rfl, _⟩ := hr
      obtain ⟨q0, q1, q2⟩ := pk_e3 HG hbl2 hat2
      clear hat2
      go_wp2_with fail
      go_quiet (fail)
      replace g0 := HG.out.step g0 (below_drewN (Below.refl _ _) nq)
      go_wp2_with fail
      go_roundw
      case rel => exact ⟨k + 1, by omega, by go_num, g0⟩
      case measure => simp [intOf]; omega
    · obtain rfl : k = d.items.length := by omega
      clear hlt hk
      go_wp2_with fail
      go_loopw [6] (fun i wr => ∃ k : Nat, k ≤ d.parts.length ∧ i = .int .i64 k ∧ Ok G wr) (fun i _ => d.parts.length - (intOf i).toNat)
      case atStart => exact ⟨0, Nat.zero_le _, rfl, g0⟩
      case round =>
        clear g0
        obtain ⟨k, hk, rfl, g0⟩ := hrel
        by_cases hlt : k < d.parts.length
        · obtain ⟨b, off, cs, rfl, hbl, _, hat, hr⟩ := HP.out k hlt
          have HRK := Lib.hid hr
          obtain ⟨r1, r2, r3, r4, r5, rfl⟩ := hr.shape
          clear hr
          obtain ⟨p0, p1, p2, p3, p4, p5, p6, p7⟩ := pk_e8 HG hbl hat
          clear hat
          obtain ⟨b', off', cs', rfl, hbl2, _, hat2, hr⟩ := KP.out k hlt
          have HRL := Lib.hid hr
          obtain ⟨s1, s2, s3, s4, s5, rfl⟩ := hr.shape
          clear hr
          obtain ⟨q0, q1, q2, q3, q4, q5, q6, q7⟩ := pk_e8 HG hbl2 hat2
          clear hat2
          go_wp2_with fail
          go_still_tail 10, (by kernel_rfl)
          change wpList _ _ _ _ _ wr.drew
          replace g0 := HG.out.drew g0
          generalize wr.drew = w4 at g0 ⊢
          go_wp2_with fail
          refine Calls.mono (ih d.parts[k] _ _ _ (HRK.out.below (HG.out.below g0)) (HRL.out.below (HG.out.below g0))) ?_
          rintro e w5 ⟨rfl, hb⟩
          replace g0 := HG.out.step g0 hb
          clear hb
          go_wp2_with fail
          go_roundw
          case rel => exact ⟨k + 1, by omega, by go_num, g0⟩
          case measure => simp [intOf]; omega
        · obtain rfl : k = d.parts.length := by omega
          go_wp2_with fail
          go_ret
          exact ⟨rfl, HG.out.below g0⟩
theorem l4Same_all : ∀ n, L4SameC n
  | 0 => fun _ _ _ _ h => h.elim
  | n + 1 => l4Same_step n (l4Same_all n)
theorem spec_l4Same_same (d : VecD) (cs cs' : List Value) (w : World) (h : VecR w cs d) (h' : VecR w cs' d) :
    Calls Try.prog 51 #[.agg cs.toArray, .agg cs'.toArray] w fun e w' => e = .returned (.bool true) ∧ Below w.heap.size w w' := by
  obtain ⟨n, h⟩ := h
  obtain ⟨m, h'⟩ := h'
  exact l4Same_all (max n m) d cs cs' w (h.le (Nat.le_max_left _ _)) (h'.le (Nat.le_max_right _ _))

set_option maxHeartbeats 2000000 in
theorem spec_EqualVectors_same (d : VecD) (cs cs' : List Value) (w : World) (h : VecR w cs d) (h' : VecR w cs' d) (hv : vecOk d = true) (hz : szVector d ≤ 1000000000000) :
    Calls Try.prog 13 #[.agg cs.toArray, .agg cs'.toArray] w fun e w' => e = .returned (.bool true) ∧ Below w.heap.size w w' := by
  obtain ⟨v1, v2, v3, v4, v5, rfl⟩ := h.shape
  obtain ⟨u1, u2, u3, u4, u5, rfl⟩ := h'.shape
  have HR := Lib.hid h
  have HQ := Lib.hid h'
  clear h h'
  obtain ⟨G, g0, HG, BX, BY⟩ := good2 w 28 [.int .i64 d.kind, v1, v2, v3, v4, v5, .int .i64 d.code, .int .i64 d.env] 28 [.int .i64 d.kind, u1, u2, u3, u4, u5, .int .i64 d.code, .int .i64 d.env]
  obtain ⟨x0, x1, x2, x3, x4, x5, x6, x7⟩ := pk_f8 BX
  obtain ⟨y0, y1, y2, y3, y4, y5, y6, y7⟩ := pk_f8 BY
  go_enter Try.func13, Try.ntmps13
  go_upto_region 1 with fail
  refine gen_w g0 ?_
  clear g0
  intro W0 g0
  go_wp2_with fail
  refine Calls.mono (spec_IsVector d _ _ (HR.out.below (HG.out.below g0)) hz) ?_
  rw [hv]
  rintro e w1 ⟨rfl, hb⟩
  replace g0 := HG.out.step g0 hb
  clear hb
  go_wp2_with fail
  refine Calls.mono (spec_IsVector d _ _ (HQ.out.below (HG.out.below g0)) hz) ?_
  rw [hv]
  rintro e w2 ⟨rfl, hb⟩
  replace g0 := HG.out.step g0 hb
  clear hb
  go_wp2_with fail
  refine Calls.mono (spec_l4Same_same d _ _ _ (HR.out.below (HG.out.below g0)) (HQ.out.below (HG.out.below g0))) ?_
  rintro e w3 ⟨rfl, hb⟩
  replace g0 := HG.out.step g0 hb
  clear hb
  go_wp2_with fail
  go_ret
  exact ⟨rfl, HG.out.below g0⟩
end Go.Proofs.Ytjdimlhdkmkmbaa
