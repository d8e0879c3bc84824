/-
  Two vectors that read the same are the same to the reference's EqualVectors.
-/
import Derived.Test.YtaliiodngekahaaVecOk5
import Derived.Test.YtaliiodngekahaaGood
import Derived.StillTailTactics
namespace Go.Proofs.Ytaliiodngekahaa
set_option maxRecDepth 100000
open Go.ChangeShapes Go.WideShapes Go.ChangeAt Go.RowKit Go.Deep
set_option linter.unusedVariables false

set_option maxHeartbeats 400000 in
theorem spec_l4Strings_same (l : List (List UInt8)) (v u : Value) (w : World) (h : Txts w v l) (h' : Txts w u l) :
    Calls Try.prog 69 #[v, u] w fun e w' => e = .returned (.bool true) ∧ Below w.heap.size w w' := by
  obtain ⟨A, c, rfl, hlc, hm, HC⟩ := h.open_
  obtain ⟨A', c', rfl, hlc', hm', HC'⟩ := h'.open_
  clear h h'
  unfold maxLen at hm hm'
  go_enter Try.func69, Try.ntmps69
  go_wp2
  go_loopw [5] (fun i wr => ∃ k : Nat, k ≤ l.length ∧ i = .int .i64 k ∧ ∃ n, wr = w.drewN n) (fun i _ => l.length - (intOf i).toNat)
  case atStart => exact ⟨0, Nat.zero_le _, rfl, 0, rfl⟩
  case round =>
    obtain ⟨k, hk, rfl, n, rfl⟩ := hrel
    by_cases hlt : k < l.length
    · obtain ⟨b, off, rfl, hbl, hcell, _⟩ := HC.out k hlt
      obtain ⟨b', off', rfl, hbl', hcell', _⟩ := HC'.out k hlt
      go_wp2
      go_quiet (fail)
      go_wp2
      go_roundw
      case rel => exact ⟨k + 1, by omega, by go_num, _, rfl⟩
      case measure => simp [intOf]; omega
    · go_wp2
      go_ret
      exact ⟨rfl, below_drewN (Below.refl _ _) _⟩

set_option maxHeartbeats 400000 in
theorem laws_sameInts_same (l : List Int) (v u : Value) (w : World) (h : Ints w v l) (h' : Ints w u l) :
    Calls Try.prog 9 #[v, u] w fun e w' => e = .returned (.bool true) ∧ Below w.heap.size w w' := by
  obtain ⟨A, c, rfl, hlc, hm, HC⟩ := h.open_
  obtain ⟨A', c', rfl, hlc', hm', HC'⟩ := h'.open_
  clear h h'
  unfold maxLen at hm hm'
  go_enter Try.func9, Try.ntmps9
  go_wp2
  go_loopw [5] (fun i wr => ∃ k : Nat, k ≤ l.length ∧ i = .int .i64 k ∧ ∃ n, wr = w.drewN n) (fun i _ => l.length - (intOf i).toNat)
  case atStart => exact ⟨0, Nat.zero_le _, rfl, 0, rfl⟩
  case round =>
    obtain ⟨k, hk, rfl, n, rfl⟩ := hrel
    by_cases hlt : k < l.length
    · obtain ⟨b, off, rfl, hbl, hcell, _, _⟩ := HC.out k hlt
      obtain ⟨b', off', rfl, hbl', hcell', _, _⟩ := HC'.out k hlt
      go_wp2
      go_quiet (fail)
      go_wp2
      go_roundw
      case rel => exact ⟨k + 1, by omega, by go_num, _, rfl⟩
      case measure => simp [intOf]; omega
    · go_wp2
      go_ret
      exact ⟨rfl, below_drewN (Below.refl _ _) _⟩

def L4SameC (n : Nat) : Prop := ∀ (d : VecD) (cs cs' : List Value) (w : World), VectorR n w cs d → VectorR n w cs' d →
    Calls Try.prog 40 #[.agg cs.toArray, .agg cs'.toArray] w fun e w' => e = .returned (.bool true) ∧ Below w.heap.size w w'

set_option maxHeartbeats 4000000 in
theorem l4Same_step (n : Nat) (ih : L4SameC n) : L4SameC (n + 1) := by
  intro d cs cs' w h h'
  obtain ⟨v1, v2, v3, v4, v5, rfl, _, h1, h2, h3, h4, h5, _, _⟩ := h
  obtain ⟨u1, u2, u3, u4, u5, rfl, _, k1, k2, k3, k4, k5, _, _⟩ := h'
  obtain ⟨A1, a1, rfl, la1, ma1, HI⟩ := SlR.open_ h1
  obtain ⟨A2, a2, rfl, la2, ma2, HP⟩ := SlR.open_ h2
  obtain ⟨B1, b1, rfl, lb1, mb1, KI⟩ := SlR.open_ k1
  obtain ⟨B2, b2, rfl, lb2, mb2, KP⟩ := SlR.open_ k2
  have H3 := Lib.hid h3
  have H4 := Lib.hid h4
  have H5 := Lib.hid h5
  have K3 := Lib.hid k3
  have K4 := Lib.hid k4
  have K5 := Lib.hid k5
  clear h1 h2 h3 h4 h5 k1 k2 k3 k4 k5
  unfold maxLen at ma1 ma2 mb1 mb2
  obtain ⟨G, g0, HG, BX, BY⟩ := good2 w 39 [.int .i64 d.kind, .slice A1 d.items.length a1, .slice A2 d.parts.length a2, v3, v4, v5, .int .i64 d.code, .int .i64 d.env] 39 [.int .i64 d.kind, .slice B1 d.items.length b1, .slice B2 d.parts.length b2, u3, u4, u5, .int .i64 d.code, .int .i64 d.env]
  have x0 := fun W (h : Ok G W) => (BX.out W h).cell 0 _ rfl
  have x1 := fun W (h : Ok G W) => (BX.out W h).cell 1 _ rfl
  have x2 := fun W (h : Ok G W) => (BX.out W h).cell 2 _ rfl
  have x3 := fun W (h : Ok G W) => (BX.out W h).cell 3 _ rfl
  have x4 := fun W (h : Ok G W) => (BX.out W h).cell 4 _ rfl
  have x5 := fun W (h : Ok G W) => (BX.out W h).cell 5 _ rfl
  have x6 := fun W (h : Ok G W) => (BX.out W h).cell 6 _ rfl
  have x7 := fun W (h : Ok G W) => (BX.out W h).cell 7 _ rfl
  have y0 := fun W (h : Ok G W) => (BY.out W h).cell 0 _ rfl
  have y1 := fun W (h : Ok G W) => (BY.out W h).cell 1 _ rfl
  have y2 := fun W (h : Ok G W) => (BY.out W h).cell 2 _ rfl
  have y3 := fun W (h : Ok G W) => (BY.out W h).cell 3 _ rfl
  have y4 := fun W (h : Ok G W) => (BY.out W h).cell 4 _ rfl
  have y5 := fun W (h : Ok G W) => (BY.out W h).cell 5 _ rfl
  have y6 := fun W (h : Ok G W) => (BY.out W h).cell 6 _ rfl
  have y7 := fun W (h : Ok G W) => (BY.out W h).cell 7 _ rfl
  go_enter Try.func40, Try.ntmps40
  go_upto_region 1 with fail
  refine gen_w g0 ?_
  clear g0
  intro W0 g0
  go_wp2_with fail
  refine Calls.mono (spec_l4Strings_same d.names _ _ _ (H3.out.below (HG.out.below g0)) (K3.out.below (HG.out.below g0))) ?_
  rintro e w1 ⟨rfl, hb⟩
  replace g0 := HG.out.step g0 hb
  clear hb
  go_wp2_with fail
  refine Calls.mono (spec_l4Strings_same d.cls _ _ _ (H4.out.below (HG.out.below g0)) (K4.out.below (HG.out.below g0))) ?_
  rintro e w2 ⟨rfl, hb⟩
  replace g0 := HG.out.step g0 hb
  clear hb
  go_wp2_with fail
  refine Calls.mono (spec_l4Strings_same d.levels _ _ _ (H5.out.below (HG.out.below g0)) (K5.out.below (HG.out.below g0))) ?_
  rintro e w3 ⟨rfl, hb⟩
  replace g0 := HG.out.step g0 hb
  clear hb
  go_wp2_with fail
  go_loopw [5] (fun i wr => ∃ k : Nat, k ≤ d.items.length ∧ i = .int .i64 k ∧ Ok G wr) (fun i _ => d.items.length - (intOf i).toNat)
  case atStart => exact ⟨0, Nat.zero_le _, rfl, g0⟩
  case round =>
    clear g0
    obtain ⟨k, hk, rfl, g0⟩ := hrel
    by_cases hlt : k < d.items.length
    · obtain ⟨b, off, cs, rfl, hbl, _, hat, hr⟩ := HI.out k hlt
      obtain ⟨rfl, _⟩ := hr
      have p0 := fun W (h : Ok G W) => ((HG.out.below h).cell (p := ⟨b, off + k * 3, none⟩) hbl).trans (by simpa using hat 0 _ rfl)
      have p1 := fun W (h : Ok G W) => ((HG.out.below h).cell (p := ⟨b, off + k * 3 + 1, none⟩) hbl).trans (hat 1 _ rfl)
      have p2 := fun W (h : Ok G W) => ((HG.out.below h).cell (p := ⟨b, off + k * 3 + 2, none⟩) hbl).trans (hat 2 _ rfl)
      clear hat
      obtain ⟨b', off', cs', rfl, hbl2, _, hat2, hr⟩ := KI.out k hlt
      obtain ⟨rfl, _⟩ := hr
      have q0 := fun W (h : Ok G W) => ((HG.out.below h).cell (p := ⟨b', off' + k * 3, none⟩) hbl2).trans (by simpa using hat2 0 _ rfl)
      have q1 := fun W (h : Ok G W) => ((HG.out.below h).cell (p := ⟨b', off' + k * 3 + 1, none⟩) hbl2).trans (hat2 1 _ rfl)
      have q2 := fun W (h : Ok G W) => ((HG.out.below h).cell (p := ⟨b', off' + k * 3 + 2, none⟩) hbl2).trans (hat2 2 _ rfl)
      clear hat2
      go_wp2_with fail
      go_quiet (fail)
      replace g0 := HG.out.step g0 (below_drewN (Below.refl _ _) nq)
      go_wp2_with fail
      go_roundw
      case rel => exact ⟨k + 1, by omega, by go_num, g0⟩
      case measure => simp [intOf]; omega
    · obtain rfl : k = d.items.length := by omega
      clear hlt hk
      go_wp2_with fail
      go_loopw [6] (fun i wr => ∃ k : Nat, k ≤ d.parts.length ∧ i = .int .i64 k ∧ Ok G wr) (fun i _ => d.parts.length - (intOf i).toNat)
      case atStart => exact ⟨0, Nat.zero_le _, rfl, g0⟩
      case round =>
        clear g0
        obtain ⟨k, hk, rfl, g0⟩ := hrel
        by_cases hlt : k < d.parts.length
        · obtain ⟨b, off, cs, rfl, hbl, _, hat, hr⟩ := HP.out k hlt
          have HRK := Lib.hid hr
          obtain ⟨r1, r2, r3, r4, r5, rfl⟩ := hr.shape
          clear hr
          have p0 := fun W (h : Ok G W) => ((HG.out.below h).cell (p := ⟨b, off + k * 8, none⟩) hbl).trans (by simpa using hat 0 _ rfl)
          have p1 := fun W (h : Ok G W) => ((HG.out.below h).cell (p := ⟨b, off + k * 8 + 1, none⟩) hbl).trans (hat 1 _ rfl)
          have p2 := fun W (h : Ok G W) => ((HG.out.below h).cell (p := ⟨b, off + k * 8 + 2, none⟩) hbl).trans (hat 2 _ rfl)
          have p3 := fun W (h : Ok G W) => ((HG.out.below h).cell (p := ⟨b, off + k * 8 + 3, none⟩) hbl).trans (hat 3 _ rfl)
          have p4 := fun W (h : Ok G W) => ((HG.out.below h).cell (p := ⟨b, off + k * 8 + 4, none⟩) hbl).trans (hat 4 _ rfl)
          have p5 := fun W (h : Ok G W) => ((HG.out.below h).cell (p := ⟨b, off + k * 8 + 5, none⟩) hbl).trans (hat 5 _ rfl)
          have p6 := fun W (h : Ok G W) => ((HG.out.below h).cell (p := ⟨b, off + k * 8 + 6, none⟩) hbl).trans (hat 6 _ rfl)
          have p7 := fun W (h : Ok G W) => ((HG.out.below h).cell (p := ⟨b, off + k * 8 + 7, none⟩) hbl).trans (hat 7 _ rfl)
          clear hat
          obtain ⟨b', off', cs', rfl, hbl2, _, hat2, hr⟩ := KP.out k hlt
          have HRL := Lib.hid hr
          obtain ⟨s1, s2, s3, s4, s5, rfl⟩ := hr.shape
          clear hr
          have q0 := fun W (h : Ok G W) => ((HG.out.below h).cell (p := ⟨b', off' + k * 8, none⟩) hbl2).trans (by simpa using hat2 0 _ rfl)
          have q1 := fun W (h : Ok G W) => ((HG.out.below h).cell (p := ⟨b', off' + k * 8 + 1, none⟩) hbl2).trans (hat2 1 _ rfl)
          have q2 := fun W (h : Ok G W) => ((HG.out.below h).cell (p := ⟨b', off' + k * 8 + 2, none⟩) hbl2).trans (hat2 2 _ rfl)
          have q3 := fun W (h : Ok G W) => ((HG.out.below h).cell (p := ⟨b', off' + k * 8 + 3, none⟩) hbl2).trans (hat2 3 _ rfl)
          have q4 := fun W (h : Ok G W) => ((HG.out.below h).cell (p := ⟨b', off' + k * 8 + 4, none⟩) hbl2).trans (hat2 4 _ rfl)
          have q5 := fun W (h : Ok G W) => ((HG.out.below h).cell (p := ⟨b', off' + k * 8 + 5, none⟩) hbl2).trans (hat2 5 _ rfl)
          have q6 := fun W (h : Ok G W) => ((HG.out.below h).cell (p := ⟨b', off' + k * 8 + 6, none⟩) hbl2).trans (hat2 6 _ rfl)
          have q7 := fun W (h : Ok G W) => ((HG.out.below h).cell (p := ⟨b', off' + k * 8 + 7, none⟩) hbl2).trans (hat2 7 _ rfl)
          clear hat2
          go_wp2_with fail
          go_still_tail 10, (by kernel_rfl)
          change wpList _ _ _ _ _ wr.drew
          replace g0 := HG.out.drew g0
          generalize wr.drew = w4 at g0 ⊢
          go_wp2_with fail
          refine Calls.mono (ih d.parts[k] _ _ _ (HRK.out.below (HG.out.below g0)) (HRL.out.below (HG.out.below g0))) ?_
          rintro e w5 ⟨rfl, hb⟩
          replace g0 := HG.out.step g0 hb
          clear hb
          go_wp2_with fail
          go_roundw
          case rel => exact ⟨k + 1, by omega, by go_num, g0⟩
          case measure => simp [intOf]; omega
        · obtain rfl : k = d.parts.length := by omega
          go_wp2_with fail
          go_ret
          exact ⟨rfl, HG.out.below g0⟩
theorem l4Same_all : ∀ n, L4SameC n
  | 0 => fun _ _ _ _ h => h.elim
  | n + 1 => l4Same_step n (l4Same_all n)
theorem spec_l4Same_same (d : VecD) (cs cs' : List Value) (w : World) (h : VecR w cs d) (h' : VecR w cs' d) :
    Calls Try.prog 40 #[.agg cs.toArray, .agg cs'.toArray] w fun e w' => e = .returned (.bool true) ∧ Below w.heap.size w w' := by
  obtain ⟨n, h⟩ := h
  obtain ⟨m, h'⟩ := h'
  exact l4Same_all (max n m) d cs cs' w (h.le (Nat.le_max_left _ _)) (h'.le (Nat.le_max_right _ _))

set_option maxHeartbeats 2000000 in
theorem spec_EqualVectors_same (d : VecD) (cs cs' : List Value) (w : World) (h : VecR w cs d) (h' : VecR w cs' d) (hv : vecOk d = true) (hz : szVector d ≤ 1000000000000) :
    Calls Try.prog 16 #[.agg cs.toArray, .agg cs'.toArray] w fun e w' => e = .returned (.bool true) ∧ Below w.heap.size w w' := by
  obtain ⟨v1, v2, v3, v4, v5, rfl⟩ := h.shape
  obtain ⟨u1, u2, u3, u4, u5, rfl⟩ := h'.shape
  have HR := Lib.hid h
  have HQ := Lib.hid h'
  clear h h'
  obtain ⟨G, g0, HG, BX, BY⟩ := good2 w 39 [.int .i64 d.kind, v1, v2, v3, v4, v5, .int .i64 d.code, .int .i64 d.env] 39 [.int .i64 d.kind, u1, u2, u3, u4, u5, .int .i64 d.code, .int .i64 d.env]
  have x0 := fun W (h : Ok G W) => (BX.out W h).cell 0 _ rfl
  have x1 := fun W (h : Ok G W) => (BX.out W h).cell 1 _ rfl
  have x2 := fun W (h : Ok G W) => (BX.out W h).cell 2 _ rfl
  have x3 := fun W (h : Ok G W) => (BX.out W h).cell 3 _ rfl
  have x4 := fun W (h : Ok G W) => (BX.out W h).cell 4 _ rfl
  have x5 := fun W (h : Ok G W) => (BX.out W h).cell 5 _ rfl
  have x6 := fun W (h : Ok G W) => (BX.out W h).cell 6 _ rfl
  have x7 := fun W (h : Ok G W) => (BX.out W h).cell 7 _ rfl
  have y0 := fun W (h : Ok G W) => (BY.out W h).cell 0 _ rfl
  have y1 := fun W (h : Ok G W) => (BY.out W h).cell 1 _ rfl
  have y2 := fun W (h : Ok G W) => (BY.out W h).cell 2 _ rfl
  have y3 := fun W (h : Ok G W) => (BY.out W h).cell 3 _ rfl
  have y4 := fun W (h : Ok G W) => (BY.out W h).cell 4 _ rfl
  have y5 := fun W (h : Ok G W) => (BY.out W h).cell 5 _ rfl
  have y6 := fun W (h : Ok G W) => (BY.out W h).cell 6 _ rfl
  have y7 := fun W (h : Ok G W) => (BY.out W h).cell 7 _ rfl
  go_enter Try.func16, Try.ntmps16
  go_upto_region 1 with fail
  refine gen_w g0 ?_
  clear g0
  intro W0 g0
  go_wp2_with fail
  refine Calls.mono (spec_IsVector d _ _ (HR.out.below (HG.out.below g0)) hz) ?_
  rw [hv]
  rintro e w1 ⟨rfl, hb⟩
  replace g0 := HG.out.step g0 hb
  clear hb
  go_wp2_with fail
  refine Calls.mono (spec_IsVector d _ _ (HQ.out.below (HG.out.below g0)) hz) ?_
  rw [hv]
  rintro e w2 ⟨rfl, hb⟩
  replace g0 := HG.out.step g0 hb
  clear hb
  go_wp2_with fail
  refine Calls.mono (spec_l4Same_same d _ _ _ (HR.out.below (HG.out.below g0)) (HQ.out.below (HG.out.below g0))) ?_
  rintro e w3 ⟨rfl, hb⟩
  replace g0 := HG.out.step g0 hb
  clear hb
  go_wp2_with fail
  go_ret
  exact ⟨rfl, HG.out.below g0⟩
end Go.Proofs.Ytaliiodngekahaa
