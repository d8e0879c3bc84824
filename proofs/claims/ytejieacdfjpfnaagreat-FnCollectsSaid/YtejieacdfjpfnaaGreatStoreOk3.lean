/-
  Contract: slotRight, of the program.
-/
import Derived.Test.YtejieacdfjpfnaaGreatKSt1
namespace Go.Proofs.YtejieacdfjpfnaaGreat
set_option maxRecDepth 100000
open Go.ChangeShapes Go.WideShapes Go.ChangeAt Go.RowKit Go.Deep

theorem SlotR.open_ {w : World} {cs : List Value} {x : SlotD} (h : SlotR w cs x) : ∃ (A1 : Option Addr) (c1 : Nat) (A2 : Option Addr) (c2 : Nat) (A3 : Option Addr) (c3 : Nat) (A4 : Option Addr) (c4 : Nat) (A5 : Option Addr) (c5 : Nat) (P : Option Addr) (p : Nat) (L : Option Addr) (l : Nat),
    cs = [.int .i64 x.kind, .int .i64 x.value.kind, .slice A1 x.value.items.length c1, .slice A2 x.value.parts.length c2, .slice A3 x.value.names.length c3, .slice A4 x.value.cls.length c4, .slice A5 x.value.levels.length c5, .int .i64 x.value.code, .int .i64 x.value.env, .int .i64 x.promise, .slice P x.promises.length p, .slice L x.labels.length l] ∧ I64 x.kind ∧ I64 x.promise ∧ x.promises.length ≤ 9223372036854775807 ∧ x.labels.length ≤ 9223372036854775807 ∧
    Hid (VecR w [.int .i64 x.value.kind, .slice A1 x.value.items.length c1, .slice A2 x.value.parts.length c2, .slice A3 x.value.names.length c3, .slice A4 x.value.cls.length c4, .slice A5 x.value.levels.length c5, .int .i64 x.value.code, .int .i64 x.value.env] x.value) ∧ Hid (Ints w (.slice P x.promises.length p) x.promises) ∧ Hid (Txts w (.slice L x.labels.length l) x.labels) := by
  obtain ⟨v11, v12, v13, v14, v15, v3, v4, rfl, h0, h1, h2, h3, h4⟩ := h
  obtain ⟨_, A1, c1, A2, c2, A3, c3, A4, c4, A5, c5, he, _⟩ := h1.open_
  obtain ⟨P, p, rfl⟩ := SlR.shape h3
  obtain ⟨L, l, rfl⟩ := SlR.shape h4
  simp only [List.cons.injEq, and_true, true_and] at he
  obtain ⟨rfl, rfl, rfl, rfl, rfl⟩ := he
  exact ⟨A1, c1, A2, c2, A3, c3, A4, c4, A5, c5, P, p, L, l, rfl, h0, h2, SlR.length_le h3, SlR.length_le h4, h1, h3, h4⟩

def slA (s : StoreD) (x : SlotD) : Bool := decide (0 ≤ x.kind) && decide (x.kind ≤ 3) && valFit s x.value && (x.kind == 1 || zeroV x.value)
def slB (s : StoreD) (x : SlotD) : Bool := (x.kind != 2 || promU s x.promise) && (x.kind == 2 || x.promise == 0)
def slC (x : SlotD) : Bool := (x.kind == 3 || (decide (x.promises.length = 0) && decide (x.labels.length = 0))) && decide (x.promises.length = x.labels.length)
def slD (s : StoreD) (x : SlotD) : Bool := decide (∀ j (h : j < x.promises.length) (h' : j < x.labels.length), promU s x.promises[j] = true ∧ x.labels[j].length ≤ 60)
def slotOk (s : StoreD) (x : SlotD) : Bool := slA s x && slB s x && slC x && slD s x
theorem slD_no {s : StoreD} {x : SlotD} (k : Nat) (h : k < x.promises.length) (h' : k < x.labels.length) (hf : ¬ (promU s x.promises[k] = true ∧ x.labels[k].length ≤ 60)) : slD s x = false := by
  unfold slD
  exact decide_eq_false (fun h9 => hf (h9 k h h'))

set_option maxHeartbeats 4000000 in
theorem impl_slotRight (s : StoreD) (x : SlotD) (ss cs : List Value) (w : World) (hs : StoreR w ss s) (h : SlotR w cs x) (hz : szVector x.value ≤ 1000000000000) :
    Calls Tryz.prog 129 #[.agg ss.toArray, .agg cs.toArray] w (RetB (slotOk s x) w) := by
  have HS := Lib.hid hs
  obtain ⟨E0, e0, E1, e1, rfl, l0, l1, _⟩ := hs.open_
  obtain ⟨A1, c1, A2, c2, A3, c3, A4, c4, A5, c5, P, p, L, l, rfl, k0, k1, m1, m2, HV, HPI, HLT⟩ := h.open_
  clear h hs
  have HQ := Lib.hid (show slotOk s x = (slA s x && slB s x && slC x && slD s x) from rfl)
  have HX0 := Lib.hid (show ExL w w.heap.size [(w.heap.size + 1, 96, [.int .i64 x.kind, .int .i64 x.value.kind, .slice A1 x.value.items.length c1, .slice A2 x.value.parts.length c2, .slice A3 x.value.names.length c3, .slice A4 x.value.cls.length c4, .slice A5 x.value.levels.length c5, .int .i64 x.value.code, .int .i64 x.value.env, .int .i64 x.promise, .slice P x.promises.length p, .slice L x.labels.length l]), (w.heap.size, 33, [.slice E0 s.envs.length e0, .slice E1 s.promises.length e1])] ((w.alloc (.cells #[.slice E0 s.envs.length e0, .slice E1 s.promises.length e1] 33)).alloc (.cells #[.int .i64 x.kind, .int .i64 x.value.kind, .slice A1 x.value.items.length c1, .slice A2 x.value.parts.length c2, .slice A3 x.value.names.length c3, .slice A4 x.value.cls.length c4, .slice A5 x.value.levels.length c5, .int .i64 x.value.code, .int .i64 x.value.env, .int .i64 x.promise, .slice P x.promises.length p, .slice L x.labels.length l] 96)) from by simpa using ((ExL.start w).push 33 [.slice E0 s.envs.length e0, .slice E1 s.promises.length e1]).push 96 [.int .i64 x.kind, .int .i64 x.value.kind, .slice A1 x.value.items.length c1, .slice A2 x.value.parts.length c2, .slice A3 x.value.names.length c3, .slice A4 x.value.cls.length c4, .slice A5 x.value.levels.length c5, .int .i64 x.value.code, .int .i64 x.value.env, .int .i64 x.promise, .slice P x.promises.length p, .slice L x.labels.length l])
  go_enter Tryz.func129, Tryz.ntmps129
  go_upto_region 1 with fail
  generalize ((w.alloc (.cells #[.slice E0 s.envs.length e0, .slice E1 s.promises.length e1] 33)).alloc (.cells #[.int .i64 x.kind, .int .i64 x.value.kind, .slice A1 x.value.items.length c1, .slice A2 x.value.parts.length c2, .slice A3 x.value.names.length c3, .slice A4 x.value.cls.length c4, .slice A5 x.value.levels.length c5, .int .i64 x.value.code, .int .i64 x.value.env, .int .i64 x.promise, .slice P x.promises.length p, .slice L x.labels.length l] 96)) = W0 at HX0 ⊢
  generalize (Value.agg #[.int .i64 x.kind, .int .i64 x.value.kind, .slice A1 x.value.items.length c1, .slice A2 x.value.parts.length c2, .slice A3 x.value.names.length c3, .slice A4 x.value.cls.length c4, .slice A5 x.value.levels.length c5, .int .i64 x.value.code, .int .i64 x.value.env, .int .i64 x.promise, .slice P x.promises.length p, .slice L x.labels.length l]) = V1
  generalize (Value.agg #[.slice E0 s.envs.length e0, .slice E1 s.promises.length e1]) = V0
  have x0 := HX0.out.b0.cell 0 _ rfl
  have x1 := HX0.out.b0.cell 1 _ rfl
  have x2 := HX0.out.b0.cell 2 _ rfl
  have x3 := HX0.out.b0.cell 3 _ rfl
  have x4 := HX0.out.b0.cell 4 _ rfl
  have x5 := HX0.out.b0.cell 5 _ rfl
  have x6 := HX0.out.b0.cell 6 _ rfl
  have x7 := HX0.out.b0.cell 7 _ rfl
  have x8 := HX0.out.b0.cell 8 _ rfl
  have x9 := HX0.out.b0.cell 9 _ rfl
  have x10 := HX0.out.b0.cell 10 _ rfl
  have x11 := HX0.out.b0.cell 11 _ rfl
  have xs0 := HX0.out.tail.b0.cell 0 _ rfl
  have xs1 := HX0.out.tail.b0.cell 1 _ rfl
  go_cut [32] from 7 to 32 (fun v wx => v = .bool (!slA s x) ∧ Hid (ExL w w.heap.size [(w.heap.size + 1, 96, [.int .i64 x.kind, .int .i64 x.value.kind, .slice A1 x.value.items.length c1, .slice A2 x.value.parts.length c2, .slice A3 x.value.names.length c3, .slice A4 x.value.cls.length c4, .slice A5 x.value.levels.length c5, .int .i64 x.value.code, .int .i64 x.value.env, .int .i64 x.promise, .slice P x.promises.length p, .slice L x.labels.length l]), (w.heap.size, 33, [.slice E0 s.envs.length e0, .slice E1 s.promises.length e1])] wx))
  case first =>
    cases hvf : valFit s x.value <;> cases hzv : zeroV x.value
    all_goals
      have HVF := Lib.hid hvf
      have HZV := Lib.hid hzv
      clear hvf hzv
      go_wp2_with (first | (go_at_call 122; refine (impl_valueFits s x.value _ _ _ (HS.out.below HX0.out.2.1) (HV.out.below HX0.out.2.1) hz).mono ?_; rintro e w1 ⟨rfl, hb⟩; rw [HVF.out]; have HX1 := Lib.hid (HX0.out.below hb); clear hb; have y0 := HX1.out.b0.cell 0 _ rfl; have y1 := HX1.out.b0.cell 1 _ rfl; have y2 := HX1.out.b0.cell 2 _ rfl; have y3 := HX1.out.b0.cell 3 _ rfl; have y4 := HX1.out.b0.cell 4 _ rfl; have y5 := HX1.out.b0.cell 5 _ rfl; have y6 := HX1.out.b0.cell 6 _ rfl; have y7 := HX1.out.b0.cell 7 _ rfl; have y8 := HX1.out.b0.cell 8 _ rfl; have y9 := HX1.out.b0.cell 9 _ rfl; have y10 := HX1.out.b0.cell 10 _ rfl; have y11 := HX1.out.b0.cell 11 _ rfl; have ys0 := HX1.out.tail.b0.cell 0 _ rfl; have ys1 := HX1.out.tail.b0.cell 1 _ rfl) | (go_at_call 130; refine (impl_isZeroVector x.value _ _ (HV.out.below HX1.out.2.1)).mono ?_; rintro e w2 ⟨rfl, hb⟩; rw [HZV.out]; have HX2 := Lib.hid (HX1.out.below hb); clear hb))
      all_goals
        go_meet
        case rel => exact ⟨by congr 1; go_light; have := HVF.out; have := HZV.out; grind [slA], by first | exact HX2.out | exact HX1.out | exact HX0.out⟩
  obtain ⟨rfl, HX1⟩ := hcut
  clear HX0 x0 x1 x2 x3 x4 x5 x6 x7 x8 x9 x10 x11 xs0 xs1
  cases hA : slA s x
  · go_wp2_with fail
    go_ret
    exact ⟨ret_bool (by rw [HQ.out, hA]; rfl), HX1.out.2.1⟩
  have HA := Lib.hid hA
  clear hA
  have x0 := HX1.out.b0.cell 0 _ rfl
  have x1 := HX1.out.b0.cell 1 _ rfl
  have x2 := HX1.out.b0.cell 2 _ rfl
  have x3 := HX1.out.b0.cell 3 _ rfl
  have x4 := HX1.out.b0.cell 4 _ rfl
  have x5 := HX1.out.b0.cell 5 _ rfl
  have x6 := HX1.out.b0.cell 6 _ rfl
  have x7 := HX1.out.b0.cell 7 _ rfl
  have x8 := HX1.out.b0.cell 8 _ rfl
  have x9 := HX1.out.b0.cell 9 _ rfl
  have x10 := HX1.out.b0.cell 10 _ rfl
  have x11 := HX1.out.b0.cell 11 _ rfl
  have xs0 := HX1.out.tail.b0.cell 0 _ rfl
  have xs1 := HX1.out.tail.b0.cell 1 _ rfl
  go_upto_region 3 with fail
  go_cut [52] from 33 to 52 (fun v wx => v = .bool (!slB s x) ∧ Hid (ExL w w.heap.size [(w.heap.size + 1, 96, [.int .i64 x.kind, .int .i64 x.value.kind, .slice A1 x.value.items.length c1, .slice A2 x.value.parts.length c2, .slice A3 x.value.names.length c3, .slice A4 x.value.cls.length c4, .slice A5 x.value.levels.length c5, .int .i64 x.value.code, .int .i64 x.value.env, .int .i64 x.promise, .slice P x.promises.length p, .slice L x.labels.length l]), (w.heap.size, 33, [.slice E0 s.envs.length e0, .slice E1 s.promises.length e1])] wx))
  case first =>
    cases hpu : promU s x.promise
    all_goals
      have HPU := Lib.hid hpu
      clear hpu
      go_wp2_with (go_at_call 146; refine (impl_promiseUsed s x.promise _ _ (HS.out.below HX1.out.2.1)).mono ?_; rintro e w2 ⟨rfl, hb⟩; rw [HPU.out]; have HX2 := Lib.hid (HX1.out.below hb); clear hb; have y0 := HX2.out.b0.cell 0 _ rfl; have y1 := HX2.out.b0.cell 1 _ rfl; have y2 := HX2.out.b0.cell 2 _ rfl; have y3 := HX2.out.b0.cell 3 _ rfl; have y4 := HX2.out.b0.cell 4 _ rfl; have y5 := HX2.out.b0.cell 5 _ rfl; have y6 := HX2.out.b0.cell 6 _ rfl; have y7 := HX2.out.b0.cell 7 _ rfl; have y8 := HX2.out.b0.cell 8 _ rfl; have y9 := HX2.out.b0.cell 9 _ rfl; have y10 := HX2.out.b0.cell 10 _ rfl; have y11 := HX2.out.b0.cell 11 _ rfl; have ys0 := HX2.out.tail.b0.cell 0 _ rfl; have ys1 := HX2.out.tail.b0.cell 1 _ rfl)
      all_goals
        go_meet
        case rel => exact ⟨by congr 1; go_light; have := HPU.out; grind [slB], by first | exact HX2.out | exact HX1.out⟩
  obtain ⟨rfl, HX2⟩ := hcut
  clear HX1 x0 x1 x2 x3 x4 x5 x6 x7 x8 x9 x10 x11 xs0 xs1
  cases hB : slB s x
  · go_wp2_with fail
    go_ret
    exact ⟨ret_bool (by rw [HQ.out, HA.out, hB]; rfl), HX2.out.2.1⟩
  have HBB := Lib.hid hB
  clear hB
  have x0 := HX2.out.b0.cell 0 _ rfl
  have x1 := HX2.out.b0.cell 1 _ rfl
  have x2 := HX2.out.b0.cell 2 _ rfl
  have x3 := HX2.out.b0.cell 3 _ rfl
  have x4 := HX2.out.b0.cell 4 _ rfl
  have x5 := HX2.out.b0.cell 5 _ rfl
  have x6 := HX2.out.b0.cell 6 _ rfl
  have x7 := HX2.out.b0.cell 7 _ rfl
  have x8 := HX2.out.b0.cell 8 _ rfl
  have x9 := HX2.out.b0.cell 9 _ rfl
  have x10 := HX2.out.b0.cell 10 _ rfl
  have x11 := HX2.out.b0.cell 11 _ rfl
  have xs0 := HX2.out.tail.b0.cell 0 _ rfl
  have xs1 := HX2.out.tail.b0.cell 1 _ rfl
  go_upto_region 5 with fail
  go_cut [76] from 53 to 76 (fun v wx => v = .bool (!slC x) ∧ Hid (ExL w w.heap.size [(w.heap.size + 1, 96, [.int .i64 x.kind, .int .i64 x.value.kind, .slice A1 x.value.items.length c1, .slice A2 x.value.parts.length c2, .slice A3 x.value.names.length c3, .slice A4 x.value.cls.length c4, .slice A5 x.value.levels.length c5, .int .i64 x.value.code, .int .i64 x.value.env, .int .i64 x.promise, .slice P x.promises.length p, .slice L x.labels.length l]), (w.heap.size, 33, [.slice E0 s.envs.length e0, .slice E1 s.promises.length e1])] wx))
  case first =>
    cases p1 : decide (0 < x.promises.length) <;> cases p2 : decide (0 < x.labels.length) <;> cases p3 : (x.kind != 3)
    all_goals
      go_wp2_with fail
      all_goals
        go_meet
        case rel => exact ⟨by congr 1; go_light; grind [slC], HX2.out⟩
  obtain ⟨rfl, HX3⟩ := hcut
  clear HX2 x0 x1 x2 x3 x4 x5 x6 x7 x8 x9 x10 x11 xs0 xs1
  cases hC : slC x
  · go_wp2_with fail
    go_ret
    exact ⟨ret_bool (by rw [HQ.out, HA.out, HBB.out, hC]; rfl), HX3.out.2.1⟩
  have HLE := Lib.hid (show x.promises.length = x.labels.length by grind [slC])
  have HCC := Lib.hid hC
  clear hC
  obtain ⟨_, _, g1, hl1, hm1, HC1⟩ := Ints.open_ HPI.out
  injection g1 with g11 g12 g13
  subst g11 g13
  clear g12
  unfold maxLen at hm1
  obtain ⟨_, _, g1, hl2, hm2, HC2⟩ := Txts.open_ HLT.out
  injection g1 with g11 g12 g13
  subst g11 g13
  clear g12
  unfold maxLen at hm2
  have x0 := HX3.out.b0.cell 0 _ rfl
  have x1 := HX3.out.b0.cell 1 _ rfl
  have x2 := HX3.out.b0.cell 2 _ rfl
  have x3 := HX3.out.b0.cell 3 _ rfl
  have x4 := HX3.out.b0.cell 4 _ rfl
  have x5 := HX3.out.b0.cell 5 _ rfl
  have x6 := HX3.out.b0.cell 6 _ rfl
  have x7 := HX3.out.b0.cell 7 _ rfl
  have x8 := HX3.out.b0.cell 8 _ rfl
  have x9 := HX3.out.b0.cell 9 _ rfl
  have x10 := HX3.out.b0.cell 10 _ rfl
  have x11 := HX3.out.b0.cell 11 _ rfl
  have xs0 := HX3.out.tail.b0.cell 0 _ rfl
  have xs1 := HX3.out.tail.b0.cell 1 _ rfl
  go_wp2_with fail
  go_loopw [80] (fun i wr => ∃ k : Nat, k ≤ x.promises.length ∧ i = .int .i64 k ∧ Hid (∀ j (h : j < x.promises.length) (h' : j < x.labels.length), j < k → promU s x.promises[j] = true ∧ x.labels[j].length ≤ 60) ∧ Hid (ExL w w.heap.size [(w.heap.size + 1, 96, [.int .i64 x.kind, .int .i64 x.value.kind, .slice A1 x.value.items.length c1, .slice A2 x.value.parts.length c2, .slice A3 x.value.names.length c3, .slice A4 x.value.cls.length c4, .slice A5 x.value.levels.length c5, .int .i64 x.value.code, .int .i64 x.value.env, .int .i64 x.promise, .slice P x.promises.length p, .slice L x.labels.length l]), (w.heap.size, 33, [.slice E0 s.envs.length e0, .slice E1 s.promises.length e1])] wr)) (fun i _ => x.promises.length - (intOf i).toNat)
  case atStart => exact ⟨0, Nat.zero_le _, rfl, fun j _ _ h => absurd h (by omega), HX3.out⟩
  case round =>
    clear HX3 x0 x1 x2 x3 x4 x5 x6 x7 x8 x9 x10 x11 xs0 xs1
    obtain ⟨k, hk, rfl, hn, HX⟩ := hrel
    have x0 := HX.out.b0.cell 0 _ rfl
    have x1 := HX.out.b0.cell 1 _ rfl
    have x2 := HX.out.b0.cell 2 _ rfl
    have x3 := HX.out.b0.cell 3 _ rfl
    have x4 := HX.out.b0.cell 4 _ rfl
    have x5 := HX.out.b0.cell 5 _ rfl
    have x6 := HX.out.b0.cell 6 _ rfl
    have x7 := HX.out.b0.cell 7 _ rfl
    have x8 := HX.out.b0.cell 8 _ rfl
    have x9 := HX.out.b0.cell 9 _ rfl
    have x10 := HX.out.b0.cell 10 _ rfl
    have x11 := HX.out.b0.cell 11 _ rfl
    have xs0 := HX.out.tail.b0.cell 0 _ rfl
    have xs1 := HX.out.tail.b0.cell 1 _ rfl
    by_cases hlt : k < x.promises.length
    · have hlt' : k < x.labels.length := by have := HLE.out; omega
      obtain ⟨b, off, rfl, hbl, hcell, i1, i2⟩ := HC1.out k hlt
      obtain ⟨b', off', rfl, hbl', hcell', hsz⟩ := HC2.out k hlt'
      unfold maxLen at hsz
      have y0 := (HX.out.2.1.cell (p := ⟨b, off + k, none⟩) hbl).trans hcell
      have HY := Lib.hid hcell'
      clear hcell hcell'
      go_wp2_with fail
      refine (impl_promiseUsed s x.promises[k] _ _ (HS.out.below HX.out.2.1)).mono ?_
      rintro e w2 ⟨rfl, hb⟩
      have HX2 := Lib.hid (HX.out.below hb)
      clear hb x0 x1 x2 x3 x4 x5 x6 x7 x8 x9 x10 x11 xs0 xs1 y0
      have x11 := HX2.out.b0.cell 11 _ rfl
      have y1 := (HX2.out.2.1.cell (p := ⟨b', off' + k, none⟩) hbl').trans HY.out
      cases hq : promU s x.promises[k]
      · have HD := Lib.hid (slD_no (s := s) k hlt hlt' (fun h => by rw [hq] at h; cases h.1))
        go_wp2_with fail
        go_ret
        exact ⟨ret_bool (by rw [HQ.out, HD.out]; simp), HX2.out.2.1⟩
      have HPQ := Lib.hid hq
      clear hq
      by_cases g6 : 60 < x.labels[k].length
      · have HD := Lib.hid (slD_no (s := s) k hlt hlt' (fun h => by have := h.2; omega))
        go_wp2_with fail
        go_ret
        exact ⟨ret_bool (by rw [HQ.out, HD.out]; simp), HX2.out.2.1⟩
      · go_wp2_with fail
        go_roundw
        case rel => first | exact ⟨k + 1, by omega, by go_num, fun j h1 h2 hj => by (rcases Nat.lt_succ_iff_lt_or_eq.1 hj with h3 | rfl); exact hn.out j h1 h2 h3; exact ⟨HPQ.out, by omega⟩, HX2.out⟩ | ((repeat apply Exists.intro); exact ⟨⟨k + 1, by omega, by go_num, fun j h1 h2 hj => by (rcases Nat.lt_succ_iff_lt_or_eq.1 hj with h3 | rfl); exact hn.out j h1 h2 h3; exact ⟨HPQ.out, by omega⟩, HX2.out⟩, rfl⟩)
        case measure => simp [intOf]; omega
    · have HD := Lib.hid (show slD s x = true by unfold slD; exact decide_eq_true (fun j h h' => hn.out j h h' (by omega)))
      go_wp2_with fail
      go_ret
      exact ⟨ret_bool (by rw [HQ.out, HA.out, HBB.out, HCC.out, HD.out]; rfl), HX.out.2.1⟩

end Go.Proofs.YtejieacdfjpfnaaGreat
