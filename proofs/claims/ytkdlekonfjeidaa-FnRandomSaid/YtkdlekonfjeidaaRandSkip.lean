/-
  Contracts: many steps of the generator, of the program (with rounds left out) and of the reference (by squares).
-/
import Derived.Test.YtkdlekonfjeidaaRand
namespace Go.Proofs.Ytkdlekonfjeidaa
set_option maxRecDepth 100000
open Go.ChangeShapes Go.WideShapes Go.ChangeAt Go.RowKit Go.Deep

/-- block g is a row of 65537 numbers; where one is not 0, the state of its place was reached by a step less than it -/
def Seen (w : World) (g k : Nat) (s : Int) : Prop := ∃ cs : Array Value, w.heap[g]? = some (.cells cs 3 (0, 0)) ∧ cs.size = 65537 ∧ ∀ x : Nat, x < 65537 → ∃ y : Nat, cs[x]? = some (.int .i64 y) ∧ y ≤ k ∧ (0 < y → itS (y - 1) s = x)
theorem Seen.lt {w : World} {g k : Nat} {s : Int} (h : Seen w g k s) : g < w.heap.size := by
  obtain ⟨cs, h1, _⟩ := h
  exact (Array.getElem?_eq_some_iff.1 h1).1
theorem Seen.cell {w : World} {g k : Nat} {s : Int} (h : Seen w g k s) {x : Nat} (hx : x < 65537) : ∃ y : Nat, w.cell? ⟨g, x, none⟩ = some (.int .i64 y) ∧ y ≤ k ∧ (0 < y → itS (y - 1) s = x) := by
  obtain ⟨cs, h1, h2, h3⟩ := h
  obtain ⟨y, k1, k2, k3⟩ := h3 x hx
  exact ⟨y, by simp [World.cell?, h1, k1], k2, k3⟩
theorem Seen.frozen {w : World} {g k : Nat} {s : Int} (h : Seen w g k s) (x : Nat) : w.frozen? ⟨g, x, none⟩ = false := by
  obtain ⟨cs, h1, _⟩ := h
  simp [World.frozen?, h1]
theorem Seen.start (w : World) (s : Int) : Seen (w.alloc (.cells (madeCells #[.int .i64 0] 65537) 3)) w.heap.size 0 s := by
  refine ⟨_, heap_alloc_new w _, size_madeCells _ _, fun x hx => ⟨0, ?_, Nat.le_refl _, fun h => absurd h (by omega)⟩⟩
  rw [← Array.getElem?_toList, toList_madeCells_one, List.getElem?_replicate, if_pos hx]
  rfl
theorem Seen.set_ {w : World} {g k : Nat} {s : Int} (h : Seen w g k s) {x : Nat} (hx : x < 65537) (he : itS k s = x) : Seen (w.setCell ⟨g, x, none⟩ (.int .i64 ((k : Int) + 1))) g (k + 1) s := by
  obtain ⟨cs, h1, h2, h3⟩ := h
  refine ⟨cs.setIfInBounds x (.int .i64 ((k : Int) + 1)), ?_, by simpa using h2, fun z hz => ?_⟩
  · simp [World.setCell, Array.getElem?_modify, h1]
  · by_cases e : x = z
    · subst e
      exact ⟨k + 1, by simp [h2, hx], Nat.le_refl _, fun _ => by simpa using he⟩
    · obtain ⟨y, k1, k2, k3⟩ := h3 z hz
      exact ⟨y, by rw [Array.getElem?_setIfInBounds_ne e]; exact k1, by omega, k3⟩

theorem cycle_n {s : Int} {y k n : Nat} (hy : 0 < y) (hk : y ≤ k) (hn : k ≤ n) (h : itS (y - 1) s = itS k s) : itS (k + (n - k) % (k + 1 - y)) s = itS n s := by
  have hp : k = (y - 1) + (k + 1 - y) := by omega
  have h1 : itS (y - 1 + (k + 1 - y)) s = itS (y - 1) s := by rw [← hp]; exact h.symm
  have h2 : itS (k + (k + 1 - y)) s = itS k s := by
    rw [itS_add k, ← h, ← itS_add, ← hp, h]
  exact (itS_mod (by omega) h2 hn).symm

set_option maxHeartbeats 2000000 in
theorem impl_SkipState (s : Int) (n : Nat) (w : World) (hs : isSt s = true) (hn : n ≤ 1099511627776) :
    Calls Try.prog 13 #[.int .i64 s, .int .i64 n] w fun e w' => e = .returned (.int .i64 (itS n s)) ∧ Below w.heap.size w w' := by
  have hmk : (Instr.makeSlice 26 (.int .i64 65537) (.int .i64 65537)).run Try.prog w = _ := run_mk (P := Try.prog) w 26 3 _ 1 8 Try.underlying26 info_int 65537 (by omega) (by omega)
  have H := Lib.hid hs
  clear hs
  go_enter Try.func13, Try.ntmps13
  go_wp2_with fail
  refine (impl_isState s _).mono ?_
  rw [H.out]
  rintro e w1 ⟨rfl, rfl⟩
  go_wp2_with fail
  clear hmk
  go_loopw [0, 1, 6] (fun c nn i wr => ∃ (k : Nat) (x : Nat), k ≤ n ∧ i = .int .i64 k ∧ c = .int .i64 x ∧ nn = .int .i64 n ∧ x ≤ 65535 ∧ Hid (itS k s = x) ∧ Hid (Seen wr w.heap.size k s) ∧ Below w.heap.size w wr) (fun _ _ i _ => n - (intOf i).toNat)
  case atStart =>
    obtain ⟨h0, h1⟩ := isSt_iff.1 H.out
    obtain ⟨x, rfl⟩ := Int.eq_ofNat_of_zero_le h0
    exact ⟨0, x, Nat.zero_le _, rfl, rfl, rfl, by omega, rfl, Seen.start w _, (Below.refl _ _).alloc (Nat.le_refl _) _⟩
  case round =>
    obtain ⟨k, x, hk, rfl, rfl, rfl, hx, hX, hS, hb⟩ := hrel
    by_cases hlt : k < n
    · obtain ⟨y, c1, hy1, hy2⟩ := hS.out.cell (show x < 65537 by omega)
      have fz := hS.out.frozen x
      by_cases hy : 0 < y
      · have hC := Lib.hid (cycle_n hy hy1 hk ((hy2 hy).trans hX.out.symm))
        have hr : (n - k) % (k + 1 - y) < k + 1 - y := Nat.mod_lt _ (by omega)
        have hm : ((n : Int) - k) % ((k : Int) + 1 - y) = (((n - k) % (k + 1 - y) : Nat) : Int) := by
          rw [show ((n : Int) - k) = ((n - k : Nat) : Int) by omega, show ((k : Int) + 1 - y) = ((k + 1 - y : Nat) : Int) by omega]
          rfl
        generalize (n - k) % (k + 1 - y) = r at *
        have hb0 : 0 ≤ ((n : Int) - k) % ((k : Int) + 1 - y) := by rw [hm]; omega
        have hb1 : ((n : Int) - k) % ((k : Int) + 1 - y) ≤ 1099511627776 := by rw [hm]; omega
        have HM := Lib.hid hm
        clear hy2 hm
        go_wp2_with fail
        rw [HM.out] at hb0 hb1 ⊢
        go_loop [0, 6] (fun c i => ∃ (q : Nat) (z : Nat), k ≤ q ∧ q ≤ k + r ∧ i = .int .i64 q ∧ c = .int .i64 z ∧ z ≤ 65535 ∧ Hid (itS q s = z)) (fun _ i => k + r - (intOf i).toNat)
        case atStart => exact ⟨k, x, Nat.le_refl _, by omega, rfl, rfl, hx, hX⟩
        case round =>
          obtain ⟨q, z, hq1, hq2, rfl, rfl, hz, hZ⟩ := hrel
          by_cases hlq : q < k + r
          · go_wp2_with fail
            refine (impl_NextState _ _).mono ?_
            rintro e w1 ⟨rfl, rfl⟩
            go_wp2_with fail
            go_round
            case rel =>
              have hst : isSt (z : Int) = true := isSt_iff.2 (by omega)
              obtain ⟨h0, h1⟩ := isSt_iff.1 (nextS_st hst)
              obtain ⟨z2, hz2⟩ := Int.eq_ofNat_of_zero_le h0
              exact ⟨q + 1, z2, by omega, by omega, by go_num, by rw [hz2], by omega, by show itS (q + 1) s = _; rw [itS_succ, hZ.out, hz2]⟩
            case measure => simp [intOf]; omega
          · obtain rfl : q = k + r := by omega
            go_wp2_with fail
            go_ret
            exact ⟨ret_int (by rw [← hZ.out, hC.out]), hb⟩
      · obtain rfl : y = 0 := by omega
        clear hy hy1 hy2
        go_wp2_with fail
        refine (impl_NextState _ _).mono ?_
        rintro e w1 ⟨rfl, rfl⟩
        go_wp2_with fail
        go_roundw
        case rel =>
          have hst : isSt (x : Int) = true := isSt_iff.2 (by omega)
          obtain ⟨h0, h1⟩ := isSt_iff.1 (nextS_st hst)
          obtain ⟨z, hz⟩ := Int.eq_ofNat_of_zero_le h0
          exact ⟨k + 1, z, by omega, by go_num, by rw [hz], rfl, by omega, by show itS (k + 1) s = _; rw [itS_succ, hX.out, hz], hS.out.set_ (by omega) hX.out, hb.setCell (p := ⟨w.heap.size, x, none⟩) (Nat.le_refl _) _⟩
        case measure => simp [intOf]; omega
    · obtain rfl : k = n := by omega
      go_wp2_with fail
      go_ret
      exact ⟨ret_int (by rw [hX.out]), hb⟩

theorem bits_one (k : Nat) (h : k ≤ 4611686018427387904) : bits .and .i64 k 1 = ((k % 2 : Nat) : Int) := by
  have e : bits .and .i64 (k : Int) 1 = IntKind.i64.wrap ((BitVec.ofInt 64 (k : Int) &&& BitVec.ofInt 64 ((1 : Nat) : Int)).toNat : Int) := rfl
  rw [e, BitVec.toNat_and, BitVec.ofInt_natCast, BitVec.ofInt_natCast, BitVec.toNat_ofNat, BitVec.toNat_ofNat, Nat.mod_eq_of_lt (by omega), Nat.mod_eq_of_lt (by omega), Nat.and_one_is_mod, IntKind.wrap_i64]
  omega

theorem even_step (x p k : Nat) (h : k % 2 = 0) : x * (p * p % 65537) ^ (k / 2) % 65537 = x * p ^ k % 65537 := by
  rw [Nat.mul_mod, ← Nat.pow_mod, ← Nat.pow_two, ← Nat.pow_mul, ← Nat.mul_mod]
  congr 3
  omega
theorem odd_step (x p k : Nat) (h : k % 2 = 1) : (x * p % 65537) * (p * p % 65537) ^ (k / 2) % 65537 = x * p ^ k % 65537 := by
  rw [Nat.mod_mul_mod, Nat.mul_mod, ← Nat.pow_mod, ← Nat.pow_two, ← Nat.pow_mul, ← Nat.mul_mod, Nat.mul_assoc, ← Nat.pow_succ']
  congr 3
  omega

set_option maxHeartbeats 2000000 in
theorem spec_SkipState (s n : Nat) (w : World) (hs : s ≤ 65535) (hn : n ≤ 1099511627776) :
    Calls Try.prog 14 #[.int .i64 s, .int .i64 n] w fun e w' => e = .returned (.int .i64 (itS n s)) ∧ w = w' := by
  have H := Lib.hid (show (decide ((0 : Int) ≤ s) && decide ((s : Int) ≤ 65535)) = true by simp; omega)
  have HV := Lib.hid (itS_val n hs)
  go_enter Try.func14, Try.ntmps14
  go_wp2_with fail
  refine (spec_l1In_i s 0 65535 _).mono ?_
  rw [H.out]
  rintro e w1 ⟨rfl, rfl⟩
  go_wp2_with fail
  go_loop [5, 6, 7] (fun p x k => ∃ (kk xx pp : Nat), k = .int .i64 kk ∧ x = .int .i64 xx ∧ p = .int .i64 pp ∧ kk ≤ n ∧ xx ≤ 65536 ∧ pp ≤ 65536 ∧ Hid (xx * pp ^ kk % 65537 = (s + 1) * 75 ^ n % 65537)) (fun _ _ k => (intOf k).toNat)
  case atStart => exact ⟨n, s + 1, 75, rfl, rfl, rfl, Nat.le_refl _, by omega, by omega, rfl⟩
  case round =>
    obtain ⟨kk, xx, pp, rfl, rfl, rfl, hk, hx, hp, hX⟩ := hrel
    have hb1 : (xx : Int) * pp ≤ 4294967296 := by
      have := Nat.mul_le_mul hx hp
      omega
    have hb2 : (0 : Int) ≤ (xx : Int) * pp := Int.mul_nonneg (Int.natCast_nonneg xx) (Int.natCast_nonneg pp)
    have hb3 : (pp : Int) * pp ≤ 4294967296 := by
      have := Nat.mul_le_mul hp hp
      omega
    have hb4 : (0 : Int) ≤ (pp : Int) * pp := Int.mul_nonneg (Int.natCast_nonneg pp) (Int.natCast_nonneg pp)
    by_cases h0 : 0 < kk
    · have e1 := bits_one kk (by omega)
      by_cases h1 : kk % 2 = 1
      · rw [h1] at e1
        go_wp2_with fail
        refine ⟨⟨kk / 2, xx * pp % 65537, pp * pp % 65537, by congr 1, by congr 1, by congr 1, by omega, by omega, by omega, by show _ = _; rw [odd_step _ _ _ h1]; exact hX.out⟩, by simp [intOf]; omega⟩
      · rw [show kk % 2 = 0 by omega] at e1
        go_wp2_with fail
        refine ⟨⟨kk / 2, xx, pp * pp % 65537, by congr 1, rfl, by congr 1, by omega, by omega, by omega, by show _ = _; rw [even_step _ _ _ (by omega)]; exact hX.out⟩, by simp [intOf]; omega⟩
    · obtain rfl : kk = 0 := by omega
      go_wp2_with fail
      go_ret
      exact ⟨ret_int (by have h9 := hX.out; have h8 := HV.out; rw [Nat.pow_zero, Nat.mul_one, Nat.mod_eq_of_lt (by omega)] at h9; rw [← h9] at h8; omega), rfl⟩
end Go.Proofs.Ytkdlekonfjeidaa
