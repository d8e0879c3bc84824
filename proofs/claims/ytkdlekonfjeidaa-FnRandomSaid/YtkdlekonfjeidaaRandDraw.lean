/-
  Contracts: what FnRandom draws: a state, or a number that is none; and a number of elements.
-/
import Derived.Test.YtkdlekonfjeidaaRandHas
namespace Go.Proofs.Ytkdlekonfjeidaa
set_option maxRecDepth 100000
open Go.ChangeShapes Go.WideShapes Go.ChangeAt Go.RowKit Go.Deep

theorem Cur.lt_ {w : World} {g : Nat} {v : Value} {l : List Nat} (h : Cur w g v l) : g < w.heap.size := by
  obtain ⟨i, k, h1, _⟩ := h
  exact h1.lt
theorem Cur.below_ {w w' : World} {g : Nat} {v : Value} {l : List Nat} (h : Cur w g v l) (hb : Below w.heap.size w w') : Cur w' g v l := by
  obtain ⟨i, k, h1, h2, h3, h4⟩ := h
  exact ⟨i, k, h1.below hb, h2, h3, SlR.below h4 hb (fun _ _ h => h)⟩
theorem Ints.only {g : Nat} {w w' : World} {v : Value} {l : List Int} (h : Ints w v l) (ha : Apart l.length g v) (ho : Only g w w') : Ints w' v l := by
  obtain ⟨A, c, rfl, hn, hc, hx⟩ := h
  refine ⟨A, c, rfl, hn, hc, fun h0 => ?_⟩
  obtain ⟨b, off, rfl, hlt, hat⟩ := hx h0
  refine ⟨b, off, rfl, Nat.lt_of_lt_of_le hlt ho.size, fun k hk => ?_⟩
  obtain ⟨cs, h1, h2, h3⟩ := hat k hk
  exact ⟨cs, h1, h2.keep (ho.block b hlt (fun e => ha h0 _ _ _ rfl (by injection e))), h3⟩

def DrawsB (g : Nat) (v : Value) (l : List Nat) (w : World) (e : Ending) (w' : World) : Prop := ∃ b : Bool, e = .returned (.bool b) ∧ Cur w' g v l ∧ Only g w w'
set_option maxHeartbeats 1000000 in
theorem spec_l1Once (g : Nat) (v : Value) (l : List Nat) (m : Int) (w : World) (hC : Cur w g v l) (ha : Apart l.length g v) (h0 : 1 ≤ m) (h1 : m ≤ 256) :
    Calls Try.prog 22 #[.pointer (some ⟨g, 0, none⟩), .int .i64 m] w (DrawsB g v l w) := by
  have HC := Lib.hid hC
  have HA := Lib.hid ha
  clear hC ha
  go_enter Try.func22, Try.ntmps22
  go_wp2_with fail
  refine (spec_l1Below g v l m _ HC.out HA.out h0 h1).mono ?_
  rintro e w1 ⟨x, rfl, hx0, hx1, hc, ho⟩
  go_wp2_with fail
  go_ret
  exact ⟨_, rfl, hc, ho⟩

set_option maxHeartbeats 2000000 in
theorem spec_l1Below_big (g : Nat) (v : Value) (l : List Nat) (m : Int) (w : World) (hC : Cur w g v l) (ha : Apart l.length g v) (h0 : 257 ≤ m) (h1 : m ≤ 1048576) :
    Calls Try.prog 17 #[.pointer (some ⟨g, 0, none⟩), .int .i64 m] w (Draws g v l (m - 1) w) := by
  have HC := Lib.hid hC
  have HA := Lib.hid ha
  clear hC ha
  go_enter Try.func17, Try.ntmps17
  go_wp2_with fail
  refine (spec_l1Byte g v l _ HC.out HA.out).mono ?_
  rintro e w1 ⟨x, rfl, hx0, hx1, hc1, ho1⟩
  have HC1 := Lib.hid hc1
  have HO1 := Lib.hid ho1
  clear hc1 ho1
  go_wp2_with fail
  refine (spec_l1Byte g v l _ HC1.out HA.out).mono ?_
  rintro e w2 ⟨y, rfl, hy0, hy1, hc2, ho2⟩
  have HC2 := Lib.hid hc2
  have HO2 := Lib.hid (HO1.out.trans ho2)
  clear hc2 ho2
  go_wp2_with fail
  refine (spec_l1Byte g v l _ HC2.out HA.out).mono ?_
  rintro e w3 ⟨z, rfl, hz0, hz1, hc3, ho3⟩
  have HC3 := Lib.hid hc3
  have HO3 := Lib.hid (HO2.out.trans ho3)
  clear hc3 ho3
  go_wp2_with fail
  refine (spec_l1Byte g v l _ HC3.out HA.out).mono ?_
  rintro e w4 ⟨u, rfl, hu0, hu1, hc4, ho4⟩
  have HC4 := Lib.hid hc4
  have HO4 := Lib.hid (HO3.out.trans ho4)
  clear hc4 ho4
  go_wp2_with fail
  go_ret
  exact ⟨_, rfl, Int.emod_nonneg _ (by omega), by have := Int.emod_lt_of_pos (x * 16777216 + y * 65536 + z * 256 + u) (show 0 < m by omega); omega, HC4.out, HO4.out⟩

set_option maxHeartbeats 1000000 in
theorem spec_l1PickInt (g : Nat) (v : Value) (l : List Nat) (u : Value) (ss : List Int) (w : World) (hC : Cur w g v l) (ha : Apart l.length g v) (hs : Ints w u ss) (hu : Apart ss.length g u) (h0 : 1 ≤ ss.length) (h1 : ss.length ≤ 256) :
    Calls Try.prog 23 #[.pointer (some ⟨g, 0, none⟩), u] w (DrawsSt g v l w) := by
  have HC := Lib.hid hC
  have HA := Lib.hid ha
  have HS := Lib.hid hs
  have HU := Lib.hid hu
  obtain ⟨A, c, rfl, hlc, hm, _⟩ := hs.open_
  clear hC ha hs hu
  unfold maxLen at hm
  go_enter Try.func23, Try.ntmps23
  go_wp2_with fail
  refine (spec_l1Below g v l _ _ HC.out HA.out (by omega) (by omega)).mono ?_
  rintro e w1 ⟨x, rfl, hx0, hx1, hc, ho⟩
  obtain ⟨k, rfl⟩ := Int.eq_ofNat_of_zero_le hx0
  have hk : k < ss.length := by omega
  obtain ⟨_, _, hv, _, _, HQ⟩ := (HS.out.only HU.out ho).open_
  injection hv with e1 e2 e3
  subst e1 e3
  obtain ⟨b, off, rfl, _, hcell, hi⟩ := HQ.out k hk
  have HC1 := Lib.hid hc
  have HO := Lib.hid ho
  clear hc ho HQ e2
  go_wp2_with fail
  go_ret
  exact ⟨_, rfl, hi, HC1.out, HO.out⟩
end Go.Proofs.Ytkdlekonfjeidaa
