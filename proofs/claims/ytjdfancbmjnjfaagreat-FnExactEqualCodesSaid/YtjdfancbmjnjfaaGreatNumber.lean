/-
  Contracts: greatest common divisors and numbers, of the program and of the reference.
-/
import Derived.Test.YtjdfancbmjnjfaaGreatGItem
namespace Go.Proofs.YtjdfancbmjnjfaaGreat
set_option maxRecDepth 100000
open Go.ChangeShapes Go.WideShapes Go.ChangeAt Go.RowKit Go.Deep

theorem gcd_step (x y : Nat) : Nat.gcd y (x % y) = Nat.gcd x y := by rw [Nat.gcd_comm x y, Nat.gcd_rec y x, Nat.gcd_comm]
def lo64 (n : Int) : Prop := -9223372036854775808 < n ∧ n ≤ 9223372036854775807

theorem spec_l2Abs (a : Int) (w : World) (h : -9223372036854775808 < a) (h2 : a ≤ 9223372036854775807) :
    Calls Tryz.prog 158 #[.int .i64 a] w fun e w' => e = .returned (.int .i64 a.natAbs) ∧ w = w' := by
  go_enter Tryz.func158, Tryz.ntmps158
  by_cases h0 : a < 0
  · go_wp2
    go_ret
    exact ⟨ret_int (by omega), rfl⟩
  · go_wp2
    go_ret
    exact ⟨ret_int (by omega), rfl⟩

set_option maxHeartbeats 400000 in
theorem spec_l2Gcd (a b : Int) (w : World) (ha : lo64 a) (hb : lo64 b) :
    Calls Tryz.prog 154 #[.int .i64 a, .int .i64 b] w fun e w' => e = .returned (.int .i64 (Int.gcd a b)) ∧ w = w' := by
  obtain ⟨ha1, ha2⟩ := ha
  obtain ⟨hb1, hb2⟩ := hb
  go_enter Tryz.func154, Tryz.ntmps154
  go_wp2_with (go_at_call 158; refine (spec_l2Abs _ _ (by omega) (by omega)).mono ?_; rintro e w' ⟨rfl, rfl⟩)
  go_loop [5, 6, 7] (fun x y z => ∃ p q : Nat, x = .int .i64 p ∧ y = .int .i64 q ∧ p ≤ 9223372036854775807 ∧ q ≤ 9223372036854775807 ∧ Hid (Nat.gcd p q = Int.gcd a b)) (fun _ y _ => (intOf y).toNat)
  case atStart => exact ⟨_, _, rfl, rfl, by omega, by omega, rfl⟩
  case round =>
    obtain ⟨p, q, rfl, rfl, hp, hq, hg⟩ := hrel
    by_cases h0 : q = 0
    · subst h0
      go_wp2
      go_ret
      exact ⟨ret_int (by rw [← hg.out]; simp), rfl⟩
    · have hm := Nat.mod_lt p (show q > 0 by omega)
      have HE := Lib.hid (show Int.tmod (p : Int) (q : Int) = ((p % q : Nat) : Int) from rfl)
      go_wp2
      go_round
      case rel => exact ⟨q, p % q, rfl, by go_num, by omega, by omega, (gcd_step p q).trans hg.out⟩
      case measure => simp [intOf]; omega

set_option maxHeartbeats 400000 in
theorem impl_gcd (a b : Int) (w : World) (ha : lo64 a) (hb : lo64 b) :
    Calls Tryz.prog 159 #[.int .i64 a, .int .i64 b] w fun e w' => e = .returned (.int .i64 (Int.gcd a b)) ∧ Below w.heap.size w w' := by
  obtain ⟨ha1, ha2⟩ := ha
  obtain ⟨hb1, hb2⟩ := hb
  go_enter Tryz.func159, Tryz.ntmps159
  by_cases h0 : a < 0 <;> by_cases h1 : b < 0 <;>
  · go_wp2
    go_loopw [0, 1] (fun x y wr => ∃ p q : Nat, x = .int .i64 p ∧ y = .int .i64 q ∧ p ≤ 9223372036854775807 ∧ q ≤ 9223372036854775807 ∧ Hid (Nat.gcd p q = Int.gcd a b) ∧ Below w.heap.size w wr) (fun _ y _ => (intOf y).toNat)
    case atStart => exact ⟨a.natAbs, b.natAbs, by go_num, by go_num, by omega, by omega, rfl, Below.refl _ _⟩
    case round =>
      obtain ⟨p, q, rfl, rfl, hp, hq, hg, hb⟩ := hrel
      by_cases h0 : q = 0
      · subst h0
        go_wp2
        go_ret
        exact ⟨ret_int (by rw [← hg.out]; simp), hb⟩
      · have hm := Nat.mod_lt p (show q > 0 by omega)
        have HE := Lib.hid (show Int.tmod (p : Int) (q : Int) = ((p % q : Nat) : Int) from rfl)
        go_wp2
        go_quiet (fail)
        go_wp2
        go_roundw
        case rel => exact ⟨q, p % q, rfl, by go_num, by omega, by omega, (gcd_step p q).trans hg.out, below_drewN hb _⟩
        case measure => simp [intOf]; omega

theorem spec_l1In (a x y : Int) (w : World) :
    Calls Tryz.prog 21 #[.int .i64 a, .int .i64 x, .int .i64 y] w fun e w' => e = .returned (.bool (decide (x ≤ a) && decide (a ≤ y))) ∧ w = w' := by
  by_cases h1 : x ≤ a <;> by_cases h2 : a ≤ y
  all_goals
    go_enter Tryz.func21, Tryz.ntmps21
    go_wp2
    go_ret
    exact ⟨ret_bool (by simp [h1, h2]), rfl⟩

theorem spec_l1In_t (a x y : Int) (w : World) (h1 : x ≤ a) (h2 : a ≤ y) : Calls Tryz.prog 21 #[.int .i64 a, .int .i64 x, .int .i64 y] w fun e w' => e = .returned (.bool true) ∧ w = w' :=
  (spec_l1In a x y w).mono fun _ _ ⟨he, hw⟩ => ⟨by rw [he]; simp [h1, h2], hw⟩
theorem spec_l1In_f (a x y : Int) (w : World) (h : ¬ (x ≤ a ∧ a ≤ y)) : Calls Tryz.prog 21 #[.int .i64 a, .int .i64 x, .int .i64 y] w fun e w' => e = .returned (.bool false) ∧ w = w' :=
  (spec_l1In a x y w).mono fun _ _ ⟨he, hw⟩ => ⟨by rw [he]; exact ret_bool (by simp; omega), hw⟩

def isNum (d : ItemD) : Bool := d.text.isEmpty && (decide (1 ≤ d.den) && decide (d.den ≤ 999999999)) && (decide (-999999999 ≤ d.num) && decide (d.num ≤ 999999999)) && ((Int.gcd d.num d.den : Int) == 1)

set_option maxHeartbeats 1000000 in
theorem impl_IsNumber (d : ItemD) (cs : List Value) (w : World) (h : ItemR w cs d) :
    Calls Tryz.prog 156 #[.agg cs.toArray] w fun e w' => e = .returned (.bool (isNum d)) ∧ Below w.heap.size w w' := by
  obtain ⟨rfl, h0, h1, h2⟩ := h
  go_enter Tryz.func156, Tryz.ntmps156
  go_wp2_with (go_at_call 159; refine (impl_gcd _ _ _ (by constructor <;> omega) (by constructor <;> omega)).mono ?_; rintro e w' ⟨rfl, hb⟩)
  all_goals
    go_ret
    refine ⟨ret_bool (by first | (simp_all [isNum]; done) | (simp_all [isNum]; omega)), ?_⟩
    first | exact (Below.refl _ _).alloc (Nat.le_refl _) _ | exact ((Below.refl _ _).alloc (Nat.le_refl _) _).trans (hb.mono (by simp))

set_option maxHeartbeats 1000000 in
theorem spec_IsNumber (d : ItemD) (cs : List Value) (w : World) (h : ItemR w cs d) :
    Calls Tryz.prog 143 #[.agg cs.toArray] w fun e w' => e = .returned (.bool (isNum d)) ∧ Below w.heap.size w w' := by
  obtain ⟨rfl, h0, h1, h2⟩ := h
  by_cases g1 : 1 ≤ d.den ∧ d.den ≤ 999999999 <;> by_cases g2 : -999999999 ≤ d.num ∧ d.num ≤ 999999999
  all_goals
    go_enter Tryz.func143, Tryz.ntmps143
    go_wp2_with (first | (go_at_call 21; refine (spec_l1In_t _ _ _ _ (by omega) (by omega)).mono ?_; rintro e w' ⟨rfl, rfl⟩) | (go_at_call 21; refine (spec_l1In_f _ _ _ _ (by omega)).mono ?_; rintro e w' ⟨rfl, rfl⟩) | (go_at_call 154; refine (spec_l2Gcd _ _ _ (by constructor <;> omega) (by constructor <;> omega)).mono ?_; rintro e w' ⟨rfl, rfl⟩))
    all_goals
      go_ret
      refine ⟨ret_bool (by first | (simp_all [isNum]; done) | (simp_all [isNum]; omega)), ?_⟩
      exact (Below.refl _ _).alloc (Nat.le_refl _) _

end Go.Proofs.YtjdfancbmjnjfaaGreat
