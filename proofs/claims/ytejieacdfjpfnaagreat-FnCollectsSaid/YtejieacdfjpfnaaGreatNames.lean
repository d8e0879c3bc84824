/-
  Contracts: IsName, of the program and of the reference.
-/
import Derived.Test.YtejieacdfjpfnaaGreatKOk
import Derived.Deep.Light
namespace Go.Proofs.YtejieacdfjpfnaaGreat
set_option maxRecDepth 100000
open Go.ChangeShapes Go.WideShapes Go.ChangeAt Go.RowKit Go.Deep

def nameByte (c : UInt8) : Bool := decide (33 ≤ (c.toNat : Int)) && decide ((c.toNat : Int) ≤ 126) && !((c.toNat : Int) == 96)
def isNameB (s : List UInt8) : Bool := decide (1 ≤ s.length) && decide (s.length ≤ 20) && decide (∀ j (h : j < s.length), nameByte s[j] = true)
theorem isNameB_no {s : List UInt8} (k : Nat) (hk : k < s.length) (h : nameByte s[k] = false) : isNameB s = false := by
  simp only [isNameB, Bool.and_eq_false_iff, decide_eq_false_iff_not]
  right
  exact fun h' => by rw [h' k hk] at h; cases h
theorem isNameB_all {s : List UInt8} (h : ∀ j (h : j < s.length), nameByte s[j] = true) : isNameB s = (decide (1 ≤ s.length) && decide (s.length ≤ 20)) := by
  simp only [isNameB, Bool.and_eq_left_iff_imp]
  intro _
  exact decide_eq_true h

theorem str_at (s : List UInt8) (k : Nat) (h : k < (str s).size) : (str s)[k] = s[k]'(by rw [str_size] at h; exact h) := rfl

set_option maxHeartbeats 1000000 in
theorem impl_IsName (s : List UInt8) (w : World) (hs : s.length ≤ maxLen) :
    Calls Tryz.prog 121 #[.string (str s)] w fun e w' => e = .returned (.bool (isNameB s)) ∧ w = w' := by
  unfold maxLen at hs
  go_enter Tryz.func121, Tryz.ntmps121
  go_wp2
  go_loop [3] (fun i => ∃ k : Nat, k ≤ s.length ∧ i = .int .i64 k ∧ Hid (∀ j (h : j < s.length), j < k → nameByte s[j] = true)) (fun i => s.length - (intOf i).toNat)
  case atStart => exact ⟨0, Nat.zero_le _, rfl, fun j _ h => absurd h (by omega)⟩
  case round =>
    obtain ⟨k, hk, rfl, hn⟩ := hrel
    by_cases hlt : k < s.length
    · have HS := Lib.hid (show nameByte s[k] = nameByte ((str s)[k]'(by rw [str_size]; exact hlt)) by rw [str_at])
      go_wp2
      all_goals
        first
          | (go_ret
             exact ⟨ret_bool (isNameB_no k hlt (by rw [HS.out]; go_light; grind [nameByte])).symm, rfl⟩)
          | (go_round
             case rel => exact ⟨k + 1, by omega, by go_num, fun j h1 hj => by (rcases Nat.lt_succ_iff_lt_or_eq.1 hj with h3 | rfl); exact hn.out j h1 h3; rw [HS.out]; go_light; grind [nameByte]⟩
             case measure => simp [intOf]; omega)
    · have HN := Lib.hid (isNameB_all (s := s) (fun j h => hn.out j h (by omega)))
      go_wp2
      all_goals
        go_ret
        exact ⟨ret_bool (by rw [HN.out]; go_light; grind), rfl⟩

set_option maxHeartbeats 1000000 in
theorem spec_IsName (s : List UInt8) (w : World) (hs : s.length ≤ maxLen) :
    Calls Tryz.prog 78 #[.string (str s)] w fun e w' => e = .returned (.bool (isNameB s)) ∧ w = w' := by
  unfold maxLen at hs
  go_enter Tryz.func78, Tryz.ntmps78
  go_wp2
  go_loop [3] (fun i => ∃ k : Nat, k ≤ s.length ∧ i = .int .i64 k ∧ Hid (∀ j (h : j < s.length), j < k → nameByte s[j] = true)) (fun i => s.length - (intOf i).toNat)
  case atStart => exact ⟨0, Nat.zero_le _, rfl, fun j _ h => absurd h (by omega)⟩
  case round =>
    obtain ⟨k, hk, rfl, hn⟩ := hrel
    by_cases hlt : k < s.length
    · have HS := Lib.hid (show nameByte s[k] = nameByte ((str s)[k]'(by rw [str_size]; exact hlt)) by rw [str_at])
      go_wp2
      all_goals
        first
          | (go_ret
             exact ⟨ret_bool (isNameB_no k hlt (by rw [HS.out]; go_light; grind [nameByte])).symm, rfl⟩)
          | (go_round
             case rel => exact ⟨k + 1, by omega, by go_num, fun j h1 hj => by (rcases Nat.lt_succ_iff_lt_or_eq.1 hj with h3 | rfl); exact hn.out j h1 h3; rw [HS.out]; go_light; grind [nameByte]⟩
             case measure => simp [intOf]; omega)
    · have HN := Lib.hid (isNameB_all (s := s) (fun j h => hn.out j h (by omega)))
      by_cases hr : 1 ≤ (s.length : Int) ∧ (s.length : Int) ≤ 20
      all_goals
        go_wp2_with (first | (go_at_call 93; refine (spec_l1In_t _ _ _ _ (by omega) (by omega)).mono ?_; rintro e w' ⟨rfl, rfl⟩) | (go_at_call 93; refine (spec_l1In_f _ _ _ _ (by omega)).mono ?_; rintro e w' ⟨rfl, rfl⟩))
        go_ret
        exact ⟨ret_bool (by rw [HN.out]; go_light; grind), rfl⟩

end Go.Proofs.YtejieacdfjpfnaaGreat
