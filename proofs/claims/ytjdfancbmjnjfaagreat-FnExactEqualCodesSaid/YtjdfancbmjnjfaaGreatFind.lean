/-
  Contracts: the searches in lists of strings (impl.textIndex, impl.hasText, spec.l1Find, spec.l1Has) return the first position at which the list holds the string.
-/
import Derived.Test.YtjdfancbmjnjfaaGreatBase
namespace Go.Proofs.YtjdfancbmjnjfaaGreat
set_option maxRecDepth 100000
open Go.ChangeShapes Go.WideShapes Go.ChangeAt Go.RowKit Go.Deep

/-- the first position of s in l, or -1 -/
def findB (l : List (List UInt8)) (s : List UInt8) : Int := match l.findIdx? (fun x => x == s) with | some i => i | none => -1

theorem findB_at (l : List (List UInt8)) (s : List UInt8) (k : Nat) (hk : k < l.length) (hn : ∀ j (h : j < l.length), j < k → (l[j] == s) = false) (he : (l[k] == s) = true) : findB l s = k := by
  unfold findB
  have : l.findIdx? (fun x => x == s) = some k := by
    rw [List.findIdx?_eq_some_iff_getElem]
    exact ⟨hk, he, fun j hj => by simp [hn j (by omega) hj]⟩
  rw [this]
theorem findB_no (l : List (List UInt8)) (s : List UInt8) (hn : ∀ j (h : j < l.length), (l[j] == s) = false) : findB l s = -1 := by
  unfold findB
  have : l.findIdx? (fun x => x == s) = none := by
    rw [List.findIdx?_eq_none_iff]
    intro x hx
    obtain ⟨j, hj, rfl⟩ := List.getElem_of_mem hx
    exact hn j hj
  rw [this]
/-- whether l holds s -/
def hasB (l : List (List UInt8)) (s : List UInt8) : Bool := l.contains s
theorem findB_nonneg (l : List (List UInt8)) (s : List UInt8) : decide (0 ≤ findB l s) = hasB l s := by
  show _ = l.contains s
  unfold findB
  cases h : l.findIdx? (fun x => x == s) with
  | none =>
    rw [List.findIdx?_eq_none_iff] at h
    have : l.contains s = false := by
      rw [Bool.eq_false_iff]
      intro hc
      have hm := List.contains_iff_mem.1 hc
      simpa using h s hm
    rw [this]
    rfl
  | some i =>
    rw [List.findIdx?_eq_some_iff_getElem] at h
    obtain ⟨hi, he, _⟩ := h
    have : l.contains s = true := List.contains_iff_mem.2 (by have := eq_of_beq he; rw [← this]; exact List.getElem_mem hi)
    rw [this]
    exact decide_eq_true (Int.natCast_nonneg i)
theorem findB_le (l : List (List UInt8)) (s : List UInt8) : -1 ≤ findB l s ∧ findB l s < l.length := by
  unfold findB
  cases h : l.findIdx? (fun x => x == s) with
  | none => simp; omega
  | some i =>
    rw [List.findIdx?_eq_some_iff_getElem] at h
    obtain ⟨hi, _⟩ := h
    constructor
    · show -1 ≤ (i : Int); omega
    · show (i : Int) < _; omega

theorem impl_textIndex (l : List (List UInt8)) (s : List UInt8) (v : Value) (w : World) (h : Txts w v l) :
    Calls Tryz.prog 89 #[v, .string (str s)] w fun e w' => e = .returned (.int .i64 (findB l s)) ∧ w = w' := by
  obtain ⟨A, c, rfl, hlc, hm, HC⟩ := h.open_
  clear h
  unfold maxLen at hm
  go_enter Tryz.func89, Tryz.ntmps89
  go_wp2
  go_loop [9] (fun i => ∃ k : Nat, k ≤ l.length ∧ i = .int .i64 k ∧ Hid (∀ j (h : j < l.length), j < k → (l[j] == s) = false)) (fun i => l.length - (intOf i).toNat)
  case atStart => exact ⟨0, Nat.zero_le _, rfl, fun j h hj => absurd hj (by omega)⟩
  case round =>
    obtain ⟨k, hk, rfl, hn⟩ := hrel
    by_cases hlt : k < l.length
    · obtain ⟨b, off, rfl, _, hcell, _⟩ := HC.out k hlt
      go_wp2
      · go_ret
        exact ⟨ret_int (findB_at l s k hlt hn.out (by assumption)).symm, rfl⟩
      · have he : (l[k] == s) = false := by assumption
        go_round
        case rel => exact ⟨k + 1, by omega, by go_num, fun j h hj => by rcases Nat.lt_succ_iff_lt_or_eq.1 hj with h1 | rfl; exact hn j h h1; exact he⟩
        case measure => simp [intOf]; omega
    · go_wp2
      go_ret
      exact ⟨ret_int (findB_no l s fun j h => hn j h (by omega)).symm, rfl⟩

theorem spec_l1Find (l : List (List UInt8)) (s : List UInt8) (v : Value) (w : World) (h : Txts w v l) :
    Calls Tryz.prog 50 #[v, .string (str s)] w fun e w' => e = .returned (.int .i64 (findB l s)) ∧ w = w' := by
  obtain ⟨A, c, rfl, hlc, hm, HC⟩ := h.open_
  clear h
  unfold maxLen at hm
  go_enter Tryz.func50, Tryz.ntmps50
  go_wp2
  go_loop [5] (fun i => ∃ k : Nat, k ≤ l.length ∧ i = .int .i64 k ∧ Hid (∀ j (h : j < l.length), j < k → (l[j] == s) = false)) (fun i => l.length - (intOf i).toNat)
  case atStart => exact ⟨0, Nat.zero_le _, rfl, fun j h hj => absurd hj (by omega)⟩
  case round =>
    obtain ⟨k, hk, rfl, hn⟩ := hrel
    by_cases hlt : k < l.length
    · obtain ⟨b, off, rfl, _, hcell, _⟩ := HC.out k hlt
      go_wp2
      · go_ret
        exact ⟨ret_int (findB_at l s k hlt hn.out (by assumption)).symm, rfl⟩
      · have he : (l[k] == s) = false := by assumption
        go_round
        case rel => exact ⟨k + 1, by omega, by go_num, fun j h hj => by rcases Nat.lt_succ_iff_lt_or_eq.1 hj with h1 | rfl; exact hn j h h1; exact he⟩
        case measure => simp [intOf]; omega
    · go_wp2
      go_ret
      exact ⟨ret_int (findB_no l s fun j h => hn j h (by omega)).symm, rfl⟩

theorem impl_hasText (l : List (List UInt8)) (s : List UInt8) (v : Value) (w : World) (h : Txts w v l) :
    Calls Tryz.prog 56 #[v, .string (str s)] w fun e w' => e = .returned (.bool (hasB l s)) ∧ w = w' := by
  have hf := findB_nonneg l s
  have HF := Lib.hid hf
  clear hf
  go_enter Tryz.func56, Tryz.ntmps56
  go_wp2_with (go_at_call 89; refine (impl_textIndex l s v _ h).mono ?_; rintro e w' ⟨rfl, rfl⟩)
  go_ret
  exact ⟨ret_bool HF.out, rfl⟩

theorem spec_l1Has (l : List (List UInt8)) (s : List UInt8) (v : Value) (w : World) (h : Txts w v l) :
    Calls Tryz.prog 114 #[v, .string (str s)] w fun e w' => e = .returned (.bool (hasB l s)) ∧ w = w' := by
  have hf := findB_nonneg l s
  have HF := Lib.hid hf
  clear hf
  go_enter Tryz.func114, Tryz.ntmps114
  go_wp2_with (go_at_call 50; refine (spec_l1Find l s v _ h).mono ?_; rintro e w' ⟨rfl, rfl⟩)
  go_ret
  exact ⟨ret_bool HF.out, rfl⟩
end Go.Proofs.YtjdfancbmjnjfaaGreat
