/-
  Contracts of the generator, of the program and of the reference: a step, many steps, a number below another.
-/
import Derived.Test.YtkdlekonfjeidaaRandP
import Derived.Test.YtkdlekonfjeidaaIntS
namespace Go.Proofs.Ytkdlekonfjeidaa
set_option maxRecDepth 100000
open Go.ChangeShapes Go.WideShapes Go.ChangeAt Go.RowKit Go.Deep

theorem spec_l1In_i (x a b : Int) (w : World) : Calls Try.prog 20 #[.int .i64 x, .int .i64 a, .int .i64 b] w fun e w' => e = .returned (.bool (decide (a ≤ x) && decide (x ≤ b))) ∧ w = w' := by
  by_cases h1 : a ≤ x <;> by_cases h2 : x ≤ b
  all_goals
    go_enter Try.func20, Try.ntmps20
    go_wp2_with fail
    go_ret
    exact ⟨ret_bool (by simp [h1, h2]), rfl⟩

theorem impl_isState (s : Int) (w : World) : Calls Try.prog 18 #[.int .i64 s] w fun e w' => e = .returned (.bool (isSt s)) ∧ w = w' := by
  by_cases h1 : 0 ≤ s <;> by_cases h2 : s ≤ 65535
  all_goals
    go_enter Try.func18, Try.ntmps18
    go_wp2_with fail
    go_ret
    exact ⟨ret_bool (by simp [isSt, h1, h2]), rfl⟩

theorem impl_NextState (s : Int) (w : World) : Calls Try.prog 12 #[.int .i64 s] w fun e w' => e = .returned (.int .i64 (nextS s)) ∧ w = w' := by
  cases h : isSt s with
  | false =>
    have hn : nextS s = 0 := by unfold nextS; rw [h]; rfl
    rw [hn]
    have H := Lib.hid h
    clear h hn
    go_enter Try.func12, Try.ntmps12
    go_wp2_with fail
    refine (impl_isState s _).mono ?_
    rw [H.out]
    rintro e w1 ⟨rfl, rfl⟩
    go_wp2_with fail
    go_ret
    exact ⟨rfl, rfl⟩
  | true =>
    have hn : nextS s = (75 * s + 74) % 65537 := by unfold nextS; rw [if_pos h]
    rw [hn]
    obtain ⟨h0, h1⟩ := isSt_iff.1 h
    have H := Lib.hid h
    clear h hn
    go_enter Try.func12, Try.ntmps12
    go_wp2_with fail
    refine (impl_isState s _).mono ?_
    rw [H.out]
    rintro e w1 ⟨rfl, rfl⟩
    go_wp2_with fail
    go_ret
    exact ⟨ret_int (by first | rfl | omega), rfl⟩

theorem spec_NextState (s : Int) (w : World) : Calls Try.prog 25 #[.int .i64 s] w fun e w' => e = .returned (.int .i64 (nextS s)) ∧ w = w' := by
  cases h : isSt s with
  | false =>
    have hn : nextS s = 0 := by unfold nextS; rw [h]; rfl
    rw [hn]
    have H := Lib.hid (show (decide ((0 : Int) ≤ s) && decide (s ≤ 65535)) = false from h)
    clear h hn
    go_enter Try.func25, Try.ntmps25
    go_wp2_with fail
    refine (spec_l1In_i s 0 65535 _).mono ?_
    rw [H.out]
    rintro e w1 ⟨rfl, rfl⟩
    go_wp2_with fail
    go_ret
    exact ⟨rfl, rfl⟩
  | true =>
    have hn : nextS s = (75 * s + 74) % 65537 := by unfold nextS; rw [if_pos h]
    rw [hn]
    obtain ⟨h0, h1⟩ := isSt_iff.1 h
    have H := Lib.hid (show (decide ((0 : Int) ≤ s) && decide (s ≤ 65535)) = true from h)
    clear h hn
    go_enter Try.func25, Try.ntmps25
    go_wp2_with fail
    refine (spec_l1In_i s 0 65535 _).mono ?_
    rw [H.out]
    rintro e w1 ⟨rfl, rfl⟩
    go_wp2_with fail
    go_ret
    exact ⟨ret_int (by first | rfl | omega), rfl⟩

/-- a number below n, and the next state -/
def belowS (s n : Int) : Int × Int := if isSt s && (decide (1 ≤ n) && decide (n ≤ 65535)) then (nextS s % n, nextS s) else (0, 0)
def Ret2 (a b : Int) (w : World) (e : Ending) (w' : World) : Prop := e = .returned (.tuple #[.int .i64 a, .int .i64 b]) ∧ w = w'

theorem impl_BelowOf (s n : Int) (w : World) (hs : isSt s = true) (h1 : 1 ≤ n) (h2 : n ≤ 65535) : Calls Try.prog 19 #[.int .i64 s, .int .i64 n] w (Ret2 (nextS s % n) (nextS s) w) := by
  have H := Lib.hid hs
  obtain ⟨t0, t1⟩ := isSt_iff.1 (nextS_st hs)
  clear hs
  go_enter Try.func19, Try.ntmps19
  go_wp2_with fail
  refine (impl_isState s _).mono ?_
  rw [H.out]
  rintro e w1 ⟨rfl, rfl⟩
  go_wp2_with fail
  refine (impl_NextState s _).mono ?_
  generalize nextS s = t at *
  rintro e w1 ⟨rfl, rfl⟩
  go_wp2_with fail
  go_ret2
  exact ⟨rfl, rfl⟩

theorem spec_BelowOf (s n : Int) (w : World) (hs : isSt s = true) (h1 : 1 ≤ n) (h2 : n ≤ 65535) : Calls Try.prog 21 #[.int .i64 s, .int .i64 n] w (Ret2 (nextS s % n) (nextS s) w) := by
  have H := Lib.hid (show (decide ((0 : Int) ≤ s) && decide (s ≤ 65535)) = true from hs)
  have H2 := Lib.hid (show (decide ((1 : Int) ≤ n) && decide (n ≤ 65535)) = true by simp [h1, h2])
  obtain ⟨t0, t1⟩ := isSt_iff.1 (nextS_st hs)
  clear hs
  go_enter Try.func21, Try.ntmps21
  go_wp2_with fail
  refine (spec_l1In_i s 0 65535 _).mono ?_
  rw [H.out]
  rintro e w1 ⟨rfl, rfl⟩
  go_wp2_with fail
  refine (spec_l1In_i n 1 65535 _).mono ?_
  rw [H2.out]
  rintro e w1 ⟨rfl, rfl⟩
  go_wp2_with fail
  refine (spec_NextState s _).mono ?_
  generalize nextS s = t at *
  rintro e w1 ⟨rfl, rfl⟩
  go_wp2_with fail
  go_ret2
  exact ⟨rfl, rfl⟩
end Go.Proofs.Ytkdlekonfjeidaa
