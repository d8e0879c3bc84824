/-
  Contracts: random orders for every argument that is drawn, and their beginnings; comparisons of lists of numbers.
-/
import Derived.Test.YtkdlekonfjeidaaRandShuf
namespace Go.Proofs.Ytkdlekonfjeidaa
set_option maxRecDepth 100000
open Go.ChangeShapes Go.WideShapes Go.ChangeAt Go.RowKit Go.Deep

def shufA (s n : Int) : List Int × Int := if isSt s && decide (0 ≤ n) then shufL (n.toNat - 1) s (idL n.toNat) else ([], 0)
def ShA (w : World) (p : List Int × Int) (e : Ending) (w' : World) : Prop :=
  ∃ v, e = .returned (.tuple #[v, .int .i64 p.2]) ∧ w'.ownsRow w.heap.size 3 1 v p.1.length (p.1.map iv) ∧ Below w.heap.size w w'
theorem shufA_yes {s : Int} {n : Nat} (h : isSt s = true) : shufA s n = shufL (n - 1) s (idL n) := by
  unfold shufA
  rw [h, decide_eq_true (by omega : (0 : Int) ≤ n)]
  rfl
theorem shufA_no {s n : Int} (h : (isSt s && decide (0 ≤ n)) = false) : shufA s n = ([], 0) := by unfold shufA; rw [h]; rfl
theorem shufA_i64 (s n : Int) (h : n ≤ 1000) : ∀ x ∈ (shufA s n).1, I64 x := by
  unfold shufA
  split
  · exact shufL_i64 _ _ _ (idL_i64 _ (by omega))
  · intro x hx; cases hx
theorem ShR.toA {w : World} {n : Nat} {s : Int} (hs : isSt s = true) {e : Ending} {w' : World} (h : ShR w n s e w') : ShA w (shufA s n) e w' := by
  obtain ⟨v, rfl, ho, hb⟩ := h
  rw [shufA_yes hs]
  exact ⟨v, rfl, by rw [shufL_length, idL_length]; exact ho, hb⟩

set_option maxHeartbeats 1000000 in
theorem impl_ShuffleA (s n : Int) (w : World) (h1 : -1 ≤ n) (h2 : n ≤ 10) :
    Calls Try.prog 6 #[.int .i64 s, .int .i64 n] w (ShA w (shufA s n)) := by
  cases hs : isSt s with
  | true =>
    by_cases h0 : 0 ≤ n
    · obtain ⟨m, rfl⟩ := Int.eq_ofNat_of_zero_le h0
      exact (impl_ShuffleOf s m w hs (by omega)).mono fun e w' h => h.toA hs
    · obtain rfl : n = -1 := by omega
      rw [shufA_no (by simp)]
      have H := Lib.hid hs
      clear hs
      go_enter Try.func6, Try.ntmps6
      go_wp2_with fail
      refine (impl_isState s _).mono ?_
      rw [H.out]
      rintro e w1 ⟨rfl, rfl⟩
      go_wp2_with fail
      go_ret2
      exact ⟨_, rfl, World.ownsRow_nil _ _ _ _, Below.refl _ _⟩
  | false =>
    rw [shufA_no (by rw [hs]; rfl)]
    have H := Lib.hid hs
    clear hs
    go_enter Try.func6, Try.ntmps6
    go_wp2_with fail
    refine (impl_isState s _).mono ?_
    rw [H.out]
    rintro e w1 ⟨rfl, rfl⟩
    go_wp2_with fail
    go_ret2
    exact ⟨_, rfl, World.ownsRow_nil _ _ _ _, Below.refl _ _⟩

set_option maxHeartbeats 1000000 in
theorem spec_ShuffleA (s n : Int) (w : World) (h1 : -1 ≤ n) (h2 : n ≤ 10) :
    Calls Try.prog 7 #[.int .i64 s, .int .i64 n] w (ShA w (shufA s n)) := by
  cases hs : isSt s with
  | true =>
    by_cases h0 : 0 ≤ n
    · obtain ⟨m, rfl⟩ := Int.eq_ofNat_of_zero_le h0
      exact (spec_ShuffleOf s m w hs (by omega)).mono fun e w' h => h.toA hs
    · obtain rfl : n = -1 := by omega
      rw [shufA_no (by simp)]
      have H := Lib.hid (show (decide ((0 : Int) ≤ s) && decide (s ≤ 65535)) = true from hs)
      clear hs
      go_enter Try.func7, Try.ntmps7
      go_wp2_with fail
      refine (spec_l1In_i s 0 65535 _).mono ?_
      rw [H.out]
      rintro e w1 ⟨rfl, rfl⟩
      go_wp2_with fail
      refine (spec_l1In_i _ 0 40 _).mono ?_
      rw [show (decide ((0 : Int) ≤ -1) && decide ((-1 : Int) ≤ 40)) = false by decide]
      rintro e w1 ⟨rfl, rfl⟩
      go_wp2_with fail
      go_ret2
      exact ⟨_, rfl, owns_new w _ 1 0 _ 0 [] rfl (Nat.le_refl _) (by unfold maxLen; omega) rfl rfl, (Below.refl _ _).alloc (Nat.le_refl _) _⟩
  | false =>
    rw [shufA_no (by rw [hs]; rfl)]
    have H := Lib.hid (show (decide ((0 : Int) ≤ s) && decide (s ≤ 65535)) = false from hs)
    clear hs
    go_enter Try.func7, Try.ntmps7
    go_wp2_with fail
    refine (spec_l1In_i s 0 65535 _).mono ?_
    rw [H.out]
    rintro e w1 ⟨rfl, rfl⟩
    go_wp2_with fail
    go_ret2
    exact ⟨_, rfl, owns_new w _ 1 0 _ 0 [] rfl (Nat.le_refl _) (by unfold maxLen; omega) rfl rfl, (Below.refl _ _).alloc (Nat.le_refl _) _⟩
end Go.Proofs.Ytkdlekonfjeidaa
