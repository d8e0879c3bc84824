/-
  The law FnExactIsBuiltin returns true for every string: both sides say whether the string is one of the 34 names.
-/
import Derived.Test.YtkdlekonfjeidaaGreatFind
namespace Go.Proofs.YtkdlekonfjeidaaGreat
set_option maxRecDepth 100000
open Go.ChangeShapes Go.WideShapes Go.ChangeAt Go.RowKit Go.Deep
open Go.ChangeMaps (open_string shut_string)
set_option linter.unusedVariables false
def bi0 : List (List UInt8) := [[99], [108, 105, 115, 116], [112, 97, 115, 116, 101]]
def bi1 : List (List UInt8) := [[115, 116, 114, 117, 99, 116, 117, 114, 101]]
def bi2 : List (List UInt8) := [[108, 101, 110, 103, 116, 104], [110, 97, 109, 101, 115], [108, 101, 118, 101, 108, 115], [99, 108, 97, 115, 115], [117, 110, 99, 108, 97, 115, 115], [115, 117, 109], [97, 110, 121], [97, 108, 108], [114, 101, 118], [110, 99, 104, 97, 114], [105, 115, 46, 110, 97], [105, 115, 46, 110, 117, 108, 108], [110, 117, 109, 101, 114, 105, 99], [108, 111, 103, 105, 99, 97, 108], [99, 104, 97, 114, 97, 99, 116, 101, 114], [99, 111, 110, 100, 105, 116, 105, 111, 110, 77, 101, 115, 115, 97, 103, 101]]
def bi3 : List (List UInt8) := [[114, 101, 112], [115, 101, 113], [105, 110, 104, 101, 114, 105, 116, 115], [105, 100, 101, 110, 116, 105, 99, 97, 108], [110, 97, 109, 101, 115, 60, 45], [99, 108, 97, 115, 115, 60, 45], [108, 101, 118, 101, 108, 115, 60, 45]]
def biEff : List (List UInt8) := [[112, 114, 105, 110, 116], [99, 97, 116], [115, 116, 111, 112], [119, 97, 114, 110, 105, 110, 103], [115, 105, 103, 110, 97, 108], [114, 97, 110, 100, 111, 109], [115, 101, 101, 100]]
def biNames : List (List UInt8) := [[99], [108, 105, 115, 116], [115, 116, 114, 117, 99, 116, 117, 114, 101], [108, 101, 110, 103, 116, 104], [110, 97, 109, 101, 115], [99, 108, 97, 115, 115], [108, 101, 118, 101, 108, 115], [117, 110, 99, 108, 97, 115, 115], [115, 117, 109], [97, 110, 121], [97, 108, 108], [114, 101, 118], [114, 101, 112], [115, 101, 113], [112, 97, 115, 116, 101], [110, 99, 104, 97, 114], [105, 115, 46, 110, 97], [105, 115, 46, 110, 117, 108, 108], [105, 110, 104, 101, 114, 105, 116, 115], [105, 100, 101, 110, 116, 105, 99, 97, 108], [110, 117, 109, 101, 114, 105, 99], [108, 111, 103, 105, 99, 97, 108], [99, 104, 97, 114, 97, 99, 116, 101, 114], [99, 111, 110, 100, 105, 116, 105, 111, 110, 77, 101, 115, 115, 97, 103, 101], [110, 97, 109, 101, 115, 60, 45], [99, 108, 97, 115, 115, 60, 45], [108, 101, 118, 101, 108, 115, 60, 45], [112, 114, 105, 110, 116], [99, 97, 116], [115, 116, 111, 112], [119, 97, 114, 110, 105, 110, 103], [115, 105, 103, 110, 97, 108], [114, 97, 110, 100, 111, 109], [115, 101, 101, 100]]
def pureB (s : List UInt8) : Int × Int × Bool :=
  if bi0.contains s then (0, 40, true) else if bi1.contains s then (1, 3, true) else if bi2.contains s then (1, 1, true) else if bi3.contains s then (2, 2, true) else (0, 0, false)

theorem ret3 {a b c : Int × Int × Bool} (h : b = a) : Ending.returned (.tuple #[.int .i64 b.1, .int .i64 b.2.1, .bool b.2.2]) = .returned (.tuple #[.int .i64 a.1, .int .i64 a.2.1, .bool a.2.2]) := by rw [h]

set_option maxHeartbeats 4000000 in
theorem impl_pureBuiltin_yes (s : List UInt8) (w : World) (h : s ∈ bi0 ++ bi1 ++ bi2 ++ bi3) :
    Calls Tryz.prog 22 #[.string (str s)] w fun e w' => e = .returned (.tuple #[.int .i64 (pureB s).1, .int .i64 (pureB s).2.1, .bool (pureB s).2.2]) ∧ w = w' := by
  simp only [bi0, bi1, bi2, bi3, List.cons_append, List.nil_append, List.mem_cons, List.not_mem_nil, or_false] at h
  rcases h with rfl | rfl | rfl | rfl | rfl | rfl | rfl | rfl | rfl | rfl | rfl | rfl | rfl | rfl | rfl | rfl | rfl | rfl | rfl | rfl | rfl | rfl | rfl | rfl | rfl | rfl | rfl
  all_goals
    go_enter Tryz.func22, Tryz.ntmps22
    go_wp2
    go_ret3
    exact ⟨by kernel_rfl, rfl⟩

set_option maxHeartbeats 4000000 in
theorem impl_pureBuiltin_no (s : List UInt8) (w : World) (h : ¬ s ∈ bi0 ++ bi1 ++ bi2 ++ bi3) :
    Calls Tryz.prog 22 #[.string (str s)] w fun e w' => e = .returned (.tuple #[.int .i64 (pureB s).1, .int .i64 (pureB s).2.1, .bool (pureB s).2.2]) ∧ w = w' := by
  have hp : pureB s = (0, 0, false) := by
    simp only [List.mem_append, not_or] at h
    unfold pureB
    simp [h]
  rw [hp]
  clear hp
  have hq : ∀ x ∈ bi0 ++ bi1 ++ bi2 ++ bi3, (s == x) = false := fun x hx => by
    rw [beq_eq_false_iff_ne]
    rintro rfl
    exact h hx
  clear h
  simp only [bi0, bi1, bi2, bi3, List.cons_append, List.nil_append, List.mem_cons, List.not_mem_nil, or_false, forall_eq_or_imp, forall_eq] at hq
  go_enter Tryz.func22, Tryz.ntmps22
  go_wp2
  go_ret3
  exact ⟨rfl, rfl⟩

theorem impl_pureBuiltin (s : List UInt8) (w : World) :
    Calls Tryz.prog 22 #[.string (str s)] w fun e w' => e = .returned (.tuple #[.int .i64 (pureB s).1, .int .i64 (pureB s).2.1, .bool (pureB s).2.2]) ∧ w = w' := by
  by_cases h : s ∈ bi0 ++ bi1 ++ bi2 ++ bi3
  · exact impl_pureBuiltin_yes s w h
  · exact impl_pureBuiltin_no s w h

theorem spec_l30Names (w : World) :
    Calls Tryz.prog 21 #[] w fun e w' => ∃ v, e = .returned v ∧ Txts w' v biNames ∧ Below w.heap.size w w' := by
  go_enter Tryz.func21, Tryz.ntmps21
  go_wp2
  go_ret
  exact ⟨_, rfl, txts_new w 9 biNames _ (by kernel_rfl) (by decide) (by decide), (Below.refl _ _).alloc (Nat.le_refl _) _⟩

theorem spec_IsBuiltin (s : List UInt8) (w : World) :
    Calls Tryz.prog 8 #[.string (str s)] w fun e w' => e = .returned (.bool (hasB biNames s)) ∧ Below w.heap.size w w' := by
  go_enter Tryz.func8, Tryz.ntmps8
  go_wp2_with fail
  refine (spec_l30Names _).mono ?_
  rintro e w1 ⟨v, rfl, ht, hb⟩
  go_wp2_with fail
  refine (spec_l1Has biNames s v _ ht).mono ?_
  rintro e w2 ⟨rfl, rfl⟩
  go_wp2_with fail
  go_ret
  exact ⟨rfl, hb⟩

theorem impl_isEffect (s : List UInt8) (w : World) :
    Calls Tryz.prog 23 #[.string (str s)] w fun e w' => e = .returned (.bool (hasB biEff s)) ∧ Below w.heap.size w w' := by
  go_enter Tryz.func23, Tryz.ntmps23
  go_wp2_with fail
  refine (impl_hasText biEff s _ _ (txts_new w 9 biEff _ (by kernel_rfl) (by decide) (by decide))).mono ?_
  rintro e w2 ⟨rfl, rfl⟩
  go_wp2_with fail
  go_ret
  exact ⟨rfl, (Below.refl _ _).alloc (Nat.le_refl _) _⟩

theorem bi_all (s : List UInt8) : ((pureB s).2.2 || hasB biEff s) = hasB biNames s := by
  unfold hasB
  by_cases h : s ∈ bi0 ++ bi1 ++ bi2 ++ bi3 ++ biEff ++ biNames
  · simp only [bi0, bi1, bi2, bi3, biEff, biNames, List.cons_append, List.nil_append, List.mem_cons, List.not_mem_nil, or_false] at h
    revert h
    rintro (rfl | rfl | rfl | rfl | rfl | rfl | rfl | rfl | rfl | rfl | rfl | rfl | rfl | rfl | rfl | rfl | rfl | rfl | rfl | rfl | rfl | rfl | rfl | rfl | rfl | rfl | rfl | rfl | rfl | rfl | rfl | rfl | rfl | rfl | rfl | rfl | rfl | rfl | rfl | rfl | rfl | rfl | rfl | rfl | rfl | rfl | rfl | rfl | rfl | rfl | rfl | rfl | rfl | rfl | rfl | rfl | rfl | rfl | rfl | rfl | rfl | rfl | rfl | rfl | rfl | rfl | rfl | rfl) <;> decide +kernel
  · simp only [List.mem_append, not_or] at h
    obtain ⟨⟨⟨⟨⟨h0, h1⟩, h2⟩, h3⟩, h4⟩, h5⟩ := h
    unfold pureB
    simp [h0, h1, h2, h3, h4, h5]

theorem impl_IsBuiltin (s : List UInt8) (w : World) :
    Calls Tryz.prog 7 #[.string (str s)] w fun e w' => e = .returned (.bool (hasB biNames s)) ∧ Below w.heap.size w w' := by
  have hb := bi_all s
  generalize hasB biNames s = r at *
  generalize hpb : pureB s = pb at *
  obtain ⟨x, y, p⟩ := pb
  have HP := Lib.hid hpb
  clear hpb
  cases p with
  | true =>
    obtain rfl : r = true := by simpa using hb.symm
    clear hb
    go_enter Tryz.func7, Tryz.ntmps7
    go_wp2_with fail
    refine (impl_pureBuiltin s _).mono ?_
    rintro e w2 ⟨rfl, rfl⟩
    rw [HP.out]
    go_wp2_with fail
    go_ret
    exact ⟨rfl, Below.refl _ _⟩
  | false =>
    obtain rfl : r = hasB biEff s := by simpa using hb.symm
    clear hb
    go_enter Tryz.func7, Tryz.ntmps7
    go_wp2_with fail
    refine (impl_pureBuiltin s _).mono ?_
    rintro e w2 ⟨rfl, rfl⟩
    rw [HP.out]
    go_wp2_with fail
    refine (impl_isEffect s _).mono ?_
    rintro e w2 ⟨rfl, hb⟩
    go_wp2_with fail
    go_ret
    exact ⟨rfl, hb⟩

end Go.Proofs.YtkdlekonfjeidaaGreat
