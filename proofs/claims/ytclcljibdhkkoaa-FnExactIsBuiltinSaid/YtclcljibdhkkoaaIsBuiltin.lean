/-
  The law FnExactIsBuiltin returns true for every string: both sides say whether the string is one of the 34 names.
-/
import Derived.Test.YtclcljibdhkkoaaFind
namespace Go.Proofs.Ytclcljibdhkkoaa
open Go.ChangeShapes Go.WideShapes Go.ChangeAt Go.RowKit Go.Deep
open Go.ChangeMaps (open_string shut_string)
set_option linter.unusedVariables false
def bi0 : List (List UInt8) := [[99], [108, 105, 115, 116], [112, 97, 115, 116, 101]]
def bi1 : List (List UInt8) := [[115, 116, 114, 117, 99, 116, 117, 114, 101]]
def bi2 : List (List UInt8) := [[108, 101, 110, 103, 116, 104], [110, 97, 109, 101, 115], [108, 101, 118, 101, 108, 115], [99, 108, 97, 115, 115], [117, 110, 99, 108, 97, 115, 115], [115, 117, 109], [97, 110, 121], [97, 108, 108], [114, 101, 118], [110, 99, 104, 97, 114], [105, 115, 46, 110, 97], [105, 115, 46, 110, 117, 108, 108], [110, 117, 109, 101, 114, 105, 99], [108, 111, 103, 105, 99, 97, 108], [99, 104, 97, 114, 97, 99, 116, 101, 114], [99, 111, 110, 100, 105, 116, 105, 111, 110, 77, 101, 115, 115, 97, 103, 101]]
def bi3 : List (List UInt8) := [[114, 101, 112], [115, 101, 113], [105, 110, 104, 101, 114, 105, 116, 115], [105, 100, 101, 110, 116, 105, 99, 97, 108], [110, 97, 109, 101, 115, 60, 45], [99, 108, 97, 115, 115, 60, 45], [108, 101, 118, 101, 108, 115, 60, 45]]
def biEff : List (List UInt8) := [[112, 114, 105, 110, 116], [99, 97, 116], [115, 116, 111, 112], [119, 97, 114, 110, 105, 110, 103], [115, 105, 103, 110, 97, 108], [114, 97, 110, 100, 111, 109], [115, 101, 101, 100]]
def biNames : List (List UInt8) := [[99], [108, 105, 115, 116], [115, 116, 114, 117, 99, 116, 117, 114, 101], [108, 101, 110, 103, 116, 104], [110, 97, 109, 101, 115], [99, 108, 97, 115, 115], [108, 101, 118, 101, 108, 115], [117, 110, 99, 108, 97, 115, 115], [115, 117, 109], [97, 110, 121], [97, 108, 108], [114, 101, 118], [114, 101, 112], [115, 101, 113], [112, 97, 115, 116, 101], [110, 99, 104, 97, 114], [105, 115, 46, 110, 97], [105, 115, 46, 110, 117, 108, 108], [105, 110, 104, 101, 114, 105, 116, 115], [105, 100, 101, 110, 116, 105, 99, 97, 108], [110, 117, 109, 101, 114, 105, 99], [108, 111, 103, 105, 99, 97, 108], [99, 104, 97, 114, 97, 99, 116, 101, 114], [99, 111, 110, 100, 105, 116, 105, 111, 110, 77, 101, 115, 115, 97, 103, 101], [110, 97, 109, 101, 115, 60, 45], [99, 108, 97, 115, 115, 60, 45], [108, 101, 118, 101, 108, 115, 60, 45], [112, 114, 105, 110, 116], [99, 97, 116], [115, 116, 111, 112], [119, 97, 114, 110, 105, 110, 103], [115, 105, 103, 110, 97, 108], [114, 97, 110, 100, 111, 109], [115, 101, 101, 100]]
def pureB (s : List UInt8) : Int × Int × Bool :=
  if bi0.contains s then (0, 40, true) else if bi1.contains s then (1, 3, true) else if bi2.contains s then (1, 1, true) else if bi3.contains s then (2, 2, true) else (0, 0, false)

theorem ret3 {a b c : Int × Int × Bool} (h : b = a) : Ending.returned (.tuple #[.int .i64 b.1, .int .i64 b.2.1, .bool b.2.2]) = .returned (.tuple #[.int .i64 a.1, .int .i64 a.2.1, .bool a.2.2]) := by rw [h]

set_option maxHeartbeats 4000000 in
theorem impl_pureBuiltin_yes (s : List UInt8) (w : World) (h : s ∈ bi0 ++ bi1 ++ bi2 ++ bi3) :
    Calls Try.prog 39 #[.string (str s)] w fun e w' => e = .returned (.tuple #[.int .i64 (pureB s).1, .int .i64 (pureB s).2.1, .bool (pureB s).2.2]) ∧ w = w' := by
  simp only [bi0, bi1, bi2, bi3, List.cons_append, List.nil_append, List.mem_cons, List.not_mem_nil, or_false] at h
  rcases h with rfl | rfl | rfl | rfl | rfl | rfl | rfl | rfl | rfl | rfl | rfl | rfl | rfl | rfl | rfl | rfl | rfl | rfl | rfl | rfl | rfl | rfl | rfl | rfl | rfl | rfl | rfl
  all_goals
    go_enter Try.func39, Try.ntmps39
    go_wp2
    go_ret3
    exact ⟨by kernel_rfl, rfl⟩

set_option maxHeartbeats 4000000 in
theorem impl_pureBuiltin_no (s : List UInt8) (w : World) (h : ¬ s ∈ bi0 ++ bi1 ++ bi2 ++ bi3) :
    Calls Try.prog 39 #[.string (str s)] w fun e w' => e = .returned (.tuple #[.int .i64 (pureB s).1, .int .i64 (pureB s).2.1, .bool (pureB s).2.2]) ∧ w = w' := by
  have hp : pureB s = (0, 0, false) := by
    simp only [List.mem_append, not_or] at h
    unfold pureB
    simp [h]
  rw [hp]
  clear hp
  have hq : ∀ x ∈ bi0 ++ bi1 ++ bi2 ++ bi3, (s == x) = false := fun x hx => by
    rw [beq_eq_false_iff_ne]
    rintro rfl
    exact h hx
  clear h
  simp only [bi0, bi1, bi2, bi3, List.cons_append, List.nil_append, List.mem_cons, List.not_mem_nil, or_false, forall_eq_or_imp, forall_eq] at hq
  go_enter Try.func39, Try.ntmps39
  go_wp2
  go_ret3
  exact ⟨rfl, rfl⟩

theorem impl_pureBuiltin (s : List UInt8) (w : World) :
    Calls Try.prog 39 #[.string (str s)] w fun e w' => e = .returned (.tuple #[.int .i64 (pureB s).1, .int .i64 (pureB s).2.1, .bool (pureB s).2.2]) ∧ w = w' := by
  by_cases h : s ∈ bi0 ++ bi1 ++ bi2 ++ bi3
  · exact impl_pureBuiltin_yes s w h
  · exact impl_pureBuiltin_no s w h

theorem spec_l30Names (w : World) :
    Calls Try.prog 38 #[] w fun e w' => ∃ v, e = .returned v ∧ Txts w' v biNames ∧ Below w.heap.size w w' := by
  go_enter Try.func38, Try.ntmps38
  go_wp2
  go_ret
  exact ⟨_, rfl, txts_new w 9 biNames _ 34 (by kernel_rfl) (by decide) (by decide), (Below.refl _ _).alloc (Nat.le_refl _) _⟩

theorem spec_IsBuiltin (s : List UInt8) (w : World) :
    Calls Try.prog 10 #[.string (str s)] w fun e w' => e = .returned (.bool (hasB biNames s)) ∧ Below w.heap.size w w' := by
  go_enter Try.func10, Try.ntmps10
  go_wp2_with fail
  refine (spec_l30Names _).mono ?_
  rintro e w1 ⟨v, rfl, ht, hb⟩
  go_wp2_with fail
  refine (spec_l1Has biNames s v _ ht).mono ?_
  rintro e w2 ⟨rfl, rfl⟩
  go_wp2_with fail
  go_ret
  exact ⟨rfl, hb⟩

theorem impl_isEffect (s : List UInt8) (w : World) :
    Calls Try.prog 40 #[.string (str s)] w fun e w' => e = .returned (.bool (hasB biEff s)) ∧ Below w.heap.size w w' := by
  go_enter Try.func40, Try.ntmps40
  go_wp2_with fail
  refine (impl_hasText biEff s _ _ (txts_new w 9 biEff _ 7 (by kernel_rfl) (by decide) (by decide))).mono ?_
  rintro e w2 ⟨rfl, rfl⟩
  go_wp2_with fail
  go_ret
  exact ⟨rfl, (Below.refl _ _).alloc (Nat.le_refl _) _⟩

theorem bi_all (s : List UInt8) : ((pureB s).2.2 || hasB biEff s) = hasB biNames s := by
  unfold hasB
  by_cases h : s ∈ bi0 ++ bi1 ++ bi2 ++ bi3 ++ biEff ++ biNames
  · simp only [bi0, bi1, bi2, bi3, biEff, biNames, List.cons_append, List.nil_append, List.mem_cons, List.not_mem_nil, or_false] at h
    revert h
    rintro (rfl | rfl | rfl | rfl | rfl | rfl | rfl | rfl | rfl | rfl | rfl | rfl | rfl | rfl | rfl | rfl | rfl | rfl | rfl | rfl | rfl | rfl | rfl | rfl | rfl | rfl | rfl | rfl | rfl | rfl | rfl | rfl | rfl | rfl | rfl | rfl | rfl | rfl | rfl | rfl | rfl | rfl | rfl | rfl | rfl | rfl | rfl | rfl | rfl | rfl | rfl | rfl | rfl | rfl | rfl | rfl | rfl | rfl | rfl | rfl | rfl | rfl | rfl | rfl | rfl | rfl | rfl | rfl) <;> decide +kernel
  · simp only [List.mem_append, not_or] at h
    obtain ⟨⟨⟨⟨⟨h0, h1⟩, h2⟩, h3⟩, h4⟩, h5⟩ := h
    unfold pureB
    simp [h0, h1, h2, h3, h4, h5]

theorem impl_IsBuiltin (s : List UInt8) (w : World) :
    Calls Try.prog 11 #[.string (str s)] w fun e w' => e = .returned (.bool (hasB biNames s)) ∧ Below w.heap.size w w' := by
  have hb := bi_all s
  generalize hasB biNames s = r at *
  generalize hpb : pureB s = pb at *
  obtain ⟨x, y, p⟩ := pb
  have HP := Lib.hid hpb
  clear hpb
  cases p with
  | true =>
    obtain rfl : r = true := by simpa using hb.symm
    clear hb
    go_enter Try.func11, Try.ntmps11
    go_wp2_with fail
    refine (impl_pureBuiltin s _).mono ?_
    rintro e w2 ⟨rfl, rfl⟩
    rw [HP.out]
    go_wp2_with fail
    go_ret
    exact ⟨rfl, Below.refl _ _⟩
  | false =>
    obtain rfl : r = hasB biEff s := by simpa using hb.symm
    clear hb
    go_enter Try.func11, Try.ntmps11
    go_wp2_with fail
    refine (impl_pureBuiltin s _).mono ?_
    rintro e w2 ⟨rfl, rfl⟩
    rw [HP.out]
    go_wp2_with fail
    refine (impl_isEffect s _).mono ?_
    rintro e w2 ⟨rfl, hb⟩
    go_wp2_with fail
    go_ret
    exact ⟨rfl, hb⟩

namespace fnExactIsBuiltin
theorem walk (a : List UInt8) (w : World) :
    Calls Try.prog 3 #[.string (str a)] w fun e w' => e = .returned (.bool true) ∧ Below w.heap.size w w' := by
  by_cases hs : a.length ≤ 1048576
  · go_enter Try.func3, Try.ntmps3
    go_wp2_with fail
    refine (spec_IsBuiltin a _).mono ?_
    rintro e w1 ⟨rfl, hb1⟩
    go_wp2_with fail
    refine (impl_IsBuiltin a _).mono ?_
    rintro e w2 ⟨rfl, hb2⟩
    go_wp2_with fail
    go_ret
    exact ⟨rfl, hb1.trans (hb2.mono hb1.size)⟩
  · go_enter Try.func3, Try.ntmps3
    go_wp2_with fail
    go_ret
    exact ⟨rfl, Below.refl _ _⟩

set_option maxRecDepth 100000 in
theorem lifted (os : Os) (started : os.Started) (H : Type) (enc : TypeId × Value → H) :
    ReturnsInHanded {} Try.checked os 3 .any (Rows.fnExactIsBuiltinSpec.pre6 enc Try.prog Try.f3 Rows.fnExactIsBuiltinRow.domain false) (Rows.fnExactIsBuiltinSpec.post enc Try.prog Try.f3 false true false false) := by
  refine returnsInHanded_of_change (C := Try.checked) own started (by kernel_rfl) Try.func3
    (ChangeSpec.witness6 (enc := enc) (C := Try.checked) false ⟨#[], #[.string ByteArray.empty], []⟩ 8 (by kernel_rfl) (by kernel_rfl) (by kernel_rfl) (by kernel_rfl)) ?_
  intro W base args ds gs before hval0 hW hcnd _
  have hval : ∀ (j : Nat) t v, Try.f3.params[j]? = some t → args[j]? = some v → Value.okWide Try.prog W .any base t v := hval0
  have hW' := hW
  obtain ⟨p, q, hA0, hV, rfl, hfz, hnd⟩ := hW
  have hA : DataW.TrodAll enc Try.prog W 0 (fun _ => true) true Try.f3.params.toList args.toList ds p := hA0
  rw [Try.params3] at hA hval
  obtain ⟨v0, vs0, d0, ds0, p0, q0, hargs, rfl, rfl, h0, r0⟩ := trodAll_cons hA
  obtain ⟨rfl, rfl, rfl⟩ := trodAll_nil r0
  obtain rfl : args = #[v0] := by cases args; simp_all
  obtain ⟨rfl, rfl⟩ := trodVars_none hV
  obtain ⟨a0, rfl, rfl, rfl, w0⟩ := open_string Try.underlying9 (hval 0 9 v0 rfl rfl) h0
  obtain ⟨a, rfl⟩ := exists_str a0
  clear hA0 hval0
  refine (walk a W).mono fun e W' ⟨he, hg⟩ => ?_
  subst he
  exact ⟨_, rfl, law_post laidOut hW' rfl rfl Try.underlying4 rfl rfl rfl (by intro t ht; rw [Try.params3] at ht; simp at ht; subst ht; exact ⟨by kernel_rfl, of_decide_eq_true (by kernel_rfl)⟩) hg⟩

theorem over : Rows.fnExactIsBuiltinRow.holds Try.pinned (OpenSpec.ofChange Rows.fnExactIsBuiltinSpec) :=
  OpenClaim.holds_of_wide 3 Try.f3 rfl rfl rfl rfl rfl rfl rfl ⟨rfl, rfl, rfl, rfl, rfl⟩ rfl rfl rfl rfl rfl (by kernel_rfl) Try.func3 (by kernel_rfl)
    (of_decide_eq_true (by kernel_rfl)) (by unfold Func.isWrapper; first | (rw [if_pos (by decide +kernel)]; kernel_rfl) | (rw [if_neg (by decide +kernel)]; exact ⟨rfl, rfl⟩))
    (fun os started H enc _ => lifted os started H enc)

/-- THE STATEMENT -/
theorem proved : Rows.FnExactIsBuiltinSaid :=
  over
#print axioms proved
end fnExactIsBuiltin
end Go.Proofs.Ytclcljibdhkkoaa
