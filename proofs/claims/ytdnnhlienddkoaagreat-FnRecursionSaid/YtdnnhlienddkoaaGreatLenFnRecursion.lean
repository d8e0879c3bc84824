/-
  The law FnRecursion returns true for every list of bytes: it looks at the length alone; each case is a run of a program, and all of them are known.
-/
import Derived.Test.YtdnnhlienddkoaaGreatRows
import Derived.Test.YtdnnhlienddkoaaGreatJoin
import Derived.Test.YtdnnhlienddkoaaGreatBase
import Derived.Test.YtdnnhlienddkoaaGreatRunsFnRecursion0
import Derived.Test.YtdnnhlienddkoaaGreatRunsFnRecursion1
import Derived.Test.YtdnnhlienddkoaaGreatRunsFnRecursion2
import Derived.Test.YtdnnhlienddkoaaGreatRunsFnRecursion3
import Derived.Test.YtdnnhlienddkoaaGreatRunsFnRecursion4
import Derived.Test.YtdnnhlienddkoaaGreatRunsFnRecursion5
namespace Go.Proofs.YtdnnhlienddkoaaGreat
set_option maxRecDepth 100000
open Go.ChangeShapes Go.WideShapes Go.ChangeAt Go.RowKit Go.Deep
open Go.Proofs.YtdnnhlienddkoaaGreat.Eng (CallOk RO RO_sound RunsTo ParsesTo TR isT law_at evalE TabOk Tab RR Hp.empty Hp)
namespace fnRecursion
theorem frun : ∃ fn, Tryz.prog.funcs[12]? = some fn ∧ fn.body.isSome = true ∧ fn.name ≠ "runtime.NumGoroutine" := fnOk Tryz.func12 rfl
theorem fpar : ∃ fn, Tryz.prog.funcs[12]? = some fn ∧ fn.body.isSome = true ∧ fn.name ≠ "runtime.NumGoroutine" := fnOk Tryz.func12 rfl
theorem ok0 (n : Nat) : CallOk Tryz.prog (RO Tryz.prog 12 12 [(s0, t0), (s1, t1)] [] n).fn := (RO_sound Tryz.codeOk mixed fnames (fun p hp => by
    simp only [List.mem_cons, List.not_mem_nil, or_false] at hp
    rcases hp with rfl | rfl
    · exact run0
    · exact run1) (fun p hp => by
    cases hp) frun fpar n).1
set_option maxRecDepth 100000 in
theorem at0 : isT ((RO Tryz.prog 12 12 [(s0, t0), (s1, t1)] [] 400).fn 4 [.slx [(.op .gtr .len 1048576, 0), (.op .rem .len 9, 0)]] Hp.empty) = true := by kernel_rfl
theorem ok1 (n : Nat) : CallOk Tryz.prog (RO Tryz.prog 12 12 [(s2, t2), (s3, t3)] [] n).fn := (RO_sound Tryz.codeOk mixed fnames (fun p hp => by
    simp only [List.mem_cons, List.not_mem_nil, or_false] at hp
    rcases hp with rfl | rfl
    · exact run2
    · exact run3) (fun p hp => by
    cases hp) frun fpar n).1
set_option maxRecDepth 100000 in
theorem at1 : isT ((RO Tryz.prog 12 12 [(s2, t2), (s3, t3)] [] 400).fn 4 [.slx [(.op .gtr .len 1048576, 0), (.op .rem .len 9, 1)]] Hp.empty) = true := by kernel_rfl
theorem ok2 (n : Nat) : CallOk Tryz.prog (RO Tryz.prog 12 12 [(s4, t4), (s5, t5)] [] n).fn := (RO_sound Tryz.codeOk mixed fnames (fun p hp => by
    simp only [List.mem_cons, List.not_mem_nil, or_false] at hp
    rcases hp with rfl | rfl
    · exact run4
    · exact run5) (fun p hp => by
    cases hp) frun fpar n).1
set_option maxRecDepth 100000 in
theorem at2 : isT ((RO Tryz.prog 12 12 [(s4, t4), (s5, t5)] [] 400).fn 4 [.slx [(.op .gtr .len 1048576, 0), (.op .rem .len 9, 2)]] Hp.empty) = true := by kernel_rfl
theorem ok3 (n : Nat) : CallOk Tryz.prog (RO Tryz.prog 12 12 [(s6, t6), (s7, t7)] [] n).fn := (RO_sound Tryz.codeOk mixed fnames (fun p hp => by
    simp only [List.mem_cons, List.not_mem_nil, or_false] at hp
    rcases hp with rfl | rfl
    · exact run6
    · exact run7) (fun p hp => by
    cases hp) frun fpar n).1
set_option maxRecDepth 100000 in
theorem at3 : isT ((RO Tryz.prog 12 12 [(s6, t6), (s7, t7)] [] 400).fn 4 [.slx [(.op .gtr .len 1048576, 0), (.op .rem .len 9, 3)]] Hp.empty) = true := by kernel_rfl
theorem ok4 (n : Nat) : CallOk Tryz.prog (RO Tryz.prog 12 12 [(s8, t8), (s9, t9)] [] n).fn := (RO_sound Tryz.codeOk mixed fnames (fun p hp => by
    simp only [List.mem_cons, List.not_mem_nil, or_false] at hp
    rcases hp with rfl | rfl
    · exact run8
    · exact run9) (fun p hp => by
    cases hp) frun fpar n).1
set_option maxRecDepth 100000 in
theorem at4 : isT ((RO Tryz.prog 12 12 [(s8, t8), (s9, t9)] [] 400).fn 4 [.slx [(.op .gtr .len 1048576, 0), (.op .rem .len 9, 4)]] Hp.empty) = true := by kernel_rfl
theorem ok5 (n : Nat) : CallOk Tryz.prog (RO Tryz.prog 12 12 [(s10, t10), (s11, t11)] [] n).fn := (RO_sound Tryz.codeOk mixed fnames (fun p hp => by
    simp only [List.mem_cons, List.not_mem_nil, or_false] at hp
    rcases hp with rfl | rfl
    · exact run10
    · exact run11) (fun p hp => by
    cases hp) frun fpar n).1
set_option maxRecDepth 100000 in
theorem at5 : isT ((RO Tryz.prog 12 12 [(s10, t10), (s11, t11)] [] 400).fn 4 [.slx [(.op .gtr .len 1048576, 0), (.op .rem .len 9, 5)]] Hp.empty) = true := by kernel_rfl
theorem ok6 (n : Nat) : CallOk Tryz.prog (RO Tryz.prog 12 12 [(s12, t12), (s13, t13)] [] n).fn := (RO_sound Tryz.codeOk mixed fnames (fun p hp => by
    simp only [List.mem_cons, List.not_mem_nil, or_false] at hp
    rcases hp with rfl | rfl
    · exact run12
    · exact run13) (fun p hp => by
    cases hp) frun fpar n).1
set_option maxRecDepth 100000 in
theorem at6 : isT ((RO Tryz.prog 12 12 [(s12, t12), (s13, t13)] [] 400).fn 4 [.slx [(.op .gtr .len 1048576, 0), (.op .rem .len 9, 6)]] Hp.empty) = true := by kernel_rfl
theorem ok7 (n : Nat) : CallOk Tryz.prog (RO Tryz.prog 12 12 [(s14, t14), (s15, t15)] [] n).fn := (RO_sound Tryz.codeOk mixed fnames (fun p hp => by
    simp only [List.mem_cons, List.not_mem_nil, or_false] at hp
    rcases hp with rfl | rfl
    · exact run14
    · exact run15) (fun p hp => by
    cases hp) frun fpar n).1
set_option maxRecDepth 100000 in
theorem at7 : isT ((RO Tryz.prog 12 12 [(s14, t14), (s15, t15)] [] 400).fn 4 [.slx [(.op .gtr .len 1048576, 0), (.op .rem .len 9, 7)]] Hp.empty) = true := by kernel_rfl
theorem ok8 (n : Nat) : CallOk Tryz.prog (RO Tryz.prog 12 12 [(s16, t16), (s17, t17)] [] n).fn := (RO_sound Tryz.codeOk mixed fnames (fun p hp => by
    simp only [List.mem_cons, List.not_mem_nil, or_false] at hp
    rcases hp with rfl | rfl
    · exact run16
    · exact run17) (fun p hp => by
    cases hp) frun fpar n).1
set_option maxRecDepth 100000 in
theorem at8 : isT ((RO Tryz.prog 12 12 [(s16, t16), (s17, t17)] [] 400).fn 4 [.slx [(.op .gtr .len 1048576, 0), (.op .rem .len 9, 8)]] Hp.empty) = true := by kernel_rfl
set_option maxRecDepth 100000 in
theorem atBig : isT ((RR Tryz.prog 400).fn 4 [.slx [(.op .gtr .len 1048576, 1)]] Hp.empty) = true := by kernel_rfl
theorem walk (A : Option Addr) (L cap : Nat) {w : World} : Calls Tryz.prog 4 #[.slice A L cap] w fun e w' => e = .returned (.bool true) ∧ Below w.heap.size w w' := by
  by_cases hb : 1048576 < L
  · exact law_at (sound 400) atBig (fun p hp => by simp only [List.mem_cons, List.not_mem_nil, or_false] at hp; subst hp; exact len_big hb) A cap w
  · have h0 := len_small hb
    have hr : L % 9 = 0 ∨ L % 9 = 1 ∨ L % 9 = 2 ∨ L % 9 = 3 ∨ L % 9 = 4 ∨ L % 9 = 5 ∨ L % 9 = 6 ∨ L % 9 = 7 ∨ L % 9 = 8 := by omega
    rcases hr with h | h | h | h | h | h | h | h | h
    · exact law_at (ok0 400) at0 (fun p hp => by simp only [List.mem_cons, List.not_mem_nil, or_false] at hp; rcases hp with rfl | rfl <;> first | exact h0 | exact len_rem h) A cap w
    · exact law_at (ok1 400) at1 (fun p hp => by simp only [List.mem_cons, List.not_mem_nil, or_false] at hp; rcases hp with rfl | rfl <;> first | exact h0 | exact len_rem h) A cap w
    · exact law_at (ok2 400) at2 (fun p hp => by simp only [List.mem_cons, List.not_mem_nil, or_false] at hp; rcases hp with rfl | rfl <;> first | exact h0 | exact len_rem h) A cap w
    · exact law_at (ok3 400) at3 (fun p hp => by simp only [List.mem_cons, List.not_mem_nil, or_false] at hp; rcases hp with rfl | rfl <;> first | exact h0 | exact len_rem h) A cap w
    · exact law_at (ok4 400) at4 (fun p hp => by simp only [List.mem_cons, List.not_mem_nil, or_false] at hp; rcases hp with rfl | rfl <;> first | exact h0 | exact len_rem h) A cap w
    · exact law_at (ok5 400) at5 (fun p hp => by simp only [List.mem_cons, List.not_mem_nil, or_false] at hp; rcases hp with rfl | rfl <;> first | exact h0 | exact len_rem h) A cap w
    · exact law_at (ok6 400) at6 (fun p hp => by simp only [List.mem_cons, List.not_mem_nil, or_false] at hp; rcases hp with rfl | rfl <;> first | exact h0 | exact len_rem h) A cap w
    · exact law_at (ok7 400) at7 (fun p hp => by simp only [List.mem_cons, List.not_mem_nil, or_false] at hp; rcases hp with rfl | rfl <;> first | exact h0 | exact len_rem h) A cap w
    · exact law_at (ok8 400) at8 (fun p hp => by simp only [List.mem_cons, List.not_mem_nil, or_false] at hp; rcases hp with rfl | rfl <;> first | exact h0 | exact len_rem h) A cap w
set_option maxRecDepth 100000 in
theorem lifted (os : Os) (started : os.Started) (H : Type) (enc : TypeId × Value → H) :
    ReturnsInHanded {} Tryz.checked os 4 .any (Rows.fnRecursionSpec.pre6 enc Tryz.prog Tryz.f4 Rows.fnRecursionRow.domain false) (Rows.fnRecursionSpec.post enc Tryz.prog Tryz.f4 false true false false) := by
  refine returnsInHanded_of_change (C := Tryz.checked) own started (by kernel_rfl) Tryz.func4
    (ChangeSpec.witness6 (enc := enc) (C := Tryz.checked) false ⟨#[], #[.slice none 0 0], []⟩ 8 (by kernel_rfl) (by kernel_rfl) (by kernel_rfl) (by kernel_rfl)) ?_
  intro W base args ds gs before hval0 hW hcnd _
  have hval : ∀ (j : Nat) t v, Tryz.f4.params[j]? = some t → args[j]? = some v → Value.okWide Tryz.prog W .any base t v := hval0
  have hW' := hW
  obtain ⟨p, q, hA0, hV, rfl, hfz, hnd⟩ := hW
  have hA : DataW.TrodAll enc Tryz.prog W 0 (fun _ => true) true Tryz.f4.params.toList args.toList ds p := hA0
  rw [Tryz.params4] at hA hval
  obtain ⟨v0, vs0, d0, ds0, p0, q0, hargs, rfl, rfl, h0, r0⟩ := trodAll_cons hA
  obtain ⟨rfl, rfl, rfl⟩ := trodAll_nil r0
  obtain rfl : args = #[v0] := by cases args; simp_all
  obtain ⟨rfl, rfl⟩ := trodVars_none hV
  obtain ⟨a0, x0, c0, rfl⟩ := okWide_slice Tryz.underlying22 (hval 0 22 v0 rfl rfl)
  clear hA0 hval0
  refine (walk a0 x0 c0).mono fun e W' ⟨he, hg⟩ => ?_
  subst he
  exact ⟨_, rfl, law_post laidOut hW' rfl rfl Tryz.underlying4 rfl rfl rfl (by intro t ht; rw [Tryz.params4] at ht; have ht2 : t ∈ [22] := ht; simp only [List.mem_cons, List.not_mem_nil, or_false] at ht2; rcases ht2 with rfl <;> exact ⟨by kernel_rfl, of_decide_eq_true (by kernel_rfl)⟩) hg⟩

theorem fact0 : jf0 Tryz.prog 4 Tryz.f4 Rows.fnRecursionSpec Rows.fnRecursionRow = true := by kernel_rfl
theorem fact1 : jf1 Tryz.prog 4 Tryz.f4 Rows.fnRecursionSpec Rows.fnRecursionRow = true := by kernel_rfl
theorem fact2 : jf2 Tryz.prog 4 Tryz.f4 Rows.fnRecursionSpec Rows.fnRecursionRow = true := by kernel_rfl
theorem fact3 : jf3 Tryz.prog 4 Tryz.f4 Rows.fnRecursionSpec Rows.fnRecursionRow = true := by kernel_rfl
theorem fact4 : jf4 Tryz.prog 4 Tryz.f4 Rows.fnRecursionSpec Rows.fnRecursionRow = true := by kernel_rfl
theorem fact5 : jf5 Tryz.prog 4 Tryz.f4 Rows.fnRecursionSpec Rows.fnRecursionRow = true := by kernel_rfl
theorem fact6 : jf6 Tryz.prog 4 Tryz.f4 Rows.fnRecursionSpec Rows.fnRecursionRow = true := by kernel_rfl
theorem fact7 : jf7 Tryz.prog 4 Tryz.f4 Rows.fnRecursionSpec Rows.fnRecursionRow = true := by kernel_rfl
theorem fact8 : jf8 Tryz.prog 4 Tryz.f4 Rows.fnRecursionSpec Rows.fnRecursionRow = true := by kernel_rfl
theorem fact9 : jf9 Tryz.prog 4 Tryz.f4 Rows.fnRecursionSpec Rows.fnRecursionRow = true := by kernel_rfl
theorem fact10 : jf10 Tryz.prog 4 Tryz.f4 Rows.fnRecursionSpec Rows.fnRecursionRow = true := by kernel_rfl
theorem fact11 : jf11 Tryz.prog 4 Tryz.f4 Rows.fnRecursionSpec Rows.fnRecursionRow = true := by kernel_rfl
theorem fact12 : jf12 Tryz.prog 4 Tryz.f4 Rows.fnRecursionSpec Rows.fnRecursionRow = true := by kernel_rfl
theorem fact13 : jf13 Tryz.prog 4 Tryz.f4 Rows.fnRecursionSpec Rows.fnRecursionRow = true := by kernel_rfl
theorem fact14 : jf14 Tryz.prog 4 Tryz.f4 Rows.fnRecursionSpec Rows.fnRecursionRow = true := by kernel_rfl
theorem fact15 : jf15 Tryz.prog 4 Tryz.f4 Rows.fnRecursionSpec Rows.fnRecursionRow = true := by kernel_rfl
theorem fact16 : jf16 Tryz.prog 4 Tryz.f4 Rows.fnRecursionSpec Rows.fnRecursionRow = true := by kernel_rfl
theorem fact17 : jf17 Tryz.prog 4 Tryz.f4 Rows.fnRecursionSpec Rows.fnRecursionRow = true := by kernel_rfl
theorem fact18 : jf18 Tryz.prog 4 Tryz.f4 Rows.fnRecursionSpec Rows.fnRecursionRow = true := by kernel_rfl
theorem fact19 : jf19 Tryz.prog 4 Tryz.f4 Rows.fnRecursionSpec Rows.fnRecursionRow = true := by kernel_rfl
theorem fact20 : jf20 Tryz.prog 4 Tryz.f4 Rows.fnRecursionSpec Rows.fnRecursionRow = true := by kernel_rfl
theorem fact21 : jf21 Tryz.prog 4 Tryz.f4 Rows.fnRecursionSpec Rows.fnRecursionRow = true := by kernel_rfl
theorem fact22 : jf22 Tryz.prog 4 Tryz.f4 Rows.fnRecursionSpec Rows.fnRecursionRow = true := by kernel_rfl
theorem fact23 : jf23 Tryz.prog 4 Tryz.f4 Rows.fnRecursionSpec Rows.fnRecursionRow = true := by kernel_rfl
theorem fact24 : jf24 Tryz.prog 4 Tryz.f4 Rows.fnRecursionSpec Rows.fnRecursionRow = true := by kernel_rfl
theorem fact25 : jf25 Tryz.prog 4 Tryz.f4 Rows.fnRecursionSpec Rows.fnRecursionRow = true := by kernel_rfl
theorem fact26 : jf26 Tryz.prog 4 Tryz.f4 Rows.fnRecursionSpec Rows.fnRecursionRow = true := by kernel_rfl
theorem fact27 : jf27 Tryz.prog 4 Tryz.f4 Rows.fnRecursionSpec Rows.fnRecursionRow = true := by kernel_rfl
theorem fact28 : jf28 Tryz.prog 4 Tryz.f4 Rows.fnRecursionSpec Rows.fnRecursionRow = true := by kernel_rfl
theorem fact29 : jf29 Tryz.prog 4 Tryz.f4 Rows.fnRecursionSpec Rows.fnRecursionRow = true := by kernel_rfl
theorem fact30 : jf30 Tryz.prog 4 Tryz.f4 Rows.fnRecursionSpec Rows.fnRecursionRow = true := by kernel_rfl
theorem fact31 : jf31 Tryz.prog 4 Tryz.f4 Rows.fnRecursionSpec Rows.fnRecursionRow = true := by kernel_rfl
theorem over : Rows.fnRecursionRow.holds Tryz.pinned (OpenSpec.ofChange Rows.fnRecursionSpec) :=
  OpenClaim.holds_of_wide 4 Tryz.f4 rfl rfl rfl rfl rfl rfl rfl ⟨rfl, rfl, rfl, rfl, rfl⟩ rfl rfl rfl rfl rfl (by kernel_rfl) Tryz.func4 (joined fact0 fact1 fact2 fact3 fact4 fact5 fact6 fact7 fact8 fact9 fact10 fact11 fact12 fact13 fact14 fact15 fact16 fact17 fact18 fact19 fact20 fact21 fact22 fact23 fact24 fact25 fact26 fact27 fact28 fact29 fact30 fact31)
    (of_decide_eq_true (by kernel_rfl)) (by unfold Func.isWrapper; first | (rw [if_pos (by decide +kernel)]; kernel_rfl) | (rw [if_neg (by decide +kernel)]; exact ⟨rfl, rfl⟩))
    (fun os started H enc _ => lifted os started H enc)

/-- THE STATEMENT -/
theorem proved : Rows.FnRecursionSaid :=
  over
#print axioms proved
end fnRecursion
end Go.Proofs.YtdnnhlienddkoaaGreat
