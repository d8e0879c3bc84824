/-
  The law FnWarnings returns true for every list of bytes: it looks at the length alone; each case is a run of a program, and all of them are known.
-/
import Derived.Test.YtlghjodldfjmbaaGreatRows
import Derived.Test.YtlghjodldfjmbaaGreatBase
import Derived.Test.YtlghjodldfjmbaaGreatRunsFnWarnings0
import Derived.Test.YtlghjodldfjmbaaGreatRunsFnWarnings1
import Derived.Test.YtlghjodldfjmbaaGreatRunsFnWarnings2
namespace Go.Proofs.YtlghjodldfjmbaaGreat
set_option maxRecDepth 100000
open Go.ChangeShapes Go.WideShapes Go.ChangeAt Go.RowKit Go.Deep
open Go.Proofs.YtlghjodldfjmbaaGreat.Eng (CallOk RO RO_sound RunsTo ParsesTo TR isT law_at evalE TabOk Tab RR Hp.empty Hp)
namespace fnWarnings
theorem frun : ∃ fn, Tryz.prog.funcs[6]? = some fn ∧ fn.body.isSome = true ∧ fn.name ≠ "runtime.NumGoroutine" := fnOk Tryz.func6 rfl
theorem fpar : ∃ fn, Tryz.prog.funcs[6]? = some fn ∧ fn.body.isSome = true ∧ fn.name ≠ "runtime.NumGoroutine" := fnOk Tryz.func6 rfl
theorem ok0 (n : Nat) : CallOk Tryz.prog (RO Tryz.prog 6 6 [(s0, t0), (s1, t1), (s2, t2)] [] n).fn := (RO_sound Tryz.codeOk mixed fnames (fun p hp => by
    simp only [List.mem_cons, List.not_mem_nil, or_false] at hp
    rcases hp with rfl | rfl | rfl
    · exact run0
    · exact run1
    · exact run2) (fun p hp => by
    cases hp) frun fpar n).1
set_option maxRecDepth 100000 in
theorem at0 : isT ((RO Tryz.prog 6 6 [(s0, t0), (s1, t1), (s2, t2)] [] 400).fn 4 [.slx [(.op .gtr .len 1048576, 0)]] Hp.empty) = true := by kernel_rfl
set_option maxRecDepth 100000 in
theorem atBig : isT ((RR Tryz.prog 400).fn 4 [.slx [(.op .gtr .len 1048576, 1)]] Hp.empty) = true := by kernel_rfl
theorem walk (A : Option Addr) (L cap : Nat) {w : World} : Calls Tryz.prog 4 #[.slice A L cap] w fun e w' => e = .returned (.bool true) ∧ Below w.heap.size w w' := by
  by_cases hb : 1048576 < L
  · exact law_at (sound 400) atBig (fun p hp => by simp only [List.mem_cons, List.not_mem_nil, or_false] at hp; subst hp; exact len_big hb) A cap w
  · have h0 := len_small hb
    exact law_at (ok0 400) at0 (fun p hp => by simp only [List.mem_cons, List.not_mem_nil, or_false] at hp; subst hp; exact h0) A cap w
set_option maxRecDepth 100000 in
theorem lifted (os : Os) (started : os.Started) (H : Type) (enc : TypeId × Value → H) :
    ReturnsInHanded {} Tryz.checked os 4 .any (Rows.fnWarningsSpec.pre6 enc Tryz.prog Tryz.f4 Rows.fnWarningsRow.domain false) (Rows.fnWarningsSpec.post enc Tryz.prog Tryz.f4 false true false false) := by
  refine returnsInHanded_of_change (C := Tryz.checked) own started (by kernel_rfl) Tryz.func4
    (ChangeSpec.witness6 (enc := enc) (C := Tryz.checked) false ⟨#[], #[.slice none 0 0], []⟩ 8 (by kernel_rfl) (by kernel_rfl) (by kernel_rfl) (by kernel_rfl)) ?_
  intro W base args ds gs before hval0 hW hcnd _
  have hval : ∀ (j : Nat) t v, Tryz.f4.params[j]? = some t → args[j]? = some v → Value.okWide Tryz.prog W .any base t v := hval0
  have hW' := hW
  obtain ⟨p, q, hA0, hV, rfl, hfz, hnd⟩ := hW
  have hA : DataW.TrodAll enc Tryz.prog W 0 (fun _ => true) true Tryz.f4.params.toList args.toList ds p := hA0
  rw [Tryz.params4] at hA hval
  obtain ⟨v0, vs0, d0, ds0, p0, q0, hargs, rfl, rfl, h0, r0⟩ := trodAll_cons hA
  obtain ⟨rfl, rfl, rfl⟩ := trodAll_nil r0
  obtain rfl : args = #[v0] := by cases args; simp_all
  obtain ⟨rfl, rfl⟩ := trodVars_none hV
  obtain ⟨a0, x0, c0, rfl⟩ := okWide_slice Tryz.underlying22 (hval 0 22 v0 rfl rfl)
  clear hA0 hval0
  refine (walk a0 x0 c0).mono fun e W' ⟨he, hg⟩ => ?_
  subst he
  exact ⟨_, rfl, law_post laidOut hW' rfl rfl Tryz.underlying4 rfl rfl rfl (by intro t ht; rw [Tryz.params4] at ht; have ht2 : t ∈ [22] := ht; simp only [List.mem_cons, List.not_mem_nil, or_false] at ht2; rcases ht2 with rfl <;> exact ⟨by kernel_rfl, of_decide_eq_true (by kernel_rfl)⟩) hg⟩

theorem over : Rows.fnWarningsRow.holds Tryz.pinned (OpenSpec.ofChange Rows.fnWarningsSpec) :=
  OpenClaim.holds_of_wide 4 Tryz.f4 rfl rfl rfl rfl rfl rfl rfl ⟨rfl, rfl, rfl, rfl, rfl⟩ rfl rfl rfl rfl rfl (by kernel_rfl) Tryz.func4 (by kernel_rfl)
    (of_decide_eq_true (by kernel_rfl)) (by unfold Func.isWrapper; first | (rw [if_pos (by decide +kernel)]; kernel_rfl) | (rw [if_neg (by decide +kernel)]; exact ⟨rfl, rfl⟩))
    (fun os started H enc _ => lifted os started H enc)

/-- THE STATEMENT -/
theorem proved : Rows.FnWarningsSaid :=
  over
#print axioms proved
end fnWarnings
end Go.Proofs.YtlghjodldfjmbaaGreat
