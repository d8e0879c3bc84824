/-
  The machine over this seat's program; lengths.
-/
import Derived.Test.YtkdlekonfjeidaaGreatEngTable
import Derived.Test.YtkdlekonfjeidaaGreatChecked
import Derived.KernelRfl
namespace Go.Proofs.YtkdlekonfjeidaaGreat
set_option maxRecDepth 100000
open Go.Proofs.YtkdlekonfjeidaaGreat.Eng

theorem mixed : Tryz.prog.follows .mixedOrders = true := by kernel_rfl
theorem namesB : Tryz.prog.funcs.toList.all (fun f => f.name != "runtime.NumGoroutine") = true := by kernel_rfl
theorem fnames (f : FuncId) (fn : Func) (h : Tryz.prog.funcs[f]? = some fn) : fn.name ≠ "runtime.NumGoroutine" := by
  have := List.all_eq_true.1 namesB fn (by
    rw [← Array.getElem?_toList] at h
    exact List.mem_of_getElem? h)
  simpa using this
theorem sound (n : Nat) : CallOk Tryz.prog (RR Tryz.prog n).fn := (RR_sound Tryz.codeOk mixed fnames n).1
theorem fnOk {f : FuncId} {fn : Func} (h : Tryz.prog.funcs[f]? = some fn) (hb : fn.body.isSome = true) : ∃ fn, Tryz.prog.funcs[f]? = some fn ∧ fn.body.isSome = true ∧ fn.name ≠ "runtime.NumGoroutine" := ⟨fn, h, hb, fnames f fn h⟩
theorem run_at {s : List Nat} {T : TR} (h : isTR T ((RR Tryz.prog 3000).fn 27 [.str s] Hp.empty) = true) : RunsTo Tryz.prog 27 s T := run_to (sound 3000) h

/-! ### Lengths -/
theorem len_big {L : Nat} (h : 1048576 < L) : evalE L (.op .gtr .len 1048576) = some 1 := by
  simp only [evalE, evalOp, Option.bind_some, Option.some.injEq]
  rw [if_pos (by omega)]
theorem len_small {L : Nat} (h : ¬ 1048576 < L) : evalE L (.op .gtr .len 1048576) = some 0 := by
  simp only [evalE, evalOp, Option.bind_some, Option.some.injEq]
  rw [if_neg (by omega)]
theorem len_rem {L k r : Nat} (h : L % k = r) : evalE L (.op .rem .len k) = some (r : Int) := by
  simp only [evalE, evalOp, Option.bind_some, Option.some.injEq]
  rw [Int.tmod_eq_emod_of_nonneg (by omega), ← h]
  rfl
end Go.Proofs.YtkdlekonfjeidaaGreat
