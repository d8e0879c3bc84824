/-
  Values on trees: items compared as they are.
-/
import Derived.Test.YtjdimlhdkmkmbaaKVm
import Derived.Test.YtjdimlhdkmkmbaaVmE
namespace Go.Proofs.Ytjdimlhdkmkmbaa
set_option maxRecDepth 100000
open Go.ChangeShapes Go.WideShapes Go.ChangeAt Go.RowKit Go.Deep Go.Proofs.Ytjdimlhdkmkmbaa.Vm
set_option linter.unusedVariables false

/-- two items are the same -/
def sameIt (x y : ItemD) : Bool := x.num == y.num && x.den == y.den && x.text == y.text
theorem run_eqItem (x y : ItemD) (xo yo : Operand) (w : World) : (do eqGuard .eql 36 xo yo (.agg #[.int .i64 x.num, .int .i64 x.den, .string (str x.text)]) (.agg #[.int .i64 y.num, .int .i64 y.den, .string (str y.text)]); binOp .eql 36 (.agg #[.int .i64 x.num, .int .i64 x.den, .string (str x.text)]) (.agg #[.int .i64 y.num, .int .i64 y.den, .string (str y.text)]) : Sem Value).run Try.prog w = .ok (.bool (sameIt x y)) w := by
  obtain ⟨a, b, c⟩ := x
  obtain ⟨a', b', c'⟩ := y
  have hg : Try.prog.eqGuardType Try.prog.depth 36 = false := by kernel_rfl
  rw [Sem.run_bind, run_eqGuard_agg w _ _ _ _ _ _ hg, Result.andThen_ok, run_eql_struct]
  rw [run_equalIn_agg w 9999 _ _ _ (by kernel_rfl) (by kernel_rfl)]
  by_cases h1 : a = a' <;> by_cases h2 : b = b' <;> by_cases h3 : c = c'
  all_goals go_simp
  all_goals simp [sameIt, h1, h2, h3]
theorem run_neItem (x y : ItemD) (xo yo : Operand) (w : World) : (do eqGuard .neq 36 xo yo (.agg #[.int .i64 x.num, .int .i64 x.den, .string (str x.text)]) (.agg #[.int .i64 y.num, .int .i64 y.den, .string (str y.text)]); binOp .neq 36 (.agg #[.int .i64 x.num, .int .i64 x.den, .string (str x.text)]) (.agg #[.int .i64 y.num, .int .i64 y.den, .string (str y.text)]) : Sem Value).run Try.prog w = .ok (.bool !(sameIt x y)) w := by
  obtain ⟨a, b, c⟩ := x
  obtain ⟨a', b', c'⟩ := y
  have hg : Try.prog.eqGuardType Try.prog.depth 36 = false := by kernel_rfl
  rw [Sem.run_bind, run_eqGuard_agg w _ _ _ _ _ _ hg, Result.andThen_ok, run_neq_struct]
  rw [run_equalIn_agg w 9999 _ _ _ (by kernel_rfl) (by kernel_rfl)]
  by_cases h1 : a = a' <;> by_cases h2 : b = b' <;> by_cases h3 : c = c'
  all_goals go_simp
  all_goals simp [sameIt, h1, h2, h3]
theorem itT_val {Z : Kn} {ρ : Rho} {x : ItemD} {v : Value} (h : RdT Z ρ (itT x) v) : v = .agg #[.int .i64 x.num, .int .i64 x.den, .string (str x.text)] := by
  obtain ⟨vs, rfl, h1, _⟩ := h.agI
  obtain ⟨v1, vs1, rfl, a1, h1⟩ := h1.uncons
  obtain ⟨v2, vs2, rfl, a2, h1⟩ := h1.uncons
  obtain ⟨v3, vs3, rfl, a3, h1⟩ := h1.uncons
  obtain rfl := h1.unnil
  rw [a1.cI.intI, a2.cI.intI, strI' a3.cI]
theorem Val_eqIt {X : Ctx} (hX : X.P = Try.prog) {a : Vm.Slots} {m : Mem} {o : Oper} {xo yo : Operand} (x y : ItemD) (hq : bopQ a o = some (.eql, 36, xo, yo)) (hx : evT a xo = itT x) (hy : evT a yo = itT y) : Val X a m o (.q (sameIt x y)) :=
  Val_binop hq fun Z ρ u v h1 h2 => by
    rw [hx] at h1
    rw [hy] at h2
    obtain rfl := itT_val h1
    obtain rfl := itT_val h2
    refine ⟨.bool (sameIt x y), fun w => ?_, .q _⟩
    rw [hX]
    exact run_eqItem x y xo yo w
theorem Val_neIt {X : Ctx} (hX : X.P = Try.prog) {a : Vm.Slots} {m : Mem} {o : Oper} {xo yo : Operand} (x y : ItemD) (hq : bopQ a o = some (.neq, 36, xo, yo)) (hx : evT a xo = itT x) (hy : evT a yo = itT y) : Val X a m o (.q !(sameIt x y)) :=
  Val_binop hq fun Z ρ u v h1 h2 => by
    rw [hx] at h1
    rw [hy] at h2
    obtain rfl := itT_val h1
    obtain rfl := itT_val h2
    refine ⟨.bool !(sameIt x y), fun w => ?_, .q _⟩
    rw [hX]
    exact run_neItem x y xo yo w
end Go.Proofs.Ytjdimlhdkmkmbaa
