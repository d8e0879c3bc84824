/-
  Contract: impl.instrRight.
-/
import Derived.Test.YtjdfancbmjnjfaaGreatChk3b
import Derived.Test.YtjdfancbmjnjfaaGreatChk3c
namespace Go.Proofs.YtjdfancbmjnjfaaGreat
set_option maxRecDepth 100000
open Go.ChangeShapes Go.WideShapes Go.ChangeAt Go.RowKit Go.Deep
set_option linter.unusedVariables false
set_option linter.unusedSimpArgs false

theorem impl_instrRight (d : InstrD) (cs : List Value) (w : World) (h : InstrR w cs d) (hz : szInstr d ≤ 1000000000000) :
    Calls Tryz.prog 57 #[.agg cs.toArray] w (RetB (insI d) w) := by
  by_cases h0 : 0 ≤ d.op
  · by_cases h1 : d.op ≤ 33
    · exact op34 (P := InstrRightC) impl_instrRight_0 (impl_instrRight_c1 1 (by decide)) (impl_instrRight_c1 2 (by decide)) impl_instrRight_3 impl_instrRight_4 impl_instrRight_5 impl_instrRight_6 (impl_instrRight_c1 7 (by decide)) (impl_instrRight_c1 8 (by decide)) (impl_instrRight_c9 9 (by decide)) (impl_instrRight_c9 10 (by decide)) (impl_instrRight_c1 11 (by decide)) (impl_instrRight_c12 12 (by decide)) (impl_instrRight_c13 13 (by decide)) (impl_instrRight_c13 14 (by decide)) (impl_instrRight_c13 15 (by decide)) (impl_instrRight_c13 16 (by decide)) (impl_instrRight_c17 17 (by decide)) (impl_instrRight_c12 18 (by decide)) impl_instrRight_19 (impl_instrRight_c17 20 (by decide)) (impl_instrRight_c17 21 (by decide)) (impl_instrRight_c17 22 (by decide)) (impl_instrRight_c17 23 (by decide)) (impl_instrRight_c24 24 (by decide)) (impl_instrRight_c24 25 (by decide)) (impl_instrRight_c26 26 (by decide)) (impl_instrRight_c27 27 (by decide)) impl_instrRight_28 (impl_instrRight_c27 29 (by decide)) (impl_instrRight_c27 30 (by decide)) impl_instrRight_31 (impl_instrRight_c27 32 (by decide)) (impl_instrRight_c26 33 (by decide)) d.op h0 h1 d cs w rfl h hz
    · have HN := Lib.hid (show insI d = false by simp [insI, insR, h1])
      obtain ⟨v4, v51, v52, v53, v54, v55, rfl, _⟩ := h
      go_enter Tryz.func57, Tryz.ntmps57
      go_wp2_with fail
      go_ret
      exact ⟨ret_bool HN.out.symm, (Below.refl _ _).alloc (Nat.le_refl _) _⟩
  · have HN := Lib.hid (show insI d = false by simp [insI, insR, h0])
    obtain ⟨v4, v51, v52, v53, v54, v55, rfl, _⟩ := h
    go_enter Tryz.func57, Tryz.ntmps57
    go_wp2_with fail
    go_ret
    exact ⟨ret_bool HN.out.symm, (Below.refl _ _).alloc (Nat.le_refl _) _⟩
end Go.Proofs.YtjdfancbmjnjfaaGreat
