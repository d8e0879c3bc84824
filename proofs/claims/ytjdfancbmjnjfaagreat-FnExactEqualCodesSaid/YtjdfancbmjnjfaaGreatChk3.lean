/-
  Contract: impl.instrRight.
-/
import Derived.Test.YtjdfancbmjnjfaaGreatChk3b
import Derived.Test.YtjdfancbmjnjfaaGreatChk3c
namespace Go.Proofs.YtjdfancbmjnjfaaGreat
set_option maxRecDepth 100000
open Go.ChangeShapes Go.WideShapes Go.ChangeAt Go.RowKit Go.Deep
set_option linter.unusedVariables false
set_option linter.unusedSimpArgs false

theorem impl_instrRight (d : InstrD) (cs : List Value) (w : World) (h : InstrR w cs d) (hz : szInstr d ≤ 1000000000000) :
    Calls Tryz.prog 57 #[.agg cs.toArray] w (RetB (insI d) w) := by
  by_cases h0 : 0 ≤ d.op
  · by_cases h1 : d.op ≤ 33
    · exact op34 (P := InstrRightC) impl_instrRight_0 impl_instrRight_1 impl_instrRight_2 impl_instrRight_3 impl_instrRight_4 impl_instrRight_5 impl_instrRight_6 impl_instrRight_7 impl_instrRight_8 impl_instrRight_9 impl_instrRight_10 impl_instrRight_11 impl_instrRight_12 impl_instrRight_13 impl_instrRight_14 impl_instrRight_15 impl_instrRight_16 impl_instrRight_17 impl_instrRight_18 impl_instrRight_19 impl_instrRight_20 impl_instrRight_21 impl_instrRight_22 impl_instrRight_23 impl_instrRight_24 impl_instrRight_25 impl_instrRight_26 impl_instrRight_27 impl_instrRight_28 impl_instrRight_29 impl_instrRight_30 impl_instrRight_31 impl_instrRight_32 impl_instrRight_33 d.op h0 h1 d cs w rfl h hz
    · have HN := Lib.hid (show insI d = false by simp [insI, insR, h1])
      obtain ⟨v4, v51, v52, v53, v54, v55, rfl, _⟩ := h
      go_enter Tryz.func57, Tryz.ntmps57
      go_wp2_with fail
      go_ret
      exact ⟨ret_bool HN.out.symm, (Below.refl _ _).alloc (Nat.le_refl _) _⟩
  · have HN := Lib.hid (show insI d = false by simp [insI, insR, h0])
    obtain ⟨v4, v51, v52, v53, v54, v55, rfl, _⟩ := h
    go_enter Tryz.func57, Tryz.ntmps57
    go_wp2_with fail
    go_ret
    exact ⟨ret_bool HN.out.symm, (Below.refl _ _).alloc (Nat.le_refl _) _⟩
end Go.Proofs.YtjdfancbmjnjfaaGreat
