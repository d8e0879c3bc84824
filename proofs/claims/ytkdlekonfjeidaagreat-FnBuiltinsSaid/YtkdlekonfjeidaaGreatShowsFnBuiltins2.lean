/-
  Programs that the law FnBuiltins looks at: each shows the line that the law wants.
-/
import Derived.Test.YtkdlekonfjeidaaGreatEngCut
import Derived.Test.YtkdlekonfjeidaaGreatEngCall
namespace Go.Proofs.YtkdlekonfjeidaaGreat
set_option maxRecDepth 100000
open Go.Proofs.YtkdlekonfjeidaaGreat.Eng
namespace fnBuiltins
set_option maxRecDepth 100000 in
theorem sh2 : isT ((RR Tryz.prog 3000).fn 10 [.str [108, 105, 115, 116], .sl 1 0 1 1] (hOne [60, 102, 117, 110, 99, 116, 105, 111, 110, 62])) = true := by kernel_rfl
set_option maxRecDepth 100000 in
theorem sh5 : isT ((RR Tryz.prog 3000).fn 10 [.str [102, 32, 60, 45, 32, 115, 116, 114, 117, 99, 116, 117, 114, 101, 10, 105, 115, 46, 110, 117, 108, 108, 40, 102, 41], .sl 1 0 1 1] (hOne [70, 65, 76, 83, 69])) = true := by kernel_rfl
set_option maxRecDepth 100000 in
theorem sh8 : isT ((RR Tryz.prog 3000).fn 10 [.str [110, 97, 109, 101, 115], .sl 1 0 1 1] (hOne [60, 102, 117, 110, 99, 116, 105, 111, 110, 62])) = true := by kernel_rfl
set_option maxRecDepth 100000 in
theorem sh11 : isT ((RR Tryz.prog 3000).fn 10 [.str [102, 32, 60, 45, 32, 99, 108, 97, 115, 115, 10, 105, 115, 46, 110, 117, 108, 108, 40, 102, 41], .sl 1 0 1 1] (hOne [70, 65, 76, 83, 69])) = true := by kernel_rfl
set_option maxRecDepth 100000 in
theorem sh14 : isT ((RR Tryz.prog 3000).fn 10 [.str [117, 110, 99, 108, 97, 115, 115], .sl 1 0 1 1] (hOne [60, 102, 117, 110, 99, 116, 105, 111, 110, 62])) = true := by kernel_rfl
set_option maxRecDepth 100000 in
theorem sh17 : isT ((RR Tryz.prog 3000).fn 10 [.str [102, 32, 60, 45, 32, 115, 117, 109, 10, 105, 115, 46, 110, 117, 108, 108, 40, 102, 41], .sl 1 0 1 1] (hOne [70, 65, 76, 83, 69])) = true := by kernel_rfl
set_option maxRecDepth 100000 in
theorem sh20 : isT ((RR Tryz.prog 3000).fn 10 [.str [97, 108, 108], .sl 1 0 1 1] (hOne [60, 102, 117, 110, 99, 116, 105, 111, 110, 62])) = true := by kernel_rfl
set_option maxRecDepth 100000 in
theorem sh23 : isT ((RR Tryz.prog 3000).fn 10 [.str [102, 32, 60, 45, 32, 114, 101, 118, 10, 105, 115, 46, 110, 117, 108, 108, 40, 102, 41], .sl 1 0 1 1] (hOne [70, 65, 76, 83, 69])) = true := by kernel_rfl
set_option maxRecDepth 100000 in
theorem sh26 : isT ((RR Tryz.prog 3000).fn 10 [.str [115, 101, 113], .sl 1 0 1 1] (hOne [60, 102, 117, 110, 99, 116, 105, 111, 110, 62])) = true := by kernel_rfl
set_option maxRecDepth 100000 in
theorem sh29 : isT ((RR Tryz.prog 3000).fn 10 [.str [102, 32, 60, 45, 32, 112, 97, 115, 116, 101, 10, 105, 115, 46, 110, 117, 108, 108, 40, 102, 41], .sl 1 0 1 1] (hOne [70, 65, 76, 83, 69])) = true := by kernel_rfl
set_option maxRecDepth 100000 in
theorem sh32 : isT ((RR Tryz.prog 3000).fn 10 [.str [105, 115, 46, 110, 97], .sl 1 0 1 1] (hOne [60, 102, 117, 110, 99, 116, 105, 111, 110, 62])) = true := by kernel_rfl
set_option maxRecDepth 100000 in
theorem sh35 : isT ((RR Tryz.prog 3000).fn 10 [.str [102, 32, 60, 45, 32, 105, 115, 46, 110, 117, 108, 108, 10, 105, 115, 46, 110, 117, 108, 108, 40, 102, 41], .sl 1 0 1 1] (hOne [70, 65, 76, 83, 69])) = true := by kernel_rfl
set_option maxRecDepth 100000 in
theorem sh38 : isT ((RR Tryz.prog 3000).fn 10 [.str [105, 100, 101, 110, 116, 105, 99, 97, 108], .sl 1 0 1 1] (hOne [60, 102, 117, 110, 99, 116, 105, 111, 110, 62])) = true := by kernel_rfl
set_option maxRecDepth 100000 in
theorem sh41 : isT ((RR Tryz.prog 3000).fn 10 [.str [102, 32, 60, 45, 32, 110, 117, 109, 101, 114, 105, 99, 10, 105, 115, 46, 110, 117, 108, 108, 40, 102, 41], .sl 1 0 1 1] (hOne [70, 65, 76, 83, 69])) = true := by kernel_rfl
set_option maxRecDepth 100000 in
theorem sh44 : isT ((RR Tryz.prog 3000).fn 10 [.str [99, 104, 97, 114, 97, 99, 116, 101, 114], .sl 1 0 1 1] (hOne [60, 102, 117, 110, 99, 116, 105, 111, 110, 62])) = true := by kernel_rfl
set_option maxRecDepth 100000 in
theorem sh47 : isT ((RR Tryz.prog 3000).fn 10 [.str [102, 32, 60, 45, 32, 99, 111, 110, 100, 105, 116, 105, 111, 110, 77, 101, 115, 115, 97, 103, 101, 10, 105, 115, 46, 110, 117, 108, 108, 40, 102, 41], .sl 1 0 1 1] (hOne [70, 65, 76, 83, 69])) = true := by kernel_rfl
set_option maxRecDepth 100000 in
theorem sh50 : isT ((RR Tryz.prog 3000).fn 10 [.str [96, 99, 108, 97, 115, 115, 60, 45, 96], .sl 1 0 1 1] (hOne [60, 102, 117, 110, 99, 116, 105, 111, 110, 62])) = true := by kernel_rfl
set_option maxRecDepth 100000 in
theorem sh53 : isT ((RR Tryz.prog 3000).fn 10 [.str [102, 32, 60, 45, 32, 96, 108, 101, 118, 101, 108, 115, 60, 45, 96, 10, 105, 115, 46, 110, 117, 108, 108, 40, 102, 41], .sl 1 0 1 1] (hOne [70, 65, 76, 83, 69])) = true := by kernel_rfl
set_option maxRecDepth 100000 in
theorem sh56 : isT ((RR Tryz.prog 3000).fn 10 [.str [99, 97, 116], .sl 1 0 1 1] (hOne [60, 102, 117, 110, 99, 116, 105, 111, 110, 62])) = true := by kernel_rfl
set_option maxRecDepth 100000 in
theorem sh59 : isT ((RR Tryz.prog 3000).fn 10 [.str [102, 32, 60, 45, 32, 115, 116, 111, 112, 10, 105, 115, 46, 110, 117, 108, 108, 40, 102, 41], .sl 1 0 1 1] (hOne [70, 65, 76, 83, 69])) = true := by kernel_rfl
set_option maxRecDepth 100000 in
theorem sh62 : isT ((RR Tryz.prog 3000).fn 10 [.str [115, 105, 103, 110, 97, 108], .sl 1 0 1 1] (hOne [60, 102, 117, 110, 99, 116, 105, 111, 110, 62])) = true := by kernel_rfl
set_option maxRecDepth 100000 in
theorem sh65 : isT ((RR Tryz.prog 3000).fn 10 [.str [102, 32, 60, 45, 32, 114, 97, 110, 100, 111, 109, 10, 105, 115, 46, 110, 117, 108, 108, 40, 102, 41], .sl 1 0 1 1] (hOne [70, 65, 76, 83, 69])) = true := by kernel_rfl
end fnBuiltins
end Go.Proofs.YtkdlekonfjeidaaGreat
