/-
  Programs that the law FnBuiltins looks at: each shows the line that the law wants.
-/
import Derived.Test.YtkdlekonfjeidaaGreatEngCut
import Derived.Test.YtkdlekonfjeidaaGreatEngCall
namespace Go.Proofs.YtkdlekonfjeidaaGreat
set_option maxRecDepth 100000
open Go.Proofs.YtkdlekonfjeidaaGreat.Eng
namespace fnBuiltins
set_option maxRecDepth 100000 in
theorem sh1 : isT ((RR Tryz.prog 3000).fn 10 [.str [102, 32, 60, 45, 32, 99, 10, 105, 115, 46, 110, 117, 108, 108, 40, 102, 41], .sl 1 0 1 1] (hOne [70, 65, 76, 83, 69])) = true := by kernel_rfl
set_option maxRecDepth 100000 in
theorem sh4 : isT ((RR Tryz.prog 3000).fn 10 [.str [115, 116, 114, 117, 99, 116, 117, 114, 101], .sl 1 0 1 1] (hOne [60, 102, 117, 110, 99, 116, 105, 111, 110, 62])) = true := by kernel_rfl
set_option maxRecDepth 100000 in
theorem sh7 : isT ((RR Tryz.prog 3000).fn 10 [.str [102, 32, 60, 45, 32, 108, 101, 110, 103, 116, 104, 10, 105, 115, 46, 110, 117, 108, 108, 40, 102, 41], .sl 1 0 1 1] (hOne [70, 65, 76, 83, 69])) = true := by kernel_rfl
set_option maxRecDepth 100000 in
theorem sh10 : isT ((RR Tryz.prog 3000).fn 10 [.str [99, 108, 97, 115, 115], .sl 1 0 1 1] (hOne [60, 102, 117, 110, 99, 116, 105, 111, 110, 62])) = true := by kernel_rfl
set_option maxRecDepth 100000 in
theorem sh13 : isT ((RR Tryz.prog 3000).fn 10 [.str [102, 32, 60, 45, 32, 108, 101, 118, 101, 108, 115, 10, 105, 115, 46, 110, 117, 108, 108, 40, 102, 41], .sl 1 0 1 1] (hOne [70, 65, 76, 83, 69])) = true := by kernel_rfl
set_option maxRecDepth 100000 in
theorem sh16 : isT ((RR Tryz.prog 3000).fn 10 [.str [115, 117, 109], .sl 1 0 1 1] (hOne [60, 102, 117, 110, 99, 116, 105, 111, 110, 62])) = true := by kernel_rfl
set_option maxRecDepth 100000 in
theorem sh19 : isT ((RR Tryz.prog 3000).fn 10 [.str [102, 32, 60, 45, 32, 97, 110, 121, 10, 105, 115, 46, 110, 117, 108, 108, 40, 102, 41], .sl 1 0 1 1] (hOne [70, 65, 76, 83, 69])) = true := by kernel_rfl
set_option maxRecDepth 100000 in
theorem sh22 : isT ((RR Tryz.prog 3000).fn 10 [.str [114, 101, 118], .sl 1 0 1 1] (hOne [60, 102, 117, 110, 99, 116, 105, 111, 110, 62])) = true := by kernel_rfl
set_option maxRecDepth 100000 in
theorem sh25 : isT ((RR Tryz.prog 3000).fn 10 [.str [102, 32, 60, 45, 32, 114, 101, 112, 10, 105, 115, 46, 110, 117, 108, 108, 40, 102, 41], .sl 1 0 1 1] (hOne [70, 65, 76, 83, 69])) = true := by kernel_rfl
set_option maxRecDepth 100000 in
theorem sh28 : isT ((RR Tryz.prog 3000).fn 10 [.str [112, 97, 115, 116, 101], .sl 1 0 1 1] (hOne [60, 102, 117, 110, 99, 116, 105, 111, 110, 62])) = true := by kernel_rfl
set_option maxRecDepth 100000 in
theorem sh31 : isT ((RR Tryz.prog 3000).fn 10 [.str [102, 32, 60, 45, 32, 110, 99, 104, 97, 114, 10, 105, 115, 46, 110, 117, 108, 108, 40, 102, 41], .sl 1 0 1 1] (hOne [70, 65, 76, 83, 69])) = true := by kernel_rfl
set_option maxRecDepth 100000 in
theorem sh34 : isT ((RR Tryz.prog 3000).fn 10 [.str [105, 115, 46, 110, 117, 108, 108], .sl 1 0 1 1] (hOne [60, 102, 117, 110, 99, 116, 105, 111, 110, 62])) = true := by kernel_rfl
set_option maxRecDepth 100000 in
theorem sh37 : isT ((RR Tryz.prog 3000).fn 10 [.str [102, 32, 60, 45, 32, 105, 110, 104, 101, 114, 105, 116, 115, 10, 105, 115, 46, 110, 117, 108, 108, 40, 102, 41], .sl 1 0 1 1] (hOne [70, 65, 76, 83, 69])) = true := by kernel_rfl
set_option maxRecDepth 100000 in
theorem sh40 : isT ((RR Tryz.prog 3000).fn 10 [.str [110, 117, 109, 101, 114, 105, 99], .sl 1 0 1 1] (hOne [60, 102, 117, 110, 99, 116, 105, 111, 110, 62])) = true := by kernel_rfl
set_option maxRecDepth 100000 in
theorem sh43 : isT ((RR Tryz.prog 3000).fn 10 [.str [102, 32, 60, 45, 32, 108, 111, 103, 105, 99, 97, 108, 10, 105, 115, 46, 110, 117, 108, 108, 40, 102, 41], .sl 1 0 1 1] (hOne [70, 65, 76, 83, 69])) = true := by kernel_rfl
set_option maxRecDepth 100000 in
theorem sh46 : isT ((RR Tryz.prog 3000).fn 10 [.str [99, 111, 110, 100, 105, 116, 105, 111, 110, 77, 101, 115, 115, 97, 103, 101], .sl 1 0 1 1] (hOne [60, 102, 117, 110, 99, 116, 105, 111, 110, 62])) = true := by kernel_rfl
set_option maxRecDepth 100000 in
theorem sh49 : isT ((RR Tryz.prog 3000).fn 10 [.str [102, 32, 60, 45, 32, 96, 110, 97, 109, 101, 115, 60, 45, 96, 10, 105, 115, 46, 110, 117, 108, 108, 40, 102, 41], .sl 1 0 1 1] (hOne [70, 65, 76, 83, 69])) = true := by kernel_rfl
set_option maxRecDepth 100000 in
theorem sh52 : isT ((RR Tryz.prog 3000).fn 10 [.str [96, 108, 101, 118, 101, 108, 115, 60, 45, 96], .sl 1 0 1 1] (hOne [60, 102, 117, 110, 99, 116, 105, 111, 110, 62])) = true := by kernel_rfl
set_option maxRecDepth 100000 in
theorem sh55 : isT ((RR Tryz.prog 3000).fn 10 [.str [102, 32, 60, 45, 32, 112, 114, 105, 110, 116, 10, 105, 115, 46, 110, 117, 108, 108, 40, 102, 41], .sl 1 0 1 1] (hOne [70, 65, 76, 83, 69])) = true := by kernel_rfl
set_option maxRecDepth 100000 in
theorem sh58 : isT ((RR Tryz.prog 3000).fn 10 [.str [115, 116, 111, 112], .sl 1 0 1 1] (hOne [60, 102, 117, 110, 99, 116, 105, 111, 110, 62])) = true := by kernel_rfl
set_option maxRecDepth 100000 in
theorem sh61 : isT ((RR Tryz.prog 3000).fn 10 [.str [102, 32, 60, 45, 32, 119, 97, 114, 110, 105, 110, 103, 10, 105, 115, 46, 110, 117, 108, 108, 40, 102, 41], .sl 1 0 1 1] (hOne [70, 65, 76, 83, 69])) = true := by kernel_rfl
set_option maxRecDepth 100000 in
theorem sh64 : isT ((RR Tryz.prog 3000).fn 10 [.str [114, 97, 110, 100, 111, 109], .sl 1 0 1 1] (hOne [60, 102, 117, 110, 99, 116, 105, 111, 110, 62])) = true := by kernel_rfl
set_option maxRecDepth 100000 in
theorem sh67 : isT ((RR Tryz.prog 3000).fn 10 [.str [102, 32, 60, 45, 32, 115, 101, 101, 100, 10, 105, 115, 46, 110, 117, 108, 108, 40, 102, 41], .sl 1 0 1 1] (hOne [70, 65, 76, 83, 69])) = true := by kernel_rfl
end fnBuiltins
end Go.Proofs.YtkdlekonfjeidaaGreat
