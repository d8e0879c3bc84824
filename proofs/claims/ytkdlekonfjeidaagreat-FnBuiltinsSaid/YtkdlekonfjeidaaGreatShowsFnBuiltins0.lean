/-
  Programs that the law FnBuiltins looks at: each shows the line that the law wants.
-/
import Derived.Test.YtkdlekonfjeidaaGreatEngCut
import Derived.Test.YtkdlekonfjeidaaGreatEngCall
namespace Go.Proofs.YtkdlekonfjeidaaGreat
set_option maxRecDepth 100000
open Go.Proofs.YtkdlekonfjeidaaGreat.Eng
namespace fnBuiltins
set_option maxRecDepth 100000 in
theorem sh0 : isT ((RR Tryz.prog 3000).fn 10 [.str [99], .sl 1 0 1 1] (hOne [60, 102, 117, 110, 99, 116, 105, 111, 110, 62])) = true := by kernel_rfl
set_option maxRecDepth 100000 in
theorem sh3 : isT ((RR Tryz.prog 3000).fn 10 [.str [102, 32, 60, 45, 32, 108, 105, 115, 116, 10, 105, 115, 46, 110, 117, 108, 108, 40, 102, 41], .sl 1 0 1 1] (hOne [70, 65, 76, 83, 69])) = true := by kernel_rfl
set_option maxRecDepth 100000 in
theorem sh6 : isT ((RR Tryz.prog 3000).fn 10 [.str [108, 101, 110, 103, 116, 104], .sl 1 0 1 1] (hOne [60, 102, 117, 110, 99, 116, 105, 111, 110, 62])) = true := by kernel_rfl
set_option maxRecDepth 100000 in
theorem sh9 : isT ((RR Tryz.prog 3000).fn 10 [.str [102, 32, 60, 45, 32, 110, 97, 109, 101, 115, 10, 105, 115, 46, 110, 117, 108, 108, 40, 102, 41], .sl 1 0 1 1] (hOne [70, 65, 76, 83, 69])) = true := by kernel_rfl
set_option maxRecDepth 100000 in
theorem sh12 : isT ((RR Tryz.prog 3000).fn 10 [.str [108, 101, 118, 101, 108, 115], .sl 1 0 1 1] (hOne [60, 102, 117, 110, 99, 116, 105, 111, 110, 62])) = true := by kernel_rfl
set_option maxRecDepth 100000 in
theorem sh15 : isT ((RR Tryz.prog 3000).fn 10 [.str [102, 32, 60, 45, 32, 117, 110, 99, 108, 97, 115, 115, 10, 105, 115, 46, 110, 117, 108, 108, 40, 102, 41], .sl 1 0 1 1] (hOne [70, 65, 76, 83, 69])) = true := by kernel_rfl
set_option maxRecDepth 100000 in
theorem sh18 : isT ((RR Tryz.prog 3000).fn 10 [.str [97, 110, 121], .sl 1 0 1 1] (hOne [60, 102, 117, 110, 99, 116, 105, 111, 110, 62])) = true := by kernel_rfl
set_option maxRecDepth 100000 in
theorem sh21 : isT ((RR Tryz.prog 3000).fn 10 [.str [102, 32, 60, 45, 32, 97, 108, 108, 10, 105, 115, 46, 110, 117, 108, 108, 40, 102, 41], .sl 1 0 1 1] (hOne [70, 65, 76, 83, 69])) = true := by kernel_rfl
set_option maxRecDepth 100000 in
theorem sh24 : isT ((RR Tryz.prog 3000).fn 10 [.str [114, 101, 112], .sl 1 0 1 1] (hOne [60, 102, 117, 110, 99, 116, 105, 111, 110, 62])) = true := by kernel_rfl
set_option maxRecDepth 100000 in
theorem sh27 : isT ((RR Tryz.prog 3000).fn 10 [.str [102, 32, 60, 45, 32, 115, 101, 113, 10, 105, 115, 46, 110, 117, 108, 108, 40, 102, 41], .sl 1 0 1 1] (hOne [70, 65, 76, 83, 69])) = true := by kernel_rfl
set_option maxRecDepth 100000 in
theorem sh30 : isT ((RR Tryz.prog 3000).fn 10 [.str [110, 99, 104, 97, 114], .sl 1 0 1 1] (hOne [60, 102, 117, 110, 99, 116, 105, 111, 110, 62])) = true := by kernel_rfl
set_option maxRecDepth 100000 in
theorem sh33 : isT ((RR Tryz.prog 3000).fn 10 [.str [102, 32, 60, 45, 32, 105, 115, 46, 110, 97, 10, 105, 115, 46, 110, 117, 108, 108, 40, 102, 41], .sl 1 0 1 1] (hOne [70, 65, 76, 83, 69])) = true := by kernel_rfl
set_option maxRecDepth 100000 in
theorem sh36 : isT ((RR Tryz.prog 3000).fn 10 [.str [105, 110, 104, 101, 114, 105, 116, 115], .sl 1 0 1 1] (hOne [60, 102, 117, 110, 99, 116, 105, 111, 110, 62])) = true := by kernel_rfl
set_option maxRecDepth 100000 in
theorem sh39 : isT ((RR Tryz.prog 3000).fn 10 [.str [102, 32, 60, 45, 32, 105, 100, 101, 110, 116, 105, 99, 97, 108, 10, 105, 115, 46, 110, 117, 108, 108, 40, 102, 41], .sl 1 0 1 1] (hOne [70, 65, 76, 83, 69])) = true := by kernel_rfl
set_option maxRecDepth 100000 in
theorem sh42 : isT ((RR Tryz.prog 3000).fn 10 [.str [108, 111, 103, 105, 99, 97, 108], .sl 1 0 1 1] (hOne [60, 102, 117, 110, 99, 116, 105, 111, 110, 62])) = true := by kernel_rfl
set_option maxRecDepth 100000 in
theorem sh45 : isT ((RR Tryz.prog 3000).fn 10 [.str [102, 32, 60, 45, 32, 99, 104, 97, 114, 97, 99, 116, 101, 114, 10, 105, 115, 46, 110, 117, 108, 108, 40, 102, 41], .sl 1 0 1 1] (hOne [70, 65, 76, 83, 69])) = true := by kernel_rfl
set_option maxRecDepth 100000 in
theorem sh48 : isT ((RR Tryz.prog 3000).fn 10 [.str [96, 110, 97, 109, 101, 115, 60, 45, 96], .sl 1 0 1 1] (hOne [60, 102, 117, 110, 99, 116, 105, 111, 110, 62])) = true := by kernel_rfl
set_option maxRecDepth 100000 in
theorem sh51 : isT ((RR Tryz.prog 3000).fn 10 [.str [102, 32, 60, 45, 32, 96, 99, 108, 97, 115, 115, 60, 45, 96, 10, 105, 115, 46, 110, 117, 108, 108, 40, 102, 41], .sl 1 0 1 1] (hOne [70, 65, 76, 83, 69])) = true := by kernel_rfl
set_option maxRecDepth 100000 in
theorem sh54 : isT ((RR Tryz.prog 3000).fn 10 [.str [112, 114, 105, 110, 116], .sl 1 0 1 1] (hOne [60, 102, 117, 110, 99, 116, 105, 111, 110, 62])) = true := by kernel_rfl
set_option maxRecDepth 100000 in
theorem sh57 : isT ((RR Tryz.prog 3000).fn 10 [.str [102, 32, 60, 45, 32, 99, 97, 116, 10, 105, 115, 46, 110, 117, 108, 108, 40, 102, 41], .sl 1 0 1 1] (hOne [70, 65, 76, 83, 69])) = true := by kernel_rfl
set_option maxRecDepth 100000 in
theorem sh60 : isT ((RR Tryz.prog 3000).fn 10 [.str [119, 97, 114, 110, 105, 110, 103], .sl 1 0 1 1] (hOne [60, 102, 117, 110, 99, 116, 105, 111, 110, 62])) = true := by kernel_rfl
set_option maxRecDepth 100000 in
theorem sh63 : isT ((RR Tryz.prog 3000).fn 10 [.str [102, 32, 60, 45, 32, 115, 105, 103, 110, 97, 108, 10, 105, 115, 46, 110, 117, 108, 108, 40, 102, 41], .sl 1 0 1 1] (hOne [70, 65, 76, 83, 69])) = true := by kernel_rfl
set_option maxRecDepth 100000 in
theorem sh66 : isT ((RR Tryz.prog 3000).fn 10 [.str [115, 101, 101, 100], .sl 1 0 1 1] (hOne [60, 102, 117, 110, 99, 116, 105, 111, 110, 62])) = true := by kernel_rfl
end fnBuiltins
end Go.Proofs.YtkdlekonfjeidaaGreat
