/-
  Runs of programs that the law FnBreaks looks at: each ends with the transcript that is written here.
-/
import Derived.Test.YtdnnhlienddkoaaGreatEngSeat
namespace Go.Proofs.YtdnnhlienddkoaaGreat
set_option maxRecDepth 100000
open Go.Proofs.YtdnnhlienddkoaaGreat.Eng
namespace fnBreaks
def s1 : List Nat := [102, 111, 114, 32, 40, 105, 32, 105, 110, 32, 49, 58, 55, 41, 32, 123, 32, 105, 102, 32, 40, 105, 32, 61, 61, 32, 48, 41, 32, 110, 101, 120, 116, 59, 32, 112, 114, 105, 110, 116, 40, 105, 41, 32, 125]
def t1 : TR := ⟨0, (some [[49], [50], [51], [52], [53], [54], [55]]), (some []), 7, 1⟩
set_option maxRecDepth 100000 in
theorem run1 : RunsTo Tryz.prog 12 s1 t1 := run_at (by kernel_rfl)
def s7 : List Nat := [102, 111, 114, 32, 40, 105, 32, 105, 110, 32, 49, 58, 55, 41, 32, 123, 32, 105, 102, 32, 40, 105, 32, 61, 61, 32, 51, 41, 32, 110, 101, 120, 116, 59, 32, 112, 114, 105, 110, 116, 40, 105, 41, 32, 125]
def t7 : TR := ⟨0, (some [[49], [50], [52], [53], [54], [55]]), (some []), 7, 1⟩
set_option maxRecDepth 100000 in
theorem run7 : RunsTo Tryz.prog 12 s7 t7 := run_at (by kernel_rfl)
def s13 : List Nat := [102, 111, 114, 32, 40, 105, 32, 105, 110, 32, 49, 58, 55, 41, 32, 123, 32, 105, 102, 32, 40, 105, 32, 61, 61, 32, 54, 41, 32, 110, 101, 120, 116, 59, 32, 112, 114, 105, 110, 116, 40, 105, 41, 32, 125]
def t13 : TR := ⟨0, (some [[49], [50], [51], [52], [53], [55]]), (some []), 7, 1⟩
set_option maxRecDepth 100000 in
theorem run13 : RunsTo Tryz.prog 12 s13 t13 := run_at (by kernel_rfl)
end fnBreaks
end Go.Proofs.YtdnnhlienddkoaaGreat
