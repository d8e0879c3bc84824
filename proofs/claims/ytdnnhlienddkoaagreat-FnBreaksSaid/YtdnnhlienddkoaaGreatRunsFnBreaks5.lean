/-
  Runs of programs that the law FnBreaks looks at: each ends with the transcript that is written here.
-/
import Derived.Test.YtdnnhlienddkoaaGreatEngSeat
namespace Go.Proofs.YtdnnhlienddkoaaGreat
set_option maxRecDepth 100000
open Go.Proofs.YtdnnhlienddkoaaGreat.Eng
namespace fnBreaks
def s5 : List Nat := [102, 111, 114, 32, 40, 105, 32, 105, 110, 32, 49, 58, 55, 41, 32, 123, 32, 105, 102, 32, 40, 105, 32, 61, 61, 32, 50, 41, 32, 110, 101, 120, 116, 59, 32, 112, 114, 105, 110, 116, 40, 105, 41, 32, 125]
def t5 : TR := ⟨0, (some [[49], [51], [52], [53], [54], [55]]), (some []), 7, 1⟩
set_option maxRecDepth 100000 in
theorem run5 : RunsTo Tryz.prog 12 s5 t5 := run_at (by kernel_rfl)
def s11 : List Nat := [102, 111, 114, 32, 40, 105, 32, 105, 110, 32, 49, 58, 55, 41, 32, 123, 32, 105, 102, 32, 40, 105, 32, 61, 61, 32, 53, 41, 32, 110, 101, 120, 116, 59, 32, 112, 114, 105, 110, 116, 40, 105, 41, 32, 125]
def t11 : TR := ⟨0, (some [[49], [50], [51], [52], [54], [55]]), (some []), 7, 1⟩
set_option maxRecDepth 100000 in
theorem run11 : RunsTo Tryz.prog 12 s11 t11 := run_at (by kernel_rfl)
def s17 : List Nat := [102, 111, 114, 32, 40, 105, 32, 105, 110, 32, 49, 58, 55, 41, 32, 123, 32, 105, 102, 32, 40, 105, 32, 61, 61, 32, 56, 41, 32, 110, 101, 120, 116, 59, 32, 112, 114, 105, 110, 116, 40, 105, 41, 32, 125]
def t17 : TR := ⟨0, (some [[49], [50], [51], [52], [53], [54], [55]]), (some []), 7, 1⟩
set_option maxRecDepth 100000 in
theorem run17 : RunsTo Tryz.prog 12 s17 t17 := run_at (by kernel_rfl)
end fnBreaks
end Go.Proofs.YtdnnhlienddkoaaGreat
