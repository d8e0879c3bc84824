/-
  Runs of programs that the law FnBreaks looks at: each ends with the transcript that is written here.
-/
import Derived.Test.YtdnnhlienddkoaaGreatEngSeat
namespace Go.Proofs.YtdnnhlienddkoaaGreat
set_option maxRecDepth 100000
open Go.Proofs.YtdnnhlienddkoaaGreat.Eng
namespace fnBreaks
def s3 : List Nat := [102, 111, 114, 32, 40, 105, 32, 105, 110, 32, 49, 58, 55, 41, 32, 123, 32, 105, 102, 32, 40, 105, 32, 61, 61, 32, 49, 41, 32, 110, 101, 120, 116, 59, 32, 112, 114, 105, 110, 116, 40, 105, 41, 32, 125]
def t3 : TR := ⟨0, (some [[50], [51], [52], [53], [54], [55]]), (some []), 7, 1⟩
set_option maxRecDepth 100000 in
theorem run3 : RunsTo Tryz.prog 12 s3 t3 := run_at (by kernel_rfl)
def s9 : List Nat := [102, 111, 114, 32, 40, 105, 32, 105, 110, 32, 49, 58, 55, 41, 32, 123, 32, 105, 102, 32, 40, 105, 32, 61, 61, 32, 52, 41, 32, 110, 101, 120, 116, 59, 32, 112, 114, 105, 110, 116, 40, 105, 41, 32, 125]
def t9 : TR := ⟨0, (some [[49], [50], [51], [53], [54], [55]]), (some []), 7, 1⟩
set_option maxRecDepth 100000 in
theorem run9 : RunsTo Tryz.prog 12 s9 t9 := run_at (by kernel_rfl)
def s15 : List Nat := [102, 111, 114, 32, 40, 105, 32, 105, 110, 32, 49, 58, 55, 41, 32, 123, 32, 105, 102, 32, 40, 105, 32, 61, 61, 32, 55, 41, 32, 110, 101, 120, 116, 59, 32, 112, 114, 105, 110, 116, 40, 105, 41, 32, 125]
def t15 : TR := ⟨0, (some [[49], [50], [51], [52], [53], [54]]), (some []), 7, 1⟩
set_option maxRecDepth 100000 in
theorem run15 : RunsTo Tryz.prog 12 s15 t15 := run_at (by kernel_rfl)
end fnBreaks
end Go.Proofs.YtdnnhlienddkoaaGreat
