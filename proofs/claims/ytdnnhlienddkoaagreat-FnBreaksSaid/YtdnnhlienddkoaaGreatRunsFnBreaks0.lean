/-
  Runs of programs that the law FnBreaks looks at: each ends with the transcript that is written here.
-/
import Derived.Test.YtdnnhlienddkoaaGreatEngSeat
namespace Go.Proofs.YtdnnhlienddkoaaGreat
set_option maxRecDepth 100000
open Go.Proofs.YtdnnhlienddkoaaGreat.Eng
namespace fnBreaks
def s0 : List Nat := [102, 111, 114, 32, 40, 105, 32, 105, 110, 32, 49, 58, 55, 41, 32, 123, 32, 105, 102, 32, 40, 105, 32, 61, 61, 32, 48, 41, 32, 98, 114, 101, 97, 107, 32, 101, 108, 115, 101, 32, 102, 111, 114, 32, 40, 106, 32, 105, 110, 32, 49, 58, 50, 41, 32, 98, 114, 101, 97, 107, 59, 32, 112, 114, 105, 110, 116, 40, 105, 41, 32, 125]
def t0 : TR := ⟨0, (some [[49], [50], [51], [52], [53], [54], [55]]), (some []), 7, 1⟩
set_option maxRecDepth 100000 in
theorem run0 : RunsTo Tryz.prog 12 s0 t0 := run_at (by kernel_rfl)
def s6 : List Nat := [102, 111, 114, 32, 40, 105, 32, 105, 110, 32, 49, 58, 55, 41, 32, 123, 32, 105, 102, 32, 40, 105, 32, 61, 61, 32, 51, 41, 32, 98, 114, 101, 97, 107, 32, 101, 108, 115, 101, 32, 102, 111, 114, 32, 40, 106, 32, 105, 110, 32, 49, 58, 50, 41, 32, 98, 114, 101, 97, 107, 59, 32, 112, 114, 105, 110, 116, 40, 105, 41, 32, 125]
def t6 : TR := ⟨0, (some [[49], [50]]), (some []), 2, 1⟩
set_option maxRecDepth 100000 in
theorem run6 : RunsTo Tryz.prog 12 s6 t6 := run_at (by kernel_rfl)
def s12 : List Nat := [102, 111, 114, 32, 40, 105, 32, 105, 110, 32, 49, 58, 55, 41, 32, 123, 32, 105, 102, 32, 40, 105, 32, 61, 61, 32, 54, 41, 32, 98, 114, 101, 97, 107, 32, 101, 108, 115, 101, 32, 102, 111, 114, 32, 40, 106, 32, 105, 110, 32, 49, 58, 50, 41, 32, 98, 114, 101, 97, 107, 59, 32, 112, 114, 105, 110, 116, 40, 105, 41, 32, 125]
def t12 : TR := ⟨0, (some [[49], [50], [51], [52], [53]]), (some []), 5, 1⟩
set_option maxRecDepth 100000 in
theorem run12 : RunsTo Tryz.prog 12 s12 t12 := run_at (by kernel_rfl)
end fnBreaks
end Go.Proofs.YtdnnhlienddkoaaGreat
