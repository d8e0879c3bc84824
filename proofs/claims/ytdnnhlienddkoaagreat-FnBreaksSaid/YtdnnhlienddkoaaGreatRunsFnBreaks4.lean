/-
  Runs of programs that the law FnBreaks looks at: each ends with the transcript that is written here.
-/
import Derived.Test.YtdnnhlienddkoaaGreatEngSeat
namespace Go.Proofs.YtdnnhlienddkoaaGreat
set_option maxRecDepth 100000
open Go.Proofs.YtdnnhlienddkoaaGreat.Eng
namespace fnBreaks
def s4 : List Nat := [102, 111, 114, 32, 40, 105, 32, 105, 110, 32, 49, 58, 55, 41, 32, 123, 32, 105, 102, 32, 40, 105, 32, 61, 61, 32, 50, 41, 32, 98, 114, 101, 97, 107, 32, 101, 108, 115, 101, 32, 102, 111, 114, 32, 40, 106, 32, 105, 110, 32, 49, 58, 50, 41, 32, 98, 114, 101, 97, 107, 59, 32, 112, 114, 105, 110, 116, 40, 105, 41, 32, 125]
def t4 : TR := ⟨0, (some [[49]]), (some []), 1, 1⟩
set_option maxRecDepth 100000 in
theorem run4 : RunsTo Tryz.prog 12 s4 t4 := run_at (by kernel_rfl)
def s10 : List Nat := [102, 111, 114, 32, 40, 105, 32, 105, 110, 32, 49, 58, 55, 41, 32, 123, 32, 105, 102, 32, 40, 105, 32, 61, 61, 32, 53, 41, 32, 98, 114, 101, 97, 107, 32, 101, 108, 115, 101, 32, 102, 111, 114, 32, 40, 106, 32, 105, 110, 32, 49, 58, 50, 41, 32, 98, 114, 101, 97, 107, 59, 32, 112, 114, 105, 110, 116, 40, 105, 41, 32, 125]
def t10 : TR := ⟨0, (some [[49], [50], [51], [52]]), (some []), 4, 1⟩
set_option maxRecDepth 100000 in
theorem run10 : RunsTo Tryz.prog 12 s10 t10 := run_at (by kernel_rfl)
def s16 : List Nat := [102, 111, 114, 32, 40, 105, 32, 105, 110, 32, 49, 58, 55, 41, 32, 123, 32, 105, 102, 32, 40, 105, 32, 61, 61, 32, 56, 41, 32, 98, 114, 101, 97, 107, 32, 101, 108, 115, 101, 32, 102, 111, 114, 32, 40, 106, 32, 105, 110, 32, 49, 58, 50, 41, 32, 98, 114, 101, 97, 107, 59, 32, 112, 114, 105, 110, 116, 40, 105, 41, 32, 125]
def t16 : TR := ⟨0, (some [[49], [50], [51], [52], [53], [54], [55]]), (some []), 7, 1⟩
set_option maxRecDepth 100000 in
theorem run16 : RunsTo Tryz.prog 12 s16 t16 := run_at (by kernel_rfl)
end fnBreaks
end Go.Proofs.YtdnnhlienddkoaaGreat
