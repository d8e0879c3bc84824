/-
  Runs of programs that the law FnBreaks looks at: each ends with the transcript that is written here.
-/
import Derived.Test.YtdnnhlienddkoaaGreatEngSeat
namespace Go.Proofs.YtdnnhlienddkoaaGreat
set_option maxRecDepth 100000
open Go.Proofs.YtdnnhlienddkoaaGreat.Eng
namespace fnBreaks
def s2 : List Nat := [102, 111, 114, 32, 40, 105, 32, 105, 110, 32, 49, 58, 55, 41, 32, 123, 32, 105, 102, 32, 40, 105, 32, 61, 61, 32, 49, 41, 32, 98, 114, 101, 97, 107, 32, 101, 108, 115, 101, 32, 102, 111, 114, 32, 40, 106, 32, 105, 110, 32, 49, 58, 50, 41, 32, 98, 114, 101, 97, 107, 59, 32, 112, 114, 105, 110, 116, 40, 105, 41, 32, 125]
def t2 : TR := ⟨0, (some []), (some []), 0, 1⟩
set_option maxRecDepth 100000 in
theorem run2 : RunsTo Tryz.prog 12 s2 t2 := run_at (by kernel_rfl)
def s8 : List Nat := [102, 111, 114, 32, 40, 105, 32, 105, 110, 32, 49, 58, 55, 41, 32, 123, 32, 105, 102, 32, 40, 105, 32, 61, 61, 32, 52, 41, 32, 98, 114, 101, 97, 107, 32, 101, 108, 115, 101, 32, 102, 111, 114, 32, 40, 106, 32, 105, 110, 32, 49, 58, 50, 41, 32, 98, 114, 101, 97, 107, 59, 32, 112, 114, 105, 110, 116, 40, 105, 41, 32, 125]
def t8 : TR := ⟨0, (some [[49], [50], [51]]), (some []), 3, 1⟩
set_option maxRecDepth 100000 in
theorem run8 : RunsTo Tryz.prog 12 s8 t8 := run_at (by kernel_rfl)
def s14 : List Nat := [102, 111, 114, 32, 40, 105, 32, 105, 110, 32, 49, 58, 55, 41, 32, 123, 32, 105, 102, 32, 40, 105, 32, 61, 61, 32, 55, 41, 32, 98, 114, 101, 97, 107, 32, 101, 108, 115, 101, 32, 102, 111, 114, 32, 40, 106, 32, 105, 110, 32, 49, 58, 50, 41, 32, 98, 114, 101, 97, 107, 59, 32, 112, 114, 105, 110, 116, 40, 105, 41, 32, 125]
def t14 : TR := ⟨0, (some [[49], [50], [51], [52], [53], [54]]), (some []), 6, 1⟩
set_option maxRecDepth 100000 in
theorem run14 : RunsTo Tryz.prog 12 s14 t14 := run_at (by kernel_rfl)
end fnBreaks
end Go.Proofs.YtdnnhlienddkoaaGreat
