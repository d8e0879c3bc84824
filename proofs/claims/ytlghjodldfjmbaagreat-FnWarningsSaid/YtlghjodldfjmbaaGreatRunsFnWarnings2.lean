/-
  Runs of programs that the law FnWarnings looks at: each ends with the transcript that is written here.
-/
import Derived.Test.YtlghjodldfjmbaaGreatEngSeat
namespace Go.Proofs.YtlghjodldfjmbaaGreat
set_option maxRecDepth 100000
open Go.Proofs.YtlghjodldfjmbaaGreat.Eng
namespace fnWarnings
def s2 : List Nat := [119, 97, 114, 110, 49, 32, 60, 45, 32, 102, 117, 110, 99, 116, 105, 111, 110, 40, 41, 32, 123, 32, 119, 97, 114, 110, 105, 110, 103, 40, 34, 99, 97, 114, 101, 102, 117, 108, 34, 41, 59, 32, 51, 32, 125, 10, 116, 114, 121, 67, 97, 116, 99, 104, 40, 119, 97, 114, 110, 49, 40, 41, 44, 32, 101, 114, 114, 111, 114, 32, 61, 32, 102, 117, 110, 99, 116, 105, 111, 110, 40, 119, 41, 32, 49, 41]
def t2 : TR := ⟨0, (some [[87, 97, 114, 110, 105, 110, 103, 58, 32, 99, 97, 114, 101, 102, 117, 108], [51]]), (some []), 1, 1⟩
set_option maxRecDepth 100000 in
theorem run2 : RunsTo Tryz.prog 6 s2 t2 := run_at (by kernel_rfl)
end fnWarnings
end Go.Proofs.YtlghjodldfjmbaaGreat
