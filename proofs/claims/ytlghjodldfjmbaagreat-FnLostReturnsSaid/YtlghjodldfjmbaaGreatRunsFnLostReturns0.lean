/-
  Runs of programs that the law FnLostReturns looks at: each ends with the transcript that is written here.
-/
import Derived.Test.YtlghjodldfjmbaaGreatEngSeat
namespace Go.Proofs.YtlghjodldfjmbaaGreat
set_option maxRecDepth 100000
open Go.Proofs.YtlghjodldfjmbaaGreat.Eng
namespace fnLostReturns
def s0 : List Nat := [114, 101, 116, 117, 114, 110, 40, 49, 41]
def t0 : TR := ⟨2, (some [[69, 114, 114, 111, 114, 58, 32, 110, 111, 32, 102, 117, 110, 99, 116, 105, 111, 110, 32, 116, 111, 32, 114, 101, 116, 117, 114, 110, 32, 102, 114, 111, 109]]), (some []), 0, 1⟩
set_option maxRecDepth 100000 in
theorem run0 : RunsTo Tryz.prog 6 s0 t0 := run_at (by kernel_rfl)
def s1 : List Nat := [109, 97, 107, 101, 49, 32, 60, 45, 32, 102, 117, 110, 99, 116, 105, 111, 110, 40, 122, 41, 32, 102, 117, 110, 99, 116, 105, 111, 110, 40, 41, 32, 122, 10, 103, 111, 49, 32, 60, 45, 32, 102, 117, 110, 99, 116, 105, 111, 110, 40, 41, 32, 109, 97, 107, 101, 49, 40, 114, 101, 116, 117, 114, 110, 40, 50, 41, 41, 10, 117, 115, 101, 49, 32, 60, 45, 32, 103, 111, 49, 40, 41, 10, 117, 115, 101, 49, 40, 41]
def t1 : TR := ⟨2, (some [[69, 114, 114, 111, 114, 58, 32, 110, 111, 32, 102, 117, 110, 99, 116, 105, 111, 110, 32, 116, 111, 32, 114, 101, 116, 117, 114, 110, 32, 102, 114, 111, 109]]), (some [[122]]), 4, 3⟩
set_option maxRecDepth 100000 in
theorem run1 : RunsTo Tryz.prog 6 s1 t1 := run_at (by kernel_rfl)
end fnLostReturns
end Go.Proofs.YtlghjodldfjmbaaGreat
