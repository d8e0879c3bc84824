/-
  Runs of programs that the law FnRecursion looks at: each ends with the transcript that is written here. A long run is parted at some of its calls.
-/
import Derived.Test.YtdnnhlienddkoaaGreatEngCut
namespace Go.Proofs.YtdnnhlienddkoaaGreat
set_option maxRecDepth 100000
open Go.Proofs.YtdnnhlienddkoaaGreat.Eng
namespace fnRecursion
def s3 : List Nat := [102, 105, 98, 32, 60, 45, 32, 102, 117, 110, 99, 116, 105, 111, 110, 40, 110, 41, 32, 105, 102, 32, 40, 110, 32, 60, 32, 50, 41, 32, 110, 32, 101, 108, 115, 101, 32, 102, 105, 98, 40, 110, 32, 45, 32, 49, 41, 32, 43, 32, 102, 105, 98, 40, 110, 32, 45, 32, 50, 41, 10, 102, 105, 98, 40, 49, 41]
def t3 : TR := ⟨0, (some [[49]]), (some [[110]]), 2, 1⟩
set_option maxRecDepth 100000 in
theorem run3 : RunsTo Tryz.prog 12 s3 t3 := run_at (by kernel_rfl)
def s10 : List Nat := [102, 97, 99, 116, 32, 60, 45, 32, 102, 117, 110, 99, 116, 105, 111, 110, 40, 110, 41, 32, 105, 102, 32, 40, 110, 32, 60, 32, 50, 41, 32, 49, 32, 101, 108, 115, 101, 32, 110, 32, 42, 32, 102, 97, 99, 116, 40, 110, 32, 45, 32, 49, 41, 10, 102, 97, 99, 116, 40, 53, 41]
def t10 : TR := ⟨0, (some [[49, 50, 48]]), (some [[110], [110], [110], [110], [110]]), 10, 1⟩
set_option maxRecDepth 100000 in
theorem run10 : RunsTo Tryz.prog 12 s10 t10 := run_at (by kernel_rfl)
def s14 : List Nat := [102, 97, 99, 116, 32, 60, 45, 32, 102, 117, 110, 99, 116, 105, 111, 110, 40, 110, 41, 32, 105, 102, 32, 40, 110, 32, 60, 32, 50, 41, 32, 49, 32, 101, 108, 115, 101, 32, 110, 32, 42, 32, 102, 97, 99, 116, 40, 110, 32, 45, 32, 49, 41, 10, 102, 97, 99, 116, 40, 55, 41]
def t14 : TR := ⟨0, (some [[53, 48, 52, 48]]), (some [[110], [110], [110], [110], [110], [110], [110]]), 14, 1⟩
set_option maxRecDepth 100000 in
theorem run14 : RunsTo Tryz.prog 12 s14 t14 := run_at (by kernel_rfl)
def s16 : List Nat := [102, 97, 99, 116, 32, 60, 45, 32, 102, 117, 110, 99, 116, 105, 111, 110, 40, 110, 41, 32, 105, 102, 32, 40, 110, 32, 60, 32, 50, 41, 32, 49, 32, 101, 108, 115, 101, 32, 110, 32, 42, 32, 102, 97, 99, 116, 40, 110, 32, 45, 32, 49, 41, 10, 102, 97, 99, 116, 40, 56, 41]
def t16 : TR := ⟨0, (some [[52, 48, 51, 50, 48]]), (some [[110], [110], [110], [110], [110], [110], [110], [110]]), 16, 1⟩
set_option maxRecDepth 100000 in
theorem run16 : RunsTo Tryz.prog 12 s16 t16 := run_at (by kernel_rfl)
end fnRecursion
end Go.Proofs.YtdnnhlienddkoaaGreat
