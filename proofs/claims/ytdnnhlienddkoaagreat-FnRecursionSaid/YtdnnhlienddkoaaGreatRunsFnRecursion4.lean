/-
  Runs of programs that the law FnRecursion looks at: each ends with the transcript that is written here. A long run is parted at some of its calls.
-/
import Derived.Test.YtdnnhlienddkoaaGreatEngCut
namespace Go.Proofs.YtdnnhlienddkoaaGreat
set_option maxRecDepth 100000
open Go.Proofs.YtdnnhlienddkoaaGreat.Eng
namespace fnRecursion
def s0 : List Nat := [102, 97, 99, 116, 32, 60, 45, 32, 102, 117, 110, 99, 116, 105, 111, 110, 40, 110, 41, 32, 105, 102, 32, 40, 110, 32, 60, 32, 50, 41, 32, 49, 32, 101, 108, 115, 101, 32, 110, 32, 42, 32, 102, 97, 99, 116, 40, 110, 32, 45, 32, 49, 41, 10, 102, 97, 99, 116, 40, 48, 41]
def t0 : TR := ⟨0, (some [[49]]), (some [[110]]), 2, 1⟩
set_option maxRecDepth 100000 in
theorem run0 : RunsTo Tryz.prog 12 s0 t0 := run_at (by kernel_rfl)
def s4 : List Nat := [102, 97, 99, 116, 32, 60, 45, 32, 102, 117, 110, 99, 116, 105, 111, 110, 40, 110, 41, 32, 105, 102, 32, 40, 110, 32, 60, 32, 50, 41, 32, 49, 32, 101, 108, 115, 101, 32, 110, 32, 42, 32, 102, 97, 99, 116, 40, 110, 32, 45, 32, 49, 41, 10, 102, 97, 99, 116, 40, 50, 41]
def t4 : TR := ⟨0, (some [[50]]), (some [[110], [110]]), 4, 1⟩
set_option maxRecDepth 100000 in
theorem run4 : RunsTo Tryz.prog 12 s4 t4 := run_at (by kernel_rfl)
def s8 : List Nat := [102, 97, 99, 116, 32, 60, 45, 32, 102, 117, 110, 99, 116, 105, 111, 110, 40, 110, 41, 32, 105, 102, 32, 40, 110, 32, 60, 32, 50, 41, 32, 49, 32, 101, 108, 115, 101, 32, 110, 32, 42, 32, 102, 97, 99, 116, 40, 110, 32, 45, 32, 49, 41, 10, 102, 97, 99, 116, 40, 52, 41]
def t8 : TR := ⟨0, (some [[50, 52]]), (some [[110], [110], [110], [110]]), 8, 1⟩
set_option maxRecDepth 100000 in
theorem run8 : RunsTo Tryz.prog 12 s8 t8 := run_at (by kernel_rfl)
def s9 : List Nat := [102, 105, 98, 32, 60, 45, 32, 102, 117, 110, 99, 116, 105, 111, 110, 40, 110, 41, 32, 105, 102, 32, 40, 110, 32, 60, 32, 50, 41, 32, 110, 32, 101, 108, 115, 101, 32, 102, 105, 98, 40, 110, 32, 45, 32, 49, 41, 32, 43, 32, 102, 105, 98, 40, 110, 32, 45, 32, 50, 41, 10, 102, 105, 98, 40, 52, 41]
def t9 : TR := ⟨0, (some [[51]]), (some [[110], [110], [110], [110], [110], [110], [110], [110], [110]]), 18, 1⟩
set_option maxRecDepth 100000 in
theorem run9 : RunsTo Tryz.prog 12 s9 t9 := run_at (by kernel_rfl)
def s12 : List Nat := [102, 97, 99, 116, 32, 60, 45, 32, 102, 117, 110, 99, 116, 105, 111, 110, 40, 110, 41, 32, 105, 102, 32, 40, 110, 32, 60, 32, 50, 41, 32, 49, 32, 101, 108, 115, 101, 32, 110, 32, 42, 32, 102, 97, 99, 116, 40, 110, 32, 45, 32, 49, 41, 10, 102, 97, 99, 116, 40, 54, 41]
def t12 : TR := ⟨0, (some [[55, 50, 48]]), (some [[110], [110], [110], [110], [110], [110]]), 12, 1⟩
set_option maxRecDepth 100000 in
theorem run12 : RunsTo Tryz.prog 12 s12 t12 := run_at (by kernel_rfl)
end fnRecursion
end Go.Proofs.YtdnnhlienddkoaaGreat
