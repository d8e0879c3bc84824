/-
  Runs of programs that the law FnDots looks at: each ends with the transcript that is written here. A long run is parted at some of its calls.
-/
import Derived.Test.YtdnnhlienddkoabGreatEngCut
namespace Go.Proofs.YtdnnhlienddkoabGreat
set_option maxRecDepth 100000
open Go.Proofs.YtdnnhlienddkoabGreat.Eng
namespace fnDots
def s2 : List Nat := [112, 97, 115, 115, 49, 32, 60, 45, 32, 102, 117, 110, 99, 116, 105, 111, 110, 40, 102, 105, 114, 115, 116, 44, 32, 46, 46, 46, 41, 32, 116, 97, 107, 101, 49, 40, 46, 46, 46, 41, 10, 116, 97, 107, 101, 49, 32, 60, 45, 32, 102, 117, 110, 99, 116, 105, 111, 110, 40, 46, 46, 46, 41, 32, 108, 105, 115, 116, 40, 46, 46, 46, 41, 10, 112, 97, 115, 115, 49, 40, 57, 57, 44, 32, 49, 44, 32, 107, 50, 32, 61, 32, 50, 41]
def t2 : TR := ⟨0, (some [[108, 105, 115, 116, 40, 49, 44, 32, 107, 50, 32, 61, 32, 50, 41]]), (some [[46, 46, 46], [46, 46, 46]]), 4, 1⟩
set_option maxRecDepth 100000 in
theorem run2 : RunsTo Tryz.prog 28 s2 t2 := run_at (by kernel_rfl)
set_option maxRecDepth 100000 in
theorem par2 : ParsesTo Tryz.prog 27 s2 true := parses_to (sound 3000) (by kernel_rfl)
def s3 : List Nat := [112, 97, 115, 115, 49, 32, 60, 45, 32, 102, 117, 110, 99, 116, 105, 111, 110, 40, 102, 105, 114, 115, 116, 44, 32, 46, 46, 46, 41, 32, 116, 97, 107, 101, 49, 40, 46, 46, 46, 41, 10, 116, 97, 107, 101, 49, 32, 60, 45, 32, 102, 117, 110, 99, 116, 105, 111, 110, 40, 46, 46, 46, 41, 32, 108, 105, 115, 116, 40, 46, 46, 46, 41, 10, 112, 97, 115, 115, 49, 40, 57, 57, 44, 32, 49, 44, 32, 107, 50, 32, 61, 32, 50, 44, 32, 51, 41]
def t3 : TR := ⟨0, (some [[108, 105, 115, 116, 40, 49, 44, 32, 107, 50, 32, 61, 32, 50, 44, 32, 51, 41]]), (some [[46, 46, 46], [46, 46, 46], [46, 46, 46]]), 5, 1⟩
set_option maxRecDepth 100000 in
theorem run3 : RunsTo Tryz.prog 28 s3 t3 := run_at (by kernel_rfl)
set_option maxRecDepth 100000 in
theorem par3 : ParsesTo Tryz.prog 27 s3 true := parses_to (sound 3000) (by kernel_rfl)
end fnDots
end Go.Proofs.YtdnnhlienddkoabGreat
