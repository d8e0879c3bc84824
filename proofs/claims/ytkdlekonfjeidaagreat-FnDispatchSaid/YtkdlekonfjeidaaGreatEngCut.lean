/-
  The machine over this seat's program, with a table of calls.
-/
import Derived.Test.YtkdlekonfjeidaaGreatEngSeat
namespace Go.Proofs.YtkdlekonfjeidaaGreat
set_option maxRecDepth 100000
open Go.Proofs.YtkdlekonfjeidaaGreat.Eng
theorem soundE {es : List Ent} (h : AllOk Tryz.prog es) (n : Nat) : CallOk Tryz.prog (RE Tryz.prog es n).fn := (RE_sound Tryz.codeOk mixed fnames h n).1
theorem ent_at {es : List Ent} {e : Ent} (h : AllOk Tryz.prog es) (hc : e.chk = true) (hr : e.run ((RE Tryz.prog es 3000).fn e.f e.args e.h0) = true) : EntOk Tryz.prog e := ent_ok (soundE h 3000) hc hr
theorem run_with {es : List Ent} (h : AllOk Tryz.prog es) {s : List Nat} {T : TR} (hr : isTR T ((RE Tryz.prog es 3000).fn 27 [.str s] Hp.empty) = true) : RunsTo Tryz.prog 27 s T := run_to (soundE h 3000) hr
def I (n : Nat) : CV := .int .i64 (.ofNat n)
def S (l : List Nat) : CV := .str l

end Go.Proofs.YtkdlekonfjeidaaGreat
