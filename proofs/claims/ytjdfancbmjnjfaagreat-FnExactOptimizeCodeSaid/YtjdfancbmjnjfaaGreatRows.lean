/-
  NARROWER THAN 'FOR EVERY INPUT', by the rows' own cells (each row's printed sentence says how): FnExactCheckCode: loops · FnExactEqualCodes: loops · FnExactOptimizeCode: loops.
  DERIVED. THE GIVEN ROWS OF THIS SEAT. 3 by the template 'for every input the law returns true; each argument reads behind the call as it read before'; 0 by the template 'total and deterministic' (their statements: YtjdfancbmjnjfaaGreatTotals.lean).
  GIVEN WITH THE SEED: the statements are not yours to turn. If you find one false, say at which input.
  Laid BY PROGRAM, IN A SANDBOX (cutbox-rows.mjs): the forced cells as the released guide's own fill.sh prints them over the translation f2521323e5da4572… (all of the seat's roots in one cut). By AI agents, Wed Nov 11 2026. No macro, syntax, notation, axiom, sorry.
-/
import Derived.Test.YtjdfancbmjnjfaaGreatChecked
import GoSem.Claim
import GoSem.ClaimJoined
import GoSem.ClaimMapViews
import Derived.JoinedTies
import Derived.KernelRfl
namespace Go.Proofs.YtjdfancbmjnjfaaGreat
/- THE CELL 'sum', in the pinned program and in every row, IS THE sha256 OF THE DUMP (.gsa) THAT YtjdfancbmjnjfaaGreatProg.lean LOADS. Nothing in Lean hashes anything: it is a label: what it is worth is what the hold of that sum in a sandbox is worth. -/
noncomputable def Tryz.pinned : Pinned := { name := "ytjdfancbmjnjfaagreat", sum := "f2521323e5da457294c973f02a0871db0b676f2fef556b18b5fd934802cc1c1a", checked := Tryz.checked }
namespace Rows
def none {H : Type} : Left H := { results := [], args := [] }

/-- 'laws.FnExactCheckCode': WHATEVER THE INPUT: true; the input reads as it did. -/
def fnExactCheckCodeSpec : ChangeSpec := { name := "fnExactCheckCode", fn := fun _ => fun
  | [d] => { results := [.lit (.bool true)], args := [d] }
  | _ => none }
def fnExactCheckCodeRow : OpenClaim := { program := "ytjdfancbmjnjfaagreat", sum := "f2521323e5da457294c973f02a0871db0b676f2fef556b18b5fd934802cc1c1a", func := "loop.example/g03406/laws.FnExactCheckCode", spec := "fnExactCheckCode", unfollowed := true, recurses := true, loops := true, apart := false }
def FnExactCheckCodeSaid : Prop := fnExactCheckCodeRow.holds Tryz.pinned (OpenSpec.ofChange fnExactCheckCodeSpec)

/-- ITS FALSE NEIGHBOUR: 'it returns false'. Refute it at one input. -/
def fnExactCheckCodeWrong : ChangeSpec := { name := "fnExactCheckCode", fn := fun _ => fun
  | [d] => { results := [.lit (.bool false)], args := [d] }
  | _ => none }
def FnExactCheckCodeWrongFalsely : Prop := fnExactCheckCodeRow.holds Tryz.pinned (OpenSpec.ofChange fnExactCheckCodeWrong)

/-- 'laws.FnExactEqualCodes': WHATEVER THE INPUT: true; the input reads as it did. -/
def fnExactEqualCodesSpec : ChangeSpec := { name := "fnExactEqualCodes", fn := fun _ => fun
  | [d1, d2] => { results := [.lit (.bool true)], args := [d1, d2] }
  | _ => none }
def fnExactEqualCodesRow : OpenClaim := { program := "ytjdfancbmjnjfaagreat", sum := "f2521323e5da457294c973f02a0871db0b676f2fef556b18b5fd934802cc1c1a", func := "loop.example/g03406/laws.FnExactEqualCodes", spec := "fnExactEqualCodes", unfollowed := true, recurses := true, loops := true, apart := false }
def FnExactEqualCodesSaid : Prop := fnExactEqualCodesRow.holds Tryz.pinned (OpenSpec.ofChange fnExactEqualCodesSpec)

/-- ITS FALSE NEIGHBOUR: 'it returns false'. Refute it at one input. -/
def fnExactEqualCodesWrong : ChangeSpec := { name := "fnExactEqualCodes", fn := fun _ => fun
  | [d1, d2] => { results := [.lit (.bool false)], args := [d1, d2] }
  | _ => none }
def FnExactEqualCodesWrongFalsely : Prop := fnExactEqualCodesRow.holds Tryz.pinned (OpenSpec.ofChange fnExactEqualCodesWrong)

/-- 'laws.FnExactOptimizeCode': WHATEVER THE INPUT: true; the input reads as it did. -/
def fnExactOptimizeCodeSpec : ChangeSpec := { name := "fnExactOptimizeCode", fn := fun _ => fun
  | [d] => { results := [.lit (.bool true)], args := [d] }
  | _ => none }
def fnExactOptimizeCodeRow : OpenClaim := { program := "ytjdfancbmjnjfaagreat", sum := "f2521323e5da457294c973f02a0871db0b676f2fef556b18b5fd934802cc1c1a", func := "loop.example/g03406/laws.FnExactOptimizeCode", spec := "fnExactOptimizeCode", unfollowed := true, recurses := true, loops := true, apart := false }
def FnExactOptimizeCodeSaid : Prop := fnExactOptimizeCodeRow.holds Tryz.pinned (OpenSpec.ofChange fnExactOptimizeCodeSpec)

/-- ITS FALSE NEIGHBOUR: 'it returns false'. Refute it at one input. -/
def fnExactOptimizeCodeWrong : ChangeSpec := { name := "fnExactOptimizeCode", fn := fun _ => fun
  | [d] => { results := [.lit (.bool false)], args := [d] }
  | _ => none }
def FnExactOptimizeCodeWrongFalsely : Prop := fnExactOptimizeCodeRow.holds Tryz.pinned (OpenSpec.ofChange fnExactOptimizeCodeWrong)

/- THE SECOND FORM. 'bulk': how many values and letters a reading holds, each counted each time it is reached (what is shared counts as often as it is met; a slice's spare places count too). A statement '..UptoSaid' is the law's where the arguments, and the package variables that the reading takes, are together of bulk at most 1048576: NARROWER than '..Said'. Prove '..Said' where nothing that the law and all that it calls make is longer than what came in: it says more and counts as full. Else prove '..UptoSaid'. A law counts once. -/
mutual
def uptoBulk {H : Type} : DataW H → Nat
  | .lit (.string bytes) => bytes.length + 1
  | .lit _ => 1
  | .nil => 1
  | .ptr d => uptoBulk d + 1
  | .slice elems spare => uptoBulkAll elems + uptoBulkAll spare + 1
  | .agg parts => uptoBulkAll parts + 1
  | .iface _ d => uptoBulk d + 1
  | .map entries => uptoBulkEntries entries + 1
  | .held _ => 1
def uptoBulkAll {H : Type} : List (DataW H) → Nat
  | [] => 0
  | d :: r => uptoBulk d + uptoBulkAll r
def uptoBulkEntries {H : Type} : List (Lit × DataW H) → Nat
  | [] => 0
  | x :: r => uptoBulkEntry x + uptoBulkEntries r
def uptoBulkEntry {H : Type} : Lit × DataW H → Nat
  | (.string bytes, d) => bytes.length + uptoBulk d + 1
  | (_, d) => uptoBulk d + 1
 end
def uptoSmall : (H : Type) → List (DataW H) → Bool := fun _ ds => decide (uptoBulkAll ds ≤ 1048576)
def OpenSpec.upto (s : _root_.Go.ChangeSpec) : _root_.Go.OpenSpec := { _root_.Go.OpenSpec.ofChange s with cond := some uptoSmall }

/-- 'laws.FnExactCheckCode', WHERE WHAT IT READS IS OF BULK AT MOST 1048576: true; the input reads as it did. -/
def fnExactCheckCodeUptoRow : OpenClaim := { program := "ytjdfancbmjnjfaagreat", sum := "f2521323e5da457294c973f02a0871db0b676f2fef556b18b5fd934802cc1c1a", func := "loop.example/g03406/laws.FnExactCheckCode", spec := "fnExactCheckCode", unfollowed := true, recurses := true, loops := true, apart := false, narrowed := true }
def FnExactCheckCodeUptoSaid : Prop := fnExactCheckCodeUptoRow.holds Tryz.pinned (OpenSpec.upto fnExactCheckCodeSpec)

/-- 'laws.FnExactEqualCodes', WHERE WHAT IT READS IS OF BULK AT MOST 1048576: true; the input reads as it did. -/
def fnExactEqualCodesUptoRow : OpenClaim := { program := "ytjdfancbmjnjfaagreat", sum := "f2521323e5da457294c973f02a0871db0b676f2fef556b18b5fd934802cc1c1a", func := "loop.example/g03406/laws.FnExactEqualCodes", spec := "fnExactEqualCodes", unfollowed := true, recurses := true, loops := true, apart := false, narrowed := true }
def FnExactEqualCodesUptoSaid : Prop := fnExactEqualCodesUptoRow.holds Tryz.pinned (OpenSpec.upto fnExactEqualCodesSpec)

/-- 'laws.FnExactOptimizeCode', WHERE WHAT IT READS IS OF BULK AT MOST 1048576: true; the input reads as it did. -/
def fnExactOptimizeCodeUptoRow : OpenClaim := { program := "ytjdfancbmjnjfaagreat", sum := "f2521323e5da457294c973f02a0871db0b676f2fef556b18b5fd934802cc1c1a", func := "loop.example/g03406/laws.FnExactOptimizeCode", spec := "fnExactOptimizeCode", unfollowed := true, recurses := true, loops := true, apart := false, narrowed := true }
def FnExactOptimizeCodeUptoSaid : Prop := fnExactOptimizeCodeUptoRow.holds Tryz.pinned (OpenSpec.upto fnExactOptimizeCodeSpec)

end Rows
end Go.Proofs.YtjdfancbmjnjfaaGreat
