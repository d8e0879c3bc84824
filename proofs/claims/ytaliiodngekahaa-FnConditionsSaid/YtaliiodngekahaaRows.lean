/-
  NARROWER THAN 'FOR EVERY INPUT', by the rows' own cells (each row's printed sentence says how): FnExactJumpTargets: loops.
  DERIVED. THE GIVEN ROWS OF THIS SEAT. 3 by the template 'for every input the law returns true; each argument reads behind the call as it read before'; 0 by the template 'total and deterministic' (their statements: YtaliiodngekahaaTotals.lean).
  GIVEN WITH THE SEED: the statements are not yours to turn. If you find one false, say at which input.
  Laid BY PROGRAM, IN A SANDBOX (cutbox-rows.mjs): the forced cells as the released guide's own fill.sh prints them over the translation ae5f9012cc4b008b… (all of the seat's roots in one cut). By AI agents, Wed Nov 11 2026. No macro, syntax, notation, axiom, sorry.
-/
import Derived.Test.YtaliiodngekahaaChecked
import GoSem.Claim
import GoSem.ClaimJoined
import GoSem.ClaimMapViews
import Derived.JoinedTies
import Derived.KernelRfl
namespace Go.Proofs.Ytaliiodngekahaa
/- THE CELL 'sum', in the pinned program and in every row, IS THE sha256 OF THE DUMP (.gsa) THAT YtaliiodngekahaaProg.lean LOADS. Nothing in Lean hashes anything: it is a label: what it is worth is what the hold of that sum in a sandbox is worth. -/
noncomputable def Try.pinned : Pinned := { name := "ytaliiodngekahaa", sum := "ae5f9012cc4b008b1f60a347c58a214eabf67a1876edd86624bba54a3492c889", checked := Try.checked }
namespace Rows
def none {H : Type} : Left H := { results := [], args := [] }

/-- 'laws.FnConditions': WHATEVER THE INPUT: true; the input reads as it did. -/
def fnConditionsSpec : ChangeSpec := { name := "fnConditions", fn := fun _ => fun
  | [d] => { results := [.lit (.bool true)], args := [d] }
  | _ => none }
def fnConditionsRow : OpenClaim := { program := "ytaliiodngekahaa", sum := "ae5f9012cc4b008b1f60a347c58a214eabf67a1876edd86624bba54a3492c889", func := "loop.example/g03406/laws.FnConditions", spec := "fnConditions", recurses := true, apart := false }
def FnConditionsSaid : Prop := fnConditionsRow.holds Try.pinned (OpenSpec.ofChange fnConditionsSpec)

/-- ITS FALSE NEIGHBOUR: 'it returns false'. Refute it at one input. -/
def fnConditionsWrong : ChangeSpec := { name := "fnConditions", fn := fun _ => fun
  | [d] => { results := [.lit (.bool false)], args := [d] }
  | _ => none }
def FnConditionsWrongFalsely : Prop := fnConditionsRow.holds Try.pinned (OpenSpec.ofChange fnConditionsWrong)

/-- 'laws.FnExactJumpTargets': WHATEVER THE INPUT: true; the input reads as it did. -/
def fnExactJumpTargetsSpec : ChangeSpec := { name := "fnExactJumpTargets", fn := fun _ => fun
  | [d] => { results := [.lit (.bool true)], args := [d] }
  | _ => none }
def fnExactJumpTargetsRow : OpenClaim := { program := "ytaliiodngekahaa", sum := "ae5f9012cc4b008b1f60a347c58a214eabf67a1876edd86624bba54a3492c889", func := "loop.example/g03406/laws.FnExactJumpTargets", spec := "fnExactJumpTargets", recurses := true, loops := true, apart := false }
def FnExactJumpTargetsSaid : Prop := fnExactJumpTargetsRow.holds Try.pinned (OpenSpec.ofChange fnExactJumpTargetsSpec)

/-- ITS FALSE NEIGHBOUR: 'it returns false'. Refute it at one input. -/
def fnExactJumpTargetsWrong : ChangeSpec := { name := "fnExactJumpTargets", fn := fun _ => fun
  | [d] => { results := [.lit (.bool false)], args := [d] }
  | _ => none }
def FnExactJumpTargetsWrongFalsely : Prop := fnExactJumpTargetsRow.holds Try.pinned (OpenSpec.ofChange fnExactJumpTargetsWrong)

/-- 'laws.FnExactMakeCondition': WHATEVER THE INPUT: true; the input reads as it did. -/
def fnExactMakeConditionSpec : ChangeSpec := { name := "fnExactMakeCondition", fn := fun _ => fun
  | [d1, d2] => { results := [.lit (.bool true)], args := [d1, d2] }
  | _ => none }
def fnExactMakeConditionRow : OpenClaim := { program := "ytaliiodngekahaa", sum := "ae5f9012cc4b008b1f60a347c58a214eabf67a1876edd86624bba54a3492c889", func := "loop.example/g03406/laws.FnExactMakeCondition", spec := "fnExactMakeCondition", recurses := true, apart := false }
def FnExactMakeConditionSaid : Prop := fnExactMakeConditionRow.holds Try.pinned (OpenSpec.ofChange fnExactMakeConditionSpec)

/-- ITS FALSE NEIGHBOUR: 'it returns false'. Refute it at one input. -/
def fnExactMakeConditionWrong : ChangeSpec := { name := "fnExactMakeCondition", fn := fun _ => fun
  | [d1, d2] => { results := [.lit (.bool false)], args := [d1, d2] }
  | _ => none }
def FnExactMakeConditionWrongFalsely : Prop := fnExactMakeConditionRow.holds Try.pinned (OpenSpec.ofChange fnExactMakeConditionWrong)

/- THE SECOND FORM. 'bulk': how many values and letters a reading holds, each counted each time it is reached (what is shared counts as often as it is met; a slice's spare places count too). A statement '..UptoSaid' is the law's where the arguments, and the package variables that the reading takes, are together of bulk at most 1048576: NARROWER than '..Said'. Prove '..Said' where nothing that the law and all that it calls make is longer than what came in: it says more and counts as full. Else prove '..UptoSaid'. A law counts once. -/
mutual
def uptoBulk {H : Type} : DataW H → Nat
  | .lit (.string bytes) => bytes.length + 1
  | .lit _ => 1
  | .nil => 1
  | .ptr d => uptoBulk d + 1
  | .slice elems spare => uptoBulkAll elems + uptoBulkAll spare + 1
  | .agg parts => uptoBulkAll parts + 1
  | .iface _ d => uptoBulk d + 1
  | .map entries => uptoBulkEntries entries + 1
  | .held _ => 1
def uptoBulkAll {H : Type} : List (DataW H) → Nat
  | [] => 0
  | d :: r => uptoBulk d + uptoBulkAll r
def uptoBulkEntries {H : Type} : List (Lit × DataW H) → Nat
  | [] => 0
  | x :: r => uptoBulkEntry x + uptoBulkEntries r
def uptoBulkEntry {H : Type} : Lit × DataW H → Nat
  | (.string bytes, d) => bytes.length + uptoBulk d + 1
  | (_, d) => uptoBulk d + 1
 end
def uptoSmall : (H : Type) → List (DataW H) → Bool := fun _ ds => decide (uptoBulkAll ds ≤ 1048576)
def OpenSpec.upto (s : _root_.Go.ChangeSpec) : _root_.Go.OpenSpec := { _root_.Go.OpenSpec.ofChange s with cond := some uptoSmall }

/-- 'laws.FnConditions', WHERE WHAT IT READS IS OF BULK AT MOST 1048576: true; the input reads as it did. -/
def fnConditionsUptoRow : OpenClaim := { program := "ytaliiodngekahaa", sum := "ae5f9012cc4b008b1f60a347c58a214eabf67a1876edd86624bba54a3492c889", func := "loop.example/g03406/laws.FnConditions", spec := "fnConditions", recurses := true, apart := false, narrowed := true }
def FnConditionsUptoSaid : Prop := fnConditionsUptoRow.holds Try.pinned (OpenSpec.upto fnConditionsSpec)

/-- 'laws.FnExactJumpTargets', WHERE WHAT IT READS IS OF BULK AT MOST 1048576: true; the input reads as it did. -/
def fnExactJumpTargetsUptoRow : OpenClaim := { program := "ytaliiodngekahaa", sum := "ae5f9012cc4b008b1f60a347c58a214eabf67a1876edd86624bba54a3492c889", func := "loop.example/g03406/laws.FnExactJumpTargets", spec := "fnExactJumpTargets", recurses := true, loops := true, apart := false, narrowed := true }
def FnExactJumpTargetsUptoSaid : Prop := fnExactJumpTargetsUptoRow.holds Try.pinned (OpenSpec.upto fnExactJumpTargetsSpec)

/-- 'laws.FnExactMakeCondition', WHERE WHAT IT READS IS OF BULK AT MOST 1048576: true; the input reads as it did. -/
def fnExactMakeConditionUptoRow : OpenClaim := { program := "ytaliiodngekahaa", sum := "ae5f9012cc4b008b1f60a347c58a214eabf67a1876edd86624bba54a3492c889", func := "loop.example/g03406/laws.FnExactMakeCondition", spec := "fnExactMakeCondition", recurses := true, apart := false, narrowed := true }
def FnExactMakeConditionUptoSaid : Prop := fnExactMakeConditionUptoRow.holds Try.pinned (OpenSpec.upto fnExactMakeConditionSpec)

end Rows
end Go.Proofs.Ytaliiodngekahaa
