/-
  No cell of these rows narrows 'for every input' (looked for: loops, veiled, ifaces, maps, wideKeys, modest, calm, conditions, laid).
  DERIVED. THE GIVEN ROWS OF THIS SEAT. 7 by the template 'for every input the law returns true; each argument reads behind the call as it read before'; 0 by the template 'total and deterministic' (their statements: YtclcljibdhkkoaaTotals.lean).
  GIVEN WITH THE SEED: the statements are not yours to turn. If you find one false, say at which input.
  Laid BY PROGRAM, IN A SANDBOX (cutbox-rows.mjs): the forced cells as the released guide's own fill.sh prints them over the translation 7f3407166f4b5972… (all of the seat's roots in one cut). By AI agents, Wed Nov 11 2026. No macro, syntax, notation, axiom, sorry.
-/
import Derived.Test.YtclcljibdhkkoaaChecked
import GoSem.Claim
import GoSem.ClaimJoined
import GoSem.ClaimMapViews
import Derived.JoinedTies
import Derived.KernelRfl
namespace Go.Proofs.Ytclcljibdhkkoaa
/- THE CELL 'sum', in the pinned program and in every row, IS THE sha256 OF THE DUMP (.gsa) THAT YtclcljibdhkkoaaProg.lean LOADS. Nothing in Lean hashes anything: it is a label: what it is worth is what the hold of that sum in a sandbox is worth. -/
noncomputable def Try.pinned : Pinned := { name := "ytclcljibdhkkoaa", sum := "7f3407166f4b59728d389ca470790b0e3c4464d0765bb9bbfbb208a3a735c88a", checked := Try.checked }
namespace Rows
def none {H : Type} : Left H := { results := [], args := [] }

/-- 'laws.FnExactIsBuiltin': WHATEVER THE INPUT: true; the input reads as it did. -/
def fnExactIsBuiltinSpec : ChangeSpec := { name := "fnExactIsBuiltin", fn := fun _ => fun
  | [d] => { results := [.lit (.bool true)], args := [d] }
  | _ => none }
def fnExactIsBuiltinRow : OpenClaim := { program := "ytclcljibdhkkoaa", sum := "7f3407166f4b59728d389ca470790b0e3c4464d0765bb9bbfbb208a3a735c88a", func := "loop.example/g03406/laws.FnExactIsBuiltin", spec := "fnExactIsBuiltin", apart := false }
def FnExactIsBuiltinSaid : Prop := fnExactIsBuiltinRow.holds Try.pinned (OpenSpec.ofChange fnExactIsBuiltinSpec)

/-- ITS FALSE NEIGHBOUR: 'it returns false'. Refute it at one input. -/
def fnExactIsBuiltinWrong : ChangeSpec := { name := "fnExactIsBuiltin", fn := fun _ => fun
  | [d] => { results := [.lit (.bool false)], args := [d] }
  | _ => none }
def FnExactIsBuiltinWrongFalsely : Prop := fnExactIsBuiltinRow.holds Try.pinned (OpenSpec.ofChange fnExactIsBuiltinWrong)

/-- 'laws.FnExactFindRestart': WHATEVER THE INPUT: true; the input reads as it did. -/
def fnExactFindRestartSpec : ChangeSpec := { name := "fnExactFindRestart", fn := fun _ => fun
  | [d1, d2] => { results := [.lit (.bool true)], args := [d1, d2] }
  | _ => none }
def fnExactFindRestartRow : OpenClaim := { program := "ytclcljibdhkkoaa", sum := "7f3407166f4b59728d389ca470790b0e3c4464d0765bb9bbfbb208a3a735c88a", func := "loop.example/g03406/laws.FnExactFindRestart", spec := "fnExactFindRestart", apart := false }
def FnExactFindRestartSaid : Prop := fnExactFindRestartRow.holds Try.pinned (OpenSpec.ofChange fnExactFindRestartSpec)

/-- ITS FALSE NEIGHBOUR: 'it returns false'. Refute it at one input. -/
def fnExactFindRestartWrong : ChangeSpec := { name := "fnExactFindRestart", fn := fun _ => fun
  | [d1, d2] => { results := [.lit (.bool false)], args := [d1, d2] }
  | _ => none }
def FnExactFindRestartWrongFalsely : Prop := fnExactFindRestartRow.holds Try.pinned (OpenSpec.ofChange fnExactFindRestartWrong)

/-- 'laws.FnExactMethodNames': WHATEVER THE INPUT: true; the input reads as it did. -/
def fnExactMethodNamesSpec : ChangeSpec := { name := "fnExactMethodNames", fn := fun _ => fun
  | [d1, d2] => { results := [.lit (.bool true)], args := [d1, d2] }
  | _ => none }
def fnExactMethodNamesRow : OpenClaim := { program := "ytclcljibdhkkoaa", sum := "7f3407166f4b59728d389ca470790b0e3c4464d0765bb9bbfbb208a3a735c88a", func := "loop.example/g03406/laws.FnExactMethodNames", spec := "fnExactMethodNames", apart := false }
def FnExactMethodNamesSaid : Prop := fnExactMethodNamesRow.holds Try.pinned (OpenSpec.ofChange fnExactMethodNamesSpec)

/-- ITS FALSE NEIGHBOUR: 'it returns false'. Refute it at one input. -/
def fnExactMethodNamesWrong : ChangeSpec := { name := "fnExactMethodNames", fn := fun _ => fun
  | [d1, d2] => { results := [.lit (.bool false)], args := [d1, d2] }
  | _ => none }
def FnExactMethodNamesWrongFalsely : Prop := fnExactMethodNamesRow.holds Try.pinned (OpenSpec.ofChange fnExactMethodNamesWrong)

/-- 'laws.FnMethods': WHATEVER THE INPUT: true; the input reads as it did. -/
def fnMethodsSpec : ChangeSpec := { name := "fnMethods", fn := fun _ => fun
  | [d] => { results := [.lit (.bool true)], args := [d] }
  | _ => none }
def fnMethodsRow : OpenClaim := { program := "ytclcljibdhkkoaa", sum := "7f3407166f4b59728d389ca470790b0e3c4464d0765bb9bbfbb208a3a735c88a", func := "loop.example/g03406/laws.FnMethods", spec := "fnMethods", apart := false }
def FnMethodsSaid : Prop := fnMethodsRow.holds Try.pinned (OpenSpec.ofChange fnMethodsSpec)

/-- ITS FALSE NEIGHBOUR: 'it returns false'. Refute it at one input. -/
def fnMethodsWrong : ChangeSpec := { name := "fnMethods", fn := fun _ => fun
  | [d] => { results := [.lit (.bool false)], args := [d] }
  | _ => none }
def FnMethodsWrongFalsely : Prop := fnMethodsRow.holds Try.pinned (OpenSpec.ofChange fnMethodsWrong)

/-- 'laws.FnExactFormatTranscript': WHATEVER THE INPUT: true; the input reads as it did. -/
def fnExactFormatTranscriptSpec : ChangeSpec := { name := "fnExactFormatTranscript", fn := fun _ => fun
  | [d] => { results := [.lit (.bool true)], args := [d] }
  | _ => none }
def fnExactFormatTranscriptRow : OpenClaim := { program := "ytclcljibdhkkoaa", sum := "7f3407166f4b59728d389ca470790b0e3c4464d0765bb9bbfbb208a3a735c88a", func := "loop.example/g03406/laws.FnExactFormatTranscript", spec := "fnExactFormatTranscript", apart := false }
def FnExactFormatTranscriptSaid : Prop := fnExactFormatTranscriptRow.holds Try.pinned (OpenSpec.ofChange fnExactFormatTranscriptSpec)

/-- ITS FALSE NEIGHBOUR: 'it returns false'. Refute it at one input. -/
def fnExactFormatTranscriptWrong : ChangeSpec := { name := "fnExactFormatTranscript", fn := fun _ => fun
  | [d] => { results := [.lit (.bool false)], args := [d] }
  | _ => none }
def FnExactFormatTranscriptWrongFalsely : Prop := fnExactFormatTranscriptRow.holds Try.pinned (OpenSpec.ofChange fnExactFormatTranscriptWrong)

/-- 'laws.FnExactEqualTranscripts': WHATEVER THE INPUT: true; the input reads as it did. -/
def fnExactEqualTranscriptsSpec : ChangeSpec := { name := "fnExactEqualTranscripts", fn := fun _ => fun
  | [d1, d2] => { results := [.lit (.bool true)], args := [d1, d2] }
  | _ => none }
def fnExactEqualTranscriptsRow : OpenClaim := { program := "ytclcljibdhkkoaa", sum := "7f3407166f4b59728d389ca470790b0e3c4464d0765bb9bbfbb208a3a735c88a", func := "loop.example/g03406/laws.FnExactEqualTranscripts", spec := "fnExactEqualTranscripts", apart := false }
def FnExactEqualTranscriptsSaid : Prop := fnExactEqualTranscriptsRow.holds Try.pinned (OpenSpec.ofChange fnExactEqualTranscriptsSpec)

/-- ITS FALSE NEIGHBOUR: 'it returns false'. Refute it at one input. -/
def fnExactEqualTranscriptsWrong : ChangeSpec := { name := "fnExactEqualTranscripts", fn := fun _ => fun
  | [d1, d2] => { results := [.lit (.bool false)], args := [d1, d2] }
  | _ => none }
def FnExactEqualTranscriptsWrongFalsely : Prop := fnExactEqualTranscriptsRow.holds Try.pinned (OpenSpec.ofChange fnExactEqualTranscriptsWrong)

/-- 'laws.FnExactNextMethods': WHATEVER THE INPUT: true; the input reads as it did. -/
def fnExactNextMethodsSpec : ChangeSpec := { name := "fnExactNextMethods", fn := fun _ => fun
  | [d1, d2, d3] => { results := [.lit (.bool true)], args := [d1, d2, d3] }
  | _ => none }
def fnExactNextMethodsRow : OpenClaim := { program := "ytclcljibdhkkoaa", sum := "7f3407166f4b59728d389ca470790b0e3c4464d0765bb9bbfbb208a3a735c88a", func := "loop.example/g03406/laws.FnExactNextMethods", spec := "fnExactNextMethods", apart := false }
def FnExactNextMethodsSaid : Prop := fnExactNextMethodsRow.holds Try.pinned (OpenSpec.ofChange fnExactNextMethodsSpec)

/-- ITS FALSE NEIGHBOUR: 'it returns false'. Refute it at one input. -/
def fnExactNextMethodsWrong : ChangeSpec := { name := "fnExactNextMethods", fn := fun _ => fun
  | [d1, d2, d3] => { results := [.lit (.bool false)], args := [d1, d2, d3] }
  | _ => none }
def FnExactNextMethodsWrongFalsely : Prop := fnExactNextMethodsRow.holds Try.pinned (OpenSpec.ofChange fnExactNextMethodsWrong)

/- THE SECOND FORM. 'bulk': how many values and letters a reading holds, each counted each time it is reached (what is shared counts as often as it is met; a slice's spare places count too). A statement '..UptoSaid' is the law's where the arguments, and the package variables that the reading takes, are together of bulk at most 1048576: NARROWER than '..Said'. Prove '..Said' where nothing that the law and all that it calls make is longer than what came in: it says more and counts as full. Else prove '..UptoSaid'. A law counts once. -/
mutual
def uptoBulk {H : Type} : DataW H → Nat
  | .lit (.string bytes) => bytes.length + 1
  | .lit _ => 1
  | .nil => 1
  | .ptr d => uptoBulk d + 1
  | .slice elems spare => uptoBulkAll elems + uptoBulkAll spare + 1
  | .agg parts => uptoBulkAll parts + 1
  | .iface _ d => uptoBulk d + 1
  | .map entries => uptoBulkEntries entries + 1
  | .held _ => 1
def uptoBulkAll {H : Type} : List (DataW H) → Nat
  | [] => 0
  | d :: r => uptoBulk d + uptoBulkAll r
def uptoBulkEntries {H : Type} : List (Lit × DataW H) → Nat
  | [] => 0
  | x :: r => uptoBulkEntry x + uptoBulkEntries r
def uptoBulkEntry {H : Type} : Lit × DataW H → Nat
  | (.string bytes, d) => bytes.length + uptoBulk d + 1
  | (_, d) => uptoBulk d + 1
 end
def uptoSmall : (H : Type) → List (DataW H) → Bool := fun _ ds => decide (uptoBulkAll ds ≤ 1048576)
def OpenSpec.upto (s : _root_.Go.ChangeSpec) : _root_.Go.OpenSpec := { _root_.Go.OpenSpec.ofChange s with cond := some uptoSmall }

/-- 'laws.FnExactIsBuiltin', WHERE WHAT IT READS IS OF BULK AT MOST 1048576: true; the input reads as it did. -/
def fnExactIsBuiltinUptoRow : OpenClaim := { program := "ytclcljibdhkkoaa", sum := "7f3407166f4b59728d389ca470790b0e3c4464d0765bb9bbfbb208a3a735c88a", func := "loop.example/g03406/laws.FnExactIsBuiltin", spec := "fnExactIsBuiltin", apart := false, narrowed := true }
def FnExactIsBuiltinUptoSaid : Prop := fnExactIsBuiltinUptoRow.holds Try.pinned (OpenSpec.upto fnExactIsBuiltinSpec)

/-- 'laws.FnExactFindRestart', WHERE WHAT IT READS IS OF BULK AT MOST 1048576: true; the input reads as it did. -/
def fnExactFindRestartUptoRow : OpenClaim := { program := "ytclcljibdhkkoaa", sum := "7f3407166f4b59728d389ca470790b0e3c4464d0765bb9bbfbb208a3a735c88a", func := "loop.example/g03406/laws.FnExactFindRestart", spec := "fnExactFindRestart", apart := false, narrowed := true }
def FnExactFindRestartUptoSaid : Prop := fnExactFindRestartUptoRow.holds Try.pinned (OpenSpec.upto fnExactFindRestartSpec)

/-- 'laws.FnExactMethodNames', WHERE WHAT IT READS IS OF BULK AT MOST 1048576: true; the input reads as it did. -/
def fnExactMethodNamesUptoRow : OpenClaim := { program := "ytclcljibdhkkoaa", sum := "7f3407166f4b59728d389ca470790b0e3c4464d0765bb9bbfbb208a3a735c88a", func := "loop.example/g03406/laws.FnExactMethodNames", spec := "fnExactMethodNames", apart := false, narrowed := true }
def FnExactMethodNamesUptoSaid : Prop := fnExactMethodNamesUptoRow.holds Try.pinned (OpenSpec.upto fnExactMethodNamesSpec)

/-- 'laws.FnMethods', WHERE WHAT IT READS IS OF BULK AT MOST 1048576: true; the input reads as it did. -/
def fnMethodsUptoRow : OpenClaim := { program := "ytclcljibdhkkoaa", sum := "7f3407166f4b59728d389ca470790b0e3c4464d0765bb9bbfbb208a3a735c88a", func := "loop.example/g03406/laws.FnMethods", spec := "fnMethods", apart := false, narrowed := true }
def FnMethodsUptoSaid : Prop := fnMethodsUptoRow.holds Try.pinned (OpenSpec.upto fnMethodsSpec)

/-- 'laws.FnExactFormatTranscript', WHERE WHAT IT READS IS OF BULK AT MOST 1048576: true; the input reads as it did. -/
def fnExactFormatTranscriptUptoRow : OpenClaim := { program := "ytclcljibdhkkoaa", sum := "7f3407166f4b59728d389ca470790b0e3c4464d0765bb9bbfbb208a3a735c88a", func := "loop.example/g03406/laws.FnExactFormatTranscript", spec := "fnExactFormatTranscript", apart := false, narrowed := true }
def FnExactFormatTranscriptUptoSaid : Prop := fnExactFormatTranscriptUptoRow.holds Try.pinned (OpenSpec.upto fnExactFormatTranscriptSpec)

/-- 'laws.FnExactEqualTranscripts', WHERE WHAT IT READS IS OF BULK AT MOST 1048576: true; the input reads as it did. -/
def fnExactEqualTranscriptsUptoRow : OpenClaim := { program := "ytclcljibdhkkoaa", sum := "7f3407166f4b59728d389ca470790b0e3c4464d0765bb9bbfbb208a3a735c88a", func := "loop.example/g03406/laws.FnExactEqualTranscripts", spec := "fnExactEqualTranscripts", apart := false, narrowed := true }
def FnExactEqualTranscriptsUptoSaid : Prop := fnExactEqualTranscriptsUptoRow.holds Try.pinned (OpenSpec.upto fnExactEqualTranscriptsSpec)

/-- 'laws.FnExactNextMethods', WHERE WHAT IT READS IS OF BULK AT MOST 1048576: true; the input reads as it did. -/
def fnExactNextMethodsUptoRow : OpenClaim := { program := "ytclcljibdhkkoaa", sum := "7f3407166f4b59728d389ca470790b0e3c4464d0765bb9bbfbb208a3a735c88a", func := "loop.example/g03406/laws.FnExactNextMethods", spec := "fnExactNextMethods", apart := false, narrowed := true }
def FnExactNextMethodsUptoSaid : Prop := fnExactNextMethodsUptoRow.holds Try.pinned (OpenSpec.upto fnExactNextMethodsSpec)

end Rows
end Go.Proofs.Ytclcljibdhkkoaa
