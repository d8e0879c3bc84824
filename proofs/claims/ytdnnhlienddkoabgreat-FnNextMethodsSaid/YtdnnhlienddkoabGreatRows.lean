/-
  No cell of these rows narrows 'for every input' (looked for: loops, veiled, ifaces, maps, wideKeys, modest, calm, conditions, laid).
  DERIVED. THE GIVEN ROWS OF THIS SEAT. 3 by the template 'for every input the law returns true; each argument reads behind the call as it read before'; 0 by the template 'total and deterministic' (their statements: YtdnnhlienddkoabGreatTotals.lean).
  GIVEN WITH THE SEED: the statements are not yours to turn. If you find one false, say at which input.
  Laid BY PROGRAM, IN A SANDBOX (cutbox-rows.mjs): the forced cells as the released guide's own fill.sh prints them over the translation fa3b2a052c4413bf… (all of the seat's roots in one cut). By AI agents, Wed Nov 11 2026. No macro, syntax, notation, axiom, sorry.
-/
import Derived.Test.YtdnnhlienddkoabGreatChecked
import GoSem.Claim
import GoSem.ClaimJoined
import GoSem.ClaimMapViews
import Derived.JoinedTies
import Derived.KernelRfl
namespace Go.Proofs.YtdnnhlienddkoabGreat
/- THE CELL 'sum', in the pinned program and in every row, IS THE sha256 OF THE DUMP (.gsa) THAT YtdnnhlienddkoabGreatProg.lean LOADS. Nothing in Lean hashes anything: it is a label: what it is worth is what the hold of that sum in a sandbox is worth. -/
noncomputable def Tryz.pinned : Pinned := { name := "ytdnnhlienddkoabgreat", sum := "fa3b2a052c4413bf8c899f11e572b31b866d53ed733ae028b1968fd521cc9885", checked := Tryz.checked }
namespace Rows
def none {H : Type} : Left H := { results := [], args := [] }

/-- 'laws.FnDots': WHATEVER THE INPUT: true; the input reads as it did. -/
def fnDotsSpec : ChangeSpec := { name := "fnDots", fn := fun _ => fun
  | [d] => { results := [.lit (.bool true)], args := [d] }
  | _ => none }
def fnDotsRow : OpenClaim := { program := "ytdnnhlienddkoabgreat", sum := "fa3b2a052c4413bf8c899f11e572b31b866d53ed733ae028b1968fd521cc9885", func := "loop.example/g03406/laws.FnDots", spec := "fnDots", unfollowed := true, recurses := true, apart := false }
def FnDotsSaid : Prop := fnDotsRow.holds Tryz.pinned (OpenSpec.ofChange fnDotsSpec)

/-- ITS FALSE NEIGHBOUR: 'it returns false'. Refute it at one input. -/
def fnDotsWrong : ChangeSpec := { name := "fnDots", fn := fun _ => fun
  | [d] => { results := [.lit (.bool false)], args := [d] }
  | _ => none }
def FnDotsWrongFalsely : Prop := fnDotsRow.holds Tryz.pinned (OpenSpec.ofChange fnDotsWrong)

/-- 'laws.FnNextMethods': WHATEVER THE INPUT: true; the input reads as it did. -/
def fnNextMethodsSpec : ChangeSpec := { name := "fnNextMethods", fn := fun _ => fun
  | [d] => { results := [.lit (.bool true)], args := [d] }
  | _ => none }
def fnNextMethodsRow : OpenClaim := { program := "ytdnnhlienddkoabgreat", sum := "fa3b2a052c4413bf8c899f11e572b31b866d53ed733ae028b1968fd521cc9885", func := "loop.example/g03406/laws.FnNextMethods", spec := "fnNextMethods", unfollowed := true, recurses := true, apart := false }
def FnNextMethodsSaid : Prop := fnNextMethodsRow.holds Tryz.pinned (OpenSpec.ofChange fnNextMethodsSpec)

/-- ITS FALSE NEIGHBOUR: 'it returns false'. Refute it at one input. -/
def fnNextMethodsWrong : ChangeSpec := { name := "fnNextMethods", fn := fun _ => fun
  | [d] => { results := [.lit (.bool false)], args := [d] }
  | _ => none }
def FnNextMethodsWrongFalsely : Prop := fnNextMethodsRow.holds Tryz.pinned (OpenSpec.ofChange fnNextMethodsWrong)

/-- 'laws.FnDispatch': WHATEVER THE INPUT: true; the input reads as it did. -/
def fnDispatchSpec : ChangeSpec := { name := "fnDispatch", fn := fun _ => fun
  | [d] => { results := [.lit (.bool true)], args := [d] }
  | _ => none }
def fnDispatchRow : OpenClaim := { program := "ytdnnhlienddkoabgreat", sum := "fa3b2a052c4413bf8c899f11e572b31b866d53ed733ae028b1968fd521cc9885", func := "loop.example/g03406/laws.FnDispatch", spec := "fnDispatch", unfollowed := true, recurses := true, apart := false }
def FnDispatchSaid : Prop := fnDispatchRow.holds Tryz.pinned (OpenSpec.ofChange fnDispatchSpec)

/-- ITS FALSE NEIGHBOUR: 'it returns false'. Refute it at one input. -/
def fnDispatchWrong : ChangeSpec := { name := "fnDispatch", fn := fun _ => fun
  | [d] => { results := [.lit (.bool false)], args := [d] }
  | _ => none }
def FnDispatchWrongFalsely : Prop := fnDispatchRow.holds Tryz.pinned (OpenSpec.ofChange fnDispatchWrong)

/- THE SECOND FORM. 'bulk': how many values and letters a reading holds, each counted each time it is reached (what is shared counts as often as it is met; a slice's spare places count too). A statement '..UptoSaid' is the law's where the arguments, and the package variables that the reading takes, are together of bulk at most 1048576: NARROWER than '..Said'. Prove '..Said' where nothing that the law and all that it calls make is longer than what came in: it says more and counts as full. Else prove '..UptoSaid'. A law counts once. -/
mutual
def uptoBulk {H : Type} : DataW H → Nat
  | .lit (.string bytes) => bytes.length + 1
  | .lit _ => 1
  | .nil => 1
  | .ptr d => uptoBulk d + 1
  | .slice elems spare => uptoBulkAll elems + uptoBulkAll spare + 1
  | .agg parts => uptoBulkAll parts + 1
  | .iface _ d => uptoBulk d + 1
  | .map entries => uptoBulkEntries entries + 1
  | .held _ => 1
def uptoBulkAll {H : Type} : List (DataW H) → Nat
  | [] => 0
  | d :: r => uptoBulk d + uptoBulkAll r
def uptoBulkEntries {H : Type} : List (Lit × DataW H) → Nat
  | [] => 0
  | x :: r => uptoBulkEntry x + uptoBulkEntries r
def uptoBulkEntry {H : Type} : Lit × DataW H → Nat
  | (.string bytes, d) => bytes.length + uptoBulk d + 1
  | (_, d) => uptoBulk d + 1
 end
def uptoSmall : (H : Type) → List (DataW H) → Bool := fun _ ds => decide (uptoBulkAll ds ≤ 1048576)
def OpenSpec.upto (s : _root_.Go.ChangeSpec) : _root_.Go.OpenSpec := { _root_.Go.OpenSpec.ofChange s with cond := some uptoSmall }

/-- 'laws.FnDots', WHERE WHAT IT READS IS OF BULK AT MOST 1048576: true; the input reads as it did. -/
def fnDotsUptoRow : OpenClaim := { program := "ytdnnhlienddkoabgreat", sum := "fa3b2a052c4413bf8c899f11e572b31b866d53ed733ae028b1968fd521cc9885", func := "loop.example/g03406/laws.FnDots", spec := "fnDots", unfollowed := true, recurses := true, apart := false, narrowed := true }
def FnDotsUptoSaid : Prop := fnDotsUptoRow.holds Tryz.pinned (OpenSpec.upto fnDotsSpec)

/-- 'laws.FnNextMethods', WHERE WHAT IT READS IS OF BULK AT MOST 1048576: true; the input reads as it did. -/
def fnNextMethodsUptoRow : OpenClaim := { program := "ytdnnhlienddkoabgreat", sum := "fa3b2a052c4413bf8c899f11e572b31b866d53ed733ae028b1968fd521cc9885", func := "loop.example/g03406/laws.FnNextMethods", spec := "fnNextMethods", unfollowed := true, recurses := true, apart := false, narrowed := true }
def FnNextMethodsUptoSaid : Prop := fnNextMethodsUptoRow.holds Tryz.pinned (OpenSpec.upto fnNextMethodsSpec)

/-- 'laws.FnDispatch', WHERE WHAT IT READS IS OF BULK AT MOST 1048576: true; the input reads as it did. -/
def fnDispatchUptoRow : OpenClaim := { program := "ytdnnhlienddkoabgreat", sum := "fa3b2a052c4413bf8c899f11e572b31b866d53ed733ae028b1968fd521cc9885", func := "loop.example/g03406/laws.FnDispatch", spec := "fnDispatch", unfollowed := true, recurses := true, apart := false, narrowed := true }
def FnDispatchUptoSaid : Prop := fnDispatchUptoRow.holds Tryz.pinned (OpenSpec.upto fnDispatchSpec)

end Rows
end Go.Proofs.YtdnnhlienddkoabGreat
