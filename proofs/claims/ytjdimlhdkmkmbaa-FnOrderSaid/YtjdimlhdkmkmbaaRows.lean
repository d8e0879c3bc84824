/-
  No cell of these rows narrows 'for every input' (looked for: loops, veiled, ifaces, maps, wideKeys, modest, calm, conditions, laid).
  DERIVED. THE GIVEN ROWS OF THIS SEAT. 3 by the template 'for every input the law returns true; each argument reads behind the call as it read before'; 0 by the template 'total and deterministic' (their statements: YtjdimlhdkmkmbaaTotals.lean).
  GIVEN WITH THE SEED: the statements are not yours to turn. If you find one false, say at which input.
  Laid BY PROGRAM, IN A SANDBOX (cutbox-rows.mjs): the forced cells as the released guide's own fill.sh prints them over the translation 1e1548d5ba7473be… (all of the seat's roots in one cut). By AI agents, Wed Nov 11 2026. No macro, syntax, notation, axiom, sorry.
-/
import Derived.Test.YtjdimlhdkmkmbaaChecked
import GoSem.Claim
import GoSem.ClaimJoined
import GoSem.ClaimMapViews
import Derived.JoinedTies
import Derived.KernelRfl
namespace Go.Proofs.Ytjdimlhdkmkmbaa
/- THE CELL 'sum', in the pinned program and in every row, IS THE sha256 OF THE DUMP (.gsa) THAT YtjdimlhdkmkmbaaProg.lean LOADS. Nothing in Lean hashes anything: it is a label: what it is worth is what the hold of that sum in a sandbox is worth. -/
noncomputable def Try.pinned : Pinned := { name := "ytjdimlhdkmkmbaa", sum := "1e1548d5ba7473bee032c4168379de89bfa2e5426e3c2c4bd94d7c362d251adf", checked := Try.checked }
namespace Rows
def none {H : Type} : Left H := { results := [], args := [] }

/-- 'laws.FnAttributes': WHATEVER THE INPUT: true; the input reads as it did. -/
def fnAttributesSpec : ChangeSpec := { name := "fnAttributes", fn := fun _ => fun
  | [d] => { results := [.lit (.bool true)], args := [d] }
  | _ => none }
def fnAttributesRow : OpenClaim := { program := "ytjdimlhdkmkmbaa", sum := "1e1548d5ba7473bee032c4168379de89bfa2e5426e3c2c4bd94d7c362d251adf", func := "loop.example/g03406/laws.FnAttributes", spec := "fnAttributes", recurses := true, apart := false }
def FnAttributesSaid : Prop := fnAttributesRow.holds Try.pinned (OpenSpec.ofChange fnAttributesSpec)

/-- ITS FALSE NEIGHBOUR: 'it returns false'. Refute it at one input. -/
def fnAttributesWrong : ChangeSpec := { name := "fnAttributes", fn := fun _ => fun
  | [d] => { results := [.lit (.bool false)], args := [d] }
  | _ => none }
def FnAttributesWrongFalsely : Prop := fnAttributesRow.holds Try.pinned (OpenSpec.ofChange fnAttributesWrong)

/-- 'laws.FnSubscripts': WHATEVER THE INPUT: true; the input reads as it did. -/
def fnSubscriptsSpec : ChangeSpec := { name := "fnSubscripts", fn := fun _ => fun
  | [d] => { results := [.lit (.bool true)], args := [d] }
  | _ => none }
def fnSubscriptsRow : OpenClaim := { program := "ytjdimlhdkmkmbaa", sum := "1e1548d5ba7473bee032c4168379de89bfa2e5426e3c2c4bd94d7c362d251adf", func := "loop.example/g03406/laws.FnSubscripts", spec := "fnSubscripts", recurses := true, apart := false }
def FnSubscriptsSaid : Prop := fnSubscriptsRow.holds Try.pinned (OpenSpec.ofChange fnSubscriptsSpec)

/-- ITS FALSE NEIGHBOUR: 'it returns false'. Refute it at one input. -/
def fnSubscriptsWrong : ChangeSpec := { name := "fnSubscripts", fn := fun _ => fun
  | [d] => { results := [.lit (.bool false)], args := [d] }
  | _ => none }
def FnSubscriptsWrongFalsely : Prop := fnSubscriptsRow.holds Try.pinned (OpenSpec.ofChange fnSubscriptsWrong)

/-- 'laws.FnOrder': WHATEVER THE INPUT: true; the input reads as it did. -/
def fnOrderSpec : ChangeSpec := { name := "fnOrder", fn := fun _ => fun
  | [d] => { results := [.lit (.bool true)], args := [d] }
  | _ => none }
def fnOrderRow : OpenClaim := { program := "ytjdimlhdkmkmbaa", sum := "1e1548d5ba7473bee032c4168379de89bfa2e5426e3c2c4bd94d7c362d251adf", func := "loop.example/g03406/laws.FnOrder", spec := "fnOrder", unfollowed := true, recurses := true, apart := false }
def FnOrderSaid : Prop := fnOrderRow.holds Try.pinned (OpenSpec.ofChange fnOrderSpec)

/-- ITS FALSE NEIGHBOUR: 'it returns false'. Refute it at one input. -/
def fnOrderWrong : ChangeSpec := { name := "fnOrder", fn := fun _ => fun
  | [d] => { results := [.lit (.bool false)], args := [d] }
  | _ => none }
def FnOrderWrongFalsely : Prop := fnOrderRow.holds Try.pinned (OpenSpec.ofChange fnOrderWrong)

/- THE SECOND FORM. 'bulk': how many values and letters a reading holds, each counted each time it is reached (what is shared counts as often as it is met; a slice's spare places count too). A statement '..UptoSaid' is the law's where the arguments, and the package variables that the reading takes, are together of bulk at most 1048576: NARROWER than '..Said'. Prove '..Said' where nothing that the law and all that it calls make is longer than what came in: it says more and counts as full. Else prove '..UptoSaid'. A law counts once. -/
mutual
def uptoBulk {H : Type} : DataW H → Nat
  | .lit (.string bytes) => bytes.length + 1
  | .lit _ => 1
  | .nil => 1
  | .ptr d => uptoBulk d + 1
  | .slice elems spare => uptoBulkAll elems + uptoBulkAll spare + 1
  | .agg parts => uptoBulkAll parts + 1
  | .iface _ d => uptoBulk d + 1
  | .map entries => uptoBulkEntries entries + 1
  | .held _ => 1
def uptoBulkAll {H : Type} : List (DataW H) → Nat
  | [] => 0
  | d :: r => uptoBulk d + uptoBulkAll r
def uptoBulkEntries {H : Type} : List (Lit × DataW H) → Nat
  | [] => 0
  | x :: r => uptoBulkEntry x + uptoBulkEntries r
def uptoBulkEntry {H : Type} : Lit × DataW H → Nat
  | (.string bytes, d) => bytes.length + uptoBulk d + 1
  | (_, d) => uptoBulk d + 1
 end
def uptoSmall : (H : Type) → List (DataW H) → Bool := fun _ ds => decide (uptoBulkAll ds ≤ 1048576)
def OpenSpec.upto (s : _root_.Go.ChangeSpec) : _root_.Go.OpenSpec := { _root_.Go.OpenSpec.ofChange s with cond := some uptoSmall }

/-- 'laws.FnAttributes', WHERE WHAT IT READS IS OF BULK AT MOST 1048576: true; the input reads as it did. -/
def fnAttributesUptoRow : OpenClaim := { program := "ytjdimlhdkmkmbaa", sum := "1e1548d5ba7473bee032c4168379de89bfa2e5426e3c2c4bd94d7c362d251adf", func := "loop.example/g03406/laws.FnAttributes", spec := "fnAttributes", recurses := true, apart := false, narrowed := true }
def FnAttributesUptoSaid : Prop := fnAttributesUptoRow.holds Try.pinned (OpenSpec.upto fnAttributesSpec)

/-- 'laws.FnSubscripts', WHERE WHAT IT READS IS OF BULK AT MOST 1048576: true; the input reads as it did. -/
def fnSubscriptsUptoRow : OpenClaim := { program := "ytjdimlhdkmkmbaa", sum := "1e1548d5ba7473bee032c4168379de89bfa2e5426e3c2c4bd94d7c362d251adf", func := "loop.example/g03406/laws.FnSubscripts", spec := "fnSubscripts", recurses := true, apart := false, narrowed := true }
def FnSubscriptsUptoSaid : Prop := fnSubscriptsUptoRow.holds Try.pinned (OpenSpec.upto fnSubscriptsSpec)

/-- 'laws.FnOrder', WHERE WHAT IT READS IS OF BULK AT MOST 1048576: true; the input reads as it did. -/
def fnOrderUptoRow : OpenClaim := { program := "ytjdimlhdkmkmbaa", sum := "1e1548d5ba7473bee032c4168379de89bfa2e5426e3c2c4bd94d7c362d251adf", func := "loop.example/g03406/laws.FnOrder", spec := "fnOrder", unfollowed := true, recurses := true, apart := false, narrowed := true }
def FnOrderUptoSaid : Prop := fnOrderUptoRow.holds Try.pinned (OpenSpec.upto fnOrderSpec)

end Rows
end Go.Proofs.Ytjdimlhdkmkmbaa
