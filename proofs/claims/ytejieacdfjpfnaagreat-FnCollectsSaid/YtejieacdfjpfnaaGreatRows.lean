/-
  NARROWER THAN 'FOR EVERY INPUT', by the rows' own cells (each row's printed sentence says how): FnExactReachableIn: loops · FnExactValueIn: loops · FnExactExtendStore: loops · FnExactDefineIn: loops · FnExactAssignOuter: loops · FnExactCollectStore: loops.
  DERIVED. THE GIVEN ROWS OF THIS SEAT. 7 by the template 'for every input the law returns true; each argument reads behind the call as it read before'; 0 by the template 'total and deterministic' (their statements: YtejieacdfjpfnaaGreatTotals.lean).
  GIVEN WITH THE SEED: the statements are not yours to turn. If you find one false, say at which input.
  Laid BY PROGRAM, IN A SANDBOX (cutbox-rows.mjs): the forced cells as the released guide's own fill.sh prints them over the translation fa669a67388124e5… (all of the seat's roots in one cut). By AI agents, Wed Nov 11 2026. No macro, syntax, notation, axiom, sorry.
-/
import Derived.Test.YtejieacdfjpfnaaGreatChecked
import GoSem.Claim
import GoSem.ClaimJoined
import GoSem.ClaimMapViews
import Derived.JoinedTies
import Derived.KernelRfl
namespace Go.Proofs.YtejieacdfjpfnaaGreat
/- THE CELL 'sum', in the pinned program and in every row, IS THE sha256 OF THE DUMP (.gsa) THAT YtejieacdfjpfnaaGreatProg.lean LOADS. Nothing in Lean hashes anything: it is a label: what it is worth is what the hold of that sum in a sandbox is worth. -/
noncomputable def Tryz.pinned : Pinned := { name := "ytejieacdfjpfnaagreat", sum := "fa669a67388124e5affb2410b8c206a3036a99a3b0a07c4f8b13ff8ecc8b4767", checked := Tryz.checked }
namespace Rows
def none {H : Type} : Left H := { results := [], args := [] }

/-- 'laws.FnExactReachableIn': WHATEVER THE INPUT: true; the input reads as it did. -/
def fnExactReachableInSpec : ChangeSpec := { name := "fnExactReachableIn", fn := fun _ => fun
  | [d1, d2] => { results := [.lit (.bool true)], args := [d1, d2] }
  | _ => none }
def fnExactReachableInRow : OpenClaim := { program := "ytejieacdfjpfnaagreat", sum := "fa669a67388124e5affb2410b8c206a3036a99a3b0a07c4f8b13ff8ecc8b4767", func := "loop.example/g03406/laws.FnExactReachableIn", spec := "fnExactReachableIn", recurses := true, loops := true, apart := false }
def FnExactReachableInSaid : Prop := fnExactReachableInRow.holds Tryz.pinned (OpenSpec.ofChange fnExactReachableInSpec)

/-- ITS FALSE NEIGHBOUR: 'it returns false'. Refute it at one input. -/
def fnExactReachableInWrong : ChangeSpec := { name := "fnExactReachableIn", fn := fun _ => fun
  | [d1, d2] => { results := [.lit (.bool false)], args := [d1, d2] }
  | _ => none }
def FnExactReachableInWrongFalsely : Prop := fnExactReachableInRow.holds Tryz.pinned (OpenSpec.ofChange fnExactReachableInWrong)

/-- 'laws.FnExactValueIn': WHATEVER THE INPUT: true; the input reads as it did. -/
def fnExactValueInSpec : ChangeSpec := { name := "fnExactValueIn", fn := fun _ => fun
  | [d1, d2, d3] => { results := [.lit (.bool true)], args := [d1, d2, d3] }
  | _ => none }
def fnExactValueInRow : OpenClaim := { program := "ytejieacdfjpfnaagreat", sum := "fa669a67388124e5affb2410b8c206a3036a99a3b0a07c4f8b13ff8ecc8b4767", func := "loop.example/g03406/laws.FnExactValueIn", spec := "fnExactValueIn", recurses := true, loops := true, apart := false }
def FnExactValueInSaid : Prop := fnExactValueInRow.holds Tryz.pinned (OpenSpec.ofChange fnExactValueInSpec)

/-- ITS FALSE NEIGHBOUR: 'it returns false'. Refute it at one input. -/
def fnExactValueInWrong : ChangeSpec := { name := "fnExactValueIn", fn := fun _ => fun
  | [d1, d2, d3] => { results := [.lit (.bool false)], args := [d1, d2, d3] }
  | _ => none }
def FnExactValueInWrongFalsely : Prop := fnExactValueInRow.holds Tryz.pinned (OpenSpec.ofChange fnExactValueInWrong)

/-- 'laws.FnExactExtendStore': WHATEVER THE INPUT: true; the input reads as it did. -/
def fnExactExtendStoreSpec : ChangeSpec := { name := "fnExactExtendStore", fn := fun _ => fun
  | [d1, d2] => { results := [.lit (.bool true)], args := [d1, d2] }
  | _ => none }
def fnExactExtendStoreRow : OpenClaim := { program := "ytejieacdfjpfnaagreat", sum := "fa669a67388124e5affb2410b8c206a3036a99a3b0a07c4f8b13ff8ecc8b4767", func := "loop.example/g03406/laws.FnExactExtendStore", spec := "fnExactExtendStore", recurses := true, loops := true, apart := false }
def FnExactExtendStoreSaid : Prop := fnExactExtendStoreRow.holds Tryz.pinned (OpenSpec.ofChange fnExactExtendStoreSpec)

/-- ITS FALSE NEIGHBOUR: 'it returns false'. Refute it at one input. -/
def fnExactExtendStoreWrong : ChangeSpec := { name := "fnExactExtendStore", fn := fun _ => fun
  | [d1, d2] => { results := [.lit (.bool false)], args := [d1, d2] }
  | _ => none }
def FnExactExtendStoreWrongFalsely : Prop := fnExactExtendStoreRow.holds Tryz.pinned (OpenSpec.ofChange fnExactExtendStoreWrong)

/-- 'laws.FnExactDefineIn': WHATEVER THE INPUT: true; the input reads as it did. -/
def fnExactDefineInSpec : ChangeSpec := { name := "fnExactDefineIn", fn := fun _ => fun
  | [d1, d2, d3, d4] => { results := [.lit (.bool true)], args := [d1, d2, d3, d4] }
  | _ => none }
def fnExactDefineInRow : OpenClaim := { program := "ytejieacdfjpfnaagreat", sum := "fa669a67388124e5affb2410b8c206a3036a99a3b0a07c4f8b13ff8ecc8b4767", func := "loop.example/g03406/laws.FnExactDefineIn", spec := "fnExactDefineIn", recurses := true, loops := true, apart := false }
def FnExactDefineInSaid : Prop := fnExactDefineInRow.holds Tryz.pinned (OpenSpec.ofChange fnExactDefineInSpec)

/-- ITS FALSE NEIGHBOUR: 'it returns false'. Refute it at one input. -/
def fnExactDefineInWrong : ChangeSpec := { name := "fnExactDefineIn", fn := fun _ => fun
  | [d1, d2, d3, d4] => { results := [.lit (.bool false)], args := [d1, d2, d3, d4] }
  | _ => none }
def FnExactDefineInWrongFalsely : Prop := fnExactDefineInRow.holds Tryz.pinned (OpenSpec.ofChange fnExactDefineInWrong)

/-- 'laws.FnExactAssignOuter': WHATEVER THE INPUT: true; the input reads as it did. -/
def fnExactAssignOuterSpec : ChangeSpec := { name := "fnExactAssignOuter", fn := fun _ => fun
  | [d1, d2, d3, d4] => { results := [.lit (.bool true)], args := [d1, d2, d3, d4] }
  | _ => none }
def fnExactAssignOuterRow : OpenClaim := { program := "ytejieacdfjpfnaagreat", sum := "fa669a67388124e5affb2410b8c206a3036a99a3b0a07c4f8b13ff8ecc8b4767", func := "loop.example/g03406/laws.FnExactAssignOuter", spec := "fnExactAssignOuter", recurses := true, loops := true, apart := false }
def FnExactAssignOuterSaid : Prop := fnExactAssignOuterRow.holds Tryz.pinned (OpenSpec.ofChange fnExactAssignOuterSpec)

/-- ITS FALSE NEIGHBOUR: 'it returns false'. Refute it at one input. -/
def fnExactAssignOuterWrong : ChangeSpec := { name := "fnExactAssignOuter", fn := fun _ => fun
  | [d1, d2, d3, d4] => { results := [.lit (.bool false)], args := [d1, d2, d3, d4] }
  | _ => none }
def FnExactAssignOuterWrongFalsely : Prop := fnExactAssignOuterRow.holds Tryz.pinned (OpenSpec.ofChange fnExactAssignOuterWrong)

/-- 'laws.FnExactCollectStore': WHATEVER THE INPUT: true; the input reads as it did. -/
def fnExactCollectStoreSpec : ChangeSpec := { name := "fnExactCollectStore", fn := fun _ => fun
  | [d1, d2] => { results := [.lit (.bool true)], args := [d1, d2] }
  | _ => none }
def fnExactCollectStoreRow : OpenClaim := { program := "ytejieacdfjpfnaagreat", sum := "fa669a67388124e5affb2410b8c206a3036a99a3b0a07c4f8b13ff8ecc8b4767", func := "loop.example/g03406/laws.FnExactCollectStore", spec := "fnExactCollectStore", recurses := true, loops := true, apart := false }
def FnExactCollectStoreSaid : Prop := fnExactCollectStoreRow.holds Tryz.pinned (OpenSpec.ofChange fnExactCollectStoreSpec)

/-- ITS FALSE NEIGHBOUR: 'it returns false'. Refute it at one input. -/
def fnExactCollectStoreWrong : ChangeSpec := { name := "fnExactCollectStore", fn := fun _ => fun
  | [d1, d2] => { results := [.lit (.bool false)], args := [d1, d2] }
  | _ => none }
def FnExactCollectStoreWrongFalsely : Prop := fnExactCollectStoreRow.holds Tryz.pinned (OpenSpec.ofChange fnExactCollectStoreWrong)

/-- 'laws.FnCollects': WHATEVER THE INPUT: true; the input reads as it did. -/
def fnCollectsSpec : ChangeSpec := { name := "fnCollects", fn := fun _ => fun
  | [d] => { results := [.lit (.bool true)], args := [d] }
  | _ => none }
def fnCollectsRow : OpenClaim := { program := "ytejieacdfjpfnaagreat", sum := "fa669a67388124e5affb2410b8c206a3036a99a3b0a07c4f8b13ff8ecc8b4767", func := "loop.example/g03406/laws.FnCollects", spec := "fnCollects", recurses := true, apart := false }
def FnCollectsSaid : Prop := fnCollectsRow.holds Tryz.pinned (OpenSpec.ofChange fnCollectsSpec)

/-- ITS FALSE NEIGHBOUR: 'it returns false'. Refute it at one input. -/
def fnCollectsWrong : ChangeSpec := { name := "fnCollects", fn := fun _ => fun
  | [d] => { results := [.lit (.bool false)], args := [d] }
  | _ => none }
def FnCollectsWrongFalsely : Prop := fnCollectsRow.holds Tryz.pinned (OpenSpec.ofChange fnCollectsWrong)

/- THE SECOND FORM. 'bulk': how many values and letters a reading holds, each counted each time it is reached (what is shared counts as often as it is met; a slice's spare places count too). A statement '..UptoSaid' is the law's where the arguments, and the package variables that the reading takes, are together of bulk at most 1048576: NARROWER than '..Said'. Prove '..Said' where nothing that the law and all that it calls make is longer than what came in: it says more and counts as full. Else prove '..UptoSaid'. A law counts once. -/
mutual
def uptoBulk {H : Type} : DataW H → Nat
  | .lit (.string bytes) => bytes.length + 1
  | .lit _ => 1
  | .nil => 1
  | .ptr d => uptoBulk d + 1
  | .slice elems spare => uptoBulkAll elems + uptoBulkAll spare + 1
  | .agg parts => uptoBulkAll parts + 1
  | .iface _ d => uptoBulk d + 1
  | .map entries => uptoBulkEntries entries + 1
  | .held _ => 1
def uptoBulkAll {H : Type} : List (DataW H) → Nat
  | [] => 0
  | d :: r => uptoBulk d + uptoBulkAll r
def uptoBulkEntries {H : Type} : List (Lit × DataW H) → Nat
  | [] => 0
  | x :: r => uptoBulkEntry x + uptoBulkEntries r
def uptoBulkEntry {H : Type} : Lit × DataW H → Nat
  | (.string bytes, d) => bytes.length + uptoBulk d + 1
  | (_, d) => uptoBulk d + 1
 end
def uptoSmall : (H : Type) → List (DataW H) → Bool := fun _ ds => decide (uptoBulkAll ds ≤ 1048576)
def OpenSpec.upto (s : _root_.Go.ChangeSpec) : _root_.Go.OpenSpec := { _root_.Go.OpenSpec.ofChange s with cond := some uptoSmall }

/-- 'laws.FnExactReachableIn', WHERE WHAT IT READS IS OF BULK AT MOST 1048576: true; the input reads as it did. -/
def fnExactReachableInUptoRow : OpenClaim := { program := "ytejieacdfjpfnaagreat", sum := "fa669a67388124e5affb2410b8c206a3036a99a3b0a07c4f8b13ff8ecc8b4767", func := "loop.example/g03406/laws.FnExactReachableIn", spec := "fnExactReachableIn", recurses := true, loops := true, apart := false, narrowed := true }
def FnExactReachableInUptoSaid : Prop := fnExactReachableInUptoRow.holds Tryz.pinned (OpenSpec.upto fnExactReachableInSpec)

/-- 'laws.FnExactValueIn', WHERE WHAT IT READS IS OF BULK AT MOST 1048576: true; the input reads as it did. -/
def fnExactValueInUptoRow : OpenClaim := { program := "ytejieacdfjpfnaagreat", sum := "fa669a67388124e5affb2410b8c206a3036a99a3b0a07c4f8b13ff8ecc8b4767", func := "loop.example/g03406/laws.FnExactValueIn", spec := "fnExactValueIn", recurses := true, loops := true, apart := false, narrowed := true }
def FnExactValueInUptoSaid : Prop := fnExactValueInUptoRow.holds Tryz.pinned (OpenSpec.upto fnExactValueInSpec)

/-- 'laws.FnExactExtendStore', WHERE WHAT IT READS IS OF BULK AT MOST 1048576: true; the input reads as it did. -/
def fnExactExtendStoreUptoRow : OpenClaim := { program := "ytejieacdfjpfnaagreat", sum := "fa669a67388124e5affb2410b8c206a3036a99a3b0a07c4f8b13ff8ecc8b4767", func := "loop.example/g03406/laws.FnExactExtendStore", spec := "fnExactExtendStore", recurses := true, loops := true, apart := false, narrowed := true }
def FnExactExtendStoreUptoSaid : Prop := fnExactExtendStoreUptoRow.holds Tryz.pinned (OpenSpec.upto fnExactExtendStoreSpec)

/-- 'laws.FnExactDefineIn', WHERE WHAT IT READS IS OF BULK AT MOST 1048576: true; the input reads as it did. -/
def fnExactDefineInUptoRow : OpenClaim := { program := "ytejieacdfjpfnaagreat", sum := "fa669a67388124e5affb2410b8c206a3036a99a3b0a07c4f8b13ff8ecc8b4767", func := "loop.example/g03406/laws.FnExactDefineIn", spec := "fnExactDefineIn", recurses := true, loops := true, apart := false, narrowed := true }
def FnExactDefineInUptoSaid : Prop := fnExactDefineInUptoRow.holds Tryz.pinned (OpenSpec.upto fnExactDefineInSpec)

/-- 'laws.FnExactAssignOuter', WHERE WHAT IT READS IS OF BULK AT MOST 1048576: true; the input reads as it did. -/
def fnExactAssignOuterUptoRow : OpenClaim := { program := "ytejieacdfjpfnaagreat", sum := "fa669a67388124e5affb2410b8c206a3036a99a3b0a07c4f8b13ff8ecc8b4767", func := "loop.example/g03406/laws.FnExactAssignOuter", spec := "fnExactAssignOuter", recurses := true, loops := true, apart := false, narrowed := true }
def FnExactAssignOuterUptoSaid : Prop := fnExactAssignOuterUptoRow.holds Tryz.pinned (OpenSpec.upto fnExactAssignOuterSpec)

/-- 'laws.FnExactCollectStore', WHERE WHAT IT READS IS OF BULK AT MOST 1048576: true; the input reads as it did. -/
def fnExactCollectStoreUptoRow : OpenClaim := { program := "ytejieacdfjpfnaagreat", sum := "fa669a67388124e5affb2410b8c206a3036a99a3b0a07c4f8b13ff8ecc8b4767", func := "loop.example/g03406/laws.FnExactCollectStore", spec := "fnExactCollectStore", recurses := true, loops := true, apart := false, narrowed := true }
def FnExactCollectStoreUptoSaid : Prop := fnExactCollectStoreUptoRow.holds Tryz.pinned (OpenSpec.upto fnExactCollectStoreSpec)

/-- 'laws.FnCollects', WHERE WHAT IT READS IS OF BULK AT MOST 1048576: true; the input reads as it did. -/
def fnCollectsUptoRow : OpenClaim := { program := "ytejieacdfjpfnaagreat", sum := "fa669a67388124e5affb2410b8c206a3036a99a3b0a07c4f8b13ff8ecc8b4767", func := "loop.example/g03406/laws.FnCollects", spec := "fnCollects", recurses := true, apart := false, narrowed := true }
def FnCollectsUptoSaid : Prop := fnCollectsUptoRow.holds Tryz.pinned (OpenSpec.upto fnCollectsSpec)

end Rows
end Go.Proofs.YtejieacdfjpfnaaGreat
