/-
  Contracts: what the laws of stores draw: a value.
-/
import Derived.Test.YtjdimlhdkmkmbaaNumVec
import Derived.Test.YtjdimlhdkmkmbaaKVecMk
import Derived.Test.YtjdimlhdkmkmbaaKFree
namespace Go.Proofs.Ytjdimlhdkmkmbaa
set_option maxRecDepth 100000
open Go.ChangeShapes Go.WideShapes Go.ChangeAt Go.RowKit Go.Deep
set_option linter.unusedVariables false

def funV (c e : Int) : VecD := .mk 5 [] [] [] [] [] c e
def funC (c e : Int) : List Value := [.int .i64 5, .slice none 0 0, .slice none 0 0, .slice none 0 0, .slice none 0 0, .slice none 0 0, .int .i64 c, .int .i64 e]
theorem i64five : I64 5 := ⟨by decide, by decide⟩
theorem funV_own (S : Nat → Prop) (W : World) {c e : Int} (hc : I64 c) (he : I64 e) : VecO S W (funC c e) (funV c e) :=
  ⟨1, none, 0, none, 0, none, 0, none, 0, none, 0, fun _ => 0, rfl, i64five, ItemsO.nil_ _ _, SlO.nil_ _ _ _ _ _, TxtO.nil_ _ _, TxtO.nil_ _ _, TxtO.nil_ _ _, hc, he⟩
def RetVecC (g : Nat) (v : Value) (l : List Nat) (B : Nat) (w : World) (e : Ending) (w' : World) : Prop :=
  ∃ (cs : List Value) (d : VecD), e = .returned (.agg cs.toArray) ∧ VecO (Rng w.heap.size w'.heap.size) w' cs d ∧ szVector d ≤ B ∧ Cur w' g v l ∧ Only g w w'

/-- a value's draw under way -/
structure VS (g : Nat) (v : Value) (l : List Nat) (w : World) (b : Nat) (cs : List Value) (W : World) : Prop where
  cur : Cur W g v l
  r : Blk W w.heap.size 28 nvZ
  o : Blk W b 28 cs
  b : w.heap.size < b
  only : Only g w W
section
variable {g : Nat} {v : Value} {l : List Nat} {w : World} {b : Nat} {cs : List Value} {W W' : World}
theorem VS.next (h : VS g v l w b cs W) (hg : g < w.heap.size) (hc : Cur W' g v l) (ho : Only g W W') : VS g v l w b cs W' :=
  ⟨hc, (ho.block _ h.r.lt (fun e => by injection e with e; omega)).trans h.r, (ho.block _ h.o.lt (fun e => by injection e with e; have := h.b; omega)).trans h.o, h.b, h.only.trans ho⟩
end
structure VS0 (g : Nat) (v : Value) (l : List Nat) (w : World) (W : World) : Prop where
  cur : Cur W g v l
  r : Blk W w.heap.size 28 nvZ
  only : Only g w W
theorem VS0.next {g : Nat} {v : Value} {l : List Nat} {w W W' : World} (h : VS0 g v l w W) (hg : g < w.heap.size) (hc : Cur W' g v l) (ho : Only g W W') : VS0 g v l w W' :=
  ⟨hc, (ho.block _ h.r.lt (fun e => by injection e with e; omega)).trans h.r, h.only.trans ho⟩

theorem sz_funV (c e : Int) : szVector (funV c e) = 0 := by rw [szVector_eq]; rfl
end Go.Proofs.Ytjdimlhdkmkmbaa
