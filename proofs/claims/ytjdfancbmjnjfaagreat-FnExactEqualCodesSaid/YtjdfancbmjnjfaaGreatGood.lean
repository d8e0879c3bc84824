/-
  Worlds in which some blocks are known whole and nothing below a bound has changed, as one condition that stays through calls; the facts on cells are then rules under this condition.
-/
import Derived.Test.YtjdfancbmjnjfaaGreatOwn
namespace Go.Proofs.YtjdfancbmjnjfaaGreat
set_option maxRecDepth 100000
open Go.ChangeShapes Go.WideShapes Go.ChangeAt Go.RowKit Go.Deep
set_option linter.unusedVariables false

/-- G holds (behind a word of its own: the walk takes no hypothesis whose head is a letter for a rule) -/
def Ok (G : World → Prop) (W : World) : Prop := G W
/-- a condition on worlds that stays where memory is only added -/
structure GW (w : World) (G : World → Prop) : Prop where
  below : ∀ {W : World}, Ok G W → Below w.heap.size w W
  step : ∀ {W W' : World}, Ok G W → Below W.heap.size W W' → Ok G W'
  drew : ∀ {W : World}, Ok G W → Ok G W.drew
  drewN : ∀ {W : World} (n : Nat), Ok G W → Ok G (W.drewN n)
theorem ExL.gw (w : World) (bs : List (Nat × Nat × List Value)) : GW w (ExL w w.heap.size bs) :=
  ⟨fun h => h.2.1, fun h hb => ExL.below h hb, fun h => ExL.drew h, fun n h => ⟨h.1, below_drewN h.2.1 n, h.2.2⟩⟩
theorem GW.alloc {w : World} {G : World → Prop} (h : GW w G) {W : World} (g : Ok G W) (o : Obj) : Ok G (W.alloc o) := h.step g ((Below.refl _ _).alloc (Nat.le_refl _) o)
theorem good0 (w : World) : ∃ G : World → Prop, Ok G w ∧ Hid (GW w G) := ⟨ExL w w.heap.size [], ExL.start w, ExL.gw _ _⟩
theorem good1 (w : World) (t1 : Nat) (cs1 : List Value) : ∃ G : World → Prop, Ok G (w.alloc (.cells cs1.toArray t1)) ∧ Hid (GW w G) ∧ Hid (∀ W, Ok G W → Blk W w.heap.size t1 cs1) :=
  ⟨ExL w w.heap.size [(w.heap.size, t1, cs1)], (ExL.start w).push t1 cs1, ExL.gw _ _, fun W h => ExL.b0 h⟩
theorem good2 (w : World) (t1 : Nat) (cs1 : List Value) (t2 : Nat) (cs2 : List Value) : ∃ G : World → Prop, Ok G ((w.alloc (.cells cs1.toArray t1)).alloc (.cells cs2.toArray t2)) ∧ Hid (GW w G) ∧ Hid (∀ W, Ok G W → Blk W w.heap.size t1 cs1) ∧ Hid (∀ W, Ok G W → Blk W (w.heap.size + 1) t2 cs2) :=
  ⟨ExL w w.heap.size [(w.heap.size + 1, t2, cs2), (w.heap.size, t1, cs1)], by unfold Ok; simpa using ((ExL.start w).push t1 cs1).push t2 cs2, ExL.gw _ _, fun W h => ExL.b0 (ExL.tail h), fun W h => ExL.b0 h⟩
theorem good3 (w : World) (t1 : Nat) (cs1 : List Value) (t2 : Nat) (cs2 : List Value) (t3 : Nat) (cs3 : List Value) : ∃ G : World → Prop, Ok G (((w.alloc (.cells cs1.toArray t1)).alloc (.cells cs2.toArray t2)).alloc (.cells cs3.toArray t3)) ∧ Hid (GW w G) ∧ Hid (∀ W, Ok G W → Blk W w.heap.size t1 cs1) ∧ Hid (∀ W, Ok G W → Blk W (w.heap.size + 1) t2 cs2) ∧ Hid (∀ W, Ok G W → Blk W (w.heap.size + 1 + 1) t3 cs3) :=
  ⟨ExL w w.heap.size [(w.heap.size + 1 + 1, t3, cs3), (w.heap.size + 1, t2, cs2), (w.heap.size, t1, cs1)], by unfold Ok; simpa using (((ExL.start w).push t1 cs1).push t2 cs2).push t3 cs3, ExL.gw _ _, fun W h => ExL.b0 (ExL.tail (ExL.tail h)), fun W h => ExL.b0 (ExL.tail h), fun W h => ExL.b0 h⟩
/-- the world under a letter, of which only G is known -/
theorem gen_w {G R : World → Prop} {W : World} (g : Ok G W) (h : ∀ W', Ok G W' → R W') : R W := h W g

/-- a tuple of two -/
theorem ret_pair {a b c d : Int} (h : a = c) (h' : b = d) : Ending.returned (.tuple #[.int .i64 a, .int .i64 b]) = .returned (.tuple #[.int .i64 c, .int .i64 d]) := by rw [h, h']
end Go.Proofs.YtjdfancbmjnjfaaGreat
