/-
  A region that draws its order, taken in one order that is laid down ahead: each operation that only computes or reads is taken first; an operation that changes memory must be the only one that may come up.
-/
import Derived.Test.YtjdfancbmjnjfaaGreatGood
import Derived.Deep.RegionHeld3
namespace Go.Proofs.YtjdfancbmjnjfaaGreat
set_option maxRecDepth 100000
open Go.ChangeShapes Go.WideShapes Go.ChangeAt Go.RowKit Go.Deep
set_option linter.unusedVariables false

section
variable {P : Program} {ops : Array Oper} {Q : Exit → Act → World → Prop} {S : World → Prop}

/-- may the operations be taken in this order? -/
def planOk (ops : Array Oper) : List (Bool × Nat) → Array Bool → Bool
  | [], listed => (Region.ready .any ops listed).isEmpty
  | (true, i) :: r, listed => Region.free .any ops listed i && (Region.ready .any ops listed).contains i && planOk ops r (listed.setIfInBounds i true)
  | (false, i) :: r, listed => decide (Region.ready .any ops listed = [i]) && planOk ops r (listed.setIfInBounds i true)

def dyn (P : Program) (ops : Array Oper) (Q : Exit → Act → World → Prop) (S : World → Prop) : List (Bool × Nat) → Act → World → Prop
  | [], a, w => Q .normal a w
  | (true, i) :: r, a, w => ∃ o v, ops[i]? = some o ∧ YieldsIf P ops S o v a ∧ dyn P ops Q S r (a.put o.dst v) w
  | (false, i) :: r, a, w => wpOp P ops Q i (fun a' w' => S w' ∧ dyn P ops Q S r a' w') a w

theorem dyn_take {i : Nat} {o : Oper} {v : Value} {l : List (Bool × Nat)} {a : Act} {w : World} (hi : ops[i]? = some o) (hw : Region.wanted o (yielded ops a.tmps) = true)
    (hv : ∀ W, S W → (execOp a.eval o).run P W = .ok (.value v) W) (h : dyn P ops Q S l (a.put o.dst v) w) : dyn P ops Q S ((true, i) :: l) a w := ⟨o, v, hi, .inl ⟨hw, hv⟩, h⟩
theorem dyn_skip {i : Nat} {o : Oper} {l : List (Bool × Nat)} {a : Act} {w : World} (hi : ops[i]? = some o) (hw : Region.wanted o (yielded ops a.tmps) = false)
    (h : dyn P ops Q S l (a.put o.dst undef) w) : dyn P ops Q S ((true, i) :: l) a w := ⟨o, undef, hi, .inr ⟨hw, rfl⟩, h⟩
theorem dyn_act {i : Nat} {o : Oper} {l : List (Bool × Nat)} {a : Act} {w : World} (hi : ops[i]? = some o) (hw : Region.wanted o (yielded ops a.tmps) = true)
    (h : ∀ K : Act → World → Prop, Shut (∀ a w, S w → dyn P ops Q S l a w → K a w) → Oper.wp P o a w K Q) : dyn P ops Q S ((false, i) :: l) a w :=
  wpOp_step hi (fun K hK => by rw [if_pos hw]; exact h K (fun a w hS hd => hK a w ⟨hS, hd⟩))
theorem dyn_pass {i : Nat} {o : Oper} {l : List (Bool × Nat)} {a : Act} {w : World} (hi : ops[i]? = some o) (hw : Region.wanted o (yielded ops a.tmps) = false) (hS : S w)
    (h : dyn P ops Q S l (a.put o.dst undef) w) : dyn P ops Q S ((false, i) :: l) a w :=
  wpOp_step hi (fun K hK => by rw [if_neg (by rw [hw]; decide)]; exact hK _ _ ⟨hS, h⟩)

theorem dyn_done {a : Act} {w : World} (h : Q .normal a w) : dyn P ops (NoPanic Q) S [] a w := h

theorem dyn_sound (hs : Region.noSelect ops = true) : ∀ (l : List (Bool × Nat)) (listed : Array Bool) (a : Act) (w : World), planOk ops l listed = true → S w → dyn P ops (NoPanic Q) S l a w → wpAnyH P .any ops (NoPanic Q) S l.length listed a w := by
  intro l
  induction l with
  | nil =>
    intro listed a w hp hS h
    exact wpAnyH_done (by simpa [planOk] using hp) h 0
  | cons p l ih =>
    intro listed a w hp hS h
    obtain ⟨b, i⟩ := p
    cases b with
    | true =>
      rw [planOk, Bool.and_eq_true, Bool.and_eq_true] at hp
      obtain ⟨o, v, hi, hy, h'⟩ := h
      exact wpAnyH_take hi hs hp.1.1 hp.1.2 (fun _ _ _ hc => hc.elim) hy hS (ih _ _ _ hp.2 hS h')
    | false =>
      rw [planOk, Bool.and_eq_true, decide_eq_true_eq] at hp
      refine wpAnyH_all hp.1 (by simp) fun j hj => ?_
      rw [List.mem_singleton] at hj
      subst hj
      exact wpOp_mono (fun a' w' h' => ⟨h'.1, ih _ _ _ hp.2 h'.1 h'.2⟩) h
theorem wp_region_plan {id : Nat} {a : Act} {w : World} (hm : P.follows .mixedOrders = true) (l : List (Bool × Nat)) (hc : (Region.noSelect ops && planOk ops l (Array.replicate ops.size false) && l.length == ops.size) = true) (hS : S w.drew)
    (h : dyn P ops (NoPanic Q) S l a w.drew) : (Code.region id ops true).wp P Q a w := by
  rw [Bool.and_eq_true, Bool.and_eq_true] at hc
  have hl : l.length = ops.size := eq_of_beq hc.2
  refine wp_region_noPanic (wp_region_held (S := S) hm ?_)
  rw [← hl]
  have := dyn_sound hc.1.1 l (Array.replicate ops.size false) a w.drew hc.1.2 hS h
  rw [← hl] at this
  exact this
end
end Go.Proofs.YtjdfancbmjnjfaaGreat
