/-
  Merged texts: VecLe, MarkLe, GSlot, LawSt.
-/
import Derived.Test.YtjdfancbmjnjfaaGreatKMark
import Derived.Test.YtjdfancbmjnjfaaGreatKMarkC
import Derived.Test.YtjdfancbmjnjfaaGreatKVec
import Derived.Test.YtjdfancbmjnjfaaGreatKCode
import Derived.Test.YtjdfancbmjnjfaaGreatKGood
namespace Go.Proofs.YtjdfancbmjnjfaaGreat
set_option maxRecDepth 100000
set_option maxRecDepth 100000
open Go.ChangeShapes Go.WideShapes Go.ChangeAt Go.RowKit Go.Deep
set_option linter.unusedVariables false

theorem cntL_cons {α : Type} (f : α → Nat) (x : α) (l : List α) : cntL f (x :: l) = f x + cntL f l := by simp [cntL]
theorem szS_cons {α : Type} (f : α → Nat) (x : α) (l : List α) : szS f (x :: l) = 1 + f x + szS f l := by simp [szS]; omega
theorem cntL_szS {α : Type} (f g : α → Nat) (m : Nat) (l : List α) (h : ∀ x ∈ l, f x ≤ m + m * g x) : cntL f l ≤ m * szS g l := by
  induction l with
  | nil => simp [cntL]
  | cons x l ih =>
    have h1 := ih fun y hy => h y (List.mem_cons_of_mem _ hy)
    have h2 := h x List.mem_cons_self
    rw [cntL_cons, szS_cons, Nat.mul_add, Nat.mul_add]
    omega
mutual
theorem cVec_le : ∀ d : VecD, cVec d ≤ 4 + 4 * szVector d
  | .mk k i p n c l co en => by
    have h1 := cVecs_le p
    have h2 : cntL cItem i ≤ 3 * szS szItem i := cntL_szS _ _ 3 _ fun x _ => by simp [cItem]
    have h3 := szL_length n
    have h4 := szL_length c
    have h5 := szL_length l
    rw [cVec, szVector_eq]
    simp only [VecD.items, VecD.parts, VecD.names, VecD.cls, VecD.levels]
    omega
theorem cVecs_le : ∀ l : List VecD, cVecs l ≤ 4 * szS szVector l
  | [] => by simp [cVecs]
  | d :: l => by
    have h1 := cVec_le d
    have h2 := cVecs_le l
    rw [cVecs, szS_cons]
    omega
end
end Go.Proofs.YtjdfancbmjnjfaaGreat
namespace Go.Proofs.YtjdfancbmjnjfaaGreat
set_option maxRecDepth 100000
open Go.ChangeShapes Go.WideShapes Go.ChangeAt Go.RowKit Go.Deep
set_option linter.unusedVariables false

theorem cInstr_le (d : InstrD) : cInstr d ≤ 8 + 8 * szInstr d := by
  have h1 := cVec_le d.value
  have h2 := szL_length d.labels
  unfold cInstr szInstr
  omega
theorem cSeg_le (d : SegD) : cSeg d ≤ 8 * szSegment d := by
  have h1 := szL_length d.labels
  have h2 : cntL cInstr d.instrs ≤ 8 * szS szInstr d.instrs := cntL_szS _ _ 8 _ fun x _ => cInstr_le x
  unfold cSeg szSegment
  omega
end Go.Proofs.YtjdfancbmjnjfaaGreat
namespace Go.Proofs.YtjdfancbmjnjfaaGreat
set_option maxRecDepth 100000
open Go.ChangeShapes Go.WideShapes Go.ChangeAt Go.RowKit Go.Deep

end Go.Proofs.YtjdfancbmjnjfaaGreat
namespace Go.Proofs.YtjdfancbmjnjfaaGreat
set_option maxRecDepth 100000
open Go.ChangeShapes Go.WideShapes Go.ChangeAt Go.RowKit Go.Deep
set_option linter.unusedVariables false

structure Part where
  lo : Nat
  hi : Nat
  P : World → Prop
def Closed (lo hi : Nat) (P : World → Prop) : Prop := ∀ W W', Keeps (Rng lo hi) W W' → P W → P W'
/-- the newest part stands first -/
def Chain (B : Nat) : List Part → Nat → Prop
  | [], top => B ≤ top
  | p :: ps, top => p.lo ≤ p.hi ∧ p.hi ≤ top ∧ Chain B ps p.lo
def LS (w : World) (ps : List Part) (W : World) : Prop := Below w.heap.size w W ∧ Chain w.heap.size ps W.heap.size ∧ ∀ p ∈ ps, Closed p.lo p.hi p.P ∧ p.P W
theorem Chain.top {B : Nat} : ∀ {ps : List Part} {a b : Nat}, Chain B ps a → a ≤ b → Chain B ps b
  | [], _, _, h, k => Nat.le_trans h k
  | _ :: _, _, _, h, k => ⟨h.1, Nat.le_trans h.2.1 k, h.2.2⟩
theorem Chain.base {B : Nat} : ∀ {ps : List Part} {a : Nat}, Chain B ps a → B ≤ a
  | [], _, h => h
  | p :: ps, a, h => Nat.le_trans (Chain.base h.2.2) (Nat.le_trans h.1 h.2.1)
theorem Chain.bnd {B : Nat} : ∀ {ps : List Part} {a : Nat}, Chain B ps a → ∀ p ∈ ps, B ≤ p.lo ∧ p.lo ≤ p.hi ∧ p.hi ≤ a
  | [], _, _, p, hp => by cases hp
  | q :: ps, a, h, p, hp => by
    rcases List.mem_cons.1 hp with rfl | hp
    · exact ⟨Chain.base h.2.2, h.1, h.2.1⟩
    · have := Chain.bnd h.2.2 p hp
      have h1 := h.1
      have h2 := h.2.1
      exact ⟨this.1, this.2.1, by omega⟩
section
variable {w : World} {ps : List Part} {W W' : World}
theorem LS.start (w : World) : LS w [] w := ⟨Below.refl _ _, Nat.le_refl _, fun p hp => by cases hp⟩
theorem LS.below (h : LS w ps W) : Below w.heap.size w W := h.1
theorem LS.at (h : LS w ps W) (i : Nat) (p : Part) (hp : ps[i]? = some p) : p.P W := (h.2.2 p (List.mem_of_getElem? hp)).2
theorem LS.bnd (h : LS w ps W) (i : Nat) (p : Part) (hp : ps[i]? = some p) : w.heap.size ≤ p.lo ∧ p.lo ≤ p.hi ∧ p.hi ≤ W.heap.size := h.2.1.bnd p (List.mem_of_getElem? hp)
theorem LS.keep (h : LS w ps W) (hb : Below w.heap.size w W') (hs : W.heap.size ≤ W'.heap.size) (hk : ∀ p ∈ ps, Keeps (Rng p.lo p.hi) W W') : LS w ps W' :=
  ⟨hb, h.2.1.top hs, fun p hp => ⟨(h.2.2 p hp).1, (h.2.2 p hp).1 W W' (hk p hp) (h.2.2 p hp).2⟩⟩
theorem LS.step (h : LS w ps W) (hb : Below W.heap.size W W') : LS w ps W' :=
  h.keep (h.1.trans (hb.mono h.1.size)) hb.size (fun p _ => Keeps.of_below _ hb)
theorem LS.drew (h : LS w ps W) : LS w ps W.drew := h.step (Below.drew (Below.refl _ _))
/-- a new part -/
theorem LS.push (h : LS w ps W) (hb : Below W.heap.size W W') (P : World → Prop) (hc : Closed W.heap.size W'.heap.size P) (hP : P W') : ∃ p : Part, LS w (p :: ps) W' ∧ p.lo = W.heap.size ∧ p.hi = W'.heap.size ∧ Hid (∀ V, p.P V → P V) := by
  have h1 := h.step hb
  refine ⟨⟨W.heap.size, W'.heap.size, P⟩, ⟨h1.1, ⟨hb.size, Nat.le_refl _, h.2.1⟩, fun p hp => ?_⟩, rfl, rfl, fun _ h => h⟩
  rcases List.mem_cons.1 hp with rfl | hp
  · exact ⟨hc, hP⟩
  · exact h1.2.2 p hp
theorem Chain.apart {B : Nat} : ∀ {ps : List Part} {a : Nat} (i j : Nat) (p q : Part), Chain B ps a → ps[i]? = some p → ps[j]? = some q → i < j → q.hi ≤ p.lo
  | [], _, i, _, _, _, _, h, _, _ => by simp at h
  | r :: ps, a, 0, j + 1, p, q, hc, hi, hj, _ => by
    simp only [List.getElem?_cons_zero, Option.some.injEq] at hi
    subst hi
    simp only [List.getElem?_cons_succ] at hj
    exact (Chain.bnd hc.2.2 q (List.mem_of_getElem? hj)).2.2
  | r :: ps, a, i + 1, j + 1, p, q, hc, hi, hj, hij => by
    simp only [List.getElem?_cons_succ] at hi hj
    exact Chain.apart i j p q hc.2.2 hi hj (by omega)
theorem Chain.set {B : Nat} : ∀ {ps : List Part} {a : Nat} (i : Nat) (p p' : Part), Chain B ps a → ps[i]? = some p → p'.lo = p.lo → p'.hi = p.hi → Chain B (ps.set i p') a
  | [], _, _, _, _, _, h, _, _ => by simp at h
  | r :: ps, a, 0, p, p', hc, hi, h1, h2 => by
    simp only [List.getElem?_cons_zero, Option.some.injEq] at hi
    subst hi
    simp only [List.set_cons_zero]
    exact ⟨by rw [h1, h2]; exact hc.1, by rw [h2]; exact hc.2.1, by rw [h1]; exact hc.2.2⟩
  | r :: ps, a, i + 1, p, p', hc, hi, h1, h2 => by
    simp only [List.getElem?_cons_succ] at hi
    simp only [List.set_cons_succ]
    exact ⟨hc.1, hc.2.1, Chain.set i p p' hc.2.2 hi h1 h2⟩
/-- a part is changed, all else is kept -/
theorem LS.mod (h : LS w ps W) (i : Nat) (p : Part) (hp : ps[i]? = some p) (hk : Keeps (fun b => ¬ Rng p.lo p.hi b) W W') (h0 : Below 0 W W') (P' : World → Prop) (hc : Closed p.lo p.hi P') (hP : P' W') :
    ∃ p' : Part, LS w (ps.set i p') W' ∧ p'.lo = p.lo ∧ p'.hi = p.hi ∧ Hid (∀ V, p'.P V → P' V) := by
  have hb := h.bnd i p hp
  have hbel : Below w.heap.size w W' := h.1.trans ⟨h0.os, h0.tape, h0.output, hk.1, fun b hb' => hk.2 b (by have := h.1.size; omega) (fun hr => by have := hr.1; omega)⟩
  refine ⟨⟨p.lo, p.hi, P'⟩, ⟨hbel, (h.2.1.set i p ⟨p.lo, p.hi, P'⟩ hp rfl rfl).top hk.1, fun q hq => ?_⟩, rfl, rfl, fun _ h => h⟩
  obtain ⟨j, hj, hjq⟩ := List.getElem_of_mem hq
  rw [List.length_set] at hj
  by_cases hij : i = j
  · subst hij
    rw [List.getElem_set_self] at hjq
    subst hjq
    exact ⟨hc, hP⟩
  · rw [List.getElem_set_ne hij] at hjq
    have hjs : ps[j]? = some q := by rw [← hjq]; exact List.getElem?_eq_getElem hj
    have hq' := h.2.2 q (List.mem_of_getElem? hjs)
    refine ⟨hq'.1, hq'.1 W W' ⟨hk.1, fun b hbs hr => hk.2 b hbs fun hr' => ?_⟩ hq'.2⟩
    have a1 := hr.1
    have a2 := hr.2
    have a3 := hr'.1
    have a4 := hr'.2
    rcases Nat.lt_or_gt_of_ne hij with hlt | hlt
    · have := Chain.apart i j p q h.2.1 hp hjs hlt
      omega
    · have := Chain.apart j i q p h.2.1 hjs hp hlt
      omega
/-- a box -/
theorem LS.box (h : LS w ps W) (t : Nat) (cs : List Value) : ∃ p : Part, LS w (p :: ps) (W.alloc (.cells cs.toArray t)) ∧ Hid (p.lo = W.heap.size) ∧ Hid (∀ V, p.P V → Blk V W.heap.size t cs) := by
  obtain ⟨p, h1, h2, _, h4⟩ := h.push ((Below.refl _ _).alloc (Nat.le_refl _) (.cells cs.toArray t)) (fun V => Blk V W.heap.size t cs) (fun V V' hk hb => hb.keeps hk ⟨Nat.le_refl _, by simp⟩) (Blk.new W t cs)
  exact ⟨p, h1, h2, h4⟩
end
end Go.Proofs.YtjdfancbmjnjfaaGreat
