/-
  A slice of structs of a value's own that grows by append: the new element has memory of its own.
-/
import Derived.Test.YtejieacdfjpfnaaGreatSlOwn
namespace Go.Proofs.YtejieacdfjpfnaaGreat
set_option maxRecDepth 100000
open Go.ChangeShapes Go.WideShapes Go.ChangeAt Go.RowKit Go.Deep
set_option linter.unusedVariables false

theorem Keeps.grown {S : Nat → Prop} {w w' : World} {row : Option Nat} (hg : w.grownBy w' row) (hs : ∀ b, S b → some b ≠ row) : Keeps S w w' :=
  ⟨hg.size, fun b hb hS => hg.block b hb (hs b hS)⟩

theorem SlO.push {α : Type} {w w1 : World} {lo : Nat} {e : TypeId} {size : Nat} {RO : (Nat → Prop) → World → List Value → α → Prop} {v : Value} {l : List α}
    (hRK : ∀ {T : Nat → Prop} {w w' : World} {cs : List Value} {x : α}, RO T w cs x → Keeps T w w' → RO T w' cs x)
    (hRM : ∀ {T T' : Nat → Prop} {w : World} {cs : List Value} {x : α}, RO T w cs x → (∀ b, T b → T' b) → RO T' w cs x)
    (h : SlO (Rng lo w.heap.size) w e size RO v l) (hlo : lo ≤ w.heap.size) (hb : Below w.heap.size w w1) (x : α) (cs : List Value) (hcs : cs.length = size) (hx : RO (Rng w.heap.size w1.heap.size) w1 cs x) :
    ∃ xs, w1.ownsRow lo e size v l.length xs ∧ ∀ v' w2, w2.ownsRow lo e size v' (l.length + 1) (xs ++ cs) → w1.grownBy w2 v.ownBlock → (v'.ownBlock = v.ownBlock ∨ v'.ownBlock = some (w1.heap.size + 1)) →
      SlO (Rng lo w2.heap.size) w2 e size RO v' (l ++ [x]) := by
  obtain ⟨xss, f, h1, h2, h3, h4⟩ := h
  have hown : w.ownsRow lo e size v l.length xss.flatten := by
    refine ⟨h3.1, ?_⟩
    rcases h3.2 with hn | ⟨g, cap, cur, rfl, _, hg, rest⟩
    · exact .inl hn
    · exact .inr ⟨g, cap, cur, rfl, (h4 g rfl).1.1, hg, rest⟩
  refine ⟨xss.flatten, own_below hown hb, fun v' w2 ho hg hbk => ?_⟩
  have hz := hb.size
  have hz2 := hg.size
  have hown0 : ∀ b, v.ownBlock = some b → b < w.heap.size ∧ f b = 0 := fun b e1 => ⟨(h4 b e1).1.2, (h4 b e1).2⟩
  refine ⟨xss ++ [cs], fun b => if v'.ownBlock = some b then 0 else if b < w.heap.size then f b else l.length + 1, by simp [h1], fun k a b => ?_, ⟨?_, ?_⟩, fun k hk => ⟨⟨?_, ?_⟩, by simp [hk]⟩⟩
  · by_cases hk : k < l.length
    · rw [List.getElem_append_left (by omega), List.getElem_append_left hk]
      obtain ⟨q1, q2⟩ := h2 k (by omega) hk
      refine ⟨q1, hRM (hRK (hRK q2 (Keeps.of_below _ hb)) (Keeps.grown hg fun b hT e1 => ?_)) fun b hT => ⟨⟨hT.1.1, by have := hT.1.2; omega⟩, ?_⟩⟩
      · have := hown0 b e1.symm
        have := hT.2
        omega
      · have hbl := hT.1.2
        have hne : v'.ownBlock ≠ some b := fun e1 => by
          rcases hbk with e2 | e2
          · have := hown0 b (e2 ▸ e1)
            have := hT.2
            omega
          · rw [e2] at e1
            injection e1 with e1
            omega
        show (if v'.ownBlock = some b then 0 else if b < w.heap.size then f b else l.length + 1) = k + 1
        rw [if_neg hne, if_pos hbl]
        exact hT.2
    · have hk' : k = l.length := by simp at b; omega
      subst hk'
      rw [List.getElem_append_right (by omega), List.getElem_append_right (by omega)]
      simp only [h1, Nat.sub_self, List.getElem_cons_zero]
      refine ⟨hcs, hRM (hRK hx (Keeps.grown hg fun b hT e1 => ?_)) fun b hT => ⟨⟨by have := hT.1; omega, by have := hT.2; omega⟩, ?_⟩⟩
      · have := (hown0 b e1.symm).1
        have := hT.1
        omega
      · have hne : v'.ownBlock ≠ some b := fun e1 => by
          rcases hbk with e2 | e2
          · have := (hown0 b (e2 ▸ e1)).1
            have := hT.1
            omega
          · rw [e2] at e1
            injection e1 with e1
            have := hT.2
            omega
        show (if v'.ownBlock = some b then 0 else if b < w.heap.size then f b else l.length + 1) = l.length + 1
        rw [if_neg hne, if_neg (by have := hT.1; omega)]
  · have := ho.1
    simpa using this
  · rw [List.flatten_append, List.length_append]
    have := (own_base ho (Nat.zero_le lo)).2
    simpa using this
  · exact (ho.lt k hk).1
  · exact (ho.lt k hk).2
end Go.Proofs.YtejieacdfjpfnaaGreat
