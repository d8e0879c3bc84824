/-
  Merged texts: Good, SlPush, Plan, Phase, Push, Marks.
-/
import Derived.Test.YtjdimlhdkmkmbaaKBase
import Derived.Deep.RegionHeld3
import Derived.Maps.AppendAt
namespace Go.Proofs.Ytjdimlhdkmkmbaa
set_option maxRecDepth 100000
set_option maxRecDepth 100000
open Go.ChangeShapes Go.WideShapes Go.ChangeAt Go.RowKit Go.Deep
set_option linter.unusedVariables false

/-- G holds (behind a word of its own: the walk takes no hypothesis whose head is a letter for a rule) -/
def Ok (G : World → Prop) (W : World) : Prop := G W
/-- a condition on worlds that stays where memory is only added -/
structure GW (w : World) (G : World → Prop) : Prop where
  below : ∀ {W : World}, Ok G W → Below w.heap.size w W
  step : ∀ {W W' : World}, Ok G W → Below W.heap.size W W' → Ok G W'
  drew : ∀ {W : World}, Ok G W → Ok G W.drew
  drewN : ∀ {W : World} (n : Nat), Ok G W → Ok G (W.drewN n)
theorem ExL.gw (w : World) (bs : List (Nat × Nat × List Value)) : GW w (ExL w w.heap.size bs) :=
  ⟨fun h => h.2.1, fun h hb => ExL.below h hb, fun h => ExL.drew h, fun n h => ⟨h.1, below_drewN h.2.1 n, h.2.2⟩⟩
theorem GW.alloc {w : World} {G : World → Prop} (h : GW w G) {W : World} (g : Ok G W) (o : Obj) : Ok G (W.alloc o) := h.step g ((Below.refl _ _).alloc (Nat.le_refl _) o)
theorem good0 (w : World) : ∃ G : World → Prop, Ok G w ∧ Hid (GW w G) := ⟨ExL w w.heap.size [], ExL.start w, ExL.gw _ _⟩
theorem good2 (w : World) (t1 : Nat) (cs1 : List Value) (t2 : Nat) (cs2 : List Value) : ∃ G : World → Prop, Ok G ((w.alloc (.cells cs1.toArray t1)).alloc (.cells cs2.toArray t2)) ∧ Hid (GW w G) ∧ Hid (∀ W, Ok G W → Blk W w.heap.size t1 cs1) ∧ Hid (∀ W, Ok G W → Blk W (w.heap.size + 1) t2 cs2) :=
  ⟨ExL w w.heap.size [(w.heap.size + 1, t2, cs2), (w.heap.size, t1, cs1)], by unfold Ok; simpa using ((ExL.start w).push t1 cs1).push t2 cs2, ExL.gw _ _, fun W h => ExL.b0 (ExL.tail h), fun W h => ExL.b0 h⟩
/-- the world under a letter, of which only G is known -/
theorem gen_w {G R : World → Prop} {W : World} (g : Ok G W) (h : ∀ W', Ok G W' → R W') : R W := h W g

theorem pk_e3 {w : World} {G : World → Prop} (HG : Hid (GW w G)) {b o : Nat} (hb : b < w.heap.size) {a0 a1 a2 : Value} (ha : At w b o [a0, a1, a2]) : (∀ W, Ok G W → W.cell? ⟨b, o, none⟩ = some a0) ∧ (∀ W, Ok G W → W.cell? ⟨b, o + 1, none⟩ = some a1) ∧ (∀ W, Ok G W → W.cell? ⟨b, o + 2, none⟩ = some a2) :=
  ⟨fun W h => ((HG.out.below h).cell (p := ⟨b, o, none⟩) hb).trans (by simpa using ha 0 _ rfl), fun W h => ((HG.out.below h).cell (p := ⟨b, o + 1, none⟩) hb).trans (ha 1 _ rfl), fun W h => ((HG.out.below h).cell (p := ⟨b, o + 2, none⟩) hb).trans (ha 2 _ rfl)⟩
theorem pk_e8 {w : World} {G : World → Prop} (HG : Hid (GW w G)) {b o : Nat} (hb : b < w.heap.size) {a0 a1 a2 a3 a4 a5 a6 a7 : Value} (ha : At w b o [a0, a1, a2, a3, a4, a5, a6, a7]) : (∀ W, Ok G W → W.cell? ⟨b, o, none⟩ = some a0) ∧ (∀ W, Ok G W → W.cell? ⟨b, o + 1, none⟩ = some a1) ∧ (∀ W, Ok G W → W.cell? ⟨b, o + 2, none⟩ = some a2) ∧ (∀ W, Ok G W → W.cell? ⟨b, o + 3, none⟩ = some a3) ∧ (∀ W, Ok G W → W.cell? ⟨b, o + 4, none⟩ = some a4) ∧ (∀ W, Ok G W → W.cell? ⟨b, o + 5, none⟩ = some a5) ∧ (∀ W, Ok G W → W.cell? ⟨b, o + 6, none⟩ = some a6) ∧ (∀ W, Ok G W → W.cell? ⟨b, o + 7, none⟩ = some a7) :=
  ⟨fun W h => ((HG.out.below h).cell (p := ⟨b, o, none⟩) hb).trans (by simpa using ha 0 _ rfl), fun W h => ((HG.out.below h).cell (p := ⟨b, o + 1, none⟩) hb).trans (ha 1 _ rfl), fun W h => ((HG.out.below h).cell (p := ⟨b, o + 2, none⟩) hb).trans (ha 2 _ rfl), fun W h => ((HG.out.below h).cell (p := ⟨b, o + 3, none⟩) hb).trans (ha 3 _ rfl), fun W h => ((HG.out.below h).cell (p := ⟨b, o + 4, none⟩) hb).trans (ha 4 _ rfl), fun W h => ((HG.out.below h).cell (p := ⟨b, o + 5, none⟩) hb).trans (ha 5 _ rfl), fun W h => ((HG.out.below h).cell (p := ⟨b, o + 6, none⟩) hb).trans (ha 6 _ rfl), fun W h => ((HG.out.below h).cell (p := ⟨b, o + 7, none⟩) hb).trans (ha 7 _ rfl)⟩
theorem pk_f8 {G : World → Prop} {g t : Nat} {a0 a1 a2 a3 a4 a5 a6 a7 : Value} (B : Hid (∀ W, Ok G W → Blk W g t [a0, a1, a2, a3, a4, a5, a6, a7])) : (∀ W, Ok G W → W.cell? ⟨g, 0, none⟩ = some a0) ∧ (∀ W, Ok G W → W.cell? ⟨g, 1, none⟩ = some a1) ∧ (∀ W, Ok G W → W.cell? ⟨g, 2, none⟩ = some a2) ∧ (∀ W, Ok G W → W.cell? ⟨g, 3, none⟩ = some a3) ∧ (∀ W, Ok G W → W.cell? ⟨g, 4, none⟩ = some a4) ∧ (∀ W, Ok G W → W.cell? ⟨g, 5, none⟩ = some a5) ∧ (∀ W, Ok G W → W.cell? ⟨g, 6, none⟩ = some a6) ∧ (∀ W, Ok G W → W.cell? ⟨g, 7, none⟩ = some a7) :=
  ⟨fun W h => (B.out W h).cell 0 _ rfl, fun W h => (B.out W h).cell 1 _ rfl, fun W h => (B.out W h).cell 2 _ rfl, fun W h => (B.out W h).cell 3 _ rfl, fun W h => (B.out W h).cell 4 _ rfl, fun W h => (B.out W h).cell 5 _ rfl, fun W h => (B.out W h).cell 6 _ rfl, fun W h => (B.out W h).cell 7 _ rfl⟩
end Go.Proofs.Ytjdimlhdkmkmbaa
namespace Go.Proofs.Ytjdimlhdkmkmbaa
set_option maxRecDepth 100000
open Go.ChangeShapes Go.WideShapes Go.ChangeAt Go.RowKit Go.Deep
set_option linter.unusedVariables false

theorem Keeps.grown {S : Nat → Prop} {w w' : World} {row : Option Nat} (hg : w.grownBy w' row) (hs : ∀ b, S b → some b ≠ row) : Keeps S w w' :=
  ⟨hg.size, fun b hb hS => hg.block b hb (hs b hS)⟩

theorem SlO.push {α : Type} {w w1 : World} {lo : Nat} {e : TypeId} {size : Nat} {RO : (Nat → Prop) → World → List Value → α → Prop} {v : Value} {l : List α}
    (hRK : ∀ {T : Nat → Prop} {w w' : World} {cs : List Value} {x : α}, RO T w cs x → Keeps T w w' → RO T w' cs x)
    (hRM : ∀ {T T' : Nat → Prop} {w : World} {cs : List Value} {x : α}, RO T w cs x → (∀ b, T b → T' b) → RO T' w cs x)
    (h : SlO (Rng lo w.heap.size) w e size RO v l) (hlo : lo ≤ w.heap.size) (hb : Below w.heap.size w w1) (x : α) (cs : List Value) (hcs : cs.length = size) (hx : RO (Rng w.heap.size w1.heap.size) w1 cs x) :
    ∃ xs, w1.ownsRow lo e size v l.length xs ∧ ∀ v' w2, w2.ownsRow lo e size v' (l.length + 1) (xs ++ cs) → w1.grownBy w2 v.ownBlock → (v'.ownBlock = v.ownBlock ∨ v'.ownBlock = some (w1.heap.size + 1)) →
      SlO (Rng lo w2.heap.size) w2 e size RO v' (l ++ [x]) := by
  obtain ⟨xss, f, h1, h2, h3, h4⟩ := h
  have hown : w.ownsRow lo e size v l.length xss.flatten := by
    refine ⟨h3.1, ?_⟩
    rcases h3.2 with hn | ⟨g, cap, cur, rfl, _, hg, rest⟩
    · exact .inl hn
    · exact .inr ⟨g, cap, cur, rfl, (h4 g rfl).1.1, hg, rest⟩
  refine ⟨xss.flatten, own_below hown hb, fun v' w2 ho hg hbk => ?_⟩
  have hz := hb.size
  have hz2 := hg.size
  have hown0 : ∀ b, v.ownBlock = some b → b < w.heap.size ∧ f b = 0 := fun b e1 => ⟨(h4 b e1).1.2, (h4 b e1).2⟩
  refine ⟨xss ++ [cs], fun b => if v'.ownBlock = some b then 0 else if b < w.heap.size then f b else l.length + 1, by simp [h1], fun k a b => ?_, ⟨?_, ?_⟩, fun k hk => ⟨⟨?_, ?_⟩, by simp [hk]⟩⟩
  · by_cases hk : k < l.length
    · rw [List.getElem_append_left (by omega), List.getElem_append_left hk]
      obtain ⟨q1, q2⟩ := h2 k (by omega) hk
      refine ⟨q1, hRM (hRK (hRK q2 (Keeps.of_below _ hb)) (Keeps.grown hg fun b hT e1 => ?_)) fun b hT => ⟨⟨hT.1.1, by have := hT.1.2; omega⟩, ?_⟩⟩
      · have := hown0 b e1.symm
        have := hT.2
        omega
      · have hbl := hT.1.2
        have hne : v'.ownBlock ≠ some b := fun e1 => by
          rcases hbk with e2 | e2
          · have := hown0 b (e2 ▸ e1)
            have := hT.2
            omega
          · rw [e2] at e1
            injection e1 with e1
            omega
        show (if v'.ownBlock = some b then 0 else if b < w.heap.size then f b else l.length + 1) = k + 1
        rw [if_neg hne, if_pos hbl]
        exact hT.2
    · have hk' : k = l.length := by simp at b; omega
      subst hk'
      rw [List.getElem_append_right (by omega), List.getElem_append_right (by omega)]
      simp only [h1, Nat.sub_self, List.getElem_cons_zero]
      refine ⟨hcs, hRM (hRK hx (Keeps.grown hg fun b hT e1 => ?_)) fun b hT => ⟨⟨by have := hT.1; omega, by have := hT.2; omega⟩, ?_⟩⟩
      · have := (hown0 b e1.symm).1
        have := hT.1
        omega
      · have hne : v'.ownBlock ≠ some b := fun e1 => by
          rcases hbk with e2 | e2
          · have := (hown0 b (e2 ▸ e1)).1
            have := hT.1
            omega
          · rw [e2] at e1
            injection e1 with e1
            have := hT.2
            omega
        show (if v'.ownBlock = some b then 0 else if b < w.heap.size then f b else l.length + 1) = l.length + 1
        rw [if_neg hne, if_neg (by have := hT.1; omega)]
  · have := ho.1
    simpa using this
  · rw [List.flatten_append, List.length_append]
    have := (own_base ho (Nat.zero_le lo)).2
    simpa using this
  · exact (ho.lt k hk).1
  · exact (ho.lt k hk).2
end Go.Proofs.Ytjdimlhdkmkmbaa
namespace Go.Proofs.Ytjdimlhdkmkmbaa
set_option maxRecDepth 100000
open Go.ChangeShapes Go.WideShapes Go.ChangeAt Go.RowKit Go.Deep
set_option linter.unusedVariables false

section
variable {P : Program} {ops : Array Oper} {Q : Exit → Act → World → Prop} {S : World → Prop}

end
end Go.Proofs.Ytjdimlhdkmkmbaa
namespace Go.Proofs.Ytjdimlhdkmkmbaa
set_option maxRecDepth 100000
open Go.ChangeShapes Go.WideShapes Go.ChangeAt Go.RowKit Go.Deep
set_option linter.unusedVariables false

section
variable {P : Program} {ops : Array Oper} {Q : Exit → Act → World → Prop} {T : World → Prop} {esc : List Nat}

/-- none of the last operations has come up -/
def noEsc (esc : List Nat) (listed : Array Bool) : Prop := ∀ s ∈ esc, listed.getD s false = false
def wpL (P : Program) (ops : Array Oper) (Q : Exit → Act → World → Prop) (T : World → Prop) (esc : List Nat) : Nat → Array Bool → Act → World → Prop
  | 0, listed, a, w => Region.ready .any ops listed = [] ∧ Q .normal a w
  | n + 1, listed, a, w => (Region.ready .any ops listed = [] → Q .normal a w) ∧
    ∀ i ∈ Region.ready .any ops listed, wpOp P ops Q i (fun a' w' => (noEsc esc (listed.setIfInBounds i true) → T w') ∧ wpL P ops Q T esc n (listed.setIfInBounds i true) a' w') a w
theorem wpL_any : ∀ (n : Nat) (listed : Array Bool) (a : Act) (w : World), wpL P ops Q T esc n listed a w → wpAny P .any ops Q n listed a w
  | 0, _, _, _, h => h
  | n + 1, _, _, _, h => ⟨h.1, fun i hi => wpOp_mono (fun a' w' k => wpL_any n _ a' w' k.2) (h.2 i hi)⟩

/-- operation s waits, straight or by one other that has not come up, for operation i -/
def Late (ops : Array Oper) (listed : Array Bool) (i s : Nat) : Prop :=
  ∃ os, ops[s]? = some os ∧ ∃ e ∈ os.after, Region.binds .any e = true ∧ (e.on = i ∨ (listed.getD e.on false = false ∧ ∃ o, ops[e.on]? = some o ∧ ∃ d ∈ o.after, Region.binds .any d = true ∧ d.on = i))
def lateB (ops : Array Oper) (listed : Array Bool) (i s : Nat) : Bool := match ops[s]? with
  | some os => os.after.any fun e => Region.binds .any e && (e.on == i || (!listed.getD e.on false && match ops[e.on]? with
    | some o => o.after.any fun d => Region.binds .any d && d.on == i
    | none => false))
  | none => false
theorem Late.of {listed : Array Bool} {i s : Nat} (h : lateB ops listed i s = true) : Late ops listed i s := by
  unfold lateB at h
  split at h
  · rename_i os hos
    rw [Array.any_eq_true'] at h
    obtain ⟨e, he, h⟩ := h
    rw [Bool.and_eq_true, Bool.or_eq_true] at h
    refine ⟨os, hos, e, he, h.1, ?_⟩
    rcases h.2 with h2 | h2
    · exact .inl (eq_of_beq h2)
    · rw [Bool.and_eq_true] at h2
      right
      refine ⟨by simpa using h2.1, ?_⟩
      have h3 := h2.2
      split at h3
      · rename_i o ho
        rw [Array.any_eq_true'] at h3
        obtain ⟨d, hd, h4⟩ := h3
        rw [Bool.and_eq_true] at h4
        exact ⟨o, ho, d, hd, h4.1, eq_of_beq h4.2⟩
      · cases h3
  · cases h

theorem getD_unset {listed : Array Bool} {j k : Nat} (h : (listed.setIfInBounds j true).getD k true = false) : listed.getD k true = false := by
  by_cases hjk : j = k
  · subst hjk
    rw [Array.getD_eq_getD_getElem?] at h ⊢
    by_cases hlt : j < listed.size
    · rw [Array.getElem?_setIfInBounds_self_of_lt hlt] at h
      simp at h
    · rw [Array.getElem?_eq_none (by simp; omega)] at h
      simp at h
  · rw [Array.getD_eq_getD_getElem?, Array.getElem?_setIfInBounds_ne hjk, ← Array.getD_eq_getD_getElem?] at h
    exact h
theorem wpL_first {i : Nat} {oi : Oper} {v : Value} (hi : ops[i]? = some oi) (hsel : ∀ (j : Nat) (o : Oper) cs b, ops[j]? = some o → o.op ≠ .select cs b)
    (hQ : ∀ c a w, Q (.panic c) (a.put oi.dst v) w → Q (.panic c) a w) (hie : i ∉ esc) :
    ∀ (n : Nat) (listed : Array Bool) (a : Act) (w : World),
      (∀ j oj, ops[j]? = some oj → j ≠ i → listed.getD j true = false → (∀ e ∈ oj.after, Region.binds .any e = true → e.on ≠ i) → oi.apart ops oj = true) →
      i ∈ Region.ready .any ops listed → YieldsIf P ops T oi v a → T w → noEsc esc listed → (∀ s ∈ esc, Late ops listed i s) →
      wpL P ops Q T esc n (listed.setIfInBounds i true) (a.put oi.dst v) w → wpL P ops Q T esc (n + 1) listed a w := by
  intro n
  induction n with
  | zero =>
    intro listed a w _ hr hy hT hE hL H
    refine ⟨fun h => (by rw [h] at hr; cases hr), fun j hj => ?_⟩
    by_cases hji : j = i
    · subst hji
      exact hy.wpOp hi hT ⟨fun _ => hT, H⟩
    · have h1 := ready_mono hj hji
      rw [H.1] at h1
      cases h1
  | succ n ih =>
    intro listed a w hfree hr hy hT hE hL H
    refine ⟨fun h => (by rw [h] at hr; cases hr), fun j hj => ?_⟩
    by_cases hji : j = i
    · subst hji
      exact hy.wpOp hi hT ⟨fun _ => hT, H⟩
    · have h1 := H.2 j (ready_mono hj hji)
      obtain ⟨hju, oj, hoj, hall⟩ := mem_ready.1 hj
      have hi0 : listed.getD i false = false := by
        have h0 := (mem_ready.1 hr).1
        rw [Array.getD_eq_getD_getElem?] at h0 ⊢
        cases hx : listed[i]? with
        | none => rfl
        | some b => rw [hx] at h0; exact h0
      have hnot : ∀ e ∈ oj.after, Region.binds .any e = true → e.on ≠ i := fun e he hb heq => by
        have h2 := hall e he hb
        rw [heq, hi0] at h2
        cases h2
      -- j is none of the last operations, and none that one of these waits for
      have hjs : ∀ s ∈ esc, j ≠ s := fun s hs hjs => by
        obtain ⟨os, hos, e, he, hb, hl⟩ := hL s hs
        rw [← hjs, hoj] at hos
        injection hos with hos
        subst hos
        rcases hl with hl | ⟨hl, _⟩
        · exact hnot e he hb hl
        · have := hall e he hb
          rw [hl] at this
          cases this
      have hjr : ∀ o, ops[j]? = some o → (∃ d ∈ o.after, Region.binds .any d = true ∧ d.on = i) → False := fun o ho ⟨d, hd, hb, hdi⟩ => by
        rw [hoj] at ho
        injection ho with ho
        subst ho
        exact hnot d hd hb hdi
      have hfalse : ∀ k, k ≠ j → listed.getD k false = false → (listed.setIfInBounds j true).getD k false = false := fun k hk h => by
        rw [Array.getD_eq_getD_getElem?, Array.getElem?_setIfInBounds_ne (Ne.symm hk), ← Array.getD_eq_getD_getElem?]
        exact h
      have hE' : noEsc esc (listed.setIfInBounds j true) := fun s hs => hfalse s (Ne.symm (hjs s hs)) (hE s hs)
      have hE2 : noEsc esc ((listed.setIfInBounds i true).setIfInBounds j true) := fun s hs => by
        have hne : i ≠ s := fun e => hie (by rw [e]; exact hs)
        rw [Array.setIfInBounds_comm _ _ (Ne.symm hji)]
        rw [Array.getD_eq_getD_getElem?, Array.getElem?_setIfInBounds_ne hne, ← Array.getD_eq_getD_getElem?]
        exact hE' s hs
      have hL' : ∀ s ∈ esc, Late ops (listed.setIfInBounds j true) i s := fun s hs => by
        obtain ⟨os, hos, e, he, hb, hl⟩ := hL s hs
        refine ⟨os, hos, e, he, hb, ?_⟩
        rcases hl with hl | ⟨hl, o, ho, hd⟩
        · exact .inl hl
        · exact .inr ⟨hfalse _ (fun heq => hjr o (heq ▸ ho) hd) hl, o, ho, hd⟩
      have h2 := wpOp_putIf hoj (hfree j oj hoj hji hju hnot) (fun cs b => hsel i oi cs b hi) (fun cs b => hsel j oj cs b hoj) hQ hy h1
      refine wpOp_mono (fun a' w' h3 => ⟨fun _ => h3.2.1 hE2, ih (listed.setIfInBounds j true) a' w' (fun k ok hk hki hun hno => hfree k ok hk hki (getD_unset hun) hno) (ready_mono hr (Ne.symm hji)) h3.1 (h3.2.1 hE2) hE' hL' ?_⟩) h2
      rw [Array.setIfInBounds_comm _ _ hji]
      exact h3.2.2

theorem wpL_pure {i : Nat} {oi : Oper} {v : Value} (hi : ops[i]? = some oi) (hsel : ∀ (j : Nat) (o : Oper) cs b, ops[j]? = some o → o.op ≠ .select cs b)
    (hQ : ∀ c a w, Q (.panic c) (a.put oi.dst v) w → Q (.panic c) a w) (hie : i ∉ esc) :
    ∀ (n : Nat) (listed : Array Bool) (a : Act) (w : World),
      (∀ j oj, ops[j]? = some oj → j ≠ i → listed.getD j true = false → (∀ e ∈ oj.after, Region.binds .any e = true → e.on ≠ i) → oi.apart ops oj = true) →
      i ∈ Region.ready .any ops listed → YieldsIf P ops (fun _ => True) oi v a → (noEsc esc listed → T w) →
      wpL P ops Q T esc n (listed.setIfInBounds i true) (a.put oi.dst v) w → wpL P ops Q T esc (n + 1) listed a w := by
  have hset : ∀ (listed : Array Bool), noEsc esc (listed.setIfInBounds i true) → noEsc esc listed := fun listed h s hs => by
    have hne : i ≠ s := fun e => hie (by rw [e]; exact hs)
    have := h s hs
    rw [Array.getD_eq_getD_getElem?, Array.getElem?_setIfInBounds_ne hne, ← Array.getD_eq_getD_getElem?] at this
    exact this
  have hset' : ∀ (listed : Array Bool), noEsc esc listed → noEsc esc (listed.setIfInBounds i true) := fun listed h s hs => by
    have hne : i ≠ s := fun e => hie (by rw [e]; exact hs)
    rw [Array.getD_eq_getD_getElem?, Array.getElem?_setIfInBounds_ne hne, ← Array.getD_eq_getD_getElem?]
    exact h s hs
  intro n
  induction n with
  | zero =>
    intro listed a w _ hr hy hT H
    refine ⟨fun h => (by rw [h] at hr; cases hr), fun j hj => ?_⟩
    by_cases hji : j = i
    · subst hji
      exact hy.wpOp hi trivial ⟨fun h => hT (hset _ h), H⟩
    · have h1 := ready_mono hj hji
      rw [H.1] at h1
      cases h1
  | succ n ih =>
    intro listed a w hfree hr hy hT H
    refine ⟨fun h => (by rw [h] at hr; cases hr), fun j hj => ?_⟩
    by_cases hji : j = i
    · subst hji
      exact hy.wpOp hi trivial ⟨fun h => hT (hset _ h), H⟩
    · have h1 := H.2 j (ready_mono hj hji)
      obtain ⟨hju, oj, hoj, hall⟩ := mem_ready.1 hj
      have hi0 : listed.getD i false = false := by
        have h0 := (mem_ready.1 hr).1
        rw [Array.getD_eq_getD_getElem?] at h0 ⊢
        cases hx : listed[i]? with
        | none => rfl
        | some b => rw [hx] at h0; exact h0
      have hnot : ∀ e ∈ oj.after, Region.binds .any e = true → e.on ≠ i := fun e he hb heq => by
        have h2 := hall e he hb
        rw [heq, hi0] at h2
        cases h2
      have h2 := wpOp_putIf hoj (hfree j oj hoj hji hju hnot) (fun cs b => hsel i oi cs b hi) (fun cs b => hsel j oj cs b hoj) hQ hy h1
      have hT' : ∀ w', (noEsc esc ((listed.setIfInBounds i true).setIfInBounds j true) → T w') → noEsc esc (listed.setIfInBounds j true) → T w' := fun w' h3 h4 => h3 (by
        rw [Array.setIfInBounds_comm _ _ (Ne.symm hji)]
        exact hset' _ h4)
      refine wpOp_mono (fun a' w' h3 => ⟨hT' w' h3.2.1, ih (listed.setIfInBounds j true) a' w' (fun k ok hk hki hun hno => hfree k ok hk hki (getD_unset hun) hno) (ready_mono hr (Ne.symm hji)) h3.1 (hT' w' h3.2.1) ?_⟩) h2
      rw [Array.setIfInBounds_comm _ _ hji]
      exact h3.2.2

/-- may the operations be taken in this order? -/
def planL (ops : Array Oper) (esc : List Nat) : List (Nat × Nat) → Array Bool → Bool
  | [], listed => (Region.ready .any ops listed).isEmpty
  | (0, i) :: r, listed => decide (Region.ready .any ops listed = [i]) && planL ops esc r (listed.setIfInBounds i true)
  | (1, i) :: r, listed => Region.free .any ops listed i && (Region.ready .any ops listed).contains i && (!esc.contains i && esc.all (fun s => !listed.getD s false && lateB ops listed i s)) && planL ops esc r (listed.setIfInBounds i true)
  | (_ + 2, i) :: r, listed => Region.free .any ops listed i && (Region.ready .any ops listed).contains i && !esc.contains i && planL ops esc r (listed.setIfInBounds i true)
def dynL (P : Program) (ops : Array Oper) (Q : Exit → Act → World → Prop) (T : World → Prop) (esc : List Nat) : List (Nat × Nat) → Act → World → Prop
  | [], a, w => Q .normal a w
  | (1, i) :: r, a, w => ∃ o v, ops[i]? = some o ∧ YieldsIf P ops T o v a ∧ dynL P ops Q T esc r (a.put o.dst v) w
  | (_ + 2, i) :: r, a, w => ∃ o v, ops[i]? = some o ∧ YieldsIf P ops (fun _ => True) o v a ∧ dynL P ops Q T esc r (a.put o.dst v) w
  | (0, i) :: r, a, w => wpOp P ops Q i (fun a' w' => (i ∈ esc ∨ T w') ∧ dynL P ops Q T esc r a' w') a w
theorem dynL_take {i : Nat} {o : Oper} {v : Value} {l : List (Nat × Nat)} {a : Act} {w : World} (hi : ops[i]? = some o) (hw : Region.wanted o (yielded ops a.tmps) = true)
    (hv : ∀ W, T W → (execOp a.eval o).run P W = .ok (.value v) W) (h : dynL P ops Q T esc l (a.put o.dst v) w) : dynL P ops Q T esc ((1, i) :: l) a w := ⟨o, v, hi, .inl ⟨hw, hv⟩, h⟩
theorem dynL_pure {i : Nat} {o : Oper} {v : Value} {l : List (Nat × Nat)} {a : Act} {w : World} (hi : ops[i]? = some o) (hw : Region.wanted o (yielded ops a.tmps) = true)
    (hv : ∀ W, (execOp a.eval o).run P W = .ok (.value v) W) (h : dynL P ops Q T esc l (a.put o.dst v) w) : dynL P ops Q T esc ((2, i) :: l) a w := ⟨o, v, hi, .inl ⟨hw, fun W _ => hv W⟩, h⟩
theorem dynL_act {i : Nat} {o : Oper} {l : List (Nat × Nat)} {a : Act} {w : World} (hi : ops[i]? = some o) (hw : Region.wanted o (yielded ops a.tmps) = true)
    (h : ∀ K : Act → World → Prop, Shut (∀ a w, T w → dynL P ops Q T esc l a w → K a w) → Oper.wp P o a w K Q) : dynL P ops Q T esc ((0, i) :: l) a w :=
  wpOp_step hi (fun K hK => by rw [if_pos hw]; exact h K (fun a w hS hd => hK a w ⟨.inr hS, hd⟩))
theorem dynL_last {i : Nat} {o : Oper} {l : List (Nat × Nat)} {a : Act} {w : World} (hi : ops[i]? = some o) (he : i ∈ esc) (hw : Region.wanted o (yielded ops a.tmps) = true)
    (h : ∀ K : Act → World → Prop, Shut (∀ a w, dynL P ops Q T esc l a w → K a w) → Oper.wp P o a w K Q) : dynL P ops Q T esc ((0, i) :: l) a w :=
  wpOp_step hi (fun K hK => by rw [if_pos hw]; exact h K (fun a w hd => hK a w ⟨.inl he, hd⟩))
theorem dynL_done {a : Act} {w : World} (h : Q .normal a w) : dynL P ops (NoPanic Q) T esc [] a w := h
theorem dynL_sound (hs : Region.noSelect ops = true) : ∀ (l : List (Nat × Nat)) (listed : Array Bool) (a : Act) (w : World), planL ops esc l listed = true → (noEsc esc listed → T w) → dynL P ops (NoPanic Q) T esc l a w → wpL P ops (NoPanic Q) T esc l.length listed a w := by
  intro l
  induction l with
  | nil =>
    intro listed a w hp hT h
    exact ⟨by simpa [planL] using hp, h⟩
  | cons p l ih =>
    intro listed a w hp hT h
    obtain ⟨b, i⟩ := p
    match b with
    | 1 =>
      simp only [planL, Bool.and_eq_true, Bool.not_eq_true', List.all_eq_true] at hp
      obtain ⟨⟨⟨h1, h2⟩, h3, h4⟩, h5⟩ := hp
      obtain ⟨o, v, hi, hy, h'⟩ := h
      have hie : i ∉ esc := fun hm => by simp [hm] at h3
      have hE : noEsc esc listed := fun s hs => (h4 s hs).1
      refine wpL_first hi (Region.noSelect_spec hs) (fun _ _ _ hc => hc.elim) hie l.length listed a w (Region.free_spec hi h1) (by simpa using h2) hy (hT hE) hE (fun s hs => Late.of (h4 s hs).2) (ih _ _ _ h5 (fun _ => hT hE) h')
    | b + 2 =>
      simp only [planL, Bool.and_eq_true, Bool.not_eq_true'] at hp
      obtain ⟨⟨⟨h1, h2⟩, h3⟩, h5⟩ := hp
      obtain ⟨o, v, hi, hy, h'⟩ := h
      have hie : i ∉ esc := fun hm => by simp [hm] at h3
      refine wpL_pure hi (Region.noSelect_spec hs) (fun _ _ _ hc => hc.elim) hie l.length listed a w (Region.free_spec hi h1) (by simpa using h2) hy hT (ih _ _ _ h5 (fun hn => hT fun s hs' => ?_) h')
      have hne : i ≠ s := fun e => hie (by rw [e]; exact hs')
      have := hn s hs'
      rw [Array.getD_eq_getD_getElem?, Array.getElem?_setIfInBounds_ne hne, ← Array.getD_eq_getD_getElem?] at this
      exact this
    | 0 =>
      rw [planL, Bool.and_eq_true, decide_eq_true_eq] at hp
      refine ⟨fun h0 => (by rw [hp.1] at h0; cases h0), fun j hj => ?_⟩
      rw [hp.1, List.mem_singleton] at hj
      subst hj
      have hlt : j < listed.size := by
        have h0 : j ∈ Region.ready .any ops listed := by rw [hp.1]; simp
        have h1 := (mem_ready.1 h0).1
        by_cases hlt : j < listed.size
        · exact hlt
        · rw [Array.getD_eq_getD_getElem?, Array.getElem?_eq_none (by omega)] at h1
          cases h1
      have hS : ∀ w', (j ∈ esc ∨ T w') → noEsc esc (listed.setIfInBounds j true) → T w' := fun w' h1 hn => by
        rcases h1 with h1 | h1
        · have := hn j h1
          rw [Array.getD_eq_getD_getElem?, Array.getElem?_setIfInBounds_self_of_lt hlt] at this
          cases this
        · exact h1
      exact wpOp_mono (fun a' w' h' => ⟨hS w' h'.1, ih _ _ _ hp.2 (hS w' h'.1) h'.2⟩) h
theorem wp_region_phase {id : Nat} {a : Act} {w : World} (hm : P.follows .mixedOrders = true) (l : List (Nat × Nat)) (esc : List Nat) (hc : (Region.noSelect ops && planL ops esc l (Array.replicate ops.size false) && l.length == ops.size) = true) (hT : T w.drew)
    (h : dynL P ops (NoPanic Q) T esc l a w.drew) : (Code.region id ops true).wp P Q a w := by
  rw [Bool.and_eq_true, Bool.and_eq_true] at hc
  have hl : l.length = ops.size := eq_of_beq hc.2
  refine wp_region_noPanic (wp_region_any hm ?_)
  have := wpL_any _ _ _ _ (dynL_sound hc.1.1 l (Array.replicate ops.size false) a w.drew hc.1.2 (fun _ => hT) h)
  rw [hl] at this
  exact this
end
end Go.Proofs.Ytjdimlhdkmkmbaa
namespace Go.Proofs.Ytjdimlhdkmkmbaa
set_option maxRecDepth 100000
open Go.ChangeShapes Go.WideShapes Go.ChangeAt Go.RowKit Go.Deep
set_option linter.unusedVariables false

section
variable {P : Program}
theorem wp_push {o : Oper} {a : Act} {K : Act → World → Prop} {Q : Exit → Act → World → Prop} (s x : Operand) (t : TypeId)
    (ho : o.op = .call { callee := .builtin .append, args := #[s, x], argTypes := #[t, t] })
    (base : Nat) (e : TypeId) (z : Value) (size bytes : Nat) (ht : P.underlying t = some (.slice e)) (hi : (P.info? e).map (fun i => (i.zero, i.size, i.bytes)) = some (some z, size, bytes)) (hzs : z.cells.size = size) (hsz : 0 < size)
    (w : World) (v : Value) (n : Nat) (xs : List Value) (cs : Array Value) (hs : a.eval s = v) (hx : a.eval x = .slice (some ⟨w.heap.size, 0, none⟩) 1 1)
    (hown : w.ownsRow base e size v n xs) (hcs : cs.size = size) (h1 : ∀ u ∈ cs.toList, u.oneCell' = true)
    (h63 : n + 1 ≤ 1099511627776) (hbytes : (n + 1) * bytes ≤ 140737488355328) (hbase : base ≤ w.heap.size)
    (h : ∀ v' w', w'.ownsRow base e size v' (n + 1) (xs ++ cs.toList) → w.grownBy w' v.ownBlock → (v'.ownBlock = v.ownBlock ∨ v'.ownBlock = some (w.heap.size + 1)) → Below base w w' → K (a.put o.dst v') w') :
    o.wp P a (w.alloc (.cells cs e)) K Q := by
  obtain ⟨i, h2, h3, h4, h5⟩ := info_parts hi
  have hbl : Below w.heap.size w (w.alloc (.cells cs e)) := (Below.refl _ _).alloc (Nat.le_refl _) _
  have hrow : ∀ k, v.ownBlock = some k → base ≤ k := fun k hk => (hown.lt k hk).1
  obtain ⟨v', w', hr, g1, g2, _, g3⟩ := run_append_own_at (P := P) (w := w.alloc (.cells cs e)) base t o.type e i z size bytes ht h2 h3 h4 h5 hzs hsz v n xs (own_below hown hbl) ⟨w.heap.size, 0, none⟩ 1 1 cs.toList (by simpa using hcs) (news_new w cs e) h1
    (by unfold maxLen; omega) hbytes (by simp; omega)
  unfold Oper.wp execOp
  simp only [ho, resolve, invoke, builtin, Sem.run_bind, Sem.run_pure, Result.andThen_ok, List.map_toArray, List.map_cons, List.map_nil, hs, hx, hr]
  exact h v' w' g1 ((grown_of_below hbl v.ownBlock).trans g2) (by simpa using g3) ((hbl.mono hbase).grown g2 (by simp; omega) hrow)
end
end Go.Proofs.Ytjdimlhdkmkmbaa
namespace Go.Proofs.Ytjdimlhdkmkmbaa
set_option maxRecDepth 100000
open Go.ChangeShapes Go.WideShapes Go.ChangeAt Go.RowKit Go.Deep
set_option linter.unusedVariables false

section
variable {α : Type} {S : Nat → Prop} {f : Nat → Nat} {w w' : World} {e : TypeId} {size : Nat} {RO : (Nat → Prop) → World → List Value → α → Prop} {g : Nat} {post : List Value} {ys : List (List Value)} {m : List α}

end

/-! ### marked lists -/
def mkL {α : Type} (mk : α → Int → α) (cnt : α → Nat) : List α → Int → List α
  | [], _ => []
  | x :: l, k => mk x k :: mkL mk cnt l (k + cnt x)
/-- the first i elements are marked -/
def part {α : Type} (mk : α → Int → α) (cnt : α → Nat) (l : List α) (k : Int) (i : Nat) : List α := mkL mk cnt (l.take i) k ++ l.drop i
/-! ### a stretch of a block -/
theorem Blk.keeps {S : Nat → Prop} {w w' : World} {g : Nat} {e : TypeId} {cs : List Value} (h : Blk w g e cs) (hk : Keeps S w w') (hg : S g) : Blk w' g e cs := (hk.2 g h.lt hg).trans h

/-! ### strings -/
end Go.Proofs.Ytjdimlhdkmkmbaa
