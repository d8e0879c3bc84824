/-
  A region that draws its order and ends with an operation that changes what the region has read: the condition on the world is asked only till that operation.
-/
import Derived.Test.YtjdfancbmjnjfaaGreatPlan
namespace Go.Proofs.YtjdfancbmjnjfaaGreat
set_option maxRecDepth 100000
open Go.ChangeShapes Go.WideShapes Go.ChangeAt Go.RowKit Go.Deep
set_option linter.unusedVariables false

section
variable {P : Program} {ops : Array Oper} {Q : Exit → Act → World → Prop} {T : World → Prop} {esc : List Nat}

/-- none of the last operations has come up -/
def noEsc (esc : List Nat) (listed : Array Bool) : Prop := ∀ s ∈ esc, listed.getD s false = false
def wpL (P : Program) (ops : Array Oper) (Q : Exit → Act → World → Prop) (T : World → Prop) (esc : List Nat) : Nat → Array Bool → Act → World → Prop
  | 0, listed, a, w => Region.ready .any ops listed = [] ∧ Q .normal a w
  | n + 1, listed, a, w => (Region.ready .any ops listed = [] → Q .normal a w) ∧
    ∀ i ∈ Region.ready .any ops listed, wpOp P ops Q i (fun a' w' => (noEsc esc (listed.setIfInBounds i true) → T w') ∧ wpL P ops Q T esc n (listed.setIfInBounds i true) a' w') a w
theorem wpL_any : ∀ (n : Nat) (listed : Array Bool) (a : Act) (w : World), wpL P ops Q T esc n listed a w → wpAny P .any ops Q n listed a w
  | 0, _, _, _, h => h
  | n + 1, _, _, _, h => ⟨h.1, fun i hi => wpOp_mono (fun a' w' k => wpL_any n _ a' w' k.2) (h.2 i hi)⟩

/-- operation s waits, straight or by one other that has not come up, for operation i -/
def Late (ops : Array Oper) (listed : Array Bool) (i s : Nat) : Prop :=
  ∃ os, ops[s]? = some os ∧ ∃ e ∈ os.after, Region.binds .any e = true ∧ (e.on = i ∨ (listed.getD e.on false = false ∧ ∃ o, ops[e.on]? = some o ∧ ∃ d ∈ o.after, Region.binds .any d = true ∧ d.on = i))
def lateB (ops : Array Oper) (listed : Array Bool) (i s : Nat) : Bool := match ops[s]? with
  | some os => os.after.any fun e => Region.binds .any e && (e.on == i || (!listed.getD e.on false && match ops[e.on]? with
    | some o => o.after.any fun d => Region.binds .any d && d.on == i
    | none => false))
  | none => false
theorem Late.of {listed : Array Bool} {i s : Nat} (h : lateB ops listed i s = true) : Late ops listed i s := by
  unfold lateB at h
  split at h
  · rename_i os hos
    rw [Array.any_eq_true'] at h
    obtain ⟨e, he, h⟩ := h
    rw [Bool.and_eq_true, Bool.or_eq_true] at h
    refine ⟨os, hos, e, he, h.1, ?_⟩
    rcases h.2 with h2 | h2
    · exact .inl (eq_of_beq h2)
    · rw [Bool.and_eq_true] at h2
      right
      refine ⟨by simpa using h2.1, ?_⟩
      have h3 := h2.2
      split at h3
      · rename_i o ho
        rw [Array.any_eq_true'] at h3
        obtain ⟨d, hd, h4⟩ := h3
        rw [Bool.and_eq_true] at h4
        exact ⟨o, ho, d, hd, h4.1, eq_of_beq h4.2⟩
      · cases h3
  · cases h

theorem getD_unset {listed : Array Bool} {j k : Nat} (h : (listed.setIfInBounds j true).getD k true = false) : listed.getD k true = false := by
  by_cases hjk : j = k
  · subst hjk
    rw [Array.getD_eq_getD_getElem?] at h ⊢
    by_cases hlt : j < listed.size
    · rw [Array.getElem?_setIfInBounds_self_of_lt hlt] at h
      simp at h
    · rw [Array.getElem?_eq_none (by simp; omega)] at h
      simp at h
  · rw [Array.getD_eq_getD_getElem?, Array.getElem?_setIfInBounds_ne hjk, ← Array.getD_eq_getD_getElem?] at h
    exact h
theorem wpL_first {i : Nat} {oi : Oper} {v : Value} (hi : ops[i]? = some oi) (hsel : ∀ (j : Nat) (o : Oper) cs b, ops[j]? = some o → o.op ≠ .select cs b)
    (hQ : ∀ c a w, Q (.panic c) (a.put oi.dst v) w → Q (.panic c) a w) (hie : i ∉ esc) :
    ∀ (n : Nat) (listed : Array Bool) (a : Act) (w : World),
      (∀ j oj, ops[j]? = some oj → j ≠ i → listed.getD j true = false → (∀ e ∈ oj.after, Region.binds .any e = true → e.on ≠ i) → oi.apart ops oj = true) →
      i ∈ Region.ready .any ops listed → YieldsIf P ops T oi v a → T w → noEsc esc listed → (∀ s ∈ esc, Late ops listed i s) →
      wpL P ops Q T esc n (listed.setIfInBounds i true) (a.put oi.dst v) w → wpL P ops Q T esc (n + 1) listed a w := by
  intro n
  induction n with
  | zero =>
    intro listed a w _ hr hy hT hE hL H
    refine ⟨fun h => (by rw [h] at hr; cases hr), fun j hj => ?_⟩
    by_cases hji : j = i
    · subst hji
      exact hy.wpOp hi hT ⟨fun _ => hT, H⟩
    · have h1 := ready_mono hj hji
      rw [H.1] at h1
      cases h1
  | succ n ih =>
    intro listed a w hfree hr hy hT hE hL H
    refine ⟨fun h => (by rw [h] at hr; cases hr), fun j hj => ?_⟩
    by_cases hji : j = i
    · subst hji
      exact hy.wpOp hi hT ⟨fun _ => hT, H⟩
    · have h1 := H.2 j (ready_mono hj hji)
      obtain ⟨hju, oj, hoj, hall⟩ := mem_ready.1 hj
      have hi0 : listed.getD i false = false := by
        have h0 := (mem_ready.1 hr).1
        rw [Array.getD_eq_getD_getElem?] at h0 ⊢
        cases hx : listed[i]? with
        | none => rfl
        | some b => rw [hx] at h0; exact h0
      have hnot : ∀ e ∈ oj.after, Region.binds .any e = true → e.on ≠ i := fun e he hb heq => by
        have h2 := hall e he hb
        rw [heq, hi0] at h2
        cases h2
      -- j is none of the last operations, and none that one of these waits for
      have hjs : ∀ s ∈ esc, j ≠ s := fun s hs hjs => by
        obtain ⟨os, hos, e, he, hb, hl⟩ := hL s hs
        rw [← hjs, hoj] at hos
        injection hos with hos
        subst hos
        rcases hl with hl | ⟨hl, _⟩
        · exact hnot e he hb hl
        · have := hall e he hb
          rw [hl] at this
          cases this
      have hjr : ∀ o, ops[j]? = some o → (∃ d ∈ o.after, Region.binds .any d = true ∧ d.on = i) → False := fun o ho ⟨d, hd, hb, hdi⟩ => by
        rw [hoj] at ho
        injection ho with ho
        subst ho
        exact hnot d hd hb hdi
      have hfalse : ∀ k, k ≠ j → listed.getD k false = false → (listed.setIfInBounds j true).getD k false = false := fun k hk h => by
        rw [Array.getD_eq_getD_getElem?, Array.getElem?_setIfInBounds_ne (Ne.symm hk), ← Array.getD_eq_getD_getElem?]
        exact h
      have hE' : noEsc esc (listed.setIfInBounds j true) := fun s hs => hfalse s (Ne.symm (hjs s hs)) (hE s hs)
      have hE2 : noEsc esc ((listed.setIfInBounds i true).setIfInBounds j true) := fun s hs => by
        have hne : i ≠ s := fun e => hie (by rw [e]; exact hs)
        rw [Array.setIfInBounds_comm _ _ (Ne.symm hji)]
        rw [Array.getD_eq_getD_getElem?, Array.getElem?_setIfInBounds_ne hne, ← Array.getD_eq_getD_getElem?]
        exact hE' s hs
      have hL' : ∀ s ∈ esc, Late ops (listed.setIfInBounds j true) i s := fun s hs => by
        obtain ⟨os, hos, e, he, hb, hl⟩ := hL s hs
        refine ⟨os, hos, e, he, hb, ?_⟩
        rcases hl with hl | ⟨hl, o, ho, hd⟩
        · exact .inl hl
        · exact .inr ⟨hfalse _ (fun heq => hjr o (heq ▸ ho) hd) hl, o, ho, hd⟩
      have h2 := wpOp_putIf hoj (hfree j oj hoj hji hju hnot) (fun cs b => hsel i oi cs b hi) (fun cs b => hsel j oj cs b hoj) hQ hy h1
      refine wpOp_mono (fun a' w' h3 => ⟨fun _ => h3.2.1 hE2, ih (listed.setIfInBounds j true) a' w' (fun k ok hk hki hun hno => hfree k ok hk hki (getD_unset hun) hno) (ready_mono hr (Ne.symm hji)) h3.1 (h3.2.1 hE2) hE' hL' ?_⟩) h2
      rw [Array.setIfInBounds_comm _ _ hji]
      exact h3.2.2

theorem wpL_pure {i : Nat} {oi : Oper} {v : Value} (hi : ops[i]? = some oi) (hsel : ∀ (j : Nat) (o : Oper) cs b, ops[j]? = some o → o.op ≠ .select cs b)
    (hQ : ∀ c a w, Q (.panic c) (a.put oi.dst v) w → Q (.panic c) a w) (hie : i ∉ esc) :
    ∀ (n : Nat) (listed : Array Bool) (a : Act) (w : World),
      (∀ j oj, ops[j]? = some oj → j ≠ i → listed.getD j true = false → (∀ e ∈ oj.after, Region.binds .any e = true → e.on ≠ i) → oi.apart ops oj = true) →
      i ∈ Region.ready .any ops listed → YieldsIf P ops (fun _ => True) oi v a → (noEsc esc listed → T w) →
      wpL P ops Q T esc n (listed.setIfInBounds i true) (a.put oi.dst v) w → wpL P ops Q T esc (n + 1) listed a w := by
  have hset : ∀ (listed : Array Bool), noEsc esc (listed.setIfInBounds i true) → noEsc esc listed := fun listed h s hs => by
    have hne : i ≠ s := fun e => hie (by rw [e]; exact hs)
    have := h s hs
    rw [Array.getD_eq_getD_getElem?, Array.getElem?_setIfInBounds_ne hne, ← Array.getD_eq_getD_getElem?] at this
    exact this
  have hset' : ∀ (listed : Array Bool), noEsc esc listed → noEsc esc (listed.setIfInBounds i true) := fun listed h s hs => by
    have hne : i ≠ s := fun e => hie (by rw [e]; exact hs)
    rw [Array.getD_eq_getD_getElem?, Array.getElem?_setIfInBounds_ne hne, ← Array.getD_eq_getD_getElem?]
    exact h s hs
  intro n
  induction n with
  | zero =>
    intro listed a w _ hr hy hT H
    refine ⟨fun h => (by rw [h] at hr; cases hr), fun j hj => ?_⟩
    by_cases hji : j = i
    · subst hji
      exact hy.wpOp hi trivial ⟨fun h => hT (hset _ h), H⟩
    · have h1 := ready_mono hj hji
      rw [H.1] at h1
      cases h1
  | succ n ih =>
    intro listed a w hfree hr hy hT H
    refine ⟨fun h => (by rw [h] at hr; cases hr), fun j hj => ?_⟩
    by_cases hji : j = i
    · subst hji
      exact hy.wpOp hi trivial ⟨fun h => hT (hset _ h), H⟩
    · have h1 := H.2 j (ready_mono hj hji)
      obtain ⟨hju, oj, hoj, hall⟩ := mem_ready.1 hj
      have hi0 : listed.getD i false = false := by
        have h0 := (mem_ready.1 hr).1
        rw [Array.getD_eq_getD_getElem?] at h0 ⊢
        cases hx : listed[i]? with
        | none => rfl
        | some b => rw [hx] at h0; exact h0
      have hnot : ∀ e ∈ oj.after, Region.binds .any e = true → e.on ≠ i := fun e he hb heq => by
        have h2 := hall e he hb
        rw [heq, hi0] at h2
        cases h2
      have h2 := wpOp_putIf hoj (hfree j oj hoj hji hju hnot) (fun cs b => hsel i oi cs b hi) (fun cs b => hsel j oj cs b hoj) hQ hy h1
      have hT' : ∀ w', (noEsc esc ((listed.setIfInBounds i true).setIfInBounds j true) → T w') → noEsc esc (listed.setIfInBounds j true) → T w' := fun w' h3 h4 => h3 (by
        rw [Array.setIfInBounds_comm _ _ (Ne.symm hji)]
        exact hset' _ h4)
      refine wpOp_mono (fun a' w' h3 => ⟨hT' w' h3.2.1, ih (listed.setIfInBounds j true) a' w' (fun k ok hk hki hun hno => hfree k ok hk hki (getD_unset hun) hno) (ready_mono hr (Ne.symm hji)) h3.1 (hT' w' h3.2.1) ?_⟩) h2
      rw [Array.setIfInBounds_comm _ _ hji]
      exact h3.2.2

/-- may the operations be taken in this order? -/
def planL (ops : Array Oper) (esc : List Nat) : List (Nat × Nat) → Array Bool → Bool
  | [], listed => (Region.ready .any ops listed).isEmpty
  | (0, i) :: r, listed => decide (Region.ready .any ops listed = [i]) && planL ops esc r (listed.setIfInBounds i true)
  | (1, i) :: r, listed => Region.free .any ops listed i && (Region.ready .any ops listed).contains i && (!esc.contains i && esc.all (fun s => !listed.getD s false && lateB ops listed i s)) && planL ops esc r (listed.setIfInBounds i true)
  | (_ + 2, i) :: r, listed => Region.free .any ops listed i && (Region.ready .any ops listed).contains i && !esc.contains i && planL ops esc r (listed.setIfInBounds i true)
def dynL (P : Program) (ops : Array Oper) (Q : Exit → Act → World → Prop) (T : World → Prop) (esc : List Nat) : List (Nat × Nat) → Act → World → Prop
  | [], a, w => Q .normal a w
  | (1, i) :: r, a, w => ∃ o v, ops[i]? = some o ∧ YieldsIf P ops T o v a ∧ dynL P ops Q T esc r (a.put o.dst v) w
  | (_ + 2, i) :: r, a, w => ∃ o v, ops[i]? = some o ∧ YieldsIf P ops (fun _ => True) o v a ∧ dynL P ops Q T esc r (a.put o.dst v) w
  | (0, i) :: r, a, w => wpOp P ops Q i (fun a' w' => (i ∈ esc ∨ T w') ∧ dynL P ops Q T esc r a' w') a w
theorem dynL_take {i : Nat} {o : Oper} {v : Value} {l : List (Nat × Nat)} {a : Act} {w : World} (hi : ops[i]? = some o) (hw : Region.wanted o (yielded ops a.tmps) = true)
    (hv : ∀ W, T W → (execOp a.eval o).run P W = .ok (.value v) W) (h : dynL P ops Q T esc l (a.put o.dst v) w) : dynL P ops Q T esc ((1, i) :: l) a w := ⟨o, v, hi, .inl ⟨hw, hv⟩, h⟩
theorem dynL_pure {i : Nat} {o : Oper} {v : Value} {l : List (Nat × Nat)} {a : Act} {w : World} (hi : ops[i]? = some o) (hw : Region.wanted o (yielded ops a.tmps) = true)
    (hv : ∀ W, (execOp a.eval o).run P W = .ok (.value v) W) (h : dynL P ops Q T esc l (a.put o.dst v) w) : dynL P ops Q T esc ((2, i) :: l) a w := ⟨o, v, hi, .inl ⟨hw, fun W _ => hv W⟩, h⟩
theorem dynL_skip {i : Nat} {o : Oper} {l : List (Nat × Nat)} {a : Act} {w : World} (hi : ops[i]? = some o) (hw : Region.wanted o (yielded ops a.tmps) = false)
    (h : dynL P ops Q T esc l (a.put o.dst undef) w) : dynL P ops Q T esc ((2, i) :: l) a w := ⟨o, undef, hi, .inr ⟨hw, rfl⟩, h⟩
theorem dynL_act {i : Nat} {o : Oper} {l : List (Nat × Nat)} {a : Act} {w : World} (hi : ops[i]? = some o) (hw : Region.wanted o (yielded ops a.tmps) = true)
    (h : ∀ K : Act → World → Prop, Shut (∀ a w, T w → dynL P ops Q T esc l a w → K a w) → Oper.wp P o a w K Q) : dynL P ops Q T esc ((0, i) :: l) a w :=
  wpOp_step hi (fun K hK => by rw [if_pos hw]; exact h K (fun a w hS hd => hK a w ⟨.inr hS, hd⟩))
theorem dynL_last {i : Nat} {o : Oper} {l : List (Nat × Nat)} {a : Act} {w : World} (hi : ops[i]? = some o) (he : i ∈ esc) (hw : Region.wanted o (yielded ops a.tmps) = true)
    (h : ∀ K : Act → World → Prop, Shut (∀ a w, dynL P ops Q T esc l a w → K a w) → Oper.wp P o a w K Q) : dynL P ops Q T esc ((0, i) :: l) a w :=
  wpOp_step hi (fun K hK => by rw [if_pos hw]; exact h K (fun a w hd => hK a w ⟨.inl he, hd⟩))
theorem dynL_done {a : Act} {w : World} (h : Q .normal a w) : dynL P ops (NoPanic Q) T esc [] a w := h
theorem dynL_sound (hs : Region.noSelect ops = true) : ∀ (l : List (Nat × Nat)) (listed : Array Bool) (a : Act) (w : World), planL ops esc l listed = true → (noEsc esc listed → T w) → dynL P ops (NoPanic Q) T esc l a w → wpL P ops (NoPanic Q) T esc l.length listed a w := by
  intro l
  induction l with
  | nil =>
    intro listed a w hp hT h
    exact ⟨by simpa [planL] using hp, h⟩
  | cons p l ih =>
    intro listed a w hp hT h
    obtain ⟨b, i⟩ := p
    match b with
    | 1 =>
      simp only [planL, Bool.and_eq_true, Bool.not_eq_true', List.all_eq_true] at hp
      obtain ⟨⟨⟨h1, h2⟩, h3, h4⟩, h5⟩ := hp
      obtain ⟨o, v, hi, hy, h'⟩ := h
      have hie : i ∉ esc := fun hm => by simp [hm] at h3
      have hE : noEsc esc listed := fun s hs => (h4 s hs).1
      refine wpL_first hi (Region.noSelect_spec hs) (fun _ _ _ hc => hc.elim) hie l.length listed a w (Region.free_spec hi h1) (by simpa using h2) hy (hT hE) hE (fun s hs => Late.of (h4 s hs).2) (ih _ _ _ h5 (fun _ => hT hE) h')
    | b + 2 =>
      simp only [planL, Bool.and_eq_true, Bool.not_eq_true'] at hp
      obtain ⟨⟨⟨h1, h2⟩, h3⟩, h5⟩ := hp
      obtain ⟨o, v, hi, hy, h'⟩ := h
      have hie : i ∉ esc := fun hm => by simp [hm] at h3
      refine wpL_pure hi (Region.noSelect_spec hs) (fun _ _ _ hc => hc.elim) hie l.length listed a w (Region.free_spec hi h1) (by simpa using h2) hy hT (ih _ _ _ h5 (fun hn => hT fun s hs' => ?_) h')
      have hne : i ≠ s := fun e => hie (by rw [e]; exact hs')
      have := hn s hs'
      rw [Array.getD_eq_getD_getElem?, Array.getElem?_setIfInBounds_ne hne, ← Array.getD_eq_getD_getElem?] at this
      exact this
    | 0 =>
      rw [planL, Bool.and_eq_true, decide_eq_true_eq] at hp
      refine ⟨fun h0 => (by rw [hp.1] at h0; cases h0), fun j hj => ?_⟩
      rw [hp.1, List.mem_singleton] at hj
      subst hj
      have hlt : j < listed.size := by
        have h0 : j ∈ Region.ready .any ops listed := by rw [hp.1]; simp
        have h1 := (mem_ready.1 h0).1
        by_cases hlt : j < listed.size
        · exact hlt
        · rw [Array.getD_eq_getD_getElem?, Array.getElem?_eq_none (by omega)] at h1
          cases h1
      have hS : ∀ w', (j ∈ esc ∨ T w') → noEsc esc (listed.setIfInBounds j true) → T w' := fun w' h1 hn => by
        rcases h1 with h1 | h1
        · have := hn j h1
          rw [Array.getD_eq_getD_getElem?, Array.getElem?_setIfInBounds_self_of_lt hlt] at this
          cases this
        · exact h1
      exact wpOp_mono (fun a' w' h' => ⟨hS w' h'.1, ih _ _ _ hp.2 (hS w' h'.1) h'.2⟩) h
theorem wp_region_phase {id : Nat} {a : Act} {w : World} (hm : P.follows .mixedOrders = true) (l : List (Nat × Nat)) (esc : List Nat) (hc : (Region.noSelect ops && planL ops esc l (Array.replicate ops.size false) && l.length == ops.size) = true) (hT : T w.drew)
    (h : dynL P ops (NoPanic Q) T esc l a w.drew) : (Code.region id ops true).wp P Q a w := by
  rw [Bool.and_eq_true, Bool.and_eq_true] at hc
  have hl : l.length = ops.size := eq_of_beq hc.2
  refine wp_region_noPanic (wp_region_any hm ?_)
  have := wpL_any _ _ _ _ (dynL_sound hc.1.1 l (Array.replicate ops.size false) a w.drew hc.1.2 (fun _ => hT) h)
  rw [hl] at this
  exact this
end
end Go.Proofs.YtjdfancbmjnjfaaGreat
