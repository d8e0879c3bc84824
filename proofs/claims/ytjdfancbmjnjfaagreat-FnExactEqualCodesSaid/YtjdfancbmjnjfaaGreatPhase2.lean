/-
  The same as Phase, where the last operation may wait for what has been read by a chain of several operations.
-/
import Derived.Test.YtjdfancbmjnjfaaGreatPhase
namespace Go.Proofs.YtjdfancbmjnjfaaGreat
set_option maxRecDepth 100000
open Go.ChangeShapes Go.WideShapes Go.ChangeAt Go.RowKit Go.Deep
set_option linter.unusedVariables false

section
variable {P : Program} {ops : Array Oper} {Q : Exit → Act → World → Prop} {T : World → Prop} {esc : List Nat}

/-- operation s waits, by a chain of others that have not come up, for operation i -/
inductive Late2 (ops : Array Oper) (listed : Array Bool) (i : Nat) : Nat → Prop
  | on {s : Nat} {os : Oper} (hs : ops[s]? = some os) {e : Edge} (he : e ∈ os.after) (hb : Region.binds .any e = true) (h : e.on = i) : Late2 ops listed i s
  | via {s : Nat} {os : Oper} (hs : ops[s]? = some os) {e : Edge} (he : e ∈ os.after) (hb : Region.binds .any e = true) (hl : listed.getD e.on false = false) (h : Late2 ops listed i e.on) : Late2 ops listed i s
def lateB2 (ops : Array Oper) (listed : Array Bool) (i : Nat) : Nat → Nat → Bool
  | 0, _ => false
  | n + 1, s => match ops[s]? with
    | some os => os.after.any fun e => Region.binds .any e && (e.on == i || (!listed.getD e.on false && lateB2 ops listed i n e.on))
    | none => false
theorem Late2.of {listed : Array Bool} {i : Nat} : ∀ {n s : Nat}, lateB2 ops listed i n s = true → Late2 ops listed i s := by
  intro n
  induction n with
  | zero => intro s h; cases h
  | succ n ih =>
    intro s h
    unfold lateB2 at h
    split at h
    · rename_i os hos
      rw [Array.any_eq_true'] at h
      obtain ⟨e, he, h⟩ := h
      rw [Bool.and_eq_true, Bool.or_eq_true] at h
      rcases h.2 with h2 | h2
      · exact .on hos he h.1 (eq_of_beq h2)
      · rw [Bool.and_eq_true] at h2
        exact .via hos he h.1 (by simpa using h2.1) (ih h2.2)
    · cases h
theorem wpL_first2 {i : Nat} {oi : Oper} {v : Value} (hi : ops[i]? = some oi) (hsel : ∀ (j : Nat) (o : Oper) cs b, ops[j]? = some o → o.op ≠ .select cs b)
    (hQ : ∀ c a w, Q (.panic c) (a.put oi.dst v) w → Q (.panic c) a w) (hie : i ∉ esc) :
    ∀ (n : Nat) (listed : Array Bool) (a : Act) (w : World),
      (∀ j oj, ops[j]? = some oj → j ≠ i → listed.getD j true = false → (∀ e ∈ oj.after, Region.binds .any e = true → e.on ≠ i) → oi.apart ops oj = true) →
      i ∈ Region.ready .any ops listed → YieldsIf P ops T oi v a → T w → noEsc esc listed → (∀ s ∈ esc, Late2 ops listed i s) →
      wpL P ops Q T esc n (listed.setIfInBounds i true) (a.put oi.dst v) w → wpL P ops Q T esc (n + 1) listed a w := by
  intro n
  induction n with
  | zero =>
    intro listed a w _ hr hy hT hE hL H
    refine ⟨fun h => (by rw [h] at hr; cases hr), fun j hj => ?_⟩
    by_cases hji : j = i
    · subst hji
      exact hy.wpOp hi hT ⟨fun _ => hT, H⟩
    · have h1 := ready_mono hj hji
      rw [H.1] at h1
      cases h1
  | succ n ih =>
    intro listed a w hfree hr hy hT hE hL H
    refine ⟨fun h => (by rw [h] at hr; cases hr), fun j hj => ?_⟩
    by_cases hji : j = i
    · subst hji
      exact hy.wpOp hi hT ⟨fun _ => hT, H⟩
    · have h1 := H.2 j (ready_mono hj hji)
      obtain ⟨hju, oj, hoj, hall⟩ := mem_ready.1 hj
      have hi0 : listed.getD i false = false := by
        have h0 := (mem_ready.1 hr).1
        rw [Array.getD_eq_getD_getElem?] at h0 ⊢
        cases hx : listed[i]? with
        | none => rfl
        | some b => rw [hx] at h0; exact h0
      have hnot : ∀ e ∈ oj.after, Region.binds .any e = true → e.on ≠ i := fun e he hb heq => by
        have h2 := hall e he hb
        rw [heq, hi0] at h2
        cases h2
      -- j is none of the last operations, and none that one of these waits for
      have hjl : ∀ s, Late2 ops listed i s → j ≠ s := fun s h hjs => by
        subst hjs
        cases h with
        | on hs he hb h =>
          rw [hoj] at hs
          injection hs with hs
          subst hs
          exact hnot _ he hb h
        | via hs he hb hl h =>
          rw [hoj] at hs
          injection hs with hs
          subst hs
          have := hall _ he hb
          rw [hl] at this
          cases this
      have hjs : ∀ s ∈ esc, j ≠ s := fun s hs => hjl s (hL s hs)
      have hfalse : ∀ k, k ≠ j → listed.getD k false = false → (listed.setIfInBounds j true).getD k false = false := fun k hk h => by
        rw [Array.getD_eq_getD_getElem?, Array.getElem?_setIfInBounds_ne (Ne.symm hk), ← Array.getD_eq_getD_getElem?]
        exact h
      have hE' : noEsc esc (listed.setIfInBounds j true) := fun s hs => hfalse s (Ne.symm (hjs s hs)) (hE s hs)
      have hE2 : noEsc esc ((listed.setIfInBounds i true).setIfInBounds j true) := fun s hs => by
        have hne : i ≠ s := fun e => hie (by rw [e]; exact hs)
        rw [Array.setIfInBounds_comm _ _ (Ne.symm hji)]
        rw [Array.getD_eq_getD_getElem?, Array.getElem?_setIfInBounds_ne hne, ← Array.getD_eq_getD_getElem?]
        exact hE' s hs
      have hL1 : ∀ s, Late2 ops listed i s → Late2 ops (listed.setIfInBounds j true) i s := fun s h => by
        induction h with
        | on hs he hb h => exact .on hs he hb h
        | @via s os hs e he hb hl h ih => exact .via hs he hb (hfalse _ (Ne.symm (hjl _ h)) hl) ih
      have hL' : ∀ s ∈ esc, Late2 ops (listed.setIfInBounds j true) i s := fun s hs => hL1 s (hL s hs)
      have h2 := wpOp_putIf hoj (hfree j oj hoj hji hju hnot) (fun cs b => hsel i oi cs b hi) (fun cs b => hsel j oj cs b hoj) hQ hy h1
      refine wpOp_mono (fun a' w' h3 => ⟨fun _ => h3.2.1 hE2, ih (listed.setIfInBounds j true) a' w' (fun k ok hk hki hun hno => hfree k ok hk hki (getD_unset hun) hno) (ready_mono hr (Ne.symm hji)) h3.1 (h3.2.1 hE2) hE' hL' ?_⟩) h2
      rw [Array.setIfInBounds_comm _ _ hji]
      exact h3.2.2

/-- may the operations be taken in this order? -/
def planL2 (ops : Array Oper) (esc : List Nat) : List (Nat × Nat) → Array Bool → Bool
  | [], listed => (Region.ready .any ops listed).isEmpty
  | (0, i) :: r, listed => decide (Region.ready .any ops listed = [i]) && planL2 ops esc r (listed.setIfInBounds i true)
  | (1, i) :: r, listed => Region.free .any ops listed i && (Region.ready .any ops listed).contains i && (!esc.contains i && esc.all (fun s => !listed.getD s false && lateB2 ops listed i 6 s)) && planL2 ops esc r (listed.setIfInBounds i true)
  | (_ + 2, i) :: r, listed => Region.free .any ops listed i && (Region.ready .any ops listed).contains i && !esc.contains i && planL2 ops esc r (listed.setIfInBounds i true)
theorem dynL_skip1 {i : Nat} {o : Oper} {l : List (Nat × Nat)} {a : Act} {w : World} (hi : ops[i]? = some o) (hw : Region.wanted o (yielded ops a.tmps) = false)
    (h : dynL P ops Q T esc l (a.put o.dst undef) w) : dynL P ops Q T esc ((1, i) :: l) a w := ⟨o, undef, hi, .inr ⟨hw, rfl⟩, h⟩
theorem dynL_pass {i : Nat} {o : Oper} {l : List (Nat × Nat)} {a : Act} {w : World} (hi : ops[i]? = some o) (hw : Region.wanted o (yielded ops a.tmps) = false) (hT : T w)
    (h : dynL P ops Q T esc l (a.put o.dst undef) w) : dynL P ops Q T esc ((0, i) :: l) a w :=
  wpOp_step hi (fun K hK => by rw [if_neg (by rw [hw]; decide)]; exact hK _ _ ⟨.inr hT, h⟩)
theorem dynL_sound2 (hs : Region.noSelect ops = true) : ∀ (l : List (Nat × Nat)) (listed : Array Bool) (a : Act) (w : World), planL2 ops esc l listed = true → (noEsc esc listed → T w) → dynL P ops (NoPanic Q) T esc l a w → wpL P ops (NoPanic Q) T esc l.length listed a w := by
  intro l
  induction l with
  | nil =>
    intro listed a w hp hT h
    exact ⟨by simpa [planL2] using hp, h⟩
  | cons p l ih =>
    intro listed a w hp hT h
    obtain ⟨b, i⟩ := p
    match b with
    | 1 =>
      simp only [planL2, Bool.and_eq_true, Bool.not_eq_true', List.all_eq_true] at hp
      obtain ⟨⟨⟨h1, h2⟩, h3, h4⟩, h5⟩ := hp
      obtain ⟨o, v, hi, hy, h'⟩ := h
      have hie : i ∉ esc := fun hm => by simp [hm] at h3
      have hE : noEsc esc listed := fun s hs => (h4 s hs).1
      refine wpL_first2 hi (Region.noSelect_spec hs) (fun _ _ _ hc => hc.elim) hie l.length listed a w (Region.free_spec hi h1) (by simpa using h2) hy (hT hE) hE (fun s hs => Late2.of (h4 s hs).2) (ih _ _ _ h5 (fun _ => hT hE) h')
    | b + 2 =>
      simp only [planL2, Bool.and_eq_true, Bool.not_eq_true'] at hp
      obtain ⟨⟨⟨h1, h2⟩, h3⟩, h5⟩ := hp
      obtain ⟨o, v, hi, hy, h'⟩ := h
      have hie : i ∉ esc := fun hm => by simp [hm] at h3
      refine wpL_pure hi (Region.noSelect_spec hs) (fun _ _ _ hc => hc.elim) hie l.length listed a w (Region.free_spec hi h1) (by simpa using h2) hy hT (ih _ _ _ h5 (fun hn => hT fun s hs' => ?_) h')
      have hne : i ≠ s := fun e => hie (by rw [e]; exact hs')
      have := hn s hs'
      rw [Array.getD_eq_getD_getElem?, Array.getElem?_setIfInBounds_ne hne, ← Array.getD_eq_getD_getElem?] at this
      exact this
    | 0 =>
      rw [planL2, Bool.and_eq_true, decide_eq_true_eq] at hp
      refine ⟨fun h0 => (by rw [hp.1] at h0; cases h0), fun j hj => ?_⟩
      rw [hp.1, List.mem_singleton] at hj
      subst hj
      have hlt : j < listed.size := by
        have h0 : j ∈ Region.ready .any ops listed := by rw [hp.1]; simp
        have h1 := (mem_ready.1 h0).1
        by_cases hlt : j < listed.size
        · exact hlt
        · rw [Array.getD_eq_getD_getElem?, Array.getElem?_eq_none (by omega)] at h1
          cases h1
      have hS : ∀ w', (j ∈ esc ∨ T w') → noEsc esc (listed.setIfInBounds j true) → T w' := fun w' h1 hn => by
        rcases h1 with h1 | h1
        · have := hn j h1
          rw [Array.getD_eq_getD_getElem?, Array.getElem?_setIfInBounds_self_of_lt hlt] at this
          cases this
        · exact h1
      exact wpOp_mono (fun a' w' h' => ⟨hS w' h'.1, ih _ _ _ hp.2 (hS w' h'.1) h'.2⟩) h
theorem wp_region_phase2 {id : Nat} {a : Act} {w : World} (hm : P.follows .mixedOrders = true) (l : List (Nat × Nat)) (esc : List Nat) (hc : (Region.noSelect ops && planL2 ops esc l (Array.replicate ops.size false) && l.length == ops.size) = true) (hT : T w.drew)
    (h : dynL P ops (NoPanic Q) T esc l a w.drew) : (Code.region id ops true).wp P Q a w := by
  rw [Bool.and_eq_true, Bool.and_eq_true] at hc
  have hl : l.length = ops.size := eq_of_beq hc.2
  refine wp_region_noPanic (wp_region_any hm ?_)
  have := wpL_any _ _ _ _ (dynL_sound2 hc.1.1 l (Array.replicate ops.size false) a w.drew hc.1.2 (fun _ => hT) h)
  rw [hl] at this
  exact this
end
end Go.Proofs.YtjdfancbmjnjfaaGreat
