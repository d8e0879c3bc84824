/-
  A region that draws its order, whose operations change memory by a relation of one's own, in whatever order; the last operation comes after all others.
-/
import Derived.Test.YtejieacdfjpfnaaGreatStCopy
namespace Go.Proofs.YtejieacdfjpfnaaGreat
set_option maxRecDepth 100000
open Go.ChangeShapes Go.WideShapes Go.ChangeAt Go.RowKit Go.Deep
set_option linter.unusedVariables false

section
variable {P : Program} {ops : Array Oper} {Q : Exit → Act → World → Prop}
/-- what the way asks of a region: edges lead back, no guards, each yields into a slot of its own, the last comes after all (by way of others, too) -/
def freeOkG (ops : Array Oper) : Bool :=
  decide (0 < ops.size) && ops.all (fun o => o.guard.isNone) &&
  (List.range ops.size).all (fun i => (List.range ops.size).all fun j => i == j || match dstOf ops i with | some d => dstOf ops j != some d | none => true) &&
  (List.range ops.size).all (fun i => match ops[i]? with | some o => o.after.all (fun e => decide (e.on < i)) | none => true) &&
  (List.range (ops.size - 1)).all (fun i => (List.range ops.size).any fun j => decide (i < j) && match ops[j]? with | some o => o.after.any fun e => Region.binds .any e && e.on == i | none => false)
theorem wp_region_freeG {id : Nat} {a0 : Act} {w : World} (St : World → World → Prop) (hSt : ∀ W W', St W W' → W.heap.size ≤ W'.heap.size) (hm : P.follows .mixedOrders = true) (hc : freeOkG ops = true) (S : World → Prop) (lab : Nat → Nat) (D : Nat → List Nat) (R : Nat → (Nat → Nat → Prop) → (Nat → Value) → World → Prop) (F : (Nat → Value) → Act) (hF : ∀ vs, fullAct ops vs a0 = F vs)
    (hD : ((List.range ops.size).all fun i => (D i).all fun j => j == i || match ops[i]? with | some o => o.after.any fun e => Region.binds .any e && e.on == j | none => false) = true)
    (hS : S w.drew)
    (hR : ∀ (i : Nat) (T T' : Nat → Nat → Prop) (vs vs' : Nat → Value) (W W' : World), (∀ j ∈ D i, vs' j = vs j) → (∀ l b, T l b → T' l b) → St W W' → R i T vs W → R i T' vs' W')
    (hstep : ∀ i o, ops[i]? = some o → i + 1 < ops.size → ∀ (vs : Nat → Value) (T : Nat → Nat → Prop) (W : World), S W → (∀ e ∈ o.after, Region.binds .any e = true → R e.on T vs W) →
      Oper.wp P o (F vs) W (fun a' W' => ∃ v, a' = (F vs).put o.dst v ∧ St W W' ∧ S W' ∧ R i (fun l b => T l b ∨ (l = lab i ∧ W.heap.size ≤ b ∧ b < W'.heap.size)) (upd vs i v) W') Q)
    (hlast : ∀ o, ops[ops.size - 1]? = some o → ∀ (vs : Nat → Value) (T : Nat → Nat → Prop) (W : World), S W → w.heap.size ≤ W.heap.size → (∀ l b, T l b → w.heap.size ≤ b ∧ b < W.heap.size) → (∀ l l' b, T l b → T l' b → l = l') → (∀ i, i + 1 < ops.size → R i T vs W) →
      Oper.wp P o (F vs) W (Q .normal) Q) :
    (Code.region id ops true).wp P Q a0 w := by
  simp only [freeOkG, Bool.and_eq_true, decide_eq_true_eq] at hc
  obtain ⟨⟨⟨⟨hpos, hg⟩, hdist⟩, hback⟩, hlastAll⟩ := hc
  have hguard : ∀ (i : Nat) (o : Oper), ops[i]? = some o → o.guard = none := fun i o ho => by
    have := Array.all_eq_true_iff_forall_mem.1 hg o (Array.mem_of_getElem? ho)
    simpa using this
  have hdst : ∀ (i j : Nat), i < ops.size → j < ops.size → j ≠ i → ∀ d, dstOf ops i = some d → dstOf ops j ≠ some d := fun i j hi hj hne d hd => by
    have h1 := List.all_eq_true.1 (List.all_eq_true.1 hdist i (List.mem_range.2 hi)) j (List.mem_range.2 hj)
    rw [hd] at h1
    simp only [Bool.or_eq_true, beq_iff_eq, bne_iff_ne] at h1
    exact h1.resolve_left (fun e => hne e.symm)
  have hbk : ∀ (i : Nat) (o : Oper), ops[i]? = some o → ∀ e ∈ o.after, e.on < i := fun i o ho e he => by
    have hi : i < ops.size := (Array.getElem?_eq_some_iff.1 ho).1
    have h1 := List.all_eq_true.1 hback i (List.mem_range.2 hi)
    rw [ho] at h1
    have := Array.all_eq_true_iff_forall_mem.1 h1 e he
    simpa using this
  refine wp_region_any hm ?_
  have key : ∀ (fuel : Nat) (listed : Array Bool) (a : Act) (W : World), FInv ops S R w.heap.size a0 listed a W → ((List.range ops.size).filter fun i => !listed.getD i false).length ≤ fuel → wpAny P .any ops Q fuel listed a W := by
    intro fuel
    induction fuel with
    | zero =>
      intro listed a W hI hf
      exfalso
      have h1 : (ops.size - 1) ∈ (List.range ops.size).filter fun i => !listed.getD i false := by
        rw [List.mem_filter, List.mem_range]
        exact ⟨by omega, by rw [hI.last]; rfl⟩
      have := List.length_pos_of_mem h1
      omega
    | succ fuel ih =>
      intro listed a W hI hf
      refine ⟨fun hr => ?_, fun i hi => ?_⟩
      · exfalso
        have hall : ∀ i, i < ops.size → listed.getD i false = true := by
          intro i
          induction i using Nat.strongRecOn with
          | _ i ihi =>
            intro hi
            by_cases hl : listed.getD i false = true
            · exact hl
            · exfalso
              have hm2 : i ∈ Region.ready .any ops listed := by
                rw [mem_ready]
                refine ⟨by rw [getD_false hI.size hi]; simpa using hl, ops[i], Array.getElem?_eq_getElem hi, fun e he hb => ?_⟩
                have hlt := hbk i _ (Array.getElem?_eq_getElem hi) e he
                exact ihi e.on hlt (by omega)
              rw [hr] at hm2
              cases hm2
        have := hall (ops.size - 1) (by omega)
        rw [hI.last] at this
        cases this
      · rw [mem_ready] at hi
        obtain ⟨hl, o, ho, hdeps⟩ := hi
        have hin : i < ops.size := (Array.getElem?_eq_some_iff.1 ho).1
        rw [getD_false hI.size hin] at hl
        obtain ⟨vs, T, hA, hSW, hbs, hT1, hT2, hRW⟩ := hI.ex
        rw [hF] at hA
        subst hA
        have hwant : Region.wanted o (yielded ops (F vs).tmps) = true := by unfold Region.wanted; rw [hguard i o ho]
        unfold wpOp
        rw [ho]
        dsimp only
        rw [if_pos hwant]
        left
        have hless := (filter_less (p := fun j => !listed.getD j false) (p' := fun j => !(listed.setIfInBounds i true).getD j false) (fun j hj => by
          by_cases hji : i = j
          · subst hji; simp [hl]
          · rw [getD_set_ne false hji] at hj; exact hj) i (by simp [hl]) (by simp [hI.size, hin]) (List.range ops.size)).2 (List.mem_range.2 hin)
        by_cases hla : i + 1 < ops.size
        · refine Oper.wp_mono (fun a' W' h' => ?_) (hstep i o ho hla vs T W hSW (fun e he hb => hRW e.on (hdeps e he hb)))
          obtain ⟨v, rfl, hb, hS', hRi⟩ := h'
          refine ih _ _ _ ⟨by simp [hI.size], ?_, ?_, upd vs i v, (fun l b => T l b ∨ (l = lab i ∧ W.heap.size ≤ b ∧ b < W'.heap.size)), ?_, hS', Nat.le_trans hbs (hSt _ _ hb), ?_, ?_, ?_⟩ (by omega)
          · rw [getD_set_ne false (by omega)]; exact hI.last
          · intro k ok hk hlk e he hbe
            by_cases hik : i = k
            · subst hik
              rw [ho] at hk
              injection hk with hk
              subst hk
              exact getD_set_true (hdeps e he hbe)
            · rw [getD_set_ne false hik] at hlk
              exact getD_set_true (hI.closed k ok hk hlk e he hbe)
          · have h9 := fullOn_upd (ops := ops) vs i v (List.range ops.size) a0 List.nodup_range (List.mem_range.2 hin) (fun j hj hne => hdst i j hin (List.mem_range.1 hj) hne)
            have hdo : dstOf ops i = o.dst := by unfold dstOf; rw [ho]; rfl
            rw [hdo] at h9
            rw [← hF]
            exact h9
          · rintro l b (h1 | ⟨_, h2, h3⟩)
            · have := hT1 l b h1; have := (hSt _ _ hb); omega
            · omega
          · rintro l l' b (h1 | ⟨h1, h2, h3⟩) (k1 | ⟨k1, k2, k3⟩)
            · exact hT2 l l' b h1 k1
            · have := hT1 l b h1; omega
            · have := hT1 l' b k1; omega
            · rw [h1, k1]
          · intro k hlk
            by_cases hik : i = k
            · subst hik; exact hRi
            · rw [getD_set_ne false hik] at hlk
              refine hR k T _ vs _ W W' (fun j hj => ?_) (fun l b h1 => .inl h1) hb (hRW k hlk)
              refine upd_ne _ _ _ _ fun hji => ?_
              subst hji
              have hkn : k < ops.size := by
                rcases Nat.lt_or_ge k ops.size with h' | h'
                · exact h'
                · have : listed.getD k false = false := by simp [Array.getD, hI.size]; omega
                  rw [this] at hlk; cases hlk
              have h1 := List.all_eq_true.1 (List.all_eq_true.1 hD k (List.mem_range.2 hkn)) j hj
              rw [Array.getElem?_eq_getElem hkn] at h1
              simp only [Bool.or_eq_true, beq_iff_eq] at h1
              rcases h1 with h1 | h1
              · exact hik h1
              · rw [Array.any_eq_true'] at h1
                obtain ⟨e, he, h2⟩ := h1
                simp only [Bool.and_eq_true, beq_iff_eq] at h2
                have := hI.closed k _ (Array.getElem?_eq_getElem hkn) hlk e he h2.1
                rw [h2.2, hl] at this
                cases this
        · have hil : i = ops.size - 1 := by omega
          subst hil
          have hall0 : ∀ (m k : Nat), ops.size - k ≤ m → k + 1 < ops.size → listed.getD k false = true := by
            intro m
            induction m with
            | zero => intro k h1 h2; omega
            | succ m ihm =>
              intro k h1 hk
              have h3 := List.all_eq_true.1 hlastAll k (List.mem_range.2 (by omega))
              rw [List.any_eq_true] at h3
              obtain ⟨j, hj, h4⟩ := h3
              simp only [Bool.and_eq_true, decide_eq_true_eq] at h4
              obtain ⟨hkj, h4⟩ := h4
              have hjn := List.mem_range.1 hj
              rw [Array.getElem?_eq_getElem hjn] at h4
              dsimp only at h4
              rw [Array.any_eq_true'] at h4
              obtain ⟨e, he, h5⟩ := h4
              simp only [Bool.and_eq_true, beq_iff_eq] at h5
              rw [← h5.2]
              by_cases hjl : j + 1 < ops.size
              · exact hI.closed j _ (Array.getElem?_eq_getElem hjn) (ihm j (by omega) hjl) e he h5.1
              · have : j = ops.size - 1 := by omega
                subst this
                rw [Array.getElem?_eq_getElem hjn] at ho
                injection ho with ho
                subst ho
                exact hdeps e he h5.1
          have hall : ∀ k, k + 1 < ops.size → listed.getD k false = true := fun k hk => hall0 ops.size k (by omega) hk
          refine Oper.wp_mono (fun a' W' h' => ?_) (hlast o ho vs T W hSW hbs hT1 hT2 (fun k hk => hRW k (hall k hk)))
          refine wpAny_done ?_ h' _
          rw [List.eq_nil_iff_forall_not_mem]
          intro k hk
          rw [mem_ready] at hk
          obtain ⟨hk1, ok, hok, _⟩ := hk
          have hkn : k < ops.size := (Array.getElem?_eq_some_iff.1 hok).1
          by_cases hkl : ops.size - 1 = k
          · subst hkl
            simp [hI.size, hkn] at hk1
          · rw [getD_set_ne true hkl, getD_false hI.size hkn, hall k (by omega)] at hk1
            cases hk1
  obtain ⟨vs0, hvs0⟩ := fullAct_start ops a0
  refine key ops.size _ _ _ ⟨by simp, ?_, ?_, vs0, fun _ _ => False, hvs0, hS, Nat.le_refl _, fun _ _ h => h.elim, fun _ _ _ h => h.elim, ?_⟩ ?_
  · exact rep_false _ _
  · intro i o _ h; rw [rep_false] at h; cases h
  · intro i h; rw [rep_false] at h; cases h
  · exact Nat.le_trans (List.length_filter_le _ _) (by simp)
end
end Go.Proofs.YtejieacdfjpfnaaGreat
