/-
  Merged texts: Free2, Free3G, FreeG.
-/
import Derived.Test.YtjdimlhdkmkmbaaStCopy
import Derived.Test.YtjdimlhdkmkmbaaKGood
namespace Go.Proofs.Ytjdimlhdkmkmbaa
set_option maxRecDepth 100000
set_option maxRecDepth 100000
open Go.ChangeShapes Go.WideShapes Go.ChangeAt Go.RowKit Go.Deep
set_option linter.unusedVariables false

section
variable {P : Program} {ops : Array Oper} {Q : Exit → Act → World → Prop}
theorem dyn_sound_more {S : World → Prop} (hs : Region.noSelect ops = true) (k : Nat) : ∀ (l : List (Bool × Nat)) (listed : Array Bool) (a : Act) (w : World), planOk ops l listed = true → S w → dyn P ops (NoPanic Q) S l a w → wpAnyH P .any ops (NoPanic Q) S (l.length + k) listed a w := by
  intro l
  induction l with
  | nil =>
    intro listed a w hp hS h
    exact wpAnyH_done (by simpa [planOk] using hp) h _
  | cons p l ih =>
    intro listed a w hp hS h
    obtain ⟨b, i⟩ := p
    rw [show (((b, i) :: l).length + k) = (l.length + k) + 1 by simp; omega]
    cases b with
    | true =>
      rw [planOk, Bool.and_eq_true, Bool.and_eq_true] at hp
      obtain ⟨o, v, hi, hy, h'⟩ := h
      exact wpAnyH_take hi hs hp.1.1 hp.1.2 (fun _ _ _ hc => hc.elim) hy hS (ih _ _ _ hp.2 hS h')
    | false =>
      rw [planOk, Bool.and_eq_true, decide_eq_true_eq] at hp
      refine wpAnyH_all hp.1 (by simp) fun j hj => ?_
      rw [List.mem_singleton] at hj
      subst hj
      exact wpOp_mono (fun a' w' h' => ⟨h'.1, ih _ _ _ hp.2 h'.1 h'.2⟩) h
def frontL (n m : Nat) : Array Bool := ((List.range n).map fun i => decide (i < m)).toArray
structure FInv2 (ops : Array Oper) (m : Nat) (S : World → Prop) (R : Nat → (Nat → Nat → Prop) → (Nat → Value) → World → Prop) (base : Nat) (a0 : Act) (listed : Array Bool) (a : Act) (w : World) : Prop where
  size : listed.size = ops.size
  tail : ∀ i, m ≤ i → listed.getD i false = false
  closed : ∀ i o, ops[i]? = some o → listed.getD i false = true → ∀ e ∈ o.after, Region.binds .any e = true → listed.getD e.on false = true
  ex : ∃ (vs : Nat → Value) (T : Nat → Nat → Prop), a = fullAct ops vs a0 ∧ S w ∧ base ≤ w.heap.size ∧ (∀ l b, T l b → base ≤ b ∧ b < w.heap.size) ∧ (∀ l l' b, T l b → T l' b → l = l') ∧ ∀ i, listed.getD i false = true → R i T vs w
theorem nodup_le : ∀ (a b : List Nat), a.Nodup → (∀ x ∈ a, x ∈ b) → a.length ≤ b.length
  | [], b, _, _ => Nat.zero_le _
  | x :: a, b, h, hs => by
    rw [List.nodup_cons] at h
    have h1 : x ∈ b := hs x (by simp)
    have h2 := nodup_le a (b.erase x) h.2 (fun y hy => (List.mem_erase_of_ne (show y ≠ x from fun e => h.1 (e ▸ hy))).2 (hs y (by simp [hy])))
    rw [List.length_erase_of_mem h1] at h2
    have := List.length_pos_of_mem h1
    simp
    omega
def frontJ (n m j : Nat) : Array Bool := ((List.range n).map fun i => decide (i < m) && i != j).toArray
end
end Go.Proofs.Ytjdimlhdkmkmbaa
namespace Go.Proofs.Ytjdimlhdkmkmbaa
set_option maxRecDepth 100000
open Go.ChangeShapes Go.WideShapes Go.ChangeAt Go.RowKit Go.Deep
set_option linter.unusedVariables false

section
variable {P : Program} {ops : Array Oper} {Q : Exit → Act → World → Prop}
def freeOk3G (ops : Array Oper) (m j : Nat) : Bool :=
  decide (m < ops.size) && (List.range m).all (fun i => match ops[i]? with | some o => o.guard.isNone | none => false) &&
  (List.range ops.size).all (fun i => (List.range ops.size).all fun j => i == j || match dstOf ops i with | some d => dstOf ops j != some d | none => true) &&
  (List.range ops.size).all (fun i => match ops[i]? with | some o => o.after.all (fun e => !Region.binds .any e || decide (e.on < i)) | none => true) &&
  (List.range ops.size).all (fun k => decide (k < m) || match ops[k]? with
    | some o => (o.after.any fun e => Region.binds .any e && decide (m ≤ e.on)) || (List.range m).all fun i => i == j || (o.after.any fun e => Region.binds .any e && e.on == i) || (List.range m).any fun i' => decide (i < i') && i' != j && match ops[i']? with | some o' => o'.after.any fun e => Region.binds .any e && e.on == i | none => false
    | none => false)
/-- the same, where one operation of the front need not come before the rest -/
theorem wp_region_free3G {id : Nat} {a0 : Act} {w : World} (St : World → World → Prop) (hSt : ∀ W W', St W W' → W.heap.size ≤ W'.heap.size) (hm : P.follows .mixedOrders = true) (m j0 : Nat) (l : List (Bool × Nat)) (hc : (freeOk3G ops m j0 && Region.noSelect ops && planOk ops l (frontL ops.size m) && planOk ops ((true, j0) :: l) (frontJ ops.size m j0) && decide (j0 < m) && l.length + m == ops.size) = true) (S : World → Prop) (lab : Nat → Nat) (D : Nat → List Nat) (R : Nat → (Nat → Nat → Prop) → (Nat → Value) → World → Prop) (F : (Nat → Value) → Act) (hF : ∀ vs, fullAct ops vs a0 = F vs)
    (hD : ((List.range m).all fun i => (D i).all fun j => j == i || match ops[i]? with | some o => o.after.any fun e => Region.binds .any e && e.on == j | none => false) = true)
    (hS : S w.drew)
    (hR : ∀ (i : Nat) (T T' : Nat → Nat → Prop) (vs vs' : Nat → Value) (W W' : World), (∀ j ∈ D i, vs' j = vs j) → (∀ l b, T l b → T' l b) → St W W' → R i T vs W → R i T' vs' W')
    (hstep : ∀ i o, ops[i]? = some o → i < m → ∀ (vs : Nat → Value) (T : Nat → Nat → Prop) (W : World), S W → (∀ e ∈ o.after, Region.binds .any e = true → R e.on T vs W) →
      Oper.wp P o (F vs) W (fun a' W' => ∃ v, a' = (F vs).put o.dst v ∧ St W W' ∧ S W' ∧ R i (fun l b => T l b ∨ (l = lab i ∧ W.heap.size ≤ b ∧ b < W'.heap.size)) (upd vs i v) W') (NoPanic Q))
    (hlast : ∀ (vs : Nat → Value) (T : Nat → Nat → Prop) (W : World), S W → w.heap.size ≤ W.heap.size → (∀ l b, T l b → w.heap.size ≤ b ∧ b < W.heap.size) → (∀ l l' b, T l b → T l' b → l = l') → (∀ i, i < m → R i T vs W) →
      ∃ S' : World → Prop, S' W ∧ dyn P ops (NoPanic Q) S' l (F vs) W)
    (hlate : ∀ (vs : Nat → Value) (T : Nat → Nat → Prop) (W : World), S W → w.heap.size ≤ W.heap.size → (∀ l b, T l b → w.heap.size ≤ b ∧ b < W.heap.size) → (∀ l l' b, T l b → T l' b → l = l') → (∀ i, i < m → i ≠ j0 → R i T vs W) →
      ∃ S' : World → Prop, S' W ∧ dyn P ops (NoPanic Q) S' ((true, j0) :: l) (F vs) W) :
    (Code.region id ops true).wp P Q a0 w := by
  simp only [freeOk3G, Bool.and_eq_true, decide_eq_true_eq, beq_iff_eq] at hc
  obtain ⟨⟨⟨⟨⟨⟨⟨⟨⟨hpos, hg⟩, hdist⟩, hback⟩, htailAll⟩, hsel⟩, hplan⟩, hplanJ⟩, hj0⟩, hlen⟩ := hc
  have hguard : ∀ (i : Nat) (o : Oper), i < m → ops[i]? = some o → o.guard = none := fun i o him ho => by
    have := List.all_eq_true.1 hg i (List.mem_range.2 him)
    rw [ho] at this
    simpa using this
  have hdst : ∀ (i j : Nat), i < ops.size → j < ops.size → j ≠ i → ∀ d, dstOf ops i = some d → dstOf ops j ≠ some d := fun i j hi hj hne d hd => by
    have h1 := List.all_eq_true.1 (List.all_eq_true.1 hdist i (List.mem_range.2 hi)) j (List.mem_range.2 hj)
    rw [hd] at h1
    simp only [Bool.or_eq_true, beq_iff_eq, bne_iff_ne] at h1
    exact h1.resolve_left (fun e => hne e.symm)
  have hbk : ∀ (i : Nat) (o : Oper), ops[i]? = some o → ∀ e ∈ o.after, Region.binds .any e = true → e.on < i := fun i o ho e he hbi => by
    have hi : i < ops.size := (Array.getElem?_eq_some_iff.1 ho).1
    have h1 := List.all_eq_true.1 hback i (List.mem_range.2 hi)
    rw [ho] at h1
    have := Array.all_eq_true_iff_forall_mem.1 h1 e he
    rw [hbi] at this
    simpa using this
  refine wp_region_noPanic (wp_region_any hm ?_)
  have key : ∀ (fuel : Nat) (listed : Array Bool) (a : Act) (W : World), FInv2 ops m S R w.heap.size a0 listed a W → ((List.range ops.size).filter fun i => !listed.getD i false).length ≤ fuel → wpAny P .any ops (NoPanic Q) fuel listed a W := by
    intro fuel
    induction fuel with
    | zero =>
      intro listed a W hI hf
      exfalso
      have h1 : (ops.size - 1) ∈ (List.range ops.size).filter fun i => !listed.getD i false := by
        rw [List.mem_filter, List.mem_range]
        exact ⟨by omega, by rw [hI.tail _ (by omega)]; rfl⟩
      have := List.length_pos_of_mem h1
      omega
    | succ fuel ih =>
      intro listed a W hI hf
      by_cases hall : ∀ i, i < m → i ≠ j0 → listed.getD i false = true
      · obtain ⟨vs, T, hA, hSW, hbs, hT1, hT2, hRW⟩ := hI.ex
        rw [hF] at hA
        subst hA
        have hcnt0 : ∀ (ms : List Nat), ms.Nodup → (∀ i ∈ ms, i < ops.size ∧ listed.getD i false = false) → ms.length ≤ fuel + 1 := fun ms hnd hms => by
          have h4 : ms.length ≤ ((List.range ops.size).filter fun i => !listed.getD i false).length := by
            refine nodup_le _ _ hnd fun i hi => ?_
            rw [List.mem_filter, List.mem_range]
            exact ⟨(hms i hi).1, by rw [(hms i hi).2]; rfl⟩
          omega
        have htl : ∀ i ∈ List.range' m (ops.size - m), i < ops.size ∧ listed.getD i false = false := fun i hi => by
          rw [List.mem_range'] at hi
          obtain ⟨j, hj, rfl⟩ := hi
          exact ⟨by omega, hI.tail _ (by omega)⟩
        cases hj : listed.getD j0 false
        · have hL : listed = frontJ ops.size m j0 := by
            apply Array.ext
            · simp [frontJ, hI.size]
            · intro i h1 h2
              have hi : i < ops.size := by rw [← hI.size]; exact h1
              have h3 : listed.getD i false = listed[i] := by simp [Array.getD, h1]
              simp only [frontJ, List.getElem_toArray, List.getElem_map, List.getElem_range]
              by_cases hij : i = j0
              · subst hij
                rw [← h3, hj]
                simp
              · by_cases him : i < m
                · rw [← h3, hall i him hij, decide_eq_true him]
                  simp [hij]
                · rw [← h3, hI.tail i (by omega), decide_eq_false him]
                  simp
          obtain ⟨S', hS', hd⟩ := hlate vs T W hSW hbs hT1 hT2 (fun i hi hij => hRW i (hall i hi hij))
          have hcnt : ((true, j0) :: l).length ≤ fuel + 1 := by
            have := hcnt0 (j0 :: List.range' m (ops.size - m)) (List.nodup_cons.2 ⟨fun h => by rw [List.mem_range'] at h; obtain ⟨q, _, hq⟩ := h; omega, List.nodup_range'⟩) (fun i hi => by
              rcases List.mem_cons.1 hi with rfl | hi
              · exact ⟨by omega, hj⟩
              · exact htl i hi)
            simp at this ⊢
            omega
          have := dyn_sound_more hsel (fuel + 1 - ((true, j0) :: l).length) ((true, j0) :: l) listed (F vs) W (by rw [hL]; exact hplanJ) hS' hd
          rw [show ((true, j0) :: l).length + (fuel + 1 - ((true, j0) :: l).length) = fuel + 1 by omega] at this
          exact wpAny_of_held _ _ _ _ this
        · have hL : listed = frontL ops.size m := by
            apply Array.ext
            · simp [frontL, hI.size]
            · intro i h1 h2
              have hi : i < ops.size := by rw [← hI.size]; exact h1
              have h3 : listed.getD i false = listed[i] := by simp [Array.getD, h1]
              simp only [frontL, List.getElem_toArray, List.getElem_map, List.getElem_range]
              by_cases him : i < m
              · by_cases hij : i = j0
                · subst hij
                  rw [← h3, hj, decide_eq_true him]
                · rw [← h3, hall i him hij, decide_eq_true him]
              · rw [← h3, hI.tail i (by omega), decide_eq_false him]
          obtain ⟨S', hS', hd⟩ := hlast vs T W hSW hbs hT1 hT2 (fun i hi => by
            by_cases hij : i = j0
            · subst hij; exact hRW i hj
            · exact hRW i (hall i hi hij))
          have hcnt : l.length ≤ fuel + 1 := by
            have := hcnt0 (List.range' m (ops.size - m)) List.nodup_range' htl
            simp at this
            omega
          have := dyn_sound_more hsel (fuel + 1 - l.length) l listed (F vs) W (by rw [hL]; exact hplan) hS' hd
          rw [show l.length + (fuel + 1 - l.length) = fuel + 1 by omega] at this
          exact wpAny_of_held _ _ _ _ this
      · refine ⟨fun hr => ?_, fun i hi => ?_⟩
        · exfalso
          have hall2 : ∀ i, i < m → listed.getD i false = true := by
           intro i
           induction i using Nat.strongRecOn with
           | _ i ihi =>
            intro him
            have hi : i < ops.size := by omega
            by_cases hl : listed.getD i false = true
            · exact hl
            · exfalso
              have hm2 : i ∈ Region.ready .any ops listed := by
                rw [mem_ready]
                refine ⟨by rw [getD_false hI.size hi]; simpa using hl, ops[i], Array.getElem?_eq_getElem hi, fun e he hb => ?_⟩
                have hlt := hbk i _ (Array.getElem?_eq_getElem hi) e he hb
                exact ihi e.on hlt (by omega)
              rw [hr] at hm2
              cases hm2
          exact hall fun i hi _ => hall2 i hi
        · rw [mem_ready] at hi
          obtain ⟨hl, o, ho, hdeps⟩ := hi
          have hin : i < ops.size := (Array.getElem?_eq_some_iff.1 ho).1
          rw [getD_false hI.size hin] at hl
          have him : i < m := by
            rcases Nat.lt_or_ge i m with h | h
            · exact h
            · exfalso
              have h1 := List.all_eq_true.1 htailAll i (List.mem_range.2 hin)
              rw [decide_eq_false (by omega), Bool.false_or, ho] at h1
              dsimp only at h1
              rw [Bool.or_eq_true] at h1
              rcases h1 with h1 | h1
              · rw [Array.any_eq_true'] at h1
                obtain ⟨e, he, h3⟩ := h1
                simp only [Bool.and_eq_true, decide_eq_true_eq] at h3
                have h4 := hdeps e he h3.1
                rw [hI.tail _ h3.2] at h4
                cases h4
              · apply hall
                have down : ∀ d k, m - k ≤ d → k < m → k ≠ j0 → listed.getD k false = true := by
                  intro d
                  induction d with
                  | zero => intro k h5 h6; omega
                  | succ d ihd =>
                    intro k h5 hk hkj
                    have h2 := List.all_eq_true.1 h1 k (List.mem_range.2 hk)
                    rw [Bool.or_eq_true, Bool.or_eq_true] at h2
                    rcases h2 with (h2 | h2) | h2
                    · exact absurd (by simpa using h2) hkj
                    · rw [Array.any_eq_true'] at h2
                      obtain ⟨e, he, h3⟩ := h2
                      simp only [Bool.and_eq_true, beq_iff_eq] at h3
                      rw [← h3.2]
                      exact hdeps e he h3.1
                    · rw [List.any_eq_true] at h2
                      obtain ⟨i', hi', h3⟩ := h2
                      have hi'm := List.mem_range.1 hi'
                      simp only [Bool.and_eq_true, decide_eq_true_eq, bne_iff_ne] at h3
                      obtain ⟨⟨h6, h7⟩, h8⟩ := h3
                      rw [Array.getElem?_eq_getElem (by omega)] at h8
                      dsimp only at h8
                      rw [Array.any_eq_true'] at h8
                      obtain ⟨e, he, h9⟩ := h8
                      simp only [Bool.and_eq_true, beq_iff_eq] at h9
                      rw [← h9.2]
                      exact hI.closed i' _ (Array.getElem?_eq_getElem (by omega)) (ihd i' (by omega) hi'm h7) e he h9.1
                exact fun k hk hkj => down m k (by omega) hk hkj
          obtain ⟨vs, T, hA, hSW, hbs, hT1, hT2, hRW⟩ := hI.ex
          rw [hF] at hA
          subst hA
          have hwant : Region.wanted o (yielded ops (F vs).tmps) = true := by unfold Region.wanted; rw [hguard i o him ho]
          unfold wpOp
          rw [ho]
          dsimp only
          rw [if_pos hwant]
          left
          have hless := (filter_less (p := fun j => !listed.getD j false) (p' := fun j => !(listed.setIfInBounds i true).getD j false) (fun j hj => by
            by_cases hji : i = j
            · subst hji; simp [hl]
            · rw [getD_set_ne false hji] at hj; exact hj) i (by simp [hl]) (by simp [hI.size, hin]) (List.range ops.size)).2 (List.mem_range.2 hin)
          refine Oper.wp_mono (fun a' W' h' => ?_) (hstep i o ho him vs T W hSW (fun e he hb => hRW e.on (hdeps e he hb)))
          obtain ⟨v, rfl, hb, hS', hRi⟩ := h'
          refine ih _ _ _ ⟨by simp [hI.size], ?_, ?_, upd vs i v, (fun l b => T l b ∨ (l = lab i ∧ W.heap.size ≤ b ∧ b < W'.heap.size)), ?_, hS', Nat.le_trans hbs (hSt _ _ hb), ?_, ?_, ?_⟩ (by omega)
          · intro k hk
            rw [getD_set_ne false (by omega)]; exact hI.tail k hk
          · intro k ok hk hlk e he hbe
            by_cases hik : i = k
            · subst hik
              rw [ho] at hk
              injection hk with hk
              subst hk
              exact getD_set_true (hdeps e he hbe)
            · rw [getD_set_ne false hik] at hlk
              exact getD_set_true (hI.closed k ok hk hlk e he hbe)
          · have h9 := fullOn_upd (ops := ops) vs i v (List.range ops.size) a0 List.nodup_range (List.mem_range.2 hin) (fun j hj hne => hdst i j hin (List.mem_range.1 hj) hne)
            have hdo : dstOf ops i = o.dst := by unfold dstOf; rw [ho]; rfl
            rw [hdo] at h9
            rw [← hF]
            exact h9
          · rintro l b (h1 | ⟨_, h2, h3⟩)
            · have := hT1 l b h1; have := (hSt _ _ hb); omega
            · omega
          · rintro l l' b (h1 | ⟨h1, h2, h3⟩) (k1 | ⟨k1, k2, k3⟩)
            · exact hT2 l l' b h1 k1
            · have := hT1 l b h1; omega
            · have := hT1 l' b k1; omega
            · rw [h1, k1]
          · intro k hlk
            by_cases hik : i = k
            · subst hik; exact hRi
            · rw [getD_set_ne false hik] at hlk
              refine hR k T _ vs _ W W' (fun j hj => ?_) (fun l b h1 => .inl h1) hb (hRW k hlk)
              refine upd_ne _ _ _ _ fun hji => ?_
              subst hji
              have hkm : k < m := by
                rcases Nat.lt_or_ge k m with h' | h'
                · exact h'
                · rw [hI.tail k h'] at hlk; cases hlk
              have hkn : k < ops.size := by omega
              have h1 := List.all_eq_true.1 (List.all_eq_true.1 hD k (List.mem_range.2 hkm)) j hj
              rw [Array.getElem?_eq_getElem hkn] at h1
              simp only [Bool.or_eq_true, beq_iff_eq] at h1
              rcases h1 with h1 | h1
              · exact hik h1
              · rw [Array.any_eq_true'] at h1
                obtain ⟨e, he, h2⟩ := h1
                simp only [Bool.and_eq_true, beq_iff_eq] at h2
                have := hI.closed k _ (Array.getElem?_eq_getElem hkn) hlk e he h2.1
                rw [h2.2, hl] at this
                cases this
  obtain ⟨vs0, hvs0⟩ := fullAct_start ops a0
  refine key ops.size _ _ _ ⟨by simp, fun i _ => rep_false _ _, ?_, vs0, fun _ _ => False, hvs0, hS, Nat.le_refl _, fun _ _ h => h.elim, fun _ _ _ h => h.elim, ?_⟩ ?_
  · intro i o _ h; rw [rep_false] at h; cases h
  · intro i h; rw [rep_false] at h; cases h
  · exact Nat.le_trans (List.length_filter_le _ _) (by simp)
end
end Go.Proofs.Ytjdimlhdkmkmbaa
namespace Go.Proofs.Ytjdimlhdkmkmbaa
set_option maxRecDepth 100000
open Go.ChangeShapes Go.WideShapes Go.ChangeAt Go.RowKit Go.Deep
set_option linter.unusedVariables false

section
variable {P : Program} {ops : Array Oper} {Q : Exit → Act → World → Prop}
end
end Go.Proofs.Ytjdimlhdkmkmbaa
