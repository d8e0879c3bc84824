/-
  What a call does to a part of the machine's memory, it does with more memory around it: a run may be parted into runs of its calls.
-/
import Derived.Test.YtkdlekonfjeidaaGreatEngOra
namespace Go.Proofs.YtkdlekonfjeidaaGreat.Eng
open Go.RowKit
set_option linter.unusedVariables false

section
variable {P : Program}
/-- what is known of one call -/
def Good (P : Program) (f : FuncId) (args : List CV) (h : Hp) (c : CV) (h' : Hp) : Prop := h.next ≤ h'.next ∧ (∃ fn, P.funcs[f]? = some fn ∧ fn.body.isSome = true ∧ fn.name ≠ "runtime.NumGoroutine") ∧
    ∀ (ρ : Rn) (B : Nat) (w : World) (vs : List Value), HRel ρ h B w → B ≤ w.heap.size → Fresh ρ h.next h'.next → VRels ρ args vs →
      Calls P f vs.toArray w fun e w' => ∃ v ρ', e = .returned v ∧ HRel ρ' h' B w' ∧ Step h.next h'.next ρ h w ρ' h' w' ∧ VRel ρ' c v
/-- less is known behind the call -/
theorem Good.weak {f : FuncId} {args : List CV} {h h1 h2 : Hp} {c : CV} (G : Good P f args h c h1) (hn : h2.next = h1.next) (hg : ∀ id c, id < 32768 → h2.get id = some c → h1.get id = some c)
    (hf : ∀ i cs f, i < 32768 → h2.get i = some (.row cs f) → ∃ l, h2.fam f = some l ∧ (i, cs.length) ∈ l) (hl : ∀ f l p, f < 32768 → h2.fam f = some l → p ∈ l → p.1 < 32768) : Good P f args h c h2 := by
  obtain ⟨g1, g2, g3⟩ := G
  refine ⟨by rw [hn]; exact g1, g2, fun ρ B w vs H hB hF hv => ?_⟩
  rw [hn] at hF ⊢
  refine Calls.mono (g3 ρ B w vs H hB hF hv) ?_
  rintro e w' ⟨v, ρ', rfl, H', S, V⟩
  refine ⟨v, ρ', rfl, H'.less hg (fun i cs f l hi hc _ _ => hf i cs f hi hc) hl, ⟨S.agree, fun b ⟨id, c, ri, k1, k2, k3, k4⟩ => S.own b ⟨id, c, ri, k1, hg id c k1 k2, k3, k4⟩, S.keep, S.size, S.os, S.tape, S.output, fun f hf' hn' hno i cs hi hc => S.fk f hf' hn' hno i cs hi (hg i _ hi hc)⟩, V⟩
/-- THE FRAME: more memory around the call -/
theorem Good.frame {f : FuncId} {args : List CV} {h0 h1 h h2 : Hp} {c : CV} (G : Good P f args h0 c h1) (hn : h.next = h0.next) (hn2 : h2.next = h1.next)
    (sub : ∀ id c, id < 32768 → h0.get id = some c → h.get id = some c)
    (fam0 : ∀ i cs f, i < 32768 → h0.get i = some (.row cs f) → ∃ l, h0.fam f = some l ∧ (i, cs.length) ∈ l)
    (lt0 : ∀ f l p, f < 32768 → h0.fam f = some l → p ∈ l → p.1 < 32768)
    (get2 : ∀ id c, id < 32768 → h2.get id = some c → h1.get id = some c ∨ (h.get id = some c ∧ h0.get id = none ∧ h1.get id = none ∧ ∀ i cs ds f, i < 32768 → h0.get i = some (.row cs f) → (∃ l, h.fam f = some l ∧ (id, ds.length) ∈ l) → c ≠ .row ds f))
    (fam1 : ∀ f l, f < 32768 → h1.fam f = some l → h2.fam f = some l)
    (fam2 : ∀ f, f < 32768 → h1.fam f = none → h2.fam f = h.fam f)
    (dom1 : ∀ f l, f < 32768 → h1.fam f = some l → (∃ i cs, i < 32768 ∧ h0.get i = some (.row cs f)) ∨ (h0.next ≤ f ∧ f < h1.next)) : Good P f args h c h2 := by
  obtain ⟨g1, g2, g3⟩ := G
  refine ⟨by rw [hn, hn2]; exact g1, g2, fun ρ B w vs H hB hF hv => ?_⟩
  rw [hn, hn2] at hF
  have H0 : HRel ρ h0 B w := H.less sub (fun i cs f l hi hc hl hm => by
    obtain ⟨l', k1, k2⟩ := fam0 i cs f hi hc
    exact ⟨l', k1, k2⟩) lt0
  -- a block that stays is no row of a family inside
  have alien : ∀ id c, id < 32768 → h.get id = some c → (∀ i cs ds f, i < 32768 → h0.get i = some (.row cs f) → (∃ l, h.fam f = some l ∧ (id, ds.length) ∈ l) → c ≠ .row ds f) → ∀ i cs ds f, i < 32768 → h0.get i = some (.row cs f) → c ≠ .row ds f := by
    intro id c hid hc hal i cs ds f hi hg e
    subst e
    obtain ⟨_, l, k1, k2⟩ := H.fam id ds f hid hc
    exact hal i cs ds f hi hg ⟨l, k1, k2⟩ rfl
  -- a block outside is not among those inside
  have out : ∀ id c ri, id < 32768 → h.get id = some c → h0.get id = none → (∀ i cs ds f, i < 32768 → h0.get i = some (.row cs f) → c ≠ .row ds f) → ρ id = some ri → ¬ Own ρ h0 ri.b := by
    rintro id c ri hid hc h0n hal hr ⟨j, cj, rj, k1, k2, k3, k4⟩
    have hne : id ≠ j := fun e => by subst e; rw [k2] at h0n; cases h0n
    obtain ⟨fm, q1, q2⟩ := H.apart id j c cj ri rj hid k1 hne hc (sub j cj k1 k2) hr k3 k4.symm
    cases cj with
    | box cs => cases q2
    | map m => cases q2
    | row ds f2 =>
      cases c with
      | box cs => cases q1
      | map m => cases q1
      | row cs f1 =>
        injection q1 with q1
        injection q2 with q2
        subst q1
        subst q2
        exact hal j ds cs _ k1 k2 rfl
  refine Calls.mono (g3 ρ B w vs H0 hB hF hv) ?_
  rintro e w' ⟨v, ρ', rfl, H', S, V⟩
  have hSub : Sub ρ ρ' := S.sub hF
  -- what stands outside stands there still
  have stay : ∀ id c, id < 32768 → h.get id = some c → h0.get id = none → (∀ i cs ds f, i < 32768 → h0.get i = some (.row cs f) → (∃ l, h.fam f = some l ∧ (id, ds.length) ∈ l) → c ≠ .row ds f) → ∃ ri, ρ id = some ri ∧ ρ' id = some ri ∧ B ≤ ri.b ∧ ri.b < w.heap.size ∧ ORel ρ' w' ri c ∧ ¬ Own ρ h0 ri.b := by
    intro id c hid hc h0n hal
    obtain ⟨ri, k1, k2, k3⟩ := H.obj id c hid hc
    have ho := out id c ri hid hc h0n (alien id c hid hc hal) k1
    exact ⟨ri, k1, hSub id ri k1, k2, k3.lt, k3.mono hSub (S.keep ri.b k3.lt ho), ho⟩
  have inn : ∀ id c ri, id < 32768 → h1.get id = some c → ρ' id = some ri → Own ρ h0 ri.b ∨ w.heap.size ≤ ri.b := fun id c ri k1 k2 k3 => S.own ri.b ⟨id, c, ri, k1, k2, k3, rfl⟩
  refine ⟨v, ρ', rfl, ?_, ?_, V⟩
  · refine ⟨H'.lt, fun id c hid hc => ?_, fun i j ci cj ri rj hi hj hij h3 h4 e1 e2 hb => ?_, fun i cs f hi hc => ?_, fun f l p hf hl hp => ?_, fun i cs f hi hc => ?_⟩
    · rcases get2 id c hid hc with h3 | ⟨h3, h4, _, hal⟩
      · exact H'.obj id c hid h3
      · obtain ⟨ri, k1, k2, k3, k4, k5, _⟩ := stay id c hid h3 h4 hal
        exact ⟨ri, k2, k3, k5⟩
    · rcases get2 i ci hi h3 with a1 | ⟨a1, a2, a3, a4⟩ <;> rcases get2 j cj hj h4 with b1 | ⟨b1, b2, b3, b4⟩
      · exact H'.apart i j ci cj ri rj hi hj hij a1 b1 e1 e2 hb
      · obtain ⟨r, k1, k2, k3, k4, k5, k6⟩ := stay j cj hj b1 b2 b4
        rw [k2] at e2
        injection e2 with e2
        subst e2
        rcases inn i ci ri hi a1 e1 with q | q
        · rw [hb] at q; exact absurd q k6
        · omega
      · obtain ⟨r, k1, k2, k3, k4, k5, k6⟩ := stay i ci hi a1 a2 a4
        rw [k2] at e1
        injection e1 with e1
        subst e1
        rcases inn j cj rj hj b1 e2 with q | q
        · rw [← hb] at q; exact absurd q k6
        · omega
      · obtain ⟨r, k1, k2, _⟩ := stay i ci hi a1 a2 a4
        obtain ⟨r', l1, l2, _⟩ := stay j cj hj b1 b2 b4
        rw [k2] at e1
        injection e1 with e1
        subst e1
        rw [l2] at e2
        injection e2 with e2
        subst e2
        exact H.apart i j ci cj r r' hi hj hij a1 b1 k1 l1 hb
    · rcases get2 i _ hi hc with h3 | ⟨h3, h4, h5, hal⟩
      · obtain ⟨k1, l, k2, k3⟩ := H'.fam i cs f hi h3
        exact ⟨k1, l, fam1 f l k1 k2, k3⟩
      · obtain ⟨k1, l, k2, k3⟩ := H.fam i cs f hi h3
        refine ⟨k1, ?_⟩
        cases hf1 : h1.fam f with
        | none => exact ⟨l, by rw [fam2 f k1 hf1]; exact k2, k3⟩
        | some l1 =>
          rcases dom1 f l1 k1 hf1 with ⟨j, ds, hj, hd⟩ | ⟨q1, q2⟩
          · exact absurd rfl (hal j ds cs f hj hd ⟨l, k2, k3⟩)
          · exact absurd (hF f q1 q2) (H.known i cs f hi h3)
    · cases hf1 : h1.fam f with
      | none => rw [fam2 f hf hf1] at hl; exact H.famlt f l p hf hl hp
      | some l1 =>
        rw [fam1 f l1 hf hf1] at hl
        injection hl with hl
        subst hl
        exact H'.famlt f l1 p hf hf1 hp
    · rcases get2 i _ hi hc with h3 | ⟨h3, h4, h5, _⟩
      · exact H'.known i cs f hi h3
      · intro hq
        cases hr : ρ f with
        | none => exact H.known i cs f hi h3 hr
        | some rf => rw [hSub f rf hr] at hq; cases hq
  · have own0 : ∀ b, Own ρ h0 b → Own ρ h b := fun b ⟨id, c, ri, k1, k2, k3, k4⟩ => ⟨id, c, ri, k1, sub id c k1 k2, k3, k4⟩
    rw [hn, hn2]
    refine ⟨S.agree, fun b ⟨id, c, ri, k1, k2, k3, k4⟩ => ?_, fun b hb hno => S.keep b hb (fun ho => hno (own0 b ho)), S.size, S.os, S.tape, S.output, fun f hf hfr hno i cs hi hc => ?_⟩
    · rcases get2 id c k1 k2 with h3 | ⟨h3, h4, _, hal⟩
      · rcases inn id c ri k1 h3 k3 with q | q
        · rw [k4] at q; exact .inl (own0 b q)
        · exact .inr (by omega)
      · obtain ⟨r, l1, l2, _⟩ := stay id c k1 h3 h4 hal
        rw [l2] at k3
        injection k3 with k3
        subst k3
        exact .inl ⟨id, c, r, k1, h3, l1, k4⟩
    · rcases get2 i _ hi hc with h3 | ⟨h3, _, _, _⟩
      · exact S.fk f hf hfr (fun j ds hj hd => hno j ds hj (sub j _ hj hd)) i cs hi h3
      · exact hno i cs hi h3
end
end Go.Proofs.YtkdlekonfjeidaaGreat.Eng
