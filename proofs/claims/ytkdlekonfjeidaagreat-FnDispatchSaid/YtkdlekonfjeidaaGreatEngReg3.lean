/-
  Blocks that are laid beside the machine's memory.
-/
import Derived.Test.YtkdlekonfjeidaaGreatEngReg2
namespace Go.Proofs.YtkdlekonfjeidaaGreat.Eng
open Go.RowKit
set_option linter.unusedVariables false

noncomputable def lay (X : List (Nat × NW)) (h : Hp) : Hp := X.foldr (fun p h => addN h p.1 p.2) h
theorem lay_cons (p : Nat × NW) (X : List (Nat × NW)) (h : Hp) : lay (p :: X) h = addN (lay X h) p.1 p.2 := rfl
theorem lay_next (X : List (Nat × NW)) (h : Hp) : (lay X h).next = h.next := by
  induction X with
  | nil => rfl
  | cons p X ih => rw [lay_cons, addN_next, ih]
/-- one block to a number, and small numbers -/
def Fun (U : Nat × NW → Prop) : Prop := (∀ p, U p → p.1 < 32768) ∧ ∀ p q, U p → U q → p.1 = q.1 → p = q
def In (X : List (Nat × NW)) (U : Nat × NW → Prop) : Prop := ∀ p ∈ X, U p
def HEq2 (h h' : Hp) : Prop := (∀ j, j < 32768 → h.get j = h'.get j) ∧ ∀ j, j < 32768 → h.fam j = h'.fam j
theorem HEq2.refl (h : Hp) : HEq2 h h := ⟨fun _ _ => rfl, fun _ _ => rfl⟩
theorem HEq2.symm {h h' : Hp} (e : HEq2 h h') : HEq2 h' h := ⟨fun j hj => (e.1 j hj).symm, fun j hj => (e.2 j hj).symm⟩
theorem HEq2.trans {a b c : Hp} (e : HEq2 a b) (f : HEq2 b c) : HEq2 a c := ⟨fun j hj => (e.1 j hj).trans (f.1 j hj), fun j hj => (e.2 j hj).trans (f.2 j hj)⟩
theorem HRel.heq {ρ : Rn} {h h' : Hp} {B : Nat} {w : World} (H : HRel ρ h B w) (e : HEq2 h h') : HRel ρ h' B w := H.heapEq (fun j hj => (e.1 j hj).symm) (fun j hj => (e.2 j hj).symm)
theorem Step.heq {lo hi : Nat} {ρ ρ' : Rn} {h h' g g' : Hp} {w w' : World} (s : Step lo hi ρ h w ρ' h' w') (e : HEq2 h g) (e' : HEq2 h' g') : Step lo hi ρ g w ρ' g' w' := s.heapEq (fun j hj => (e.1 j hj).symm) (fun j hj => (e'.1 j hj).symm)

section
variable {U : Nat × NW → Prop}
theorem lay_in (hU : Fun U) {X : List (Nat × NW)} (hX : In X U) (h : Hp) {id : Nat} {n : NW} (hm : (id, n) ∈ X) : (lay X h).get id = some (n.obj id) := by
  induction X with
  | nil => cases hm
  | cons p X ih =>
    have hid := hU.1 _ (hX _ hm)
    have hp := hU.1 p (hX p (by simp))
    rw [lay_cons, addN_get _ _ _ hp _ hid]
    by_cases e : p.1 = id
    · rw [if_pos e]
      have := hU.2 p (id, n) (hX p (by simp)) (hX _ hm) e
      subst this
      rfl
    · rw [if_neg e]
      rcases List.mem_cons.1 hm with e' | hm
      · exact absurd (by rw [← e']) e
      · exact ih (fun q hq => hX q (by simp [hq])) hm
theorem lay_out (hU : Fun U) {X : List (Nat × NW)} (hX : In X U) (h : Hp) {id : Nat} (hid : id < 32768) (hm : ∀ n, (id, n) ∉ X) : (lay X h).get id = h.get id := by
  induction X with
  | nil => rfl
  | cons p X ih =>
    have hp := hU.1 p (hX p (by simp))
    rw [lay_cons, addN_get _ _ _ hp _ hid, if_neg (fun e => hm p.2 (by rw [← e]; simp))]
    exact ih (fun q hq => hX q (by simp [hq])) (fun n hn => hm n (by simp [hn]))
theorem lay_fam_in (hU : Fun U) {X : List (Nat × NW)} (hX : In X U) (h : Hp) {id len s : Nat} {cs : List CV} (hm : (id, .row len s cs) ∈ X) : (lay X h).fam id = some [(id, cs.length)] := by
  induction X with
  | nil => cases hm
  | cons p X ih =>
    have hid := hU.1 _ (hX _ hm)
    have hp := hU.1 p (hX p (by simp))
    rw [lay_cons]
    by_cases e : p.1 = id
    · have := hU.2 p (id, .row len s cs) (hX p (by simp)) (hX _ hm) e
      subst this
      exact addN_famRow _ _ _ _ _ hid
    · rw [addN_fam _ _ _ hp _ hid e]
      rcases List.mem_cons.1 hm with e' | hm
      · exact absurd (by rw [← e']) e
      · exact ih (fun q hq => hX q (by simp [hq])) hm
theorem lay_fam_out (hU : Fun U) {X : List (Nat × NW)} (hX : In X U) (h : Hp) {id : Nat} (hid : id < 32768) (hm : ∀ len s cs, (id, NW.row len s cs) ∉ X) : (lay X h).fam id = h.fam id := by
  induction X with
  | nil => rfl
  | cons p X ih =>
    have hp := hU.1 p (hX p (by simp))
    rw [lay_cons]
    have hrest := ih (fun q hq => hX q (by simp [hq])) (fun len s cs hn => hm len s cs (by simp [hn]))
    by_cases e : p.1 = id
    · obtain ⟨i, n⟩ := p
      simp only at e
      subst e
      cases n with
      | box cs => exact (Hp.put_fam _ _ _ _).trans hrest
      | map => exact (Hp.put_fam _ _ _ _).trans hrest
      | row len s cs => exact absurd (by simp) (hm len s cs)
    · rw [addN_fam _ _ _ hp _ hid e]
      exact hrest
/-- the order and repetitions do not matter -/
theorem lay_same (hU : Fun U) {X Y : List (Nat × NW)} (hX : In X U) (hY : In Y U) (hXY : ∀ p, p ∈ X ↔ p ∈ Y) {h h' : Hp} (e : HEq2 h h') : HEq2 (lay X h) (lay Y h') := by
  refine ⟨fun j hj => ?_, fun j hj => ?_⟩
  · by_cases hm : ∃ n, (j, n) ∈ X
    · obtain ⟨n, hm⟩ := hm
      rw [lay_in hU hX h hm, lay_in hU hY h' ((hXY _).1 hm)]
    · have hn : ∀ n, (j, n) ∉ X := fun n hn => hm ⟨n, hn⟩
      rw [lay_out hU hX h hj hn, lay_out hU hY h' hj (fun n hn' => hn n ((hXY _).2 hn')), e.1 j hj]
  · by_cases hm : ∃ len s cs, (j, NW.row len s cs) ∈ X
    · obtain ⟨len, s, cs, hm⟩ := hm
      rw [lay_fam_in hU hX h hm, lay_fam_in hU hY h' ((hXY _).1 hm)]
    · have hn : ∀ len s cs, (j, NW.row len s cs) ∉ X := fun len s cs hn => hm ⟨len, s, cs, hn⟩
      rw [lay_fam_out hU hX h hj hn, lay_fam_out hU hY h' hj (fun len s cs hn' => hn len s cs ((hXY _).2 hn')), e.2 j hj]

theorem addN_famOk2 {ρ : Rn} {h : Hp} {B : Nat} {w : World} (H : HRel ρ h B w) (id : Nat) (n : NW) (hn : id < 32768) (hno : ∀ len s cs, n = .row len s cs → NoFam h id) :
    ∀ j cs f, j < 32768 → (addN h id n).get j = some (.row cs f) → f < 32768 ∧ ∃ l, (addN h id n).fam f = some l ∧ (j, cs.length) ∈ l := by
  cases n with
  | row len s cs => exact addN_famOk H id _ hn (hno len s cs rfl)
  | box cs' =>
    intro j cs f hj hc
    rw [addN_get _ _ _ hn _ hj] at hc
    by_cases e : id = j
    · rw [if_pos e] at hc; cases hc
    · rw [if_neg e] at hc; rw [addN_famOther _ _ _ (fun _ _ _ e => by cases e)]; exact H.fam j cs f hj hc
  | map =>
    intro j cs f hj hc
    rw [addN_get _ _ _ hn _ hj] at hc
    by_cases e : id = j
    · rw [if_pos e] at hc; cases hc
    · rw [if_neg e] at hc; rw [addN_famOther _ _ _ (fun _ _ _ e => by cases e)]; exact H.fam j cs f hj hc
/-- a block that is there already -/
theorem re_add {ρ : Rn} {h : Hp} {B : Nat} {w : World} (H : HRel ρ h B w) (id : Nat) (n : NW) (hn : id < 32768) {ri : RI} (hρ : ρ id = some ri) (hB : B ≤ ri.b) (hO : ORel ρ w ri (n.obj id)) (hno : ∀ len s cs, n = .row len s cs → NoFam h id)
    (hap : ∀ j c rj, j < 32768 → j ≠ id → h.get j = some c → ρ j = some rj → rj.b ≠ ri.b) : HRel ρ (addN h id n) B w := by
  have hget := addN_get h id n hn
  refine H.change id ri (n.obj id) hn (Sub.refl _) hρ (fun _ _ => rfl) hB (fun _ _ _ => rfl) (by rw [hget id hn, if_pos rfl]) (fun j c hj hne hc => by rw [hget j hj, if_neg (Ne.symm hne)] at hc; exact hc) hO ?_ (addN_famOk2 H id n hn hno) (addN_flt H id n hn) (fun cs f hc => ?_)
  · intro j c rj hj hne hc hr hb
    rw [hget j hj, if_neg (Ne.symm hne)] at hc
    exact absurd hb (hap j c rj hj hne hc hr)
  · cases n with
    | box cs' => cases hc
    | map => cases hc
    | row len s cs' => injection hc with e1 e2; subst e2; rw [hρ]; simp
/-- a laid block is not shared -/
theorem lay_apart {ρ : Rn} {h : Hp} {B : Nat} {w : World} (hU : Fun U) {X : List (Nat × NW)} (hX : In X U) (H : HRel ρ (lay X h) B w) {id : Nat} {n : NW} (hm : (id, n) ∈ X) {ri : RI} (hρ : ρ id = some ri) {j : Nat} {c : CO} {rj : RI} (hj : j < 32768) (hne : j ≠ id) (hc : (lay X h).get j = some c) (hrj : ρ j = some rj) : rj.b ≠ ri.b := by
  intro hb
  have hid := hU.1 _ (hX _ hm)
  obtain ⟨f, k1, k2⟩ := H.apart j id c (n.obj id) rj ri hj hid hne hc (lay_in hU hX h hm) hrj hρ hb
  cases n with
  | box cs => cases k2
  | map => cases k2
  | row len s cs =>
    have hf : f = id := by simpa [famOf, NW.obj] using k2.symm
    subst hf
    cases c with
    | box cs' => cases k1
    | map l => cases k1
    | row cs' f' =>
      have : f' = f := by simpa [famOf] using k1
      subst this
      obtain ⟨_, l, g1, g2⟩ := H.fam j cs' f' hj hc
      rw [lay_fam_in hU hX h hm] at g1
      injection g1 with g1
      subst g1
      simp at g2
      exact hne g2.1
theorem lay_noFam {ρ : Rn} {h : Hp} {B : Nat} {w : World} (hU : Fun U) {X : List (Nat × NW)} (hX : In X U) (H : HRel ρ (lay X h) B w) {id : Nat} {len s : Nat} {cs : List CV} (hm : (id, .row len s cs) ∈ X) {j : Nat} {cs' : List CV} (hj : j < 32768) (hc : (lay X h).get j = some (.row cs' id)) : j = id := by
  obtain ⟨_, l, g1, g2⟩ := H.fam j cs' id hj hc
  rw [lay_fam_in hU hX h hm] at g1
  injection g1 with g1
  subst g1
  simp at g2
  exact g2.1

/-- THE FRAME: what is laid beside stays through an effect -/
theorem frame_step {ρ ρ' : Rn} {hin hout : Hp} {w w' : World} {lo hi : Nat} (hU : Fun U) (S : Step lo hi ρ hin w ρ' hout w') {X : List (Nat × NW)} (hX : In X U) (hids : ∀ p ∈ X, ¬ (lo ≤ p.1 ∧ p.1 < hi)) (hnone : ∀ p ∈ X, hin.get p.1 = none) (hknow : ∀ p ∈ X, ρ p.1 ≠ none) :
    Step lo hi ρ (lay X hin) w ρ' (lay X hout) w' := by
  have own1 : ∀ b, Own ρ hin b → Own ρ (lay X hin) b := fun b ⟨j, c, rj, k1, k2, k3, k4⟩ => by
    refine ⟨j, c, rj, k1, ?_, k3, k4⟩
    rw [lay_out hU hX hin k1 (fun n hn => by rw [hnone _ hn] at k2; cases k2)]
    exact k2
  refine ⟨S.agree, fun b ⟨j, c, rj, k1, k2, k3, k4⟩ => ?_, fun b hb hn => S.keep b hb (fun ho => hn (own1 b ho)), S.size, S.os, S.tape, S.output, fun f hf hr hno j cs hj hc => ?_⟩
  · by_cases hm : ∃ n, (j, n) ∈ X
    · obtain ⟨n, hm⟩ := hm
      rw [S.agree j (hids _ hm)] at k3
      exact .inl ⟨j, n.obj j, rj, k1, lay_in hU hX hin hm, k3, k4⟩
    · rw [lay_out hU hX hout k1 (fun n hn => hm ⟨n, hn⟩)] at k2
      rcases S.own b ⟨j, c, rj, k1, k2, k3, k4⟩ with h1 | h1
      · exact .inl (own1 b h1)
      · exact .inr h1
  · by_cases hm : ∃ n, (j, n) ∈ X
    · obtain ⟨n, hm⟩ := hm
      rw [lay_in hU hX hout hm] at hc
      exact hno j cs hj (by rw [lay_in hU hX hin hm]; exact hc)
    · rw [lay_out hU hX hout hj (fun n hn => hm ⟨n, hn⟩)] at hc
      refine S.fk f hf hr (fun i cs' hi hc' => hno i cs' hi ?_) j cs hj hc
      rw [lay_out hU hX hin hi (fun n hn => by rw [hnone _ hn] at hc'; cases hc')]
      exact hc'
theorem frame_rel {ρ ρ' : Rn} {hin hout : Hp} {B : Nat} {w w' : World} {lo hi : Nat} (hU : Fun U) (S : Step lo hi ρ hin w ρ' hout w') (hS : Sub ρ ρ') (H' : HRel ρ' hout B w') : ∀ (X : List (Nat × NW)), In X U → (∀ p ∈ X, ¬ (lo ≤ p.1 ∧ p.1 < hi)) → (∀ p ∈ X, hin.get p.1 = none) → HRel ρ (lay X hin) B w → (∀ p ∈ X, hout.get p.1 = none) ∧ HRel ρ' (lay X hout) B w' := by
  intro X hX hids hnone H
  -- each block: known, kept, not owned
  have key : ∀ p ∈ X, ∃ ri, ρ p.1 = some ri ∧ B ≤ ri.b ∧ ORel ρ w ri (p.2.obj p.1) ∧ ¬ Own ρ hin ri.b := by
    intro p hp
    have hid := hU.1 _ (hX _ hp)
    obtain ⟨ri, k1, k2, k3⟩ := H.obj p.1 _ hid (lay_in hU hX hin (show (p.1, p.2) ∈ X from hp))
    refine ⟨ri, k1, k2, k3, fun ⟨j, c, rj, g1, g2, g3, g4⟩ => ?_⟩
    by_cases e : j = p.1
    · subst e; rw [hnone _ hp] at g2; cases g2
    · refine lay_apart (c := c) hU hX H (show (p.1, p.2) ∈ X from hp) k1 g1 e ?_ g3 g4
      rw [lay_out hU hX hin g1 (fun n hn => by rw [hnone _ hn] at g2; cases g2)]
      exact g2
  have hOut : ∀ p ∈ X, hout.get p.1 = none := by
    intro p hp
    obtain ⟨ri, k1, k2, k3, k4⟩ := key p hp
    have hid := hU.1 _ (hX _ hp)
    cases hg : hout.get p.1 with
    | none => rfl
    | some c =>
      exfalso
      rcases S.own ri.b ⟨p.1, c, ri, hid, hg, hS _ _ k1, rfl⟩ with h1 | h1
      · exact k4 h1
      · have := k3.lt; omega
  refine ⟨hOut, ?_⟩
  -- one after the other
  have : ∀ (Y : List (Nat × NW)), (∀ p ∈ Y, p ∈ X) → HRel ρ' (lay Y hout) B w' := by
    intro Y
    induction Y with
    | nil => intro _; exact H'
    | cons p Y ih =>
      intro hY
      have hYX : ∀ q ∈ Y, q ∈ X := fun q hq => hY q (by simp [hq])
      have hYU : In Y U := fun q hq => hX q (hYX q hq)
      have ihY := ih hYX
      have hp := hY p (by simp)
      obtain ⟨ri, k1, k2, k3, k4⟩ := key p hp
      have hid := hU.1 _ (hX _ hp)
      rw [lay_cons]
      by_cases hm : p ∈ Y
      · refine ihY.heq ?_
        have h1 : HEq2 (lay Y hout) (lay (p :: Y) hout) := lay_same hU hYU (fun q hq => hX q (hY q hq)) (fun q => by
          constructor
          · intro hq; simp [hq]
          · intro hq
            rcases List.mem_cons.1 hq with rfl | hq
            · exact hm
            · exact hq) (HEq2.refl _)
        exact h1
      · have hkeep : w'.heap[ri.b]? = w.heap[ri.b]? := S.keep ri.b k3.lt k4
        have hnotY : ∀ n, (p.1, n) ∉ Y := fun n hn => by
          have := hU.2 p (p.1, n) (hX _ hp) (hYU _ hn) rfl
          exact hm (by rw [this]; exact hn)
        refine re_add ihY p.1 p.2 hid (hS _ _ k1) k2 (k3.mono hS hkeep) (fun len0 s0 cs0 hrow j cs hj hc => ?_) (fun j c rj hj hne hc hr hb => ?_)
        · by_cases hmj : ∃ n, (j, n) ∈ Y
          · obtain ⟨n, hmj⟩ := hmj
            rw [lay_in hU hYU hout hmj] at hc
            injection hc with hc
            cases n with
            | box cs' => cases hc
            | map => cases hc
            | row len s cs' =>
              injection hc with e1 e2
              subst e2
              exact hnotY _ hmj
          · rw [lay_out hU hYU hout hj (fun n hn => hmj ⟨n, hn⟩)] at hc
            -- a row of hout that belongs to the family of p
            have hkn := H'.known j cs p.1 hj hc
            have hfk := S.fk p.1 hid (hids p hp)
            -- no such row before
            have hno : NoFam hin p.1 := by
              intro i cs' hi hc'
              have hl : (lay X hin).get i = some (.row cs' p.1) := by
                rw [lay_out hU hX hin hi (fun n hn => by rw [hnone _ hn] at hc'; cases hc')]
                exact hc'
              have hp' : (p.1, NW.row len0 s0 cs0) ∈ X := by rw [← hrow]; exact hp
              have := lay_noFam hU hX H hp' hi hl
              subst this
              rw [hnone _ hp] at hc'
              cases hc'
            exact hfk hno j cs hj hc
        · by_cases hmj : ∃ n, (j, n) ∈ Y
          · obtain ⟨n, hmj⟩ := hmj
            have hjX := hYX _ hmj
            rw [S.agree j (hids _ hjX)] at hr
            exact lay_apart hU hX H (show (p.1, p.2) ∈ X from hp) k1 hj hne (lay_in hU hX hin hjX) hr hb
          · rw [lay_out hU hYU hout hj (fun n hn => hmj ⟨n, hn⟩)] at hc
            rcases S.own rj.b ⟨j, c, rj, hj, hc, hr, rfl⟩ with h1 | h1
            · rw [hb] at h1; exact k4 h1
            · have := k3.lt; omega
  exact this X (fun _ h => h)
end
end Go.Proofs.YtkdlekonfjeidaaGreat.Eng
