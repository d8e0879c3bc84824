/-
  The machine's memory against the model's: writing, making, appending.
-/
import Derived.Test.YtkdlekonfjeidaaGreatEngHp
namespace Go.Proofs.YtkdlekonfjeidaaGreat.Eng
open Go.RowKit
set_option linter.unusedVariables false

def keepP (e but : Nat) (p : Nat × Nat) : Bool := Nat.ble p.2 e || Nat.beq p.1 but
theorem killL_spec (e but : Nat) (l : List (Nat × Nat)) (h : Hp) (hlt : ∀ p ∈ l, p.1 < 32768) :
    (killL e but l h).1.next = h.next ∧ (∀ f, (killL e but l h).1.fam f = h.fam f) ∧ (killL e but l h).2 = l.filter (keepP e but) ∧
    (∀ j c, j < 32768 → (killL e but l h).1.get j = some c → h.get j = some c ∧ ∀ p ∈ l, p.1 = j → keepP e but p = true) ∧
    (∀ j, j < 32768 → (∀ p ∈ l, p.1 = j → keepP e but p = true) → (killL e but l h).1.get j = h.get j) := by
  induction l with
  | nil => exact ⟨rfl, fun _ => rfl, rfl, fun j c _ hc => ⟨hc, fun p hp => by simp at hp⟩, fun j _ _ => rfl⟩
  | cons p l ih =>
    obtain ⟨i1, i2, i3, i4, i5⟩ := ih (fun q hq => hlt q (by simp [hq]))
    have hp := hlt p (by simp)
    have hk : killL e but (p :: l) h = bc (keepP e but p) ((killL e but l h).1, consS p (killL e but l h).2) ((killL e but l h).1.del p.1, (killL e but l h).2) := rfl
    rw [hk]
    cases hkp : keepP e but p with
    | true =>
      rw [bc_true, consS_eq]
      refine ⟨i1, i2, by simp [i3, hkp], fun j c hj hc => ?_, fun j hj hall => i5 j hj (fun q hq => hall q (by simp [hq]))⟩
      obtain ⟨g1, g2⟩ := i4 j c hj hc
      refine ⟨g1, fun q hq hqj => ?_⟩
      rcases List.mem_cons.1 hq with rfl | hq
      · exact hkp
      · exact g2 q hq hqj
    | false =>
      rw [bc_false]
      refine ⟨(Hp.next_setO _ _ _).trans i1, fun f => (Hp.fam_setO _ _ _ _).trans (i2 f), by simp [i3, hkp], fun j c hj hc => ?_, fun j hj hall => ?_⟩
      · have hc' : ((killL e but l h).1.setO p.1 none).get j = some c := hc
        rw [Hp.get_setO _ _ _ _ hp hj] at hc'
        split at hc'
        · cases hc'
        · rename_i hne
          obtain ⟨g1, g2⟩ := i4 j c hj hc'
          refine ⟨g1, fun q hq hqj => ?_⟩
          rcases List.mem_cons.1 hq with rfl | hq
          · exact absurd hqj hne
          · exact g2 q hq hqj
      · show ((killL e but l h).1.setO p.1 none).get j = h.get j
        rw [Hp.get_setO _ _ _ _ hp hj]
        split
        · rename_i he
          have := hall p (by simp) he
          rw [hkp] at this
          cases this
        · exact i5 j hj (fun q hq => hall q (by simp [hq]))

/-- a row's cells behind a store -/
theorem RowR.put {ρ : Rn} {w : World} {ri : RI} {cs vs : List CV} {us : List Value} {off : Nat} (h : RowR ρ w ri cs) (hv : VRels ρ vs us) (h1 : ∀ c ∈ vs, c.one = true) (ho : off + vs.length ≤ cs.length) :
    RowR ρ (w.setCells ri.b off us) ri (lput vs cs off) := by
  obtain ⟨cells, g1, g2, g3, g4⟩ := h
  refine ⟨_, g1.setCells us off w cells, by simp [lput_length, g2], by simp [lput_length]; omega, fun j c hj => ?_⟩
  rw [lput_get _ _ _ _ ho] at hj
  have hl := hv.1
  have hget : (lput us cells.toList off).toArray[j]? = if off ≤ j ∧ j < off + us.length then us[j - off]? else cells.toList[j]? := by
    rw [List.getElem?_toArray, lput_get _ _ _ _ (by simp; omega)]
  rw [hget]
  by_cases hc : off ≤ j ∧ j < off + vs.length
  · rw [if_pos hc] at hj
    rw [if_pos (by omega)]
    obtain ⟨v, k1, k2⟩ := hv.at hj
    exact ⟨h1 c (List.mem_of_getElem? hj), v, k1, k2⟩
  · rw [if_neg hc] at hj
    rw [if_neg (by omega)]
    obtain ⟨k0, v, k1, k2⟩ := g4 j c hj
    exact ⟨k0, v, by simpa using k1, k2⟩
/-- a row that ends before what is stored -/
theorem RowR.before {ρ ρ' : Rn} (H : Sub ρ ρ') {w : World} {ri : RI} {cs : List CV} {us : List Value} {off : Nat} (h : RowR ρ w ri cs) (ho : cs.length ≤ off) (b : Nat) (hb : b = ri.b) : RowR ρ' (w.setCells b off us) ri cs := by
  subst hb
  obtain ⟨cells, g1, g2, g3, g4⟩ := h
  refine ⟨_, g1.setCells us off w cells, by simp [lput_length, g2], by simp [lput_length]; omega, fun j c hj => ?_⟩
  obtain ⟨k0, v, k1, k2⟩ := g4 j c hj
  refine ⟨k0, v, ?_, k2.mono H⟩
  have hjl := (List.getElem?_eq_some_iff.1 hj).1
  have : ∀ (us : List Value) (l : List Value) (o : Nat), j < o → (lput us l o)[j]? = l[j]? := by
    intro us
    induction us with
    | nil => intro l o _; rfl
    | cons u us ih => intro l o ho; rw [lput_cons, ih _ _ (by omega), List.getElem?_set_ne (by omega)]
  rw [List.getElem?_toArray, this _ _ _ (by omega)]
  simpa using k1

/-- ONE BLOCK CHANGES: all else of the machine's memory stands -/
theorem HRel.change {ρ ρ' : Rn} {h h' : Hp} {B : Nat} {w w' : World} (H : HRel ρ h B w) (n : Nat) (ri : RI) (c0 : CO) (hn : n < 32768) (hS : Sub ρ ρ') (hρ : ρ' n = some ri) (hρ' : ∀ id, id ≠ n → ρ' id = ρ id)
    (hB : B ≤ ri.b) (hw : ∀ b, b < w.heap.size → b ≠ ri.b → w'.heap[b]? = w.heap[b]?)
    (hget : h'.get n = some c0) (hold : ∀ j c, j < 32768 → j ≠ n → h'.get j = some c → h.get j = some c)
    (hc0 : ORel ρ' w' ri c0)
    (hshare : ∀ j c rj, j < 32768 → j ≠ n → h'.get j = some c → ρ j = some rj → rj.b = ri.b → ORel ρ' w' rj c ∧ ∃ f, famOf c = some f ∧ famOf c0 = some f)
    (hfam : ∀ j cs f, j < 32768 → h'.get j = some (.row cs f) → f < 32768 ∧ ∃ l, h'.fam f = some l ∧ (j, cs.length) ∈ l)
    (hflt : ∀ f l p, f < 32768 → h'.fam f = some l → p ∈ l → p.1 < 32768) (hkn : ∀ cs f, c0 = .row cs f → ρ' f ≠ none) : HRel ρ' h' B w' := by
  refine ⟨fun id rj e => ?_, fun j c hj hc => ?_, fun i j ci cj r1 r2 hi hj hij h1 h2 e1 e2 hb => ?_, hfam, hflt, fun j cs f hj hc => ?_⟩
  · by_cases e0 : id = n
    · omega
    · rw [hρ' id e0] at e
      exact H.lt id rj e
  · by_cases e0 : j = n
    · subst e0
      rw [hget] at hc
      injection hc with hc
      subst hc
      exact ⟨ri, hρ, hB, hc0⟩
    · have h3 := hold j c hj e0 hc
      obtain ⟨rj, g1, g2, g3⟩ := H.obj j c hj h3
      refine ⟨rj, by rw [hρ' j e0]; exact g1, g2, ?_⟩
      by_cases eb : rj.b = ri.b
      · exact (hshare j c rj hj e0 hc g1 eb).1
      · exact g3.mono hS (hw rj.b g3.lt eb)
  · by_cases ei : i = n
    · subst ei
      rw [hget] at h1
      injection h1 with h1
      subst h1
      rw [hρ] at e1
      injection e1 with e1
      subst e1
      rw [hρ' j (Ne.symm hij)] at e2
      obtain ⟨_, f, k1, k2⟩ := hshare j cj r2 hj (Ne.symm hij) h2 e2 hb.symm
      exact ⟨f, k2, k1⟩
    · by_cases ej : j = n
      · subst ej
        rw [hget] at h2
        injection h2 with h2
        subst h2
        rw [hρ] at e2
        injection e2 with e2
        subst e2
        rw [hρ' i ei] at e1
        obtain ⟨_, f, k1, k2⟩ := hshare i ci r1 hi ei h1 e1 hb
        exact ⟨f, k1, k2⟩
      · rw [hρ' i ei] at e1
        rw [hρ' j ej] at e2
        exact H.apart i j ci cj r1 r2 hi hj hij (hold i ci hi ei h1) (hold j cj hj ej h2) e1 e2 hb
  · by_cases e0 : j = n
    · subst e0
      rw [hget] at hc
      injection hc with hc
      exact hkn cs f hc
    · have h3 := H.known j cs f hj (hold j _ hj e0 hc)
      intro h4
      cases h5 : ρ f with
      | none => exact h3 h5
      | some rf => rw [hS f rf h5] at h4; cases h4

theorem HRel.at {ρ : Rn} {h : Hp} {B : Nat} {w : World} (H : HRel ρ h B w) {id : Nat} {ri : RI} {c : CO} (hid : ρ id = some ri) (hg : h.get id = some c) : B ≤ ri.b ∧ ORel ρ w ri c := by
  obtain ⟨ri', g1, g2, g3⟩ := H.obj id c (H.lt id ri hid) hg
  rw [hid] at g1
  injection g1 with g1
  subst g1
  exact ⟨g2, g3⟩

/-- A STORE -/
theorem wr_some {ρ : Rn} {h h' : Hp} {B : Nat} {w : World} (H : HRel ρ h B w) {id off : Nat} {vs : List CV} {us : List Value} {ri : RI} (hid : ρ id = some ri) (e : wr h id off vs = some h') (hv : VRels ρ vs us) (h1 : ∀ c ∈ vs, c.one = true) :
    w.there ri.b off us.length ∧ HRel ρ h' B (w.setCells ri.b off us) ∧ (∀ lo hi, Step lo hi ρ h w ρ h' (w.setCells ri.b off us)) ∧ h'.next = h.next := by
  have hlt := H.lt id ri hid
  unfold wr at e
  cases hg : h.get id with
  | none => rw [hg] at e; cases e
  | some c =>
    rw [hg, oc_some] at e
    obtain ⟨hB, hO⟩ := H.at hid hg
    have hthere : ∀ cs, RowR ρ w ri cs → off + vs.length ≤ cs.length → w.there ri.b off us.length := by
      intro cs hr ho j hj
      obtain ⟨cells, g1, g2, g3, g4⟩ := hr
      have hl := hv.1
      rw [g1.cell, g1.frozen _ (by omega), Array.getElem?_eq_getElem (by omega)]
      exact ⟨rfl, rfl⟩
    have hfar : ∀ b, b < w.heap.size → b ≠ ri.b → (w.setCells ri.b off us).heap[b]? = w.heap[b]? := fun b _ hb => heap_setCells_far hb us off w
    obtain ⟨r1, r2, r3⟩ := rest_setCells (b := ri.b) us off w
    cases c with
    | map l => cases e
    | box cs =>
      have e' : bc (Nat.ble (Nat.add off (llen vs)) (llen cs)) (some (h.put id (.box (lput vs cs off)))) none = some h' := e
      rw [llen_eq, llen_eq] at e'
      cases hb : Nat.ble (Nat.add off vs.length) cs.length with
      | false => rw [hb] at e'; cases e'
      | true =>
        rw [hb, bc_true] at e'
        injection e' with e'
        subst e'
        have ho : off + vs.length ≤ cs.length := Nat.le_of_ble_eq_true hb
        have hget : ∀ j, j < 32768 → (h.put id (.box (lput vs cs off))).get j = if id = j then some (.box (lput vs cs off)) else h.get j := fun j hj => Hp.get_setO h id j _ hlt hj
        have hold : ∀ j c, j < 32768 → j ≠ id → (h.put id (.box (lput vs cs off))).get j = some c → h.get j = some c := fun j c hj hne hc => by
          rw [hget j hj, if_neg (Ne.symm hne)] at hc
          exact hc
        refine ⟨hthere cs hO ho, H.change id ri (.box (lput vs cs off)) hlt (Sub.refl _) hid (fun _ _ => rfl) hB hfar (by rw [hget id hlt, if_pos rfl]) hold (RowR.put hO hv h1 ho) ?_ ?_ ?_ (fun cs' f hc => by cases hc), ?_⟩
        · intro j c rj hj hne hc hr hb'
          obtain ⟨f, k1, k2⟩ := H.apart j id c (.box cs) rj ri hj hlt hne (hold j c hj hne hc) hg hr hid hb'
          cases k2
        · intro j cs' f hj hc
          by_cases ej : j = id
          · subst ej
            rw [hget j hj, if_pos rfl] at hc
            cases hc
          · rw [Hp.put_fam]; exact H.fam j cs' f hj (hold j _ hj ej hc)
        · intro f l p hf hl hp; rw [Hp.put_fam] at hl; exact H.famlt f l p hf hl hp
        · refine ⟨fun lo hi => ⟨fun _ _ => rfl, fun b ⟨j, c, rj, k1, k2, k3, k4⟩ => .inl ?_, fun b hb' hn => hfar b hb' (fun he => hn ⟨id, _, ri, hlt, hg, hid, he.symm⟩), by rw [size_setCells]; exact Nat.le_refl _, r1, r2, r3, fun f hf _ hno i cs' hi hc => ?_⟩, Hp.put_next _ _ _⟩
          · by_cases ej : j = id
            · subst ej
              exact ⟨j, _, rj, k1, hg, k3, k4⟩
            · exact ⟨j, c, rj, k1, hold j c k1 ej k2, k3, k4⟩
          · by_cases ej : i = id
            · subst ej
              rw [hget i hi, if_pos rfl] at hc
              cases hc
            · exact hno i cs' hi (hold i _ hi ej hc)
    | row cs fam =>
      have e' : bc (Nat.ble (Nat.add off (llen vs)) (llen cs)) (wrF h id off vs cs fam) none = some h' := e
      rw [llen_eq, llen_eq] at e'
      cases hb : Nat.ble (Nat.add off vs.length) cs.length with
      | false => rw [hb] at e'; cases e'
      | true =>
        rw [hb, bc_true] at e'
        have ho : off + vs.length ≤ cs.length := Nat.le_of_ble_eq_true hb
        obtain ⟨hf1, l, hf2, hf3⟩ := H.fam id cs fam hlt hg
        have hll : ∀ p ∈ l, p.1 < 32768 := fun p hp => H.famlt fam l p hf1 hf2 hp
        unfold wrF at e'
        rw [hf2, oc_some] at e'
        injection e' with e'
        obtain ⟨k1, k2, k3, k4, k5⟩ := killL_spec off id l h hll
        generalize hkl : killL off id l h = q at e' k1 k2 k3 k4 k5
        obtain ⟨h1', l1⟩ := q
        have e'' : h' = (h1'.put id (.row (lput vs cs off) fam)).putF fam l1 := e'.symm
        subst e''
        clear e'
        simp only at k1 k2 k3 k4 k5
        have hget : ∀ j, j < 32768 → ((h1'.put id (.row (lput vs cs off) fam)).putF fam l1).get j = if id = j then some (.row (lput vs cs off) fam) else h1'.get j := fun j hj => by rw [Hp.get_putF, Hp.put_get _ _ _ _ hlt hj]
        have hold1 : ∀ j c, j < 32768 → j ≠ id → ((h1'.put id (.row (lput vs cs off) fam)).putF fam l1).get j = some c → h1'.get j = some c := fun j c hj hne hc => by
          rw [hget j hj, if_neg (Ne.symm hne)] at hc
          exact hc
        have hold : ∀ j c, j < 32768 → j ≠ id → ((h1'.put id (.row (lput vs cs off) fam)).putF fam l1).get j = some c → h.get j = some c := fun j c hj hne hc => (k4 j c hj (hold1 j c hj hne hc)).1
        have hfm : ∀ f, f < 32768 → ((h1'.put id (.row (lput vs cs off) fam)).putF fam l1).fam f = if fam = f then some l1 else h.fam f := fun f hf => by
          rw [Hp.fam_putF _ _ _ _ hf1 hf]
          split
          · rfl
          · rw [Hp.put_fam]; exact k2 f
        refine ⟨hthere cs hO ho, H.change id ri (.row (lput vs cs off) fam) hlt (Sub.refl _) hid (fun _ _ => rfl) hB hfar (by rw [hget id hlt, if_pos rfl]) hold (RowR.put hO hv h1 ho) ?_ ?_ ?_ (fun cs' f hc => by injection hc with e1 e2; subst e2; exact H.known id cs fam hlt hg), ?_⟩
        · intro j c rj hj hne hc hr hb'
          have hc0 := hold j c hj hne hc
          obtain ⟨f, m1, m2⟩ := H.apart j id c (.row cs fam) rj ri hj hlt hne hc0 hg hr hid hb'
          have hff : f = fam := by simp [famOf] at m2; exact m2.symm
          subst hff
          refine ⟨?_, f, m1, rfl⟩
          cases c with
          | box cs' => cases m1
          | map l' => cases m1
          | row cs' f' =>
            have : f' = f := by simpa [famOf] using m1
            subst this
            obtain ⟨_, l2, g2, g3⟩ := H.fam j cs' f' hj hc0
            rw [hf2] at g2
            injection g2 with g2
            subst g2
            have hkeep := (k4 j _ hj (hold1 j _ hj hne hc)).2 (j, cs'.length) g3 rfl
            have hle : cs'.length ≤ off := by
              unfold keepP at hkeep
              simp only [Bool.or_eq_true] at hkeep
              rcases hkeep with h9 | h9
              · exact Nat.le_of_ble_eq_true h9
              · exact absurd (Nat.eq_of_beq_eq_true h9) hne
            obtain ⟨_, hOj⟩ := H.at hr hc0
            exact RowR.before (Sub.refl _) hOj hle ri.b hb'.symm
        · intro j cs' f hj hc
          by_cases ej : j = id
          · subst ej
            rw [hget j hj, if_pos rfl] at hc
            injection hc with hc
            injection hc with hc1 hc2
            subst hc1 hc2
            refine ⟨hf1, l1, by rw [hfm fam hf1, if_pos rfl], ?_⟩
            rw [k3, lput_length]
            exact List.mem_filter.2 ⟨hf3, by simp [keepP]⟩
          · obtain ⟨g1, l2, g2, g3⟩ := H.fam j cs' f hj (hold j _ hj ej hc)
            refine ⟨g1, ?_⟩
            rw [hfm f g1]
            by_cases ef : fam = f
            · subst ef
              rw [if_pos rfl]
              rw [hf2] at g2
              injection g2 with g2
              subst g2
              refine ⟨l1, rfl, ?_⟩
              rw [k3]
              exact List.mem_filter.2 ⟨g3, (k4 j _ hj (hold1 j _ hj ej hc)).2 _ g3 rfl⟩
            · rw [if_neg ef]
              exact ⟨l2, g2, g3⟩
        · intro f l2 p hf hl2 hp
          rw [hfm f hf] at hl2
          by_cases ef : fam = f
          · rw [if_pos ef] at hl2
            injection hl2 with hl2
            subst hl2
            rw [k3] at hp
            exact hll p (List.mem_filter.1 hp).1
          · rw [if_neg ef] at hl2
            exact H.famlt f l2 p hf hl2 hp
        · refine ⟨fun lo hi => ⟨fun _ _ => rfl, fun b ⟨j, c, rj, m1, m2, m3, m4⟩ => .inl ?_, fun b hb' hn => hfar b hb' (fun he => hn ⟨id, _, ri, hlt, hg, hid, he.symm⟩), by rw [size_setCells]; exact Nat.le_refl _, r1, r2, r3, fun f hf _ hno i cs' hi hc => ?_⟩, by rw [Hp.next_putF, Hp.put_next]; exact k1⟩
          · by_cases ej : j = id
            · subst ej
              exact ⟨j, _, rj, m1, hg, m3, m4⟩
            · exact ⟨j, c, rj, m1, hold j c m1 ej m2, m3, m4⟩
          · by_cases ej : i = id
            · subst ej
              rw [hget i hi, if_pos rfl] at hc
              injection hc with hc
              injection hc with e1 e2
              subst e2
              exact hno i cs hi hg
            · exact hno i cs' hi (hold i _ hi ej hc)
end Go.Proofs.YtkdlekonfjeidaaGreat.Eng
