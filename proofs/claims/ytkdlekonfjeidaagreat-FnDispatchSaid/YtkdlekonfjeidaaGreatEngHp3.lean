/-
  The machine's memory against the model's: new blocks, and append.
-/
import Derived.Test.YtkdlekonfjeidaaGreatEngHp2
namespace Go.Proofs.YtkdlekonfjeidaaGreat.Eng
open Go.RowKit
set_option linter.unusedVariables false

def updR (ρ : Rn) (n : Nat) (ri : RI) : Rn := fun id => if id = n then some ri else ρ id
theorem updR_same (ρ : Rn) (n : Nat) (ri : RI) : updR ρ n ri n = some ri := by simp [updR]
theorem updR_other (ρ : Rn) (n : Nat) (ri : RI) (id : Nat) (h : id ≠ n) : updR ρ n ri id = ρ id := by simp [updR, h]
theorem updR_sub {ρ : Rn} {n : Nat} (hf : ρ n = none) (ri : RI) : Sub ρ (updR ρ n ri) := fun id rj e => by
  rw [updR_other _ _ _ _ (by rintro rfl; rw [hf] at e; cases e)]
  exact e

/-- A NEW BLOCK -/
theorem new_obj {ρ : Rn} {h h' : Hp} {B : Nat} {w w' : World} (H : HRel ρ h B w) (hB : B ≤ w.heap.size) (id : Nat) (hn : id < 32768) (hf : ρ id = none) (c : CO) (o : Obj) (tot : Nat)
    (hw : w'.heap = w.heap.push o) (hos : w'.os = w.os) (htp : w'.tape = w.tape) (hou : w'.output = w.output)
    (hO : ∀ ρ', Sub ρ ρ' → ORel ρ' w' ⟨w.heap.size, tot⟩ c)
    (hget : ∀ j, j < 32768 → h'.get j = if id = j then some c else h.get j)
    (hfam : ∀ j cs f, j < 32768 → h'.get j = some (.row cs f) → f < 32768 ∧ ∃ l, h'.fam f = some l ∧ (j, cs.length) ∈ l)
    (hflt : ∀ f l p, f < 32768 → h'.fam f = some l → p ∈ l → p.1 < 32768) (hkn : ∀ cs f, c = .row cs f → f = id ∨ ∃ i cs', i < 32768 ∧ h.get i = some (.row cs' f)) :
    HRel (updR ρ id ⟨w.heap.size, tot⟩) h' B w' ∧ Step id (id + 1) ρ h w (updR ρ id ⟨w.heap.size, tot⟩) h' w' := by
  have hS := updR_sub hf (ri := ⟨w.heap.size, tot⟩)
  have hold : ∀ j c', j < 32768 → j ≠ id → h'.get j = some c' → h.get j = some c' := fun j c' hj hne hc => by
    rw [hget j hj, if_neg (Ne.symm hne)] at hc
    exact hc
  have hkeep : ∀ b, b < w.heap.size → w'.heap[b]? = w.heap[b]? := fun b hb => by
    rw [hw, Array.getElem?_push_lt hb, Array.getElem?_eq_getElem hb]
  refine ⟨H.change id ⟨w.heap.size, tot⟩ c hn hS (updR_same _ _ _) (fun i hi => updR_other _ _ _ _ hi) hB (fun b hb _ => hkeep b hb) (by rw [hget _ hn, if_pos rfl]) hold (hO _ hS) ?_ hfam hflt (fun cs f hc => by
    rcases hkn cs f hc with h3 | ⟨i, cs', hi, h3⟩
    · subst h3; rw [updR_same]; exact fun h4 => by cases h4
    · intro h4
      cases h5 : ρ f with
      | none => exact H.known i cs' f hi h3 h5
      | some rf => rw [hS f rf h5] at h4; cases h4), ?_⟩
  · intro j c' rj hj hne hc hr hb
    obtain ⟨_, hOj⟩ := H.at hr (hold j c' hj hne hc)
    have h1 := hOj.lt
    rw [hb] at h1
    exact absurd h1 (Nat.lt_irrefl _)
  · refine ⟨fun i hi => updR_other _ _ _ _ (by omega), fun b ⟨j, c', rj, k1, k2, k3, k4⟩ => ?_, fun b hb _ => hkeep b hb, by rw [hw]; simp, hos, htp, hou, fun f hf' hni hno j cs' hj hc => ?_⟩
    · by_cases ej : j = id
      · subst ej
        rw [updR_same] at k3
        injection k3 with k3
        subst k3
        exact .inr (Nat.le_of_eq k4)
      · rw [updR_other _ _ _ _ ej] at k3
        exact .inl ⟨j, c', rj, k1, hold j c' k1 ej k2, k3, k4⟩
    · by_cases ej : j = id
      · subst ej
        rw [hget j hj, if_pos rfl] at hc
        injection hc with hc
        rcases hkn cs' f hc with h3 | ⟨i, cs2, hi, h3⟩
        · omega
        · exact hno i cs2 hi h3
      · exact hno j cs' hj (hold j _ hj ej hc)

/-- cells in a new block, with what lies behind them -/
theorem RowR.new {ρ : Rn} {w w' : World} {cs : List CV} {us : List Value} (extra : List Value) (t : TypeId) (fr : Nat × Nat) (hw : w'.heap = w.heap.push (.cells (us ++ extra).toArray t fr))
    (hfr : ∀ o, o < (us ++ extra).length → (decide (fr.1 ≤ o) && decide (o < fr.2)) = false) (hv : VRels ρ cs us) (h1 : ∀ c ∈ cs, c.one = true) : RowR ρ w' ⟨w.heap.size, (us ++ extra).length⟩ cs := by
  refine ⟨(us ++ extra).toArray, ⟨t, fr, by rw [hw]; simp, fun o ho => hfr o (by simpa using ho)⟩, by simp, by simp [hv.1], fun j c hj => ?_⟩
  obtain ⟨v, k1, k2⟩ := hv.at hj
  refine ⟨h1 c (List.mem_of_getElem? hj), v, ?_, k2⟩
  rw [List.getElem?_toArray, List.getElem?_append_left (List.getElem?_eq_some_iff.1 k1).1]
  exact k1

/-- a row of a family that is added to it -/
theorem new_row {ρ : Rn} {h : Hp} {B : Nat} {w w' : World} (H : HRel ρ h B w) (hB : B ≤ w.heap.size) (id : Nat) (hn : id < 32768) (hf : ρ id = none) (cs : List CV) (us extra : List Value) (t : TypeId) (fr : Nat × Nat) (fam : Nat) (l : List (Nat × Nat))
    (hw : w'.heap = w.heap.push (.cells (us ++ extra).toArray t fr)) (hfr : ∀ o, o < (us ++ extra).length → (decide (fr.1 ≤ o) && decide (o < fr.2)) = false)
    (hos : w'.os = w.os) (htp : w'.tape = w.tape) (hou : w'.output = w.output) (hv : VRels ρ cs us) (h1 : ∀ c ∈ cs, c.one = true) (hfm : fam < 32768)
    (hl : ∀ j cs', j < 32768 → j ≠ id → h.get j = some (.row cs' fam) → (j, cs'.length) ∈ l) (hll : ∀ p ∈ l, p.1 < 32768) (hkn : fam = id ∨ ∃ i cs', i < 32768 ∧ h.get i = some (.row cs' fam))
    {h' : Hp} (hget : ∀ j, j < 32768 → h'.get j = if id = j then some (.row cs fam) else h.get j) (hfam : ∀ f, f < 32768 → h'.fam f = if fam = f then some ((id, cs.length) :: l) else h.fam f) :
    HRel (updR ρ id ⟨w.heap.size, (us ++ extra).length⟩) h' B w' ∧ Step id (id + 1) ρ h w (updR ρ id ⟨w.heap.size, (us ++ extra).length⟩) h' w' := by
  refine new_obj H hB id hn hf (.row cs fam) _ (us ++ extra).length hw hos htp hou (fun ρ' hS => RowR.new extra t fr hw hfr (hv.mono hS) h1) hget ?_ ?_ (fun cs' f hc => by injection hc with e1 e2; subst e2; exact hkn)
  · intro j cs' f hj hc
    rw [hget j hj] at hc
    split at hc
    · rename_i e
      injection hc with hc
      injection hc with e1 e2
      subst e1 e2
      exact ⟨hfm, _, by rw [hfam fam hfm, if_pos rfl], by simp [e]⟩
    · rename_i e
      obtain ⟨g1, l2, g2, g3⟩ := H.fam j cs' f hj hc
      refine ⟨g1, ?_⟩
      rw [hfam f g1]
      by_cases ef : fam = f
      · subst ef
        rw [if_pos rfl]
        exact ⟨_, rfl, by simp [hl j cs' hj (Ne.symm e) hc]⟩
      · rw [if_neg ef]
        exact ⟨l2, g2, g3⟩
  · intro f l2 p hf' hl2 hp
    rw [hfam f hf'] at hl2
    by_cases ef : fam = f
    · rw [if_pos ef] at hl2
      injection hl2 with hl2
      subst hl2
      rcases List.mem_cons.1 hp with rfl | hp
      · exact hn
      · exact hll p hp
    · rw [if_neg ef] at hl2
      exact H.famlt f l2 p hf' hl2 hp

/-! ### A block that is laid down -/
theorem addN_get (h : Hp) (id : Nat) (n : NW) (hn : id < 32768) (j : Nat) (hj : j < 32768) : (addN h id n).get j = if id = j then some (n.obj id) else h.get j := by
  cases n with
  | box cs => exact Hp.put_get h id j _ hn hj
  | row len s cs => show ((force (llen cs) fun k => (h.put id (.row cs id)).putF id [(id, k)]) : Hp).get j = _; rw [force_eq, Hp.get_putF]; exact Hp.put_get h id j _ hn hj
  | map => exact Hp.put_get h id j _ hn hj
theorem addN_fam (h : Hp) (id : Nat) (n : NW) (hn : id < 32768) (f : Nat) (hf : f < 32768) (hne : id ≠ f) : (addN h id n).fam f = h.fam f := by
  cases n with
  | box cs => exact Hp.put_fam _ _ _ _
  | row len s cs => show ((force (llen cs) fun k => (h.put id (.row cs id)).putF id [(id, k)]) : Hp).fam f = _; rw [force_eq, Hp.fam_putF _ _ _ _ hn hf, if_neg hne, Hp.put_fam]
  | map => exact Hp.put_fam _ _ _ _
theorem addN_famRow (h : Hp) (id len s : Nat) (cs : List CV) (hn : id < 32768) : (addN h id (.row len s cs)).fam id = some [(id, cs.length)] := by
  show ((force (llen cs) fun k => (h.put id (.row cs id)).putF id [(id, k)]) : Hp).fam id = _
  rw [force_eq, Hp.fam_putF _ _ _ _ hn hn, if_pos rfl, llen_eq]
theorem addN_famOther (h : Hp) (id : Nat) (n : NW) (hn : ∀ len s cs, n ≠ .row len s cs) (f : Nat) : (addN h id n).fam f = h.fam f := by
  cases n with
  | box cs => exact Hp.put_fam _ _ _ _
  | row len s cs => exact absurd rfl (hn len s cs)
  | map => exact Hp.put_fam _ _ _ _
theorem addN_next (h : Hp) (id : Nat) (n : NW) : (addN h id n).next = h.next := by
  cases n with
  | box cs => exact Hp.put_next _ _ _
  | row len s cs => show ((force (llen cs) fun k => (h.put id (.row cs id)).putF id [(id, k)]) : Hp).next = _; rw [force_eq, Hp.next_putF, Hp.put_next]
  | map => exact Hp.put_next _ _ _
theorem addN_flt {ρ : Rn} {h : Hp} {B : Nat} {w : World} (H : HRel ρ h B w) (id : Nat) (n : NW) (hn : id < 32768) : ∀ f l p, f < 32768 → (addN h id n).fam f = some l → p ∈ l → p.1 < 32768 := by
  intro f l p hf hl hp
  by_cases e : id = f
  · subst e
    cases n with
    | box cs => exact H.famlt id l p hf ((Hp.put_fam _ _ _ _).symm.trans hl) hp
    | map => exact H.famlt id l p hf ((Hp.put_fam _ _ _ _).symm.trans hl) hp
    | row len s cs =>
      rw [addN_famRow _ _ _ _ _ hn] at hl
      injection hl with hl
      subst hl
      simp only [List.mem_singleton] at hp
      subst hp
      exact hn
  · rw [addN_fam _ _ _ hn _ hf e] at hl
    exact H.famlt f l p hf hl hp
theorem addN_famOk {ρ : Rn} {h : Hp} {B : Nat} {w : World} (H : HRel ρ h B w) (id : Nat) (n : NW) (hn : id < 32768) (hno : NoFam h id) :
    ∀ j cs f, j < 32768 → (addN h id n).get j = some (.row cs f) → f < 32768 ∧ ∃ l, (addN h id n).fam f = some l ∧ (j, cs.length) ∈ l := by
  intro j cs f hj hc
  rw [addN_get _ _ _ hn _ hj] at hc
  split at hc
  · rename_i e
    subst e
    cases n with
    | box _ => injection hc with hc; cases hc
    | map => injection hc with hc; cases hc
    | row len s cs' =>
      injection hc with hc
      injection hc with e1 e2
      subst e1 e2
      exact ⟨hn, _, addN_famRow _ _ _ _ _ hn, by simp⟩
  · obtain ⟨g1, l, g2, g3⟩ := H.fam j cs f hj hc
    refine ⟨g1, l, ?_, g3⟩
    by_cases e : id = f
    · subst e
      exact absurd hc (hno j cs hj)
    · rw [addN_fam _ _ _ hn _ g1 e]
      exact g2

/-- the cells of a new block -/
def NewCells (ρ : Rn) (w w' : World) (n : NW) (tot : Nat) : Prop := w'.os = w.os ∧ w'.tape = w.tape ∧ w'.output = w.output ∧ match n with
  | .box cs => ∃ us t, w'.heap = w.heap.push (.cells us.toArray t) ∧ VRels ρ cs us ∧ (∀ c ∈ cs, c.one = true) ∧ tot = us.length
  | .row _ _ cs => ∃ us extra t fr, w'.heap = w.heap.push (.cells (us ++ extra).toArray t fr) ∧ (∀ o, o < (us ++ extra).length → (decide (fr.1 ≤ o) && decide (o < fr.2)) = false) ∧ VRels ρ cs us ∧ (∀ c ∈ cs, c.one = true) ∧ tot = (us ++ extra).length
  | .map => ∃ clock, w'.heap = w.heap.push (.map #[] clock)
theorem new_add {ρ : Rn} {h : Hp} {B : Nat} {w w' : World} (H : HRel ρ h B w) (hB : B ≤ w.heap.size) (id : Nat) (hn : id < 32768) (hf : ρ id = none) (n : NW) (tot : Nat) (hw : NewCells ρ w w' n tot) :
    HRel (updR ρ id ⟨w.heap.size, tot⟩) (addN h id n) B w' ∧ Step id (id + 1) ρ h w (updR ρ id ⟨w.heap.size, tot⟩) (addN h id n) w' := by
  have hno : NoFam h id := fun i cs hi hc => H.known i cs id hi hc hf
  have key : ∀ o, w'.heap = w.heap.push o → (∀ ρ', Sub ρ ρ' → ORel ρ' w' ⟨w.heap.size, tot⟩ (n.obj id)) → HRel (updR ρ id ⟨w.heap.size, tot⟩) (addN h id n) B w' ∧ Step id (id + 1) ρ h w (updR ρ id ⟨w.heap.size, tot⟩) (addN h id n) w' := fun o ho hO =>
    new_obj H hB id hn hf (n.obj id) o tot ho hw.1 hw.2.1 hw.2.2.1 hO (fun j hj => addN_get h id n hn j hj) (addN_famOk H id n hn hno) (addN_flt H id n hn) (fun cs f hc => .inl (by cases n <;> (try (cases hc)); rfl))
  obtain ⟨_, _, _, hw⟩ := hw
  cases n with
  | box cs =>
    obtain ⟨us, t, h1, h2, h3, h4⟩ := hw
    subst h4
    refine key _ h1 (fun ρ' hS => ?_)
    have := RowR.new (ρ := ρ') (w := w) (w' := w') (cs := cs) (us := us) [] t (0, 0) (by simpa using h1) (fun o _ => by simp) (h2.mono hS) h3
    simp only [List.append_nil] at this
    exact this
  | row len s cs =>
    obtain ⟨us, extra, t, fr, h1, h2, h3, h4, h5⟩ := hw
    subst h5
    exact key _ h1 (fun ρ' hS => RowR.new extra t fr h1 h2 (h3.mono hS) h4)
  | map =>
    obtain ⟨clock, h1⟩ := hw
    exact key _ h1 (fun ρ' hS => ⟨#[], clock, by rw [h1]; simp, rfl, fun j k c hj => by simp at hj⟩)

/-- striking members of a family -/
theorem kill_rel {ρ : Rn} {h : Hp} {B : Nat} {w : World} (H : HRel ρ h B w) (e but : Nat) (l : List (Nat × Nat)) (hll : ∀ p ∈ l, p.1 < 32768) :
    HRel ρ (killL e but l h).1 B w ∧ ∀ lo hi, Step lo hi ρ h w ρ (killL e but l h).1 w := by
  obtain ⟨k1, k2, k3, k4, k5⟩ := killL_spec e but l h hll
  refine ⟨⟨H.lt, fun id c hid hc => H.obj id c hid (k4 id c hid hc).1, fun i j ci cj ri rj hi hj hij h1 h2 => H.apart i j ci cj ri rj hi hj hij (k4 i ci hi h1).1 (k4 j cj hj h2).1, fun i cs f hi hc => ?_, fun f l2 p hf hl2 => H.famlt f l2 p hf (by rw [← k2 f]; exact hl2), fun i cs f hi hc => H.known i cs f hi (k4 i _ hi hc).1⟩, fun lo hi => ⟨fun _ _ => rfl, fun b ⟨j, c, rj, m1, m2, m3, m4⟩ => .inl ⟨j, c, rj, m1, (k4 j c m1 m2).1, m3, m4⟩, fun _ _ _ => rfl, Nat.le_refl _, rfl, rfl, rfl, fun f hf _ hno i cs hi hc => hno i cs hi (k4 i _ hi hc).1⟩⟩
  obtain ⟨g1, l2, g2, g3⟩ := H.fam i cs f hi (k4 i _ hi hc).1
  exact ⟨g1, l2, by rw [k2 f]; exact g2, g3⟩

/-- APPEND, in a new array -/
theorem app_new {ρ : Rn} {h : Hp} {B : Nat} {w w' : World} (H : HRel ρ h B w) (hB : B ≤ w.heap.size) (hn : h.next < 32768) (hf : ρ h.next = none) {id fam : Nat} {cs : List CV} {l : List (Nat × Nat)} (hg : h.get id = some (.row cs fam)) (hid : id < 32768) (hl : h.fam fam = some l)
    (e : Nat) (he : e ≤ cs.length) (ys : List CV) (old new extra : List Value) (t : TypeId) (hw : w'.heap = w.heap.push (.cells (old ++ new ++ extra).toArray t)) (hos : w'.os = w.os) (htp : w'.tape = w.tape) (hou : w'.output = w.output)
    (hv : VRels ρ (cs.take e) old) (hv2 : VRels ρ ys new) (h1 : ∀ c ∈ cs.take e, c.one = true) (h2 : ∀ c ∈ ys, c.one = true) :
    HRel (updR ρ h.next ⟨w.heap.size, (old ++ new ++ extra).length⟩) ((killL e h.next l h).1.rowAt h.next (cs.take e ++ ys) fam (killL e h.next l h).2) B w' ∧
    Step h.next (h.next + 1) ρ h w (updR ρ h.next ⟨w.heap.size, (old ++ new ++ extra).length⟩) ((killL e h.next l h).1.rowAt h.next (cs.take e ++ ys) fam (killL e h.next l h).2) w' := by
  obtain ⟨hfm, l2, q2, _⟩ := H.fam id cs fam hid hg
  have hll : ∀ p ∈ l, p.1 < 32768 := fun p hp => H.famlt fam l p hfm hl hp
  obtain ⟨k1, k2, k3, k4, k5⟩ := killL_spec e h.next l h hll
  have hr : (killL e h.next l h).1.rowAt h.next (cs.take e ++ ys) fam (killL e h.next l h).2 = ((killL e h.next l h).1.newAt h.next (.row (cs.take e ++ ys) fam)).putF fam ((h.next, (cs.take e ++ ys).length) :: (killL e h.next l h).2) := by unfold Hp.rowAt; rw [force_eq, llen_eq]
  rw [hr]
  have hget : ∀ j, j < 32768 → (((killL e h.next l h).1.newAt h.next (.row (cs.take e ++ ys) fam)).putF fam ((h.next, (cs.take e ++ ys).length) :: (killL e h.next l h).2)).get j = if h.next = j then some (.row (cs.take e ++ ys) fam) else (killL e h.next l h).1.get j := fun j hj => (Hp.get_putF _ _ _ _).trans (Hp.get_newAt _ h.next j _ hn hj)
  have hfam : ∀ f, f < 32768 → (((killL e h.next l h).1.newAt h.next (.row (cs.take e ++ ys) fam)).putF fam ((h.next, (cs.take e ++ ys).length) :: (killL e h.next l h).2)).fam f = if fam = f then some ((h.next, (cs.take e ++ ys).length) :: (killL e h.next l h).2) else (killL e h.next l h).1.fam f := fun f hf' => by rw [Hp.fam_putF _ fam f _ hfm hf', Hp.fam_newAt]
  have hkill : ∀ j c, j < 32768 → (killL e h.next l h).1.get j = some c → h.get j = some c := fun j c hj hc => (k4 j c hj hc).1
  have hS := updR_sub hf (ri := ⟨w.heap.size, (old ++ new ++ extra).length⟩)
  have hkeep : ∀ b, b < w.heap.size → w'.heap[b]? = w.heap[b]? := fun b hb => by
    rw [hw, Array.getElem?_push_lt hb, Array.getElem?_eq_getElem hb]
  generalize hh' : ((killL e h.next l h).1.newAt h.next (.row (cs.take e ++ ys) fam)).putF fam ((h.next, (cs.take e ++ ys).length) :: (killL e h.next l h).2) = h' at hget hfam ⊢
  have hold : ∀ j c', j < 32768 → j ≠ h.next → h'.get j = some c' → h.get j = some c' := fun j c' hj hne hc => by
    rw [hget j hj, if_neg (Ne.symm hne)] at hc
    exact hkill j c' hj hc
  have hrow : RowR (updR ρ h.next ⟨w.heap.size, (old ++ new ++ extra).length⟩) w' ⟨w.heap.size, (old ++ new ++ extra).length⟩ (cs.take e ++ ys) :=
    RowR.new extra t (0, 0) hw (fun o _ => by simp) ((hv.append hv2).mono hS) (fun c hc => by rcases List.mem_append.1 hc with h3 | h3; exact h1 c h3; exact h2 c h3)
  refine ⟨H.change h.next ⟨w.heap.size, (old ++ new ++ extra).length⟩ (.row (cs.take e ++ ys) fam) hn hS (updR_same _ _ _) (fun i hi => updR_other _ _ _ _ hi) hB (fun b hb _ => hkeep b hb) (by rw [hget _ hn, if_pos rfl]) hold hrow ?_ ?_ ?_ ?_, ?_⟩
  · intro j c' rj hj hne hc hr' hb
    obtain ⟨_, hOj⟩ := H.at hr' (hold j c' hj hne hc)
    have h9 := hOj.lt
    rw [hb] at h9
    exact absurd h9 (Nat.lt_irrefl _)
  · intro j cs' f hj hc
    by_cases ej : j = h.next
    · subst ej
      rw [hget h.next hj, if_pos rfl] at hc
      injection hc with hc
      injection hc with e1 e2
      subst e1 e2
      exact ⟨hfm, _, by rw [hfam fam hfm, if_pos rfl], by simp⟩
    · rw [hget j hj, if_neg (Ne.symm ej)] at hc
      obtain ⟨g1, l3, g2, g3⟩ := H.fam j cs' f hj (hkill j _ hj hc)
      refine ⟨g1, ?_⟩
      rw [hfam f g1]
      by_cases ef : fam = f
      · subst ef
        rw [if_pos rfl]
        rw [hl] at g2
        injection g2 with g2
        subst g2
        refine ⟨_, rfl, List.mem_cons_of_mem _ ?_⟩
        rw [k3]
        exact List.mem_filter.2 ⟨g3, (k4 j _ hj hc).2 _ g3 rfl⟩
      · rw [if_neg ef, k2]
        exact ⟨l3, g2, g3⟩
  · intro f l3 p hf' hl3 hp
    rw [hfam f hf'] at hl3
    by_cases ef : fam = f
    · rw [if_pos ef] at hl3
      injection hl3 with hl3
      subst hl3
      rcases List.mem_cons.1 hp with rfl | hp
      · exact hn
      · rw [k3] at hp
        exact hll p (List.mem_filter.1 hp).1
    · rw [if_neg ef, k2] at hl3
      exact H.famlt f l3 p hf' hl3 hp
  · intro cs' f hc h4
    injection hc with e1 e2
    subst e2
    cases h5 : ρ fam with
    | none => exact H.known id cs fam hid hg h5
    | some rf => rw [hS fam rf h5] at h4; cases h4
  · refine ⟨fun i hi => updR_other _ _ _ _ (by omega), fun b ⟨j, c', rj, m1, m2, m3, m4⟩ => ?_, fun b hb _ => hkeep b hb, by rw [hw]; simp, hos, htp, hou, fun f hf' hni hno j cs' hj hc => ?_⟩
    · by_cases ej : j = h.next
      · subst ej
        rw [updR_same] at m3
        injection m3 with m3
        subst m3
        exact .inr (Nat.le_of_eq m4)
      · rw [updR_other _ _ _ _ ej] at m3
        exact .inl ⟨j, c', rj, m1, hold j c' m1 ej m2, m3, m4⟩
    · by_cases ej : j = h.next
      · subst ej
        rw [hget h.next hj, if_pos rfl] at hc
        injection hc with hc
        injection hc with e1 e2
        subst e2
        exact hno id cs hid hg
      · exact hno j cs' hj (hold j _ hj ej hc)

/-- APPEND, in place -/
theorem app_in {ρ : Rn} {h : Hp} {B : Nat} {w : World} (H : HRel ρ h B w) (hn : h.next < 32768) (hf : ρ h.next = none) {id fam : Nat} {cs : List CV} {l : List (Nat × Nat)} {ri : RI} (hid : ρ id = some ri) (hg : h.get id = some (.row cs fam)) (hl : h.fam fam = some l)
    (e : Nat) (he : e ≤ cs.length) (ys : List CV) (us : List Value) (hv : VRels ρ ys us) (h1 : ∀ c ∈ ys, c.one = true) (ht : e + us.length ≤ ri.tot) :
    w.there ri.b e us.length ∧ HRel (updR ρ h.next ri) ((killL e h.next l h).1.rowAt h.next (cs.take e ++ ys) fam (killL e h.next l h).2) B (w.setCells ri.b e us) ∧
    Step h.next (h.next + 1) ρ h w (updR ρ h.next ri) ((killL e h.next l h).1.rowAt h.next (cs.take e ++ ys) fam (killL e h.next l h).2) (w.setCells ri.b e us) := by
  have hlt := H.lt id ri hid
  obtain ⟨hB, hO⟩ := H.at hid hg
  obtain ⟨hfm, l2, q2, q3⟩ := H.fam id cs fam hlt hg
  have hll : ∀ p ∈ l, p.1 < 32768 := fun p hp => H.famlt fam l p hfm hl hp
  obtain ⟨k1, k2, k3, k4, k5⟩ := killL_spec e h.next l h hll
  generalize hkl : killL e h.next l h = q at k1 k2 k3 k4 k5 ⊢
  obtain ⟨h1', l1⟩ := q
  simp only at k1 k2 k3 k4 k5 ⊢
  have hr : h1'.rowAt h.next (cs.take e ++ ys) fam l1 = (h1'.newAt h.next (.row (cs.take e ++ ys) fam)).putF fam ((h.next, (cs.take e ++ ys).length) :: l1) := by unfold Hp.rowAt; rw [force_eq, llen_eq]
  rw [hr]
  have hget : ∀ j, j < 32768 → ((h1'.newAt h.next (.row (cs.take e ++ ys) fam)).putF fam ((h.next, (cs.take e ++ ys).length) :: l1)).get j = if h.next = j then some (.row (cs.take e ++ ys) fam) else h1'.get j := fun j hj => (Hp.get_putF _ _ _ _).trans (Hp.get_newAt h1' h.next j _ hn hj)
  have hfam : ∀ f, f < 32768 → ((h1'.newAt h.next (.row (cs.take e ++ ys) fam)).putF fam ((h.next, (cs.take e ++ ys).length) :: l1)).fam f = if fam = f then some ((h.next, (cs.take e ++ ys).length) :: l1) else h.fam f := fun f hf' => by
    rw [Hp.fam_putF _ fam f _ hfm hf']
    split
    · rfl
    · rw [Hp.fam_newAt]; exact k2 f
  have hold1 : ∀ j c, j < 32768 → j ≠ h.next → ((h1'.newAt h.next (.row (cs.take e ++ ys) fam)).putF fam ((h.next, (cs.take e ++ ys).length) :: l1)).get j = some c → h1'.get j = some c := fun j c hj hne hc => by
    rw [hget j hj, if_neg (Ne.symm hne)] at hc
    exact hc
  have hold : ∀ j c, j < 32768 → j ≠ h.next → ((h1'.newAt h.next (.row (cs.take e ++ ys) fam)).putF fam ((h.next, (cs.take e ++ ys).length) :: l1)).get j = some c → h.get j = some c := fun j c hj hne hc => (k4 j c hj (hold1 j c hj hne hc)).1
  have hS := updR_sub hf ri
  have hfar : ∀ b, b < w.heap.size → b ≠ ri.b → (w.setCells ri.b e us).heap[b]? = w.heap[b]? := fun b _ hb => heap_setCells_far hb us e w
  obtain ⟨r1, r2, r3⟩ := rest_setCells (b := ri.b) us e w
  have hlen : ∀ j cs', j < 32768 → j ≠ h.next → h1'.get j = some (.row cs' fam) → cs'.length ≤ e := by
    intro j cs' hj hne hc
    have hc0 := k4 j _ hj hc
    obtain ⟨_, l3, g2, g3⟩ := H.fam j cs' fam hj hc0.1
    rw [hl] at g2
    injection g2 with g2
    subst g2
    have hk := hc0.2 _ g3 rfl
    unfold keepP at hk
    simp only [Bool.or_eq_true] at hk
    rcases hk with h9 | h9
    · exact Nat.le_of_ble_eq_true h9
    · exact absurd (Nat.eq_of_beq_eq_true h9) hne
  refine ⟨?_, H.change h.next ri (.row (cs.take e ++ ys) fam) hn hS (updR_same _ _ _) (fun i hi => updR_other _ _ _ _ hi) hB hfar (by rw [hget _ hn, if_pos rfl]) hold ?_ ?_ ?_ ?_ (fun cs' f hc => by
    injection hc with e1 e2
    subst e2
    intro h4
    cases h5 : ρ fam with
    | none => exact H.known id cs fam hlt hg h5
    | some rf => rw [hS fam rf h5] at h4; cases h4), ?_⟩
  · intro j hj
    obtain ⟨cells, g1, g2, g3, g4⟩ := hO
    rw [g1.cell, g1.frozen _ (by omega), Array.getElem?_eq_getElem (by omega)]
    exact ⟨rfl, rfl⟩
  · obtain ⟨cells, g1, g2, g3, g4⟩ := hO
    have hle := hv.1
    refine ⟨_, g1.setCells us e w cells, by simp [lput_length, g2], by simp [lput_length]; omega, fun j c hj => ?_⟩
    have hgetc : (lput us cells.toList e).toArray[j]? = if e ≤ j ∧ j < e + us.length then us[j - e]? else cells.toList[j]? := by
      rw [List.getElem?_toArray, lput_get _ _ _ _ (by simp; omega)]
    rw [hgetc]
    by_cases hje : j < e
    · rw [List.getElem?_append_left (by simp; omega), List.getElem?_take, if_pos hje] at hj
      obtain ⟨m0, v, m1, m2⟩ := g4 j c hj
      rw [if_neg (by omega)]
      exact ⟨m0, v, by simpa using m1, m2.mono hS⟩
    · have htl : (cs.take e).length = e := by simp; omega
      rw [List.getElem?_append_right (by omega), htl] at hj
      obtain ⟨v, m1, m2⟩ := hv.at hj
      have := (List.getElem?_eq_some_iff.1 m1).1
      rw [if_pos (by omega)]
      exact ⟨h1 c (List.mem_of_getElem? hj), v, m1, m2.mono hS⟩
  · intro j c rj hj hne hc hr' hb'
    have hc1 := hold1 j c hj hne hc
    have hc0 := hold j c hj hne hc
    obtain ⟨_, hOj⟩ := H.at hr' hc0
    have hfc : famOf c = some fam := by
      by_cases ej : j = id
      · subst ej
        rw [hg] at hc0
        injection hc0 with hc0
        subst hc0
        rfl
      · obtain ⟨f, m1, m2⟩ := H.apart j id c (.row cs fam) rj ri hj hlt ej hc0 hg hr' hid hb'
        have : f = fam := by simp [famOf] at m2; exact m2.symm
        subst this
        exact m1
    refine ⟨?_, fam, hfc, rfl⟩
    cases c with
    | box cs' => cases hfc
    | map l' => cases hfc
    | row cs' f' =>
      have : f' = fam := by simpa [famOf] using hfc
      subst this
      exact RowR.before hS hOj (hlen j cs' hj hne hc1) ri.b hb'.symm
  · intro j cs' f hj hc
    by_cases ej : j = h.next
    · subst ej
      rw [hget h.next hj, if_pos rfl] at hc
      injection hc with hc
      injection hc with e1 e2
      subst e1 e2
      exact ⟨hfm, _, by rw [hfam fam hfm, if_pos rfl], by simp⟩
    · have hc1 := hold1 j _ hj ej hc
      obtain ⟨g1, l3, g2, g3⟩ := H.fam j cs' f hj (hold j _ hj ej hc)
      refine ⟨g1, ?_⟩
      rw [hfam f g1]
      by_cases ef : fam = f
      · subst ef
        rw [if_pos rfl]
        rw [hl] at g2
        injection g2 with g2
        subst g2
        refine ⟨_, rfl, List.mem_cons_of_mem _ ?_⟩
        rw [k3]
        exact List.mem_filter.2 ⟨g3, (k4 j _ hj hc1).2 _ g3 rfl⟩
      · rw [if_neg ef]
        exact ⟨l3, g2, g3⟩
  · intro f l3 p hf' hl3 hp
    rw [hfam f hf'] at hl3
    by_cases ef : fam = f
    · rw [if_pos ef] at hl3
      injection hl3 with hl3
      subst hl3
      rcases List.mem_cons.1 hp with rfl | hp
      · exact hn
      · rw [k3] at hp
        exact hll p (List.mem_filter.1 hp).1
    · rw [if_neg ef] at hl3
      exact H.famlt f l3 p hf' hl3 hp
  · refine ⟨fun i hi => updR_other _ _ _ _ (by
      rintro rfl
      exact hi ⟨Nat.le_refl _, Nat.lt_succ_self _⟩), fun b ⟨j, c, rj, m1, m2, m3, m4⟩ => .inl ?_, fun b hb' hno => hfar b hb' (fun he' => hno ⟨id, _, ri, hlt, hg, hid, he'.symm⟩), by rw [size_setCells]; exact Nat.le_refl _, r1, r2, r3, fun f hf' hni hno j cs' hj hc => ?_⟩
    · by_cases ej : j = h.next
      · subst ej
        rw [updR_same] at m3
        injection m3 with m3
        subst m3
        exact ⟨id, _, ri, hlt, hg, hid, m4⟩
      · rw [updR_other _ _ _ _ ej] at m3
        exact ⟨j, c, rj, m1, hold j c m1 ej m2, m3, m4⟩
    · by_cases ej : j = h.next
      · subst ej
        rw [hget h.next hj, if_pos rfl] at hc
        injection hc with hc
        injection hc with e1 e2
        subst e2
        exact hno id cs hlt hg
      · exact hno j cs' hj (hold j _ hj ej hc)
end Go.Proofs.YtkdlekonfjeidaaGreat.Eng
