/-
  The machine with a table of known calls: each with the memory that it wants and the memory that it leaves.
-/
import Derived.Test.YtkdlekonfjeidaaGreatEngFrame
namespace Go.Proofs.YtkdlekonfjeidaaGreat.Eng
open Go.RowKit
set_option linter.unusedVariables false

/-! ### Memories as lists -/
noncomputable def layO (l : List (Nat × CO)) (h : Hp) : Hp := List.rec (motive := fun _ => Hp) h (fun p _ ih => ih.put p.1 p.2) l
noncomputable def layF (l : List (Nat × List (Nat × Nat))) (h : Hp) : Hp := List.rec (motive := fun _ => Hp) h (fun p _ ih => ih.putF p.1 p.2) l
noncomputable def delO (l : List (Nat × CO)) (h : Hp) : Hp := List.rec (motive := fun _ => Hp) h (fun p _ ih => ih.del p.1) l
/-- the members of a family are struck -/
noncomputable def delP (l : List (Nat × Nat)) (h : Hp) : Hp := List.rec (motive := fun _ => Hp) h (fun p _ ih => bc (Nat.ble p.1 32767) (ih.del p.1) ih) l
noncomputable def delFam (h : Hp) (lf : List (Nat × List (Nat × Nat))) : Hp := List.rec (motive := fun _ => Hp) h (fun p _ ih => oc (h.fam p.1) ih fun l => delP l ih) lf
noncomputable def mkHp (n : Nat) (l : List (Nat × CO)) (lf : List (Nat × List (Nat × Nat))) : Hp := layF lf (layO l (Hp.empty.setN n))
noncomputable def findA {β : Type} (i : Nat) (l : List (Nat × β)) : Option β := List.rec (motive := fun _ => Option β) none (fun p _ ih => bc (Nat.beq p.1 i) (some p.2) ih) l
theorem findA_cons {β : Type} (i : Nat) (p : Nat × β) (l : List (Nat × β)) : findA i (p :: l) = if p.1 = i then some p.2 else findA i l := by
  show bc (Nat.beq p.1 i) (some p.2) (findA i l) = _
  cases hb : Nat.beq p.1 i with
  | true => rw [if_pos (Nat.eq_of_beq_eq_true hb)]; rfl
  | false => rw [if_neg (Nat.ne_of_beq_eq_false hb)]; rfl
theorem findA_mem {β : Type} {i : Nat} {l : List (Nat × β)} {b : β} (h : findA i l = some b) : (i, b) ∈ l := by
  induction l with
  | nil => cases h
  | cons p l ih =>
    rw [findA_cons] at h
    by_cases e : p.1 = i
    · rw [if_pos e] at h
      injection h with h
      subst e h
      simp
    · rw [if_neg e] at h
      exact List.mem_cons_of_mem _ (ih h)
theorem findA_none {β : Type} {i : Nat} {l : List (Nat × β)} (h : findA i l = none) : ∀ p ∈ l, p.1 ≠ i := by
  induction l with
  | nil => intro p hp; cases hp
  | cons q l ih =>
    rw [findA_cons] at h
    by_cases e : q.1 = i
    · rw [if_pos e] at h; cases h
    · rw [if_neg e] at h
      intro p hp
      rcases List.mem_cons.1 hp with rfl | hp
      · exact e
      · exact ih h p hp
def Small {β : Type} (l : List (Nat × β)) : Prop := ∀ p ∈ l, p.1 < 32768
theorem Small.tail {β : Type} {p : Nat × β} {l : List (Nat × β)} (h : Small (p :: l)) : Small l := fun q hq => h q (List.mem_cons_of_mem _ hq)
theorem layO_get (l : List (Nat × CO)) (hl : Small l) (h : Hp) (i : Nat) (hi : i < 32768) : (layO l h).get i = match findA i l with | some c => some c | none => h.get i := by
  induction l with
  | nil => rfl
  | cons p l ih =>
    show ((layO l h).setO p.1 (some p.2)).get i = _
    rw [Hp.get_setO _ _ _ _ (hl p (by simp)) hi, ih hl.tail, findA_cons]
    by_cases e : p.1 = i
    · rw [if_pos e, if_pos e]
    · rw [if_neg e, if_neg e]
theorem layO_fam (l : List (Nat × CO)) (h : Hp) (f : Nat) : (layO l h).fam f = h.fam f := by
  induction l with
  | nil => rfl
  | cons p l ih => show ((layO l h).setO p.1 (some p.2)).fam f = _; rw [Hp.fam_setO, ih]
theorem layO_next (l : List (Nat × CO)) (h : Hp) : (layO l h).next = h.next := by
  induction l with
  | nil => rfl
  | cons p l ih => show ((layO l h).setO p.1 (some p.2)).next = _; rw [Hp.next_setO, ih]
theorem delO_get (l : List (Nat × CO)) (hl : Small l) (h : Hp) (i : Nat) (hi : i < 32768) : (delO l h).get i = match findA i l with | some _ => none | none => h.get i := by
  induction l with
  | nil => rfl
  | cons p l ih =>
    show ((delO l h).setO p.1 none).get i = _
    rw [Hp.get_setO _ _ _ _ (hl p (by simp)) hi, ih hl.tail, findA_cons]
    by_cases e : p.1 = i
    · rw [if_pos e, if_pos e]
    · rw [if_neg e, if_neg e]
theorem delO_fam (l : List (Nat × CO)) (h : Hp) (f : Nat) : (delO l h).fam f = h.fam f := by
  induction l with
  | nil => rfl
  | cons p l ih => show ((delO l h).setO p.1 none).fam f = _; rw [Hp.fam_setO, ih]
theorem delP_get (l : List (Nat × Nat)) (h : Hp) {i : Nat} (hi : i < 32768) {c : CO} (e : (delP l h).get i = some c) : h.get i = some c ∧ ∀ n, (i, n) ∉ l := by
  induction l with
  | nil => exact ⟨e, fun n hn => by cases hn⟩
  | cons p l ih =>
    have e' : (bc (Nat.ble p.1 32767) ((delP l h).del p.1) (delP l h)).get i = some c := e
    cases hb : Nat.ble p.1 32767 with
    | false =>
      rw [hb, bc_false] at e'
      obtain ⟨k1, k2⟩ := ih e'
      refine ⟨k1, fun n hn => ?_⟩
      rcases List.mem_cons.1 hn with h1 | h1
      · subst h1
        have : Nat.ble i 32767 = true := Nat.ble_eq_true_of_le (by omega)
        rw [show ((i, n) : Nat × Nat).1 = i from rfl, this] at hb
        cases hb
      · exact k2 n h1
    | true =>
      rw [hb, bc_true] at e'
      have hp : p.1 < 32768 := Nat.lt_succ_of_le (Nat.le_of_ble_eq_true hb)
      have e2 : ((delP l h).setO p.1 none).get i = some c := e'
      rw [Hp.get_setO _ _ _ _ hp hi] at e2
      by_cases ei : p.1 = i
      · rw [if_pos ei] at e2; cases e2
      · rw [if_neg ei] at e2
        obtain ⟨k1, k2⟩ := ih e2
        refine ⟨k1, fun n hn => ?_⟩
        rcases List.mem_cons.1 hn with h1 | h1
        · exact ei (by rw [← h1])
        · exact k2 n h1
theorem delP_fam (l : List (Nat × Nat)) (h : Hp) (f : Nat) : (delP l h).fam f = h.fam f := by
  induction l with
  | nil => rfl
  | cons p l ih =>
    show (bc (Nat.ble p.1 32767) ((delP l h).setO p.1 none) (delP l h)).fam f = _
    cases Nat.ble p.1 32767 with
    | false => exact ih
    | true => rw [bc_true, Hp.fam_setO]; exact ih
theorem delP_next (l : List (Nat × Nat)) (h : Hp) : (delP l h).next = h.next := by
  induction l with
  | nil => rfl
  | cons p l ih =>
    show (bc (Nat.ble p.1 32767) ((delP l h).setO p.1 none) (delP l h)).next = _
    cases Nat.ble p.1 32767 with
    | false => exact ih
    | true => rw [bc_true, Hp.next_setO]; exact ih
theorem delFam_get (h : Hp) (lf : List (Nat × List (Nat × Nat))) {i : Nat} (hi : i < 32768) {c : CO} (e : (delFam h lf).get i = some c) : h.get i = some c ∧ ∀ f m l n, (f, m) ∈ lf → h.fam f = some l → (i, n) ∉ l := by
  induction lf with
  | nil => exact ⟨e, fun f m l n hm => by cases hm⟩
  | cons p lf ih =>
    have e' : (oc (h.fam p.1) (delFam h lf) fun l => delP l (delFam h lf)).get i = some c := e
    cases hf : h.fam p.1 with
    | none =>
      rw [hf, oc_none] at e'
      obtain ⟨k1, k2⟩ := ih e'
      refine ⟨k1, fun f m l n hm hl => ?_⟩
      rcases List.mem_cons.1 hm with h1 | h1
      · rw [← h1] at hf
        simp only at hf
        rw [hf] at hl; cases hl
      · exact k2 f m l n h1 hl
    | some l0 =>
      rw [hf, oc_some] at e'
      obtain ⟨k0, k3⟩ := delP_get l0 _ hi e'
      obtain ⟨k1, k2⟩ := ih k0
      refine ⟨k1, fun f m l n hm hl => ?_⟩
      rcases List.mem_cons.1 hm with h1 | h1
      · rw [← h1] at hf
        simp only at hf
        rw [hf] at hl
        injection hl with hl
        subst hl
        exact k3 n
      · exact k2 f m l n h1 hl
theorem delFam_fam (h : Hp) (lf : List (Nat × List (Nat × Nat))) (f : Nat) : (delFam h lf).fam f = h.fam f := by
  induction lf with
  | nil => rfl
  | cons p lf ih =>
    show (oc (h.fam p.1) (delFam h lf) fun l => delP l (delFam h lf)).fam f = _
    cases h.fam p.1 with
    | none => exact ih
    | some l => rw [oc_some, delP_fam]; exact ih
theorem delFam_next (h : Hp) (lf : List (Nat × List (Nat × Nat))) : (delFam h lf).next = h.next := by
  induction lf with
  | nil => rfl
  | cons p lf ih =>
    show (oc (h.fam p.1) (delFam h lf) fun l => delP l (delFam h lf)).next = _
    cases h.fam p.1 with
    | none => exact ih
    | some l => rw [oc_some, delP_next]; exact ih
theorem layF_fam (l : List (Nat × List (Nat × Nat))) (hl : Small l) (h : Hp) (f : Nat) (hf : f < 32768) : (layF l h).fam f = match findA f l with | some c => some c | none => h.fam f := by
  induction l with
  | nil => rfl
  | cons p l ih =>
    show ((layF l h).putF p.1 p.2).fam f = _
    rw [Hp.fam_putF _ _ _ _ (hl p (by simp)) hf, ih hl.tail, findA_cons]
    by_cases e : p.1 = f
    · rw [if_pos e, if_pos e]
    · rw [if_neg e, if_neg e]
theorem layF_get (l : List (Nat × List (Nat × Nat))) (h : Hp) (i : Nat) : (layF l h).get i = h.get i := by
  induction l with
  | nil => rfl
  | cons p l ih => show ((layF l h).putF p.1 p.2).get i = _; rw [Hp.get_putF, ih]
theorem layF_next (l : List (Nat × List (Nat × Nat))) (h : Hp) : (layF l h).next = h.next := by
  induction l with
  | nil => rfl
  | cons p l ih => show ((layF l h).putF p.1 p.2).next = _; rw [Hp.next_putF, ih]
theorem mkHp_get {n : Nat} {l : List (Nat × CO)} {lf : List (Nat × List (Nat × Nat))} (hl : Small l) {i : Nat} (hi : i < 32768) : (mkHp n l lf).get i = findA i l := by
  unfold mkHp
  rw [layF_get, layO_get l hl _ i hi]
  cases findA i l with
  | none => exact empty_get i
  | some c => rfl
theorem mkHp_fam {n : Nat} {l : List (Nat × CO)} {lf : List (Nat × List (Nat × Nat))} (hlf : Small lf) {f : Nat} (hf : f < 32768) : (mkHp n l lf).fam f = findA f lf := by
  unfold mkHp
  rw [layF_fam lf hlf _ f hf, layO_fam]
  cases findA f lf with
  | none => exact empty_fam f
  | some c => rfl
theorem mkHp_next (n : Nat) (l : List (Nat × CO)) (lf : List (Nat × List (Nat × Nat))) : (mkHp n l lf).next = n := by
  unfold mkHp
  rw [layF_next, layO_next]
  rfl

/-! ### Equal blocks -/
noncomputable def mapSame (l : List (Int × CV)) : List (Int × CV) → Bool :=
  List.rec (motive := fun _ => List (Int × CV) → Bool) (fun m => List.rec (motive := fun _ => Bool) true (fun _ _ _ => false) m)
    (fun a _ ih m => List.rec (motive := fun _ => Bool) false (fun b m _ => bc (ieq a.1 b.1) (bc (same1 a.2 b.2) (ih m) false) false) m) l
theorem mapSame_eq : ∀ (l m : List (Int × CV)), mapSame l m = true → l = m := by
  intro l
  induction l with
  | nil => intro m h; cases m with
    | nil => rfl
    | cons b m => cases h
  | cons a l ih =>
    intro m h
    cases m with
    | nil => cases h
    | cons b m =>
      have h' : bc (ieq a.1 b.1) (bc (same1 a.2 b.2) (mapSame l m) false) false = true := h
      cases h1 : ieq a.1 b.1 with
      | false => rw [h1] at h'; cases h'
      | true =>
        rw [h1, bc_true] at h'
        cases h2 : same1 a.2 b.2 with
        | false => rw [h2] at h'; cases h'
        | true =>
          rw [h2, bc_true] at h'
          rw [ih m h']
          obtain ⟨a1, a2⟩ := a
          obtain ⟨b1, b2⟩ := b
          simp only [ieq_eq, decide_eq_true_eq] at h1
          have h3 := same1_eq h2
          simp only at h3
          rw [h1, h3]
noncomputable def coSame (a b : CO) : Bool := match a, b with
  | .box l, .box m => allSame l m
  | .row l f, .row m g => bc (Nat.beq f g) (allSame l m) false
  | .map l, .map m => mapSame l m
  | _, _ => false
theorem coSame_eq {a b : CO} (h : coSame a b = true) : a = b := by
  unfold coSame at h
  split at h
  · rw [allSame_eq _ _ h]
  · rename_i l f m g
    cases hb : Nat.beq f g with
    | false => rw [hb] at h; cases h
    | true => rw [hb, bc_true] at h; rw [allSame_eq _ _ h, Nat.eq_of_beq_eq_true hb]
  · rw [mapSame_eq _ _ h]
  · cases h
noncomputable def pairsSame (l : List (Nat × Nat)) : List (Nat × Nat) → Bool :=
  List.rec (motive := fun _ => List (Nat × Nat) → Bool) (fun m => List.rec (motive := fun _ => Bool) true (fun _ _ _ => false) m)
    (fun a _ ih m => List.rec (motive := fun _ => Bool) false (fun b m _ => bc (Nat.beq a.1 b.1) (bc (Nat.beq a.2 b.2) (ih m) false) false) m) l
theorem pairsSame_eq : ∀ (l m : List (Nat × Nat)), pairsSame l m = true → l = m := by
  intro l
  induction l with
  | nil => intro m h; cases m with
    | nil => rfl
    | cons b m => cases h
  | cons a l ih =>
    intro m h
    cases m with
    | nil => cases h
    | cons b m =>
      have h' : bc (Nat.beq a.1 b.1) (bc (Nat.beq a.2 b.2) (pairsSame l m) false) false = true := h
      cases h1 : Nat.beq a.1 b.1 with
      | false => rw [h1] at h'; cases h'
      | true =>
        rw [h1, bc_true] at h'
        cases h2 : Nat.beq a.2 b.2 with
        | false => rw [h2] at h'; cases h'
        | true =>
          rw [h2, bc_true] at h'
          rw [ih m h']
          obtain ⟨a1, a2⟩ := a
          obtain ⟨b1, b2⟩ := b
          have e1 := Nat.eq_of_beq_eq_true h1
          have e2 := Nat.eq_of_beq_eq_true h2
          simp only at e1 e2
          rw [e1, e2]
/-- does a memory hold these blocks? -/
noncomputable def holdsO (h : Hp) (l : List (Nat × CO)) : Bool := lall (fun p => oc (h.get p.1) false fun c => coSame c p.2) l
noncomputable def holdsF (h : Hp) (l : List (Nat × List (Nat × Nat))) : Bool := lall (fun p => oc (h.fam p.1) false fun c => pairsSame c p.2) l
theorem holdsO_at {h : Hp} {l : List (Nat × CO)} (e : holdsO h l = true) {i : Nat} {c : CO} (hm : (i, c) ∈ l) : h.get i = some c := by
  unfold holdsO at e
  rw [lall_eq, List.all_eq_true] at e
  have := e _ hm
  cases hg : h.get i with
  | none => rw [show (i, c).1 = i from rfl, hg] at this; cases this
  | some c' =>
    rw [show (i, c).1 = i from rfl, hg, oc_some] at this
    rw [coSame_eq this]
theorem holdsF_at {h : Hp} {l : List (Nat × List (Nat × Nat))} (e : holdsF h l = true) {i : Nat} {c : List (Nat × Nat)} (hm : (i, c) ∈ l) : h.fam i = some c := by
  unfold holdsF at e
  rw [lall_eq, List.all_eq_true] at e
  have := e _ hm
  cases hg : h.fam i with
  | none => rw [show (i, c).1 = i from rfl, hg] at this; cases this
  | some c' =>
    rw [show (i, c).1 = i from rfl, hg, oc_some] at this
    rw [pairsSame_eq _ _ this]

/-! ### Entries -/
structure Ent where
  f : FuncId
  args : List CV
  n0 : Nat
  pre : List (Nat × CO)
  preF : List (Nat × List (Nat × Nat))
  c : CV
  n1 : Nat
  post : List (Nat × CO)
  postF : List (Nat × List (Nat × Nat))
noncomputable def Ent.h0 (e : Ent) : Hp := mkHp e.n0 e.pre e.preF
noncomputable def Ent.h1 (e : Ent) : Hp := mkHp e.n1 e.post e.postF
noncomputable def small {β : Type} (l : List (Nat × β)) : Bool := lall (fun p => Nat.ble p.1 32767) l
theorem small_ok {β : Type} {l : List (Nat × β)} (h : small l = true) : Small l := fun p hp => by
  unfold small at h
  rw [lall_eq, List.all_eq_true] at h
  exact Nat.lt_succ_of_le (Nat.le_of_ble_eq_true (h p hp))
noncomputable def inPairs (i n : Nat) (l : List (Nat × Nat)) : Bool := List.rec (motive := fun _ => Bool) false (fun p _ ih => bc (Nat.beq p.1 i) (bc (Nat.beq p.2 n) true ih) ih) l
theorem inPairs_ok {i n : Nat} {l : List (Nat × Nat)} (h : inPairs i n l = true) : (i, n) ∈ l := by
  induction l with
  | nil => cases h
  | cons p l ih =>
    have h' : bc (Nat.beq p.1 i) (bc (Nat.beq p.2 n) true (inPairs i n l)) (inPairs i n l) = true := h
    cases h1 : Nat.beq p.1 i with
    | false => rw [h1, bc_false] at h'; exact List.mem_cons_of_mem _ (ih h')
    | true =>
      rw [h1, bc_true] at h'
      cases h2 : Nat.beq p.2 n with
      | false => rw [h2, bc_false] at h'; exact List.mem_cons_of_mem _ (ih h')
      | true =>
        obtain ⟨a, b⟩ := p
        have e1 := Nat.eq_of_beq_eq_true h1
        have e2 := Nat.eq_of_beq_eq_true h2
        simp only at e1 e2
        subst e1 e2
        simp
/-- each row is listed with its family -/
noncomputable def famsOk (l : List (Nat × CO)) (h : Hp) : Bool := lall (fun p => match p.2 with | .row cs f => bc (Nat.ble f 32767) (oc (h.fam f) false fun m => inPairs p.1 (llen cs) m) false | _ => true) l
theorem famsOk_at {l : List (Nat × CO)} {h : Hp} (e : famsOk l h = true) {i f : Nat} {cs : List CV} (hm : (i, CO.row cs f) ∈ l) : f < 32768 ∧ ∃ m, h.fam f = some m ∧ (i, cs.length) ∈ m := by
  unfold famsOk at e
  rw [lall_eq, List.all_eq_true] at e
  have := e _ hm
  simp only at this
  cases hb : Nat.ble f 32767 with
  | false => rw [hb] at this; cases this
  | true =>
    rw [hb, bc_true] at this
    refine ⟨Nat.lt_succ_of_le (Nat.le_of_ble_eq_true hb), ?_⟩
    cases hf : h.fam f with
    | none => rw [hf] at this; cases this
    | some m =>
      rw [hf, oc_some, llen_eq] at this
      exact ⟨m, rfl, inPairs_ok this⟩
noncomputable def famsSmall (lf : List (Nat × List (Nat × Nat))) : Bool := lall (fun p => small p.2) lf
noncomputable def isS {β : Type} (x : Option β) : Bool := oc x false fun _ => true
theorem isS_ok {β : Type} {x : Option β} (h : isS x = true) : ∃ b, x = some b := by
  cases x with
  | none => cases h
  | some b => exact ⟨b, rfl⟩
noncomputable def rowOf (f : Nat) (c : CO) : Bool := match c with | .row _ g => Nat.beq g f | _ => false
noncomputable def hasRow (f : Nat) (h : Hp) : Bool := oc (h.fam f) false fun l => match l with | q :: _ => bc (Nat.ble q.1 32767) (oc (h.get q.1) false fun c => rowOf f c) false | [] => false
theorem hasRow_ok {f : Nat} {h : Hp} (e : hasRow f h = true) : ∃ i cs, i < 32768 ∧ h.get i = some (.row cs f) := by
  unfold hasRow at e
  cases hf : h.fam f with
  | none => rw [hf] at e; cases e
  | some l =>
    rw [hf, oc_some] at e
    cases l with
    | nil => cases e
    | cons q l =>
      simp only at e
      cases hb : Nat.ble q.1 32767 with
      | false => rw [hb] at e; cases e
      | true =>
        rw [hb, bc_true] at e
        cases hg : h.get q.1 with
        | none => rw [hg] at e; cases e
        | some c =>
          rw [hg, oc_some] at e
          cases c with
          | box cs => cases e
          | map m => cases e
          | row cs g =>
            have := Nat.eq_of_beq_eq_true (show Nat.beq g f = true from e)
            subst this
            exact ⟨q.1, cs, Nat.lt_succ_of_le (Nat.le_of_ble_eq_true hb), hg⟩
noncomputable def famsDom (e : Ent) : Bool := lall (fun p => bc (Nat.ble e.n0 p.1 && Nat.ble (Nat.succ p.1) e.n1) true (hasRow p.1 e.h0)) e.postF
noncomputable def Ent.chk (e : Ent) : Bool := small e.pre && (small e.preF && (small e.post && (small e.postF && (famsOk e.pre e.h0 && (famsOk e.post e.h1 && (famsSmall e.preF && (famsSmall e.postF && famsDom e)))))))
noncomputable def allV (l : List CV) : List CV → Bool :=
  List.rec (motive := fun _ => List CV → Bool) (fun m => List.rec (motive := fun _ => Bool) true (fun _ _ _ => false) m)
    (fun a _ ih m => List.rec (motive := fun _ => Bool) false (fun b m _ => bc (sameV a b) (ih m) false) m) l
/-- results: a tuple of values too -/
noncomputable def sameR (a b : CV) : Bool := match a, b with
  | .tup l, .tup m => allV l m
  | a, b => sameV a b
/-- the run behind an entry -/
noncomputable def Ent.run (e : Ent) (r : Option (CV × Hp)) : Bool := oc r false fun p => pc p fun c h => bc (sameR c e.c) (bc (Nat.beq h.next e.n1) (holdsO h e.post) false) false
/-- does an entry fit a call? -/
noncomputable def Ent.fits (e : Ent) (f : FuncId) (args : List CV) (h : Hp) : Bool := bc (Nat.beq e.f f) (bc (Nat.beq h.next e.n0) (bc (allV e.args args) (holdsO h e.pre) false) false) false
noncomputable def Ent.apply (e : Ent) (h : Hp) : Hp := layF e.postF (layO e.post ((delO e.pre (delFam h e.preF)).setN e.n1))
noncomputable def oraE (es : List Ent) (fn0 : FuncId → List CV → Hp → Option (CV × Hp)) (f : FuncId) (args : List CV) (h : Hp) : Option (CV × Hp) :=
  List.rec (motive := fun _ => Option (CV × Hp)) (fn0 f args h) (fun e _ ih => bc (e.fits f args h) (some (e.c, e.apply h)) ih) es
theorem allV_eq : ∀ (l m : List CV), allV l m = true → l = m := by
  intro l
  induction l with
  | nil => intro m h; cases m with
    | nil => rfl
    | cons b m => cases h
  | cons a l ih =>
    intro m h
    cases m with
    | nil => cases h
    | cons b m =>
      have h' : bc (sameV a b) (allV l m) false = true := h
      cases h1 : sameV a b with
      | false => rw [h1] at h'; cases h'
      | true => rw [h1, bc_true] at h'; rw [sameV_eq h1, ih m h']
theorem sameR_eq {a b : CV} (h : sameR a b = true) : a = b := by
  unfold sameR at h
  split at h
  · rw [allV_eq _ _ h]
  · exact sameV_eq h
theorem bc_and {b : Bool} {t : Bool} (h : bc b t false = true) : b = true ∧ t = true := by
  cases b with
  | false => cases h
  | true => exact ⟨rfl, h⟩
section
variable {P : Program}
def EntOk (P : Program) (e : Ent) : Prop := e.chk = true ∧ Good P e.f e.args e.h0 e.c e.h1
theorem ent_ok {fn0 : FuncId → List CV → Hp → Option (CV × Hp)} (hC : CallOk P fn0) {e : Ent} (hc : e.chk = true) (hr : e.run (fn0 e.f e.args e.h0) = true) : EntOk P e := by
  refine ⟨hc, ?_⟩
  cases h : fn0 e.f e.args e.h0 with
  | none => rw [h] at hr; cases hr
  | some p =>
    obtain ⟨c, h1⟩ := p
    rw [h] at hr
    obtain ⟨k1, k2⟩ := bc_and (show bc (sameR c e.c) (bc (Nat.beq h1.next e.n1) (holdsO h1 e.post) false) false = true from hr)
    obtain ⟨k3, k4⟩ := bc_and k2
    have e1 := sameR_eq k1
    subst e1
    have e2 := Nat.eq_of_beq_eq_true k3
    unfold Ent.chk at hc
    simp only [Bool.and_eq_true] at hc
    obtain ⟨c1, c2, c3, c4, c5, c6, c7, c8, c10⟩ := hc
    have s3 := small_ok c3
    have s4 := small_ok c4
    refine Good.weak (hC _ _ _ _ _ h) ?_ (fun id c hid hg => ?_) (fun i cs f hi hg => ?_) (fun f l p hf hl hp => ?_)
    · unfold Ent.h1; rw [mkHp_next, e2]
    · unfold Ent.h1 at hg
      rw [mkHp_get s3 hid] at hg
      exact holdsO_at k4 (findA_mem hg)
    · unfold Ent.h1 at hg ⊢
      rw [mkHp_get s3 hi] at hg
      obtain ⟨q1, m, q2, q3⟩ := famsOk_at c6 (findA_mem hg)
      exact ⟨m, q2, q3⟩
    · unfold Ent.h1 at hl
      rw [mkHp_fam s4 hf] at hl
      unfold famsSmall at c8
      rw [lall_eq, List.all_eq_true] at c8
      exact small_ok (c8 _ (findA_mem hl)) p hp
theorem Ent.good {e : Ent} (he : EntOk P e) {f : FuncId} {args : List CV} {h : Hp} (hf : e.fits f args h = true) : Good P f args h e.c (e.apply h) := by
  obtain ⟨hc, G⟩ := he
  obtain ⟨k1, k2⟩ := bc_and (show bc (Nat.beq e.f f) (bc (Nat.beq h.next e.n0) (bc (allV e.args args) (holdsO h e.pre) false) false) false = true from hf)
  obtain ⟨k3, k4⟩ := bc_and k2
  obtain ⟨k5, k7⟩ := bc_and k4
  have e1 := Nat.eq_of_beq_eq_true k1
  have e2 := Nat.eq_of_beq_eq_true k3
  have e3 := allV_eq _ _ k5
  subst e1 e3
  unfold Ent.chk at hc
  simp only [Bool.and_eq_true] at hc
  obtain ⟨c1, c2, c3, c4, c5, c6, c7, c8, c10⟩ := hc
  have s1 := small_ok c1
  have s2 := small_ok c2
  have s3 := small_ok c3
  have s4 := small_ok c4
  have g0 : ∀ id, id < 32768 → e.h0.get id = findA id e.pre := fun id hid => mkHp_get s1 hid
  have g1 : ∀ id, id < 32768 → e.h1.get id = findA id e.post := fun id hid => mkHp_get s3 hid
  have f0 : ∀ f, f < 32768 → e.h0.fam f = findA f e.preF := fun f hf => mkHp_fam s2 hf
  have f1 : ∀ f, f < 32768 → e.h1.fam f = findA f e.postF := fun f hf => mkHp_fam s4 hf
  have a1 : ∀ id, id < 32768 → (e.apply h).get id = match findA id e.post with | some c => some c | none => match findA id e.pre with | some _ => none | none => (delFam h e.preF).get id := fun id hid => by
    unfold Ent.apply
    rw [layF_get, layO_get _ s3 _ _ hid]
    cases findA id e.post with
    | some c => rfl
    | none => exact delO_get _ s1 _ _ hid
  have a2 : ∀ f, f < 32768 → (e.apply h).fam f = match findA f e.postF with | some c => some c | none => h.fam f := fun f hf => by
    unfold Ent.apply
    rw [layF_fam _ s4 _ _ hf, layO_fam]
    cases findA f e.postF with
    | some c => rfl
    | none =>
      show (delO e.pre (delFam h e.preF)).fam f = _
      rw [delO_fam, delFam_fam]
  refine G.frame ?_ ?_ (fun id c hid hg => ?_) (fun i cs f hi hg => ?_) (fun f l p hf hl hp => ?_) (fun id c hid hg => ?_) (fun f l hf hl => ?_) (fun f hf hl => ?_) (fun f l hf hl => ?_)
  · unfold Ent.h0; rw [mkHp_next, e2]
  · unfold Ent.h1 Ent.apply; rw [mkHp_next, layF_next, layO_next]; rfl
  · rw [g0 id hid] at hg
    exact holdsO_at k7 (findA_mem hg)
  · rw [g0 i hi] at hg
    obtain ⟨q1, m, q2, q3⟩ := famsOk_at c5 (findA_mem hg)
    exact ⟨m, q2, q3⟩
  · rw [f0 f hf] at hl
    unfold famsSmall at c7
    rw [lall_eq, List.all_eq_true] at c7
    exact small_ok (c7 _ (findA_mem hl)) p hp
  · rw [a1 id hid] at hg
    rw [g1 id hid, g0 id hid]
    cases hp : findA id e.post with
    | some c' => rw [hp] at hg; exact .inl hg
    | none =>
      rw [hp] at hg
      cases hq : findA id e.pre with
      | some c' => rw [hq] at hg; cases hg
      | none =>
        rw [hq] at hg
        obtain ⟨z1, z2⟩ := delFam_get h e.preF hid hg
        refine .inr ⟨z1, rfl, rfl, fun i cs ds f hi hr ⟨l, y1, y2⟩ _ => ?_⟩
        rw [g0 i hi] at hr
        obtain ⟨q1, m, q2, _⟩ := famsOk_at c5 (findA_mem hr)
        rw [f0 f q1] at q2
        exact z2 f m l _ (findA_mem q2) y1 y2
  · rw [f1 f hf] at hl
    rw [a2 f hf, hl]
  · rw [f1 f hf] at hl
    rw [a2 f hf, hl]
  · rw [f1 f hf] at hl
    unfold famsDom at c10
    rw [lall_eq, List.all_eq_true] at c10
    have := c10 _ (findA_mem hl)
    simp only at this
    cases hb : (Nat.ble e.n0 f && Nat.ble (Nat.succ f) e.n1) with
    | true =>
      simp only [Bool.and_eq_true] at hb
      refine .inr ⟨?_, ?_⟩
      · unfold Ent.h0; rw [mkHp_next]; exact Nat.le_of_ble_eq_true hb.1
      · unfold Ent.h1; rw [mkHp_next]; exact Nat.le_of_ble_eq_true hb.2
    | false =>
      rw [hb, bc_false] at this
      exact .inl (hasRow_ok this)
/-- ALL ENTRIES -/
def AllOk (P : Program) (es : List Ent) : Prop := ∀ e ∈ es, EntOk P e
theorem AllOk.nil : AllOk P [] := fun e he => by cases he
theorem AllOk.cons {e : Ent} {es : List Ent} (h : EntOk P e) (hs : AllOk P es) : AllOk P (e :: es) := fun x hx => by
  rcases List.mem_cons.1 hx with rfl | hx
  · exact h
  · exact hs x hx
theorem oraE_ok {fn0 : FuncId → List CV → Hp → Option (CV × Hp)} (hC : CallOk P fn0) {es : List Ent} (hs : AllOk P es) : CallOk P (oraE es fn0) := by
  induction es with
  | nil => exact hC
  | cons e es ih =>
    intro f args h c h' hr
    have hr' : bc (e.fits f args h) (some (e.c, e.apply h)) (oraE es fn0 f args h) = some (c, h') := hr
    cases hb : e.fits f args h with
    | false => rw [hb, bc_false] at hr'; exact ih (fun x hx => hs x (List.mem_cons_of_mem _ hx)) f args h c h' hr'
    | true =>
      rw [hb, bc_true] at hr'
      injection hr' with hr'
      injection hr' with e1 e2
      subst e1 e2
      exact Ent.good (hs e (by simp)) hb
/-- the machine with a table of calls -/
noncomputable def RE (P : Program) (es : List Ent) (n : Nat) : R := Nat.rec (motive := fun _ => R) ⟨fun _ _ _ => none, fun _ _ _ => none⟩ (fun _ r => ⟨stepCode P r, oraE es (stepFn P r)⟩) n
theorem RE_sound (hP : P.check = .ok ()) (hm : P.follows .mixedOrders = true) (hnames : ∀ (f : FuncId) (fn : Func), P.funcs[f]? = some fn → fn.name ≠ "runtime.NumGoroutine") {es : List Ent} (hs : AllOk P es) : ∀ n, CallOk P (RE P es n).fn ∧ CodeOk P (RE P es n) := by
  intro n
  induction n with
  | zero => exact ⟨(fun f args h c h' e => by cases e), (fun fn blocks labels c a h m a' h' _ _ e => by cases e)⟩
  | succ n ih => exact ⟨oraE_ok (fn_step hP hnames ih.2) hs, fun fn blocks labels c a h m a' h' h1 h2 e => code_step hm ih.1 ih.2 fn blocks labels c a h m a' h' h1 h2 e⟩
end
end Go.Proofs.YtkdlekonfjeidaaGreat.Eng
