/-
  Laws of the machine's lists and finite maps.
-/
import Derived.Test.YtkdlekonfjeidaaGreatEngMach
namespace Go.Proofs.YtkdlekonfjeidaaGreat.Eng
set_option linter.unusedVariables false

@[simp] theorem oc_none {α β : Type} (n : β) (k : α → β) : oc none n k = n := rfl
@[simp] theorem oc_some {α β : Type} (a : α) (n : β) (k : α → β) : oc (some a) n k = k a := rfl
@[simp] theorem bc_true {β : Type} (t f : β) : bc true t f = t := rfl
@[simp] theorem bc_false {β : Type} (t f : β) : bc false t f = f := rfl
@[simp] theorem pc_mk {α γ β : Type} (a : α) (c : γ) (k : α → γ → β) : pc (a, c) k = k a c := rfl
theorem pc_eq {α γ β : Type} (x : α × γ) (k : α → γ → β) : pc x k = k x.1 x.2 := rfl
@[simp] theorem force_eq {α : Type} (n : Nat) (k : Nat → α) : force n k = k n := by cases n <;> rfl
@[simp] theorem forceI_eq {α : Type} (n : Int) (k : Int → α) : forceI n k = k n := by cases n with
  | ofNat m => exact force_eq m fun m => k (.ofNat m)
  | negSucc m => exact force_eq m fun m => k (.negSucc m)
@[simp] theorem consS_eq {α : Type} (a : α) (t : List α) : consS a t = a :: t := by cases t <;> rfl
@[simp] theorem lset_eq {α : Type} (l : List α) : ∀ (i : Nat) (x : α), lset l i x = l.set i x := by
  induction l with
  | nil => intro i x; rfl
  | cons a l ih =>
    intro i x
    cases i with
    | zero => rfl
    | succ i => show consS a (lset l i x) = _; rw [ih, consS_eq]; rfl
@[simp] theorem lapp_eq {α : Type} (l m : List α) : lapp l m = l ++ m := by
  induction l with
  | nil => rfl
  | cons a l ih => show consS a (lapp l m) = _; rw [ih, consS_eq]; rfl
@[simp] theorem ltake_eq {α : Type} (n : Nat) : ∀ l : List α, ltake n l = l.take n := by
  induction n with
  | zero => intro l; simp only [List.take_zero]; rfl
  | succ n ih =>
    intro l
    cases l with
    | nil => rfl
    | cons a l => show consS a (ltake n l) = _; rw [ih, consS_eq]; rfl
@[simp] theorem ldrop_eq {α : Type} (n : Nat) : ∀ l : List α, ldrop n l = l.drop n := by
  induction n with
  | zero => intro l; rfl
  | succ n ih =>
    intro l
    cases l with
    | nil => rfl
    | cons a l => exact ih l
@[simp] theorem llen_eq {α : Type} (l : List α) : llen l = l.length := by
  induction l with
  | nil => rfl
  | cons a l ih => show Nat.succ (llen l) = _; rw [ih]; rfl
@[simp] theorem lall_eq {α : Type} (f : α → Bool) (l : List α) : lall f l = l.all f := by
  induction l with
  | nil => rfl
  | cons a l ih =>
    show bc (f a) (lall f l) false = _
    rw [ih, List.all_cons]
    cases f a <;> rfl
theorem leqN_iff (l : List Nat) : ∀ m, leqN l m = true ↔ l = m := by
  induction l with
  | nil => intro m; cases m <;> simp [leqN]
  | cons a l ih =>
    intro m
    cases m with
    | nil => simp [leqN]
    | cons b m =>
      show bc (Nat.beq a b) (leqN l m) false = true ↔ _
      cases h : Nat.beq a b with
      | true => simp [ih, Nat.eq_of_beq_eq_true h]
      | false => simp [Nat.ne_of_beq_eq_false h]
theorem leqN_eq (l m : List Nat) : leqN l m = decide (l = m) := by
  rw [Bool.eq_iff_iff, leqN_iff]; simp
theorem lmapO_nil {α β : Type} (f : α → Option β) : lmapO f [] = some [] := rfl
theorem lmapO_cons {α β : Type} (f : α → Option β) (a : α) (l : List α) : lmapO f (a :: l) = oc (f a) none fun b => oc (lmapO f l) none fun m => some (b :: m) := rfl
theorem lput_nil {α : Type} (l : List α) (i : Nat) : lput [] l i = l := rfl
theorem lput_cons {α : Type} (x : α) (xs l : List α) (i : Nat) : lput (x :: xs) l i = lput xs (l.set i x) (i + 1) := by
  show lput xs (lset l i x) (Nat.succ i) = _; rw [lset_eq]
theorem lput_length {α : Type} (xs : List α) : ∀ (l : List α) (i : Nat), (lput xs l i).length = l.length := by
  induction xs with
  | nil => intro l i; rfl
  | cons x xs ih => intro l i; rw [lput_cons, ih, List.length_set]
theorem lput_get {α : Type} (xs : List α) : ∀ (l : List α) (i j : Nat), i + xs.length ≤ l.length → (lput xs l i)[j]? = if i ≤ j ∧ j < i + xs.length then xs[j - i]? else l[j]? := by
  induction xs with
  | nil => intro l i j _; rw [lput_nil, if_neg (by simp only [List.length_nil]; omega)]
  | cons x xs ih =>
    intro l i j h
    simp only [List.length_cons] at h
    rw [lput_cons, ih _ _ _ (by rw [List.length_set]; omega)]
    by_cases h1 : i + 1 ≤ j ∧ j < i + 1 + xs.length
    · rw [if_pos h1, if_pos (by simp only [List.length_cons]; omega), show j - i = (j - (i + 1)) + 1 by omega, List.getElem?_cons_succ]
    · rw [if_neg h1]
      by_cases h2 : j = i
      · subst h2
        rw [if_pos (by simp only [List.length_cons]; omega)]
        rw [List.getElem?_set_self (by omega)]
        simp
      · rw [if_neg (by simp only [List.length_cons]; omega), List.getElem?_set_ne (by omega)]
theorem rep_zero {α : Type} (l : List α) : rep 0 l = [] := rfl
theorem rep_succ {α : Type} (n : Nat) (l : List α) : rep (n + 1) l = l ++ rep n l := by show lapp l (rep n l) = _; rw [lapp_eq]

/-! ### Finite maps -/
def N8.geti {β : Type} (t : N8 β) (i : Nat) : β := match i with
  | 0 => t.c0 | 1 => t.c1 | 2 => t.c2 | 3 => t.c3 | 4 => t.c4 | 5 => t.c5 | 6 => t.c6 | _ => t.c7
def N8.upd {β : Type} (t : N8 β) (i : Nat) (x : β) : N8 β := match i with
  | 0 => { t with c0 := x } | 1 => { t with c1 := x } | 2 => { t with c2 := x } | 3 => { t with c3 := x } | 4 => { t with c4 := x } | 5 => { t with c5 := x } | 6 => { t with c6 := x } | _ => { t with c7 := x }
theorem lt8 {i : Nat} (h : i < 8) : i = 0 ∨ i = 1 ∨ i = 2 ∨ i = 3 ∨ i = 4 ∨ i = 5 ∨ i = 6 ∨ i = 7 := by omega
theorem geti_upd {β : Type} (t : N8 β) (i j : Nat) (x : β) (hi : i < 8) (hj : j < 8) : (t.upd i x).geti j = if i = j then x else t.geti j := by
  rcases lt8 hi with rfl | rfl | rfl | rfl | rfl | rfl | rfl | rfl <;> rcases lt8 hj with rfl | rfl | rfl | rfl | rfl | rfl | rfl | rfl <;> rfl
theorem HOdig0_spec (i : Nat) (hi : i < 8) : ∃ g s, HOdigF0 i = .mk g s ∧ (∀ t, g t = t.geti i) ∧ (∀ (γ : Type) (F : HO0 → HO0) (t : N8 HO0) (k : N8 HO0 → γ), s γ (fun x κ => κ (F x)) t k = k (t.upd i (F (t.geti i)))) := by
  rcases lt8 hi with rfl | rfl | rfl | rfl | rfl | rfl | rfl | rfl <;> exact ⟨_, _, rfl, fun _ => rfl, fun _ _ _ _ => rfl⟩
theorem HOdig1_spec (i : Nat) (hi : i < 8) : ∃ g s, HOdigF1 i = .mk g s ∧ (∀ t, g t = t.geti i) ∧ (∀ (γ : Type) (F : HO1 → HO1) (t : N8 HO1) (k : N8 HO1 → γ), s γ (fun x κ => κ (F x)) t k = k (t.upd i (F (t.geti i)))) := by
  rcases lt8 hi with rfl | rfl | rfl | rfl | rfl | rfl | rfl | rfl <;> exact ⟨_, _, rfl, fun _ => rfl, fun _ _ _ _ => rfl⟩
theorem HOdig2_spec (i : Nat) (hi : i < 8) : ∃ g s, HOdigF2 i = .mk g s ∧ (∀ t, g t = t.geti i) ∧ (∀ (γ : Type) (F : HO2 → HO2) (t : N8 HO2) (k : N8 HO2 → γ), s γ (fun x κ => κ (F x)) t k = k (t.upd i (F (t.geti i)))) := by
  rcases lt8 hi with rfl | rfl | rfl | rfl | rfl | rfl | rfl | rfl <;> exact ⟨_, _, rfl, fun _ => rfl, fun _ _ _ _ => rfl⟩
theorem HOdig3_spec (i : Nat) (hi : i < 8) : ∃ g s, HOdigF3 i = .mk g s ∧ (∀ t, g t = t.geti i) ∧ (∀ (γ : Type) (F : HO3 → HO3) (t : N8 HO3) (k : N8 HO3 → γ), s γ (fun x κ => κ (F x)) t k = k (t.upd i (F (t.geti i)))) := by
  rcases lt8 hi with rfl | rfl | rfl | rfl | rfl | rfl | rfl | rfl <;> exact ⟨_, _, rfl, fun _ => rfl, fun _ _ _ _ => rfl⟩
theorem HOdig4_spec (i : Nat) (hi : i < 8) : ∃ g s, HOdigF4 i = .mk g s ∧ (∀ t, g t = t.geti i) ∧ (∀ (γ : Type) (F : HO4 → HO4) (t : N8 HO4) (k : N8 HO4 → γ), s γ (fun x κ => κ (F x)) t k = k (t.upd i (F (t.geti i)))) := by
  rcases lt8 hi with rfl | rfl | rfl | rfl | rfl | rfl | rfl | rfl <;> exact ⟨_, _, rfl, fun _ => rfl, fun _ _ _ _ => rfl⟩
theorem HOW_at (i : Nat) : ∃ g s, HOW.at i = .mk g s ∧ (∀ t, g t = (((((t.geti (i / 4096 % 8)).geti (i / 512 % 8)).geti (i / 64 % 8)).geti (i / 8 % 8)).geti (i % 8))) ∧ (∀ (γ : Type) v t (k : HO5 → γ), s γ v t k = k (t.upd (i / 4096 % 8) ((t.geti (i / 4096 % 8)).upd (i / 512 % 8) (((t.geti (i / 4096 % 8)).geti (i / 512 % 8)).upd (i / 64 % 8) ((((t.geti (i / 4096 % 8)).geti (i / 512 % 8)).geti (i / 64 % 8)).upd (i / 8 % 8) (((((t.geti (i / 4096 % 8)).geti (i / 512 % 8)).geti (i / 64 % 8)).geti (i / 8 % 8)).upd (i % 8) v)))))) := by
  obtain ⟨g0, s0, e0, hg0, hs0⟩ := HOdig0_spec (i % 8) (by omega)
  obtain ⟨g1, s1, e1, hg1, hs1⟩ := HOdig1_spec (i / 8 % 8) (by omega)
  obtain ⟨g2, s2, e2, hg2, hs2⟩ := HOdig2_spec (i / 64 % 8) (by omega)
  obtain ⟨g3, s3, e3, hg3, hs3⟩ := HOdig3_spec (i / 512 % 8) (by omega)
  obtain ⟨g4, s4, e4, hg4, hs4⟩ := HOdig4_spec (i / 4096 % 8) (by omega)
  refine ⟨fun t => (g0 (g1 (g2 (g3 (g4 t))))), fun γ v t k => (s4 γ (s3 γ (s2 γ (s1 γ (s0 γ (fun (_ : HO0) (k : HO0 → γ) => k v)))))) t k, ?_, ?_, ?_⟩
  · unfold HOW.at
    have f0 : HOdigF0 (Nat.mod i 8) = HOD0.mk g0 s0 := e0
    have f1 : HOdigF1 (Nat.mod (Nat.div i 8) 8) = HOD1.mk g1 s1 := e1
    have f2 : HOdigF2 (Nat.mod (Nat.div i 64) 8) = HOD2.mk g2 s2 := e2
    have f3 : HOdigF3 (Nat.mod (Nat.div i 512) 8) = HOD3.mk g3 s3 := e3
    have f4 : HOdigF4 (Nat.mod (Nat.div i 4096) 8) = HOD4.mk g4 s4 := e4
    simp only [f0, f1, f2, f3, f4]
  · intro t; simp only [hg0, hg1, hg2, hg3, hg4]
  · intro γ v t k
    have h0 : s0 γ (fun (_ : HO0) (k : HO0 → γ) => k v) = (fun (x : HO1) (κ : HO1 → γ) => κ (x.upd (i % 8) v)) := by funext x κ; exact hs0 γ (fun x => v) x κ
    have h1 : s1 γ (fun (x : HO1) (κ : HO1 → γ) => κ (x.upd (i % 8) v)) = (fun (x : HO2) (κ : HO2 → γ) => κ (x.upd (i / 8 % 8) ((x.geti (i / 8 % 8)).upd (i % 8) v))) := by funext x κ; exact hs1 γ (fun x => (x.upd (i % 8) v)) x κ
    have h2 : s2 γ (fun (x : HO2) (κ : HO2 → γ) => κ (x.upd (i / 8 % 8) ((x.geti (i / 8 % 8)).upd (i % 8) v))) = (fun (x : HO3) (κ : HO3 → γ) => κ (x.upd (i / 64 % 8) ((x.geti (i / 64 % 8)).upd (i / 8 % 8) (((x.geti (i / 64 % 8)).geti (i / 8 % 8)).upd (i % 8) v)))) := by funext x κ; exact hs2 γ (fun x => (x.upd (i / 8 % 8) ((x.geti (i / 8 % 8)).upd (i % 8) v))) x κ
    have h3 : s3 γ (fun (x : HO3) (κ : HO3 → γ) => κ (x.upd (i / 64 % 8) ((x.geti (i / 64 % 8)).upd (i / 8 % 8) (((x.geti (i / 64 % 8)).geti (i / 8 % 8)).upd (i % 8) v)))) = (fun (x : HO4) (κ : HO4 → γ) => κ (x.upd (i / 512 % 8) ((x.geti (i / 512 % 8)).upd (i / 64 % 8) (((x.geti (i / 512 % 8)).geti (i / 64 % 8)).upd (i / 8 % 8) ((((x.geti (i / 512 % 8)).geti (i / 64 % 8)).geti (i / 8 % 8)).upd (i % 8) v))))) := by funext x κ; exact hs3 γ (fun x => (x.upd (i / 64 % 8) ((x.geti (i / 64 % 8)).upd (i / 8 % 8) (((x.geti (i / 64 % 8)).geti (i / 8 % 8)).upd (i % 8) v)))) x κ
    show (s4 γ (s3 γ (s2 γ (s1 γ (s0 γ (fun (_ : HO0) (k : HO0 → γ) => k v)))))) t k = _
    simp only [h0, h1, h2, h3]
    exact hs4 γ (fun x => (x.upd (i / 512 % 8) ((x.geti (i / 512 % 8)).upd (i / 64 % 8) (((x.geti (i / 512 % 8)).geti (i / 64 % 8)).upd (i / 8 % 8) ((((x.geti (i / 512 % 8)).geti (i / 64 % 8)).geti (i / 8 % 8)).upd (i % 8) v))))) t k
theorem HO.setK_eq {γ : Type} (t : HO5) (i : Nat) (v : HO0) (k : HO5 → γ) : HO.setK t i v k = k (HO.set t i v) := by
  obtain ⟨g, s, e, _, hs⟩ := HOW_at i
  have h1 : ∀ {γ : Type} (k : HO5 → γ), HO.setK t i v k = s γ v t k := by intro γ k; unfold HO.setK; rw [e]
  show _ = k (HO.setK t i v fun t => t)
  rw [h1, h1, hs, hs]
theorem HO.get_set (t : HO5) (i j : Nat) (v : HO0) (hi : i < 32768) (hj : j < 32768) : HO.get (HO.set t i v) j = if i = j then v else HO.get t j := by
  obtain ⟨g, s, e, hg, hs⟩ := HOW_at i
  obtain ⟨g', s', e', hg', hs'⟩ := HOW_at j
  have h1 : HO.set t i v = (t.upd (i / 4096 % 8) ((t.geti (i / 4096 % 8)).upd (i / 512 % 8) (((t.geti (i / 4096 % 8)).geti (i / 512 % 8)).upd (i / 64 % 8) ((((t.geti (i / 4096 % 8)).geti (i / 512 % 8)).geti (i / 64 % 8)).upd (i / 8 % 8) (((((t.geti (i / 4096 % 8)).geti (i / 512 % 8)).geti (i / 64 % 8)).geti (i / 8 % 8)).upd (i % 8) v))))) := by show HO.setK t i v (fun t => t) = _; unfold HO.setK; rw [e]; exact hs _ v t _
  have h2 : ∀ t, HO.get t j = g' t := by intro t; unfold HO.get; rw [e']
  rw [h2, h2, hg', hg', h1]
  by_cases q4 : i / 4096 % 8 = j / 4096 % 8
  rotate_left
  · rw [geti_upd _ _ _ _ (by omega) (by omega), if_neg q4, if_neg (by intro e; subst e; exact q4 rfl)]
  rw [geti_upd _ _ _ _ (by omega) (by omega), if_pos q4]
  try rw [q4]
  by_cases q3 : i / 512 % 8 = j / 512 % 8
  rotate_left
  · rw [geti_upd _ _ _ _ (by omega) (by omega), if_neg q3, if_neg (by intro e; subst e; exact q3 rfl)]
  rw [geti_upd _ _ _ _ (by omega) (by omega), if_pos q3]
  try rw [q3]
  by_cases q2 : i / 64 % 8 = j / 64 % 8
  rotate_left
  · rw [geti_upd _ _ _ _ (by omega) (by omega), if_neg q2, if_neg (by intro e; subst e; exact q2 rfl)]
  rw [geti_upd _ _ _ _ (by omega) (by omega), if_pos q2]
  try rw [q2]
  by_cases q1 : i / 8 % 8 = j / 8 % 8
  rotate_left
  · rw [geti_upd _ _ _ _ (by omega) (by omega), if_neg q1, if_neg (by intro e; subst e; exact q1 rfl)]
  rw [geti_upd _ _ _ _ (by omega) (by omega), if_pos q1]
  try rw [q1]
  by_cases q0 : i % 8 = j % 8
  rotate_left
  · rw [geti_upd _ _ _ _ (by omega) (by omega), if_neg q0, if_neg (by intro e; subst e; exact q0 rfl)]
  rw [geti_upd _ _ _ _ (by omega) (by omega), if_pos q0]
  try rw [q0]
  rw [if_pos (by omega)]
theorem HOmig0_spec (i : Nat) (hi : i < 8) : ∃ s, HOmigF0 i = .mk s ∧ (∀ (F : HO0 → HO0) (t : N8 HO0) (k : N8 HO0 → Hp), s (fun x κ => κ (F x)) t k = k (t.upd i (F (t.geti i)))) := by
  rcases lt8 hi with rfl | rfl | rfl | rfl | rfl | rfl | rfl | rfl <;> exact ⟨_, rfl, fun _ _ _ => rfl⟩
theorem HOmig1_spec (i : Nat) (hi : i < 8) : ∃ s, HOmigF1 i = .mk s ∧ (∀ (F : HO1 → HO1) (t : N8 HO1) (k : N8 HO1 → Hp), s (fun x κ => κ (F x)) t k = k (t.upd i (F (t.geti i)))) := by
  rcases lt8 hi with rfl | rfl | rfl | rfl | rfl | rfl | rfl | rfl <;> exact ⟨_, rfl, fun _ _ _ => rfl⟩
theorem HOmig2_spec (i : Nat) (hi : i < 8) : ∃ s, HOmigF2 i = .mk s ∧ (∀ (F : HO2 → HO2) (t : N8 HO2) (k : N8 HO2 → Hp), s (fun x κ => κ (F x)) t k = k (t.upd i (F (t.geti i)))) := by
  rcases lt8 hi with rfl | rfl | rfl | rfl | rfl | rfl | rfl | rfl <;> exact ⟨_, rfl, fun _ _ _ => rfl⟩
theorem HOmig3_spec (i : Nat) (hi : i < 8) : ∃ s, HOmigF3 i = .mk s ∧ (∀ (F : HO3 → HO3) (t : N8 HO3) (k : N8 HO3 → Hp), s (fun x κ => κ (F x)) t k = k (t.upd i (F (t.geti i)))) := by
  rcases lt8 hi with rfl | rfl | rfl | rfl | rfl | rfl | rfl | rfl <;> exact ⟨_, rfl, fun _ _ _ => rfl⟩
theorem HOmig4_spec (i : Nat) (hi : i < 8) : ∃ s, HOmigF4 i = .mk s ∧ (∀ (F : HO4 → HO4) (t : N8 HO4) (k : N8 HO4 → Hp), s (fun x κ => κ (F x)) t k = k (t.upd i (F (t.geti i)))) := by
  rcases lt8 hi with rfl | rfl | rfl | rfl | rfl | rfl | rfl | rfl <;> exact ⟨_, rfl, fun _ _ _ => rfl⟩
theorem HOV_at (i : Nat) : ∃ s, HOV.at i = .mk s ∧ (∀ v t (k : HO5 → Hp), s v t k = k (t.upd (i / 4096 % 8) ((t.geti (i / 4096 % 8)).upd (i / 512 % 8) (((t.geti (i / 4096 % 8)).geti (i / 512 % 8)).upd (i / 64 % 8) ((((t.geti (i / 4096 % 8)).geti (i / 512 % 8)).geti (i / 64 % 8)).upd (i / 8 % 8) (((((t.geti (i / 4096 % 8)).geti (i / 512 % 8)).geti (i / 64 % 8)).geti (i / 8 % 8)).upd (i % 8) v)))))) := by
  obtain ⟨s0, e0, hs0⟩ := HOmig0_spec (i % 8) (by omega)
  obtain ⟨s1, e1, hs1⟩ := HOmig1_spec (i / 8 % 8) (by omega)
  obtain ⟨s2, e2, hs2⟩ := HOmig2_spec (i / 64 % 8) (by omega)
  obtain ⟨s3, e3, hs3⟩ := HOmig3_spec (i / 512 % 8) (by omega)
  obtain ⟨s4, e4, hs4⟩ := HOmig4_spec (i / 4096 % 8) (by omega)
  refine ⟨fun v t k => (s4 (s3 (s2 (s1 (s0 (fun (_ : HO0) (k : HO0 → Hp) => k v)))))) t k, ?_, ?_⟩
  · unfold HOV.at
    have f0 : HOmigF0 (Nat.mod i 8) = HOM0.mk s0 := e0
    have f1 : HOmigF1 (Nat.mod (Nat.div i 8) 8) = HOM1.mk s1 := e1
    have f2 : HOmigF2 (Nat.mod (Nat.div i 64) 8) = HOM2.mk s2 := e2
    have f3 : HOmigF3 (Nat.mod (Nat.div i 512) 8) = HOM3.mk s3 := e3
    have f4 : HOmigF4 (Nat.mod (Nat.div i 4096) 8) = HOM4.mk s4 := e4
    simp only [f0, f1, f2, f3, f4]
  · intro v t k
    have h0 : s0 (fun (_ : HO0) (k : HO0 → Hp) => k v) = (fun (x : HO1) (κ : HO1 → Hp) => κ (x.upd (i % 8) v)) := by funext x κ; exact hs0 (fun x => v) x κ
    have h1 : s1 (fun (x : HO1) (κ : HO1 → Hp) => κ (x.upd (i % 8) v)) = (fun (x : HO2) (κ : HO2 → Hp) => κ (x.upd (i / 8 % 8) ((x.geti (i / 8 % 8)).upd (i % 8) v))) := by funext x κ; exact hs1 (fun x => (x.upd (i % 8) v)) x κ
    have h2 : s2 (fun (x : HO2) (κ : HO2 → Hp) => κ (x.upd (i / 8 % 8) ((x.geti (i / 8 % 8)).upd (i % 8) v))) = (fun (x : HO3) (κ : HO3 → Hp) => κ (x.upd (i / 64 % 8) ((x.geti (i / 64 % 8)).upd (i / 8 % 8) (((x.geti (i / 64 % 8)).geti (i / 8 % 8)).upd (i % 8) v)))) := by funext x κ; exact hs2 (fun x => (x.upd (i / 8 % 8) ((x.geti (i / 8 % 8)).upd (i % 8) v))) x κ
    have h3 : s3 (fun (x : HO3) (κ : HO3 → Hp) => κ (x.upd (i / 64 % 8) ((x.geti (i / 64 % 8)).upd (i / 8 % 8) (((x.geti (i / 64 % 8)).geti (i / 8 % 8)).upd (i % 8) v)))) = (fun (x : HO4) (κ : HO4 → Hp) => κ (x.upd (i / 512 % 8) ((x.geti (i / 512 % 8)).upd (i / 64 % 8) (((x.geti (i / 512 % 8)).geti (i / 64 % 8)).upd (i / 8 % 8) ((((x.geti (i / 512 % 8)).geti (i / 64 % 8)).geti (i / 8 % 8)).upd (i % 8) v))))) := by funext x κ; exact hs3 (fun x => (x.upd (i / 64 % 8) ((x.geti (i / 64 % 8)).upd (i / 8 % 8) (((x.geti (i / 64 % 8)).geti (i / 8 % 8)).upd (i % 8) v)))) x κ
    show (s4 (s3 (s2 (s1 (s0 (fun (_ : HO0) (k : HO0 → Hp) => k v)))))) t k = _
    simp only [h0, h1, h2, h3]
    exact hs4 (fun x => (x.upd (i / 512 % 8) ((x.geti (i / 512 % 8)).upd (i / 64 % 8) (((x.geti (i / 512 % 8)).geti (i / 64 % 8)).upd (i / 8 % 8) ((((x.geti (i / 512 % 8)).geti (i / 64 % 8)).geti (i / 8 % 8)).upd (i % 8) v))))) t k
theorem HO.setM_eq (t : HO5) (i : Nat) (v : HO0) (k : HO5 → Hp) : HO.setM t i v k = k (HO.set t i v) := by
  obtain ⟨s, e, hs⟩ := HOV_at i
  obtain ⟨g', s', e', _, hs'⟩ := HOW_at i
  show _ = k (HO.setK t i v fun t => t)
  unfold HO.setM HO.setK; rw [e, e']; show s v t k = k (s' _ v t _); rw [hs, hs']
theorem HFdig0_spec (i : Nat) (hi : i < 8) : ∃ g s, HFdigF0 i = .mk g s ∧ (∀ t, g t = t.geti i) ∧ (∀ (γ : Type) (F : HF0 → HF0) (t : N8 HF0) (k : N8 HF0 → γ), s γ (fun x κ => κ (F x)) t k = k (t.upd i (F (t.geti i)))) := by
  rcases lt8 hi with rfl | rfl | rfl | rfl | rfl | rfl | rfl | rfl <;> exact ⟨_, _, rfl, fun _ => rfl, fun _ _ _ _ => rfl⟩
theorem HFdig1_spec (i : Nat) (hi : i < 8) : ∃ g s, HFdigF1 i = .mk g s ∧ (∀ t, g t = t.geti i) ∧ (∀ (γ : Type) (F : HF1 → HF1) (t : N8 HF1) (k : N8 HF1 → γ), s γ (fun x κ => κ (F x)) t k = k (t.upd i (F (t.geti i)))) := by
  rcases lt8 hi with rfl | rfl | rfl | rfl | rfl | rfl | rfl | rfl <;> exact ⟨_, _, rfl, fun _ => rfl, fun _ _ _ _ => rfl⟩
theorem HFdig2_spec (i : Nat) (hi : i < 8) : ∃ g s, HFdigF2 i = .mk g s ∧ (∀ t, g t = t.geti i) ∧ (∀ (γ : Type) (F : HF2 → HF2) (t : N8 HF2) (k : N8 HF2 → γ), s γ (fun x κ => κ (F x)) t k = k (t.upd i (F (t.geti i)))) := by
  rcases lt8 hi with rfl | rfl | rfl | rfl | rfl | rfl | rfl | rfl <;> exact ⟨_, _, rfl, fun _ => rfl, fun _ _ _ _ => rfl⟩
theorem HFdig3_spec (i : Nat) (hi : i < 8) : ∃ g s, HFdigF3 i = .mk g s ∧ (∀ t, g t = t.geti i) ∧ (∀ (γ : Type) (F : HF3 → HF3) (t : N8 HF3) (k : N8 HF3 → γ), s γ (fun x κ => κ (F x)) t k = k (t.upd i (F (t.geti i)))) := by
  rcases lt8 hi with rfl | rfl | rfl | rfl | rfl | rfl | rfl | rfl <;> exact ⟨_, _, rfl, fun _ => rfl, fun _ _ _ _ => rfl⟩
theorem HFdig4_spec (i : Nat) (hi : i < 8) : ∃ g s, HFdigF4 i = .mk g s ∧ (∀ t, g t = t.geti i) ∧ (∀ (γ : Type) (F : HF4 → HF4) (t : N8 HF4) (k : N8 HF4 → γ), s γ (fun x κ => κ (F x)) t k = k (t.upd i (F (t.geti i)))) := by
  rcases lt8 hi with rfl | rfl | rfl | rfl | rfl | rfl | rfl | rfl <;> exact ⟨_, _, rfl, fun _ => rfl, fun _ _ _ _ => rfl⟩
theorem HFW_at (i : Nat) : ∃ g s, HFW.at i = .mk g s ∧ (∀ t, g t = (((((t.geti (i / 4096 % 8)).geti (i / 512 % 8)).geti (i / 64 % 8)).geti (i / 8 % 8)).geti (i % 8))) ∧ (∀ (γ : Type) v t (k : HF5 → γ), s γ v t k = k (t.upd (i / 4096 % 8) ((t.geti (i / 4096 % 8)).upd (i / 512 % 8) (((t.geti (i / 4096 % 8)).geti (i / 512 % 8)).upd (i / 64 % 8) ((((t.geti (i / 4096 % 8)).geti (i / 512 % 8)).geti (i / 64 % 8)).upd (i / 8 % 8) (((((t.geti (i / 4096 % 8)).geti (i / 512 % 8)).geti (i / 64 % 8)).geti (i / 8 % 8)).upd (i % 8) v)))))) := by
  obtain ⟨g0, s0, e0, hg0, hs0⟩ := HFdig0_spec (i % 8) (by omega)
  obtain ⟨g1, s1, e1, hg1, hs1⟩ := HFdig1_spec (i / 8 % 8) (by omega)
  obtain ⟨g2, s2, e2, hg2, hs2⟩ := HFdig2_spec (i / 64 % 8) (by omega)
  obtain ⟨g3, s3, e3, hg3, hs3⟩ := HFdig3_spec (i / 512 % 8) (by omega)
  obtain ⟨g4, s4, e4, hg4, hs4⟩ := HFdig4_spec (i / 4096 % 8) (by omega)
  refine ⟨fun t => (g0 (g1 (g2 (g3 (g4 t))))), fun γ v t k => (s4 γ (s3 γ (s2 γ (s1 γ (s0 γ (fun (_ : HF0) (k : HF0 → γ) => k v)))))) t k, ?_, ?_, ?_⟩
  · unfold HFW.at
    have f0 : HFdigF0 (Nat.mod i 8) = HFD0.mk g0 s0 := e0
    have f1 : HFdigF1 (Nat.mod (Nat.div i 8) 8) = HFD1.mk g1 s1 := e1
    have f2 : HFdigF2 (Nat.mod (Nat.div i 64) 8) = HFD2.mk g2 s2 := e2
    have f3 : HFdigF3 (Nat.mod (Nat.div i 512) 8) = HFD3.mk g3 s3 := e3
    have f4 : HFdigF4 (Nat.mod (Nat.div i 4096) 8) = HFD4.mk g4 s4 := e4
    simp only [f0, f1, f2, f3, f4]
  · intro t; simp only [hg0, hg1, hg2, hg3, hg4]
  · intro γ v t k
    have h0 : s0 γ (fun (_ : HF0) (k : HF0 → γ) => k v) = (fun (x : HF1) (κ : HF1 → γ) => κ (x.upd (i % 8) v)) := by funext x κ; exact hs0 γ (fun x => v) x κ
    have h1 : s1 γ (fun (x : HF1) (κ : HF1 → γ) => κ (x.upd (i % 8) v)) = (fun (x : HF2) (κ : HF2 → γ) => κ (x.upd (i / 8 % 8) ((x.geti (i / 8 % 8)).upd (i % 8) v))) := by funext x κ; exact hs1 γ (fun x => (x.upd (i % 8) v)) x κ
    have h2 : s2 γ (fun (x : HF2) (κ : HF2 → γ) => κ (x.upd (i / 8 % 8) ((x.geti (i / 8 % 8)).upd (i % 8) v))) = (fun (x : HF3) (κ : HF3 → γ) => κ (x.upd (i / 64 % 8) ((x.geti (i / 64 % 8)).upd (i / 8 % 8) (((x.geti (i / 64 % 8)).geti (i / 8 % 8)).upd (i % 8) v)))) := by funext x κ; exact hs2 γ (fun x => (x.upd (i / 8 % 8) ((x.geti (i / 8 % 8)).upd (i % 8) v))) x κ
    have h3 : s3 γ (fun (x : HF3) (κ : HF3 → γ) => κ (x.upd (i / 64 % 8) ((x.geti (i / 64 % 8)).upd (i / 8 % 8) (((x.geti (i / 64 % 8)).geti (i / 8 % 8)).upd (i % 8) v)))) = (fun (x : HF4) (κ : HF4 → γ) => κ (x.upd (i / 512 % 8) ((x.geti (i / 512 % 8)).upd (i / 64 % 8) (((x.geti (i / 512 % 8)).geti (i / 64 % 8)).upd (i / 8 % 8) ((((x.geti (i / 512 % 8)).geti (i / 64 % 8)).geti (i / 8 % 8)).upd (i % 8) v))))) := by funext x κ; exact hs3 γ (fun x => (x.upd (i / 64 % 8) ((x.geti (i / 64 % 8)).upd (i / 8 % 8) (((x.geti (i / 64 % 8)).geti (i / 8 % 8)).upd (i % 8) v)))) x κ
    show (s4 γ (s3 γ (s2 γ (s1 γ (s0 γ (fun (_ : HF0) (k : HF0 → γ) => k v)))))) t k = _
    simp only [h0, h1, h2, h3]
    exact hs4 γ (fun x => (x.upd (i / 512 % 8) ((x.geti (i / 512 % 8)).upd (i / 64 % 8) (((x.geti (i / 512 % 8)).geti (i / 64 % 8)).upd (i / 8 % 8) ((((x.geti (i / 512 % 8)).geti (i / 64 % 8)).geti (i / 8 % 8)).upd (i % 8) v))))) t k
theorem HF.setK_eq {γ : Type} (t : HF5) (i : Nat) (v : HF0) (k : HF5 → γ) : HF.setK t i v k = k (HF.set t i v) := by
  obtain ⟨g, s, e, _, hs⟩ := HFW_at i
  have h1 : ∀ {γ : Type} (k : HF5 → γ), HF.setK t i v k = s γ v t k := by intro γ k; unfold HF.setK; rw [e]
  show _ = k (HF.setK t i v fun t => t)
  rw [h1, h1, hs, hs]
theorem HF.get_set (t : HF5) (i j : Nat) (v : HF0) (hi : i < 32768) (hj : j < 32768) : HF.get (HF.set t i v) j = if i = j then v else HF.get t j := by
  obtain ⟨g, s, e, hg, hs⟩ := HFW_at i
  obtain ⟨g', s', e', hg', hs'⟩ := HFW_at j
  have h1 : HF.set t i v = (t.upd (i / 4096 % 8) ((t.geti (i / 4096 % 8)).upd (i / 512 % 8) (((t.geti (i / 4096 % 8)).geti (i / 512 % 8)).upd (i / 64 % 8) ((((t.geti (i / 4096 % 8)).geti (i / 512 % 8)).geti (i / 64 % 8)).upd (i / 8 % 8) (((((t.geti (i / 4096 % 8)).geti (i / 512 % 8)).geti (i / 64 % 8)).geti (i / 8 % 8)).upd (i % 8) v))))) := by show HF.setK t i v (fun t => t) = _; unfold HF.setK; rw [e]; exact hs _ v t _
  have h2 : ∀ t, HF.get t j = g' t := by intro t; unfold HF.get; rw [e']
  rw [h2, h2, hg', hg', h1]
  by_cases q4 : i / 4096 % 8 = j / 4096 % 8
  rotate_left
  · rw [geti_upd _ _ _ _ (by omega) (by omega), if_neg q4, if_neg (by intro e; subst e; exact q4 rfl)]
  rw [geti_upd _ _ _ _ (by omega) (by omega), if_pos q4]
  try rw [q4]
  by_cases q3 : i / 512 % 8 = j / 512 % 8
  rotate_left
  · rw [geti_upd _ _ _ _ (by omega) (by omega), if_neg q3, if_neg (by intro e; subst e; exact q3 rfl)]
  rw [geti_upd _ _ _ _ (by omega) (by omega), if_pos q3]
  try rw [q3]
  by_cases q2 : i / 64 % 8 = j / 64 % 8
  rotate_left
  · rw [geti_upd _ _ _ _ (by omega) (by omega), if_neg q2, if_neg (by intro e; subst e; exact q2 rfl)]
  rw [geti_upd _ _ _ _ (by omega) (by omega), if_pos q2]
  try rw [q2]
  by_cases q1 : i / 8 % 8 = j / 8 % 8
  rotate_left
  · rw [geti_upd _ _ _ _ (by omega) (by omega), if_neg q1, if_neg (by intro e; subst e; exact q1 rfl)]
  rw [geti_upd _ _ _ _ (by omega) (by omega), if_pos q1]
  try rw [q1]
  by_cases q0 : i % 8 = j % 8
  rotate_left
  · rw [geti_upd _ _ _ _ (by omega) (by omega), if_neg q0, if_neg (by intro e; subst e; exact q0 rfl)]
  rw [geti_upd _ _ _ _ (by omega) (by omega), if_pos q0]
  try rw [q0]
  rw [if_pos (by omega)]
theorem HFmig0_spec (i : Nat) (hi : i < 8) : ∃ s, HFmigF0 i = .mk s ∧ (∀ (F : HF0 → HF0) (t : N8 HF0) (k : N8 HF0 → Hp), s (fun x κ => κ (F x)) t k = k (t.upd i (F (t.geti i)))) := by
  rcases lt8 hi with rfl | rfl | rfl | rfl | rfl | rfl | rfl | rfl <;> exact ⟨_, rfl, fun _ _ _ => rfl⟩
theorem HFmig1_spec (i : Nat) (hi : i < 8) : ∃ s, HFmigF1 i = .mk s ∧ (∀ (F : HF1 → HF1) (t : N8 HF1) (k : N8 HF1 → Hp), s (fun x κ => κ (F x)) t k = k (t.upd i (F (t.geti i)))) := by
  rcases lt8 hi with rfl | rfl | rfl | rfl | rfl | rfl | rfl | rfl <;> exact ⟨_, rfl, fun _ _ _ => rfl⟩
theorem HFmig2_spec (i : Nat) (hi : i < 8) : ∃ s, HFmigF2 i = .mk s ∧ (∀ (F : HF2 → HF2) (t : N8 HF2) (k : N8 HF2 → Hp), s (fun x κ => κ (F x)) t k = k (t.upd i (F (t.geti i)))) := by
  rcases lt8 hi with rfl | rfl | rfl | rfl | rfl | rfl | rfl | rfl <;> exact ⟨_, rfl, fun _ _ _ => rfl⟩
theorem HFmig3_spec (i : Nat) (hi : i < 8) : ∃ s, HFmigF3 i = .mk s ∧ (∀ (F : HF3 → HF3) (t : N8 HF3) (k : N8 HF3 → Hp), s (fun x κ => κ (F x)) t k = k (t.upd i (F (t.geti i)))) := by
  rcases lt8 hi with rfl | rfl | rfl | rfl | rfl | rfl | rfl | rfl <;> exact ⟨_, rfl, fun _ _ _ => rfl⟩
theorem HFmig4_spec (i : Nat) (hi : i < 8) : ∃ s, HFmigF4 i = .mk s ∧ (∀ (F : HF4 → HF4) (t : N8 HF4) (k : N8 HF4 → Hp), s (fun x κ => κ (F x)) t k = k (t.upd i (F (t.geti i)))) := by
  rcases lt8 hi with rfl | rfl | rfl | rfl | rfl | rfl | rfl | rfl <;> exact ⟨_, rfl, fun _ _ _ => rfl⟩
theorem HFV_at (i : Nat) : ∃ s, HFV.at i = .mk s ∧ (∀ v t (k : HF5 → Hp), s v t k = k (t.upd (i / 4096 % 8) ((t.geti (i / 4096 % 8)).upd (i / 512 % 8) (((t.geti (i / 4096 % 8)).geti (i / 512 % 8)).upd (i / 64 % 8) ((((t.geti (i / 4096 % 8)).geti (i / 512 % 8)).geti (i / 64 % 8)).upd (i / 8 % 8) (((((t.geti (i / 4096 % 8)).geti (i / 512 % 8)).geti (i / 64 % 8)).geti (i / 8 % 8)).upd (i % 8) v)))))) := by
  obtain ⟨s0, e0, hs0⟩ := HFmig0_spec (i % 8) (by omega)
  obtain ⟨s1, e1, hs1⟩ := HFmig1_spec (i / 8 % 8) (by omega)
  obtain ⟨s2, e2, hs2⟩ := HFmig2_spec (i / 64 % 8) (by omega)
  obtain ⟨s3, e3, hs3⟩ := HFmig3_spec (i / 512 % 8) (by omega)
  obtain ⟨s4, e4, hs4⟩ := HFmig4_spec (i / 4096 % 8) (by omega)
  refine ⟨fun v t k => (s4 (s3 (s2 (s1 (s0 (fun (_ : HF0) (k : HF0 → Hp) => k v)))))) t k, ?_, ?_⟩
  · unfold HFV.at
    have f0 : HFmigF0 (Nat.mod i 8) = HFM0.mk s0 := e0
    have f1 : HFmigF1 (Nat.mod (Nat.div i 8) 8) = HFM1.mk s1 := e1
    have f2 : HFmigF2 (Nat.mod (Nat.div i 64) 8) = HFM2.mk s2 := e2
    have f3 : HFmigF3 (Nat.mod (Nat.div i 512) 8) = HFM3.mk s3 := e3
    have f4 : HFmigF4 (Nat.mod (Nat.div i 4096) 8) = HFM4.mk s4 := e4
    simp only [f0, f1, f2, f3, f4]
  · intro v t k
    have h0 : s0 (fun (_ : HF0) (k : HF0 → Hp) => k v) = (fun (x : HF1) (κ : HF1 → Hp) => κ (x.upd (i % 8) v)) := by funext x κ; exact hs0 (fun x => v) x κ
    have h1 : s1 (fun (x : HF1) (κ : HF1 → Hp) => κ (x.upd (i % 8) v)) = (fun (x : HF2) (κ : HF2 → Hp) => κ (x.upd (i / 8 % 8) ((x.geti (i / 8 % 8)).upd (i % 8) v))) := by funext x κ; exact hs1 (fun x => (x.upd (i % 8) v)) x κ
    have h2 : s2 (fun (x : HF2) (κ : HF2 → Hp) => κ (x.upd (i / 8 % 8) ((x.geti (i / 8 % 8)).upd (i % 8) v))) = (fun (x : HF3) (κ : HF3 → Hp) => κ (x.upd (i / 64 % 8) ((x.geti (i / 64 % 8)).upd (i / 8 % 8) (((x.geti (i / 64 % 8)).geti (i / 8 % 8)).upd (i % 8) v)))) := by funext x κ; exact hs2 (fun x => (x.upd (i / 8 % 8) ((x.geti (i / 8 % 8)).upd (i % 8) v))) x κ
    have h3 : s3 (fun (x : HF3) (κ : HF3 → Hp) => κ (x.upd (i / 64 % 8) ((x.geti (i / 64 % 8)).upd (i / 8 % 8) (((x.geti (i / 64 % 8)).geti (i / 8 % 8)).upd (i % 8) v)))) = (fun (x : HF4) (κ : HF4 → Hp) => κ (x.upd (i / 512 % 8) ((x.geti (i / 512 % 8)).upd (i / 64 % 8) (((x.geti (i / 512 % 8)).geti (i / 64 % 8)).upd (i / 8 % 8) ((((x.geti (i / 512 % 8)).geti (i / 64 % 8)).geti (i / 8 % 8)).upd (i % 8) v))))) := by funext x κ; exact hs3 (fun x => (x.upd (i / 64 % 8) ((x.geti (i / 64 % 8)).upd (i / 8 % 8) (((x.geti (i / 64 % 8)).geti (i / 8 % 8)).upd (i % 8) v)))) x κ
    show (s4 (s3 (s2 (s1 (s0 (fun (_ : HF0) (k : HF0 → Hp) => k v)))))) t k = _
    simp only [h0, h1, h2, h3]
    exact hs4 (fun x => (x.upd (i / 512 % 8) ((x.geti (i / 512 % 8)).upd (i / 64 % 8) (((x.geti (i / 512 % 8)).geti (i / 64 % 8)).upd (i / 8 % 8) ((((x.geti (i / 512 % 8)).geti (i / 64 % 8)).geti (i / 8 % 8)).upd (i % 8) v))))) t k
theorem HF.setM_eq (t : HF5) (i : Nat) (v : HF0) (k : HF5 → Hp) : HF.setM t i v k = k (HF.set t i v) := by
  obtain ⟨s, e, hs⟩ := HFV_at i
  obtain ⟨g', s', e', _, hs'⟩ := HFW_at i
  show _ = k (HF.setK t i v fun t => t)
  unfold HF.setM HF.setK; rw [e, e']; show s v t k = k (s' _ v t _); rw [hs, hs']
theorem TMdig0_spec (i : Nat) (hi : i < 8) : ∃ g s, TMdigF0 i = .mk g s ∧ (∀ t, g t = t.geti i) ∧ (∀ (γ : Type) (F : TM0 → TM0) (t : N8 TM0) (k : N8 TM0 → γ), s γ (fun x κ => κ (F x)) t k = k (t.upd i (F (t.geti i)))) := by
  rcases lt8 hi with rfl | rfl | rfl | rfl | rfl | rfl | rfl | rfl <;> exact ⟨_, _, rfl, fun _ => rfl, fun _ _ _ _ => rfl⟩
theorem TMdig1_spec (i : Nat) (hi : i < 8) : ∃ g s, TMdigF1 i = .mk g s ∧ (∀ t, g t = t.geti i) ∧ (∀ (γ : Type) (F : TM1 → TM1) (t : N8 TM1) (k : N8 TM1 → γ), s γ (fun x κ => κ (F x)) t k = k (t.upd i (F (t.geti i)))) := by
  rcases lt8 hi with rfl | rfl | rfl | rfl | rfl | rfl | rfl | rfl <;> exact ⟨_, _, rfl, fun _ => rfl, fun _ _ _ _ => rfl⟩
theorem TMdig2_spec (i : Nat) (hi : i < 8) : ∃ g s, TMdigF2 i = .mk g s ∧ (∀ t, g t = t.geti i) ∧ (∀ (γ : Type) (F : TM2 → TM2) (t : N8 TM2) (k : N8 TM2 → γ), s γ (fun x κ => κ (F x)) t k = k (t.upd i (F (t.geti i)))) := by
  rcases lt8 hi with rfl | rfl | rfl | rfl | rfl | rfl | rfl | rfl <;> exact ⟨_, _, rfl, fun _ => rfl, fun _ _ _ _ => rfl⟩
theorem TMW_at (i : Nat) : ∃ g s, TMW.at i = .mk g s ∧ (∀ t, g t = (((t.geti (i / 64 % 8)).geti (i / 8 % 8)).geti (i % 8))) ∧ (∀ (γ : Type) v t (k : TM3 → γ), s γ v t k = k (t.upd (i / 64 % 8) ((t.geti (i / 64 % 8)).upd (i / 8 % 8) (((t.geti (i / 64 % 8)).geti (i / 8 % 8)).upd (i % 8) v)))) := by
  obtain ⟨g0, s0, e0, hg0, hs0⟩ := TMdig0_spec (i % 8) (by omega)
  obtain ⟨g1, s1, e1, hg1, hs1⟩ := TMdig1_spec (i / 8 % 8) (by omega)
  obtain ⟨g2, s2, e2, hg2, hs2⟩ := TMdig2_spec (i / 64 % 8) (by omega)
  refine ⟨fun t => (g0 (g1 (g2 t))), fun γ v t k => (s2 γ (s1 γ (s0 γ (fun (_ : TM0) (k : TM0 → γ) => k v)))) t k, ?_, ?_, ?_⟩
  · unfold TMW.at
    have f0 : TMdigF0 (Nat.mod i 8) = TMD0.mk g0 s0 := e0
    have f1 : TMdigF1 (Nat.mod (Nat.div i 8) 8) = TMD1.mk g1 s1 := e1
    have f2 : TMdigF2 (Nat.mod (Nat.div i 64) 8) = TMD2.mk g2 s2 := e2
    simp only [f0, f1, f2]
  · intro t; simp only [hg0, hg1, hg2]
  · intro γ v t k
    have h0 : s0 γ (fun (_ : TM0) (k : TM0 → γ) => k v) = (fun (x : TM1) (κ : TM1 → γ) => κ (x.upd (i % 8) v)) := by funext x κ; exact hs0 γ (fun x => v) x κ
    have h1 : s1 γ (fun (x : TM1) (κ : TM1 → γ) => κ (x.upd (i % 8) v)) = (fun (x : TM2) (κ : TM2 → γ) => κ (x.upd (i / 8 % 8) ((x.geti (i / 8 % 8)).upd (i % 8) v))) := by funext x κ; exact hs1 γ (fun x => (x.upd (i % 8) v)) x κ
    show (s2 γ (s1 γ (s0 γ (fun (_ : TM0) (k : TM0 → γ) => k v)))) t k = _
    simp only [h0, h1]
    exact hs2 γ (fun x => (x.upd (i / 8 % 8) ((x.geti (i / 8 % 8)).upd (i % 8) v))) t k
theorem TM.setK_eq {γ : Type} (t : TM3) (i : Nat) (v : TM0) (k : TM3 → γ) : TM.setK t i v k = k (TM.set t i v) := by
  obtain ⟨g, s, e, _, hs⟩ := TMW_at i
  have h1 : ∀ {γ : Type} (k : TM3 → γ), TM.setK t i v k = s γ v t k := by intro γ k; unfold TM.setK; rw [e]
  show _ = k (TM.setK t i v fun t => t)
  rw [h1, h1, hs, hs]
theorem TM.get_set (t : TM3) (i j : Nat) (v : TM0) (hi : i < 512) (hj : j < 512) : TM.get (TM.set t i v) j = if i = j then v else TM.get t j := by
  obtain ⟨g, s, e, hg, hs⟩ := TMW_at i
  obtain ⟨g', s', e', hg', hs'⟩ := TMW_at j
  have h1 : TM.set t i v = (t.upd (i / 64 % 8) ((t.geti (i / 64 % 8)).upd (i / 8 % 8) (((t.geti (i / 64 % 8)).geti (i / 8 % 8)).upd (i % 8) v))) := by show TM.setK t i v (fun t => t) = _; unfold TM.setK; rw [e]; exact hs _ v t _
  have h2 : ∀ t, TM.get t j = g' t := by intro t; unfold TM.get; rw [e']
  rw [h2, h2, hg', hg', h1]
  by_cases q2 : i / 64 % 8 = j / 64 % 8
  rotate_left
  · rw [geti_upd _ _ _ _ (by omega) (by omega), if_neg q2, if_neg (by intro e; subst e; exact q2 rfl)]
  rw [geti_upd _ _ _ _ (by omega) (by omega), if_pos q2]
  try rw [q2]
  by_cases q1 : i / 8 % 8 = j / 8 % 8
  rotate_left
  · rw [geti_upd _ _ _ _ (by omega) (by omega), if_neg q1, if_neg (by intro e; subst e; exact q1 rfl)]
  rw [geti_upd _ _ _ _ (by omega) (by omega), if_pos q1]
  try rw [q1]
  by_cases q0 : i % 8 = j % 8
  rotate_left
  · rw [geti_upd _ _ _ _ (by omega) (by omega), if_neg q0, if_neg (by intro e; subst e; exact q0 rfl)]
  rw [geti_upd _ _ _ _ (by omega) (by omega), if_pos q0]
  try rw [q0]
  rw [if_pos (by omega)]
theorem TMmig0_spec (i : Nat) (hi : i < 8) : ∃ s, TMmigF0 i = .mk s ∧ (∀ (F : TM0 → TM0) (t : N8 TM0) (k : N8 TM0 → RTH), s (fun x κ => κ (F x)) t k = k (t.upd i (F (t.geti i)))) := by
  rcases lt8 hi with rfl | rfl | rfl | rfl | rfl | rfl | rfl | rfl <;> exact ⟨_, rfl, fun _ _ _ => rfl⟩
theorem TMmig1_spec (i : Nat) (hi : i < 8) : ∃ s, TMmigF1 i = .mk s ∧ (∀ (F : TM1 → TM1) (t : N8 TM1) (k : N8 TM1 → RTH), s (fun x κ => κ (F x)) t k = k (t.upd i (F (t.geti i)))) := by
  rcases lt8 hi with rfl | rfl | rfl | rfl | rfl | rfl | rfl | rfl <;> exact ⟨_, rfl, fun _ _ _ => rfl⟩
theorem TMmig2_spec (i : Nat) (hi : i < 8) : ∃ s, TMmigF2 i = .mk s ∧ (∀ (F : TM2 → TM2) (t : N8 TM2) (k : N8 TM2 → RTH), s (fun x κ => κ (F x)) t k = k (t.upd i (F (t.geti i)))) := by
  rcases lt8 hi with rfl | rfl | rfl | rfl | rfl | rfl | rfl | rfl <;> exact ⟨_, rfl, fun _ _ _ => rfl⟩
theorem TMV_at (i : Nat) : ∃ s, TMV.at i = .mk s ∧ (∀ v t (k : TM3 → RTH), s v t k = k (t.upd (i / 64 % 8) ((t.geti (i / 64 % 8)).upd (i / 8 % 8) (((t.geti (i / 64 % 8)).geti (i / 8 % 8)).upd (i % 8) v)))) := by
  obtain ⟨s0, e0, hs0⟩ := TMmig0_spec (i % 8) (by omega)
  obtain ⟨s1, e1, hs1⟩ := TMmig1_spec (i / 8 % 8) (by omega)
  obtain ⟨s2, e2, hs2⟩ := TMmig2_spec (i / 64 % 8) (by omega)
  refine ⟨fun v t k => (s2 (s1 (s0 (fun (_ : TM0) (k : TM0 → RTH) => k v)))) t k, ?_, ?_⟩
  · unfold TMV.at
    have f0 : TMmigF0 (Nat.mod i 8) = TMM0.mk s0 := e0
    have f1 : TMmigF1 (Nat.mod (Nat.div i 8) 8) = TMM1.mk s1 := e1
    have f2 : TMmigF2 (Nat.mod (Nat.div i 64) 8) = TMM2.mk s2 := e2
    simp only [f0, f1, f2]
  · intro v t k
    have h0 : s0 (fun (_ : TM0) (k : TM0 → RTH) => k v) = (fun (x : TM1) (κ : TM1 → RTH) => κ (x.upd (i % 8) v)) := by funext x κ; exact hs0 (fun x => v) x κ
    have h1 : s1 (fun (x : TM1) (κ : TM1 → RTH) => κ (x.upd (i % 8) v)) = (fun (x : TM2) (κ : TM2 → RTH) => κ (x.upd (i / 8 % 8) ((x.geti (i / 8 % 8)).upd (i % 8) v))) := by funext x κ; exact hs1 (fun x => (x.upd (i % 8) v)) x κ
    show (s2 (s1 (s0 (fun (_ : TM0) (k : TM0 → RTH) => k v)))) t k = _
    simp only [h0, h1]
    exact hs2 (fun x => (x.upd (i / 8 % 8) ((x.geti (i / 8 % 8)).upd (i % 8) v))) t k
theorem TM.setM_eq (t : TM3) (i : Nat) (v : TM0) (k : TM3 → RTH) : TM.setM t i v k = k (TM.set t i v) := by
  obtain ⟨s, e, hs⟩ := TMV_at i
  obtain ⟨g', s', e', _, hs'⟩ := TMW_at i
  show _ = k (TM.setK t i v fun t => t)
  unfold TM.setM TM.setK; rw [e, e']; show s v t k = k (s' _ v t _); rw [hs, hs']
end Go.Proofs.YtkdlekonfjeidaaGreat.Eng
