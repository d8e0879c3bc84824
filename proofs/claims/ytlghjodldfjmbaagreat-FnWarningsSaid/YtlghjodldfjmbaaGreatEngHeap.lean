/-
  Laws of the machine's lists and finite maps.
-/
import Derived.Test.YtlghjodldfjmbaaGreatEngMach
namespace Go.Proofs.YtlghjodldfjmbaaGreat.Eng
set_option linter.unusedVariables false

@[simp] theorem oc_none {α β : Type} (n : β) (k : α → β) : oc none n k = n := rfl
@[simp] theorem oc_some {α β : Type} (a : α) (n : β) (k : α → β) : oc (some a) n k = k a := rfl
@[simp] theorem bc_true {β : Type} (t f : β) : bc true t f = t := rfl
@[simp] theorem bc_false {β : Type} (t f : β) : bc false t f = f := rfl
@[simp] theorem pc_mk {α γ β : Type} (a : α) (c : γ) (k : α → γ → β) : pc (a, c) k = k a c := rfl
theorem pc_eq {α γ β : Type} (x : α × γ) (k : α → γ → β) : pc x k = k x.1 x.2 := rfl
@[simp] theorem force_eq {α : Type} (n : Nat) (k : Nat → α) : force n k = k n := by cases n <;> rfl
@[simp] theorem forceI_eq {α : Type} (n : Int) (k : Int → α) : forceI n k = k n := by cases n with
  | ofNat m => exact force_eq m fun m => k (.ofNat m)
  | negSucc m => exact force_eq m fun m => k (.negSucc m)
@[simp] theorem consS_eq {α : Type} (a : α) (t : List α) : consS a t = a :: t := by cases t <;> rfl
@[simp] theorem lset_eq {α : Type} (l : List α) : ∀ (i : Nat) (x : α), lset l i x = l.set i x := by
  induction l with
  | nil => intro i x; rfl
  | cons a l ih =>
    intro i x
    cases i with
    | zero => rfl
    | succ i => show consS a (lset l i x) = _; rw [ih, consS_eq]; rfl
@[simp] theorem lapp_eq {α : Type} (l m : List α) : lapp l m = l ++ m := by
  induction l with
  | nil => rfl
  | cons a l ih => show consS a (lapp l m) = _; rw [ih, consS_eq]; rfl
@[simp] theorem ltake_eq {α : Type} (n : Nat) : ∀ l : List α, ltake n l = l.take n := by
  induction n with
  | zero => intro l; simp only [List.take_zero]; rfl
  | succ n ih =>
    intro l
    cases l with
    | nil => rfl
    | cons a l => show consS a (ltake n l) = _; rw [ih, consS_eq]; rfl
@[simp] theorem ldrop_eq {α : Type} (n : Nat) : ∀ l : List α, ldrop n l = l.drop n := by
  induction n with
  | zero => intro l; rfl
  | succ n ih =>
    intro l
    cases l with
    | nil => rfl
    | cons a l => exact ih l
@[simp] theorem llen_eq {α : Type} (l : List α) : llen l = l.length := by
  induction l with
  | nil => rfl
  | cons a l ih => show Nat.succ (llen l) = _; rw [ih]; rfl
@[simp] theorem lall_eq {α : Type} (f : α → Bool) (l : List α) : lall f l = l.all f := by
  induction l with
  | nil => rfl
  | cons a l ih =>
    show bc (f a) (lall f l) false = _
    rw [ih, List.all_cons]
    cases f a <;> rfl
theorem leqN_iff (l : List Nat) : ∀ m, leqN l m = true ↔ l = m := by
  induction l with
  | nil => intro m; cases m <;> simp [leqN]
  | cons a l ih =>
    intro m
    cases m with
    | nil => simp [leqN]
    | cons b m =>
      show bc (Nat.beq a b) (leqN l m) false = true ↔ _
      cases h : Nat.beq a b with
      | true => simp [ih, Nat.eq_of_beq_eq_true h]
      | false => simp [Nat.ne_of_beq_eq_false h]
theorem leqN_eq (l m : List Nat) : leqN l m = decide (l = m) := by
  rw [Bool.eq_iff_iff, leqN_iff]; simp
theorem lmapO_nil {α β : Type} (f : α → Option β) : lmapO f [] = some [] := rfl
theorem lmapO_cons {α β : Type} (f : α → Option β) (a : α) (l : List α) : lmapO f (a :: l) = oc (f a) none fun b => oc (lmapO f l) none fun m => some (b :: m) := rfl
theorem lput_nil {α : Type} (l : List α) (i : Nat) : lput [] l i = l := rfl
theorem lput_cons {α : Type} (x : α) (xs l : List α) (i : Nat) : lput (x :: xs) l i = lput xs (l.set i x) (i + 1) := by
  show lput xs (lset l i x) (Nat.succ i) = _; rw [lset_eq]
theorem lput_length {α : Type} (xs : List α) : ∀ (l : List α) (i : Nat), (lput xs l i).length = l.length := by
  induction xs with
  | nil => intro l i; rfl
  | cons x xs ih => intro l i; rw [lput_cons, ih, List.length_set]
theorem lput_get {α : Type} (xs : List α) : ∀ (l : List α) (i j : Nat), i + xs.length ≤ l.length → (lput xs l i)[j]? = if i ≤ j ∧ j < i + xs.length then xs[j - i]? else l[j]? := by
  induction xs with
  | nil => intro l i j _; rw [lput_nil, if_neg (by simp only [List.length_nil]; omega)]
  | cons x xs ih =>
    intro l i j h
    simp only [List.length_cons] at h
    rw [lput_cons, ih _ _ _ (by rw [List.length_set]; omega)]
    by_cases h1 : i + 1 ≤ j ∧ j < i + 1 + xs.length
    · rw [if_pos h1, if_pos (by simp only [List.length_cons]; omega), show j - i = (j - (i + 1)) + 1 by omega, List.getElem?_cons_succ]
    · rw [if_neg h1]
      by_cases h2 : j = i
      · subst h2
        rw [if_pos (by simp only [List.length_cons]; omega)]
        rw [List.getElem?_set_self (by omega)]
        simp
      · rw [if_neg (by simp only [List.length_cons]; omega), List.getElem?_set_ne (by omega)]
theorem rep_zero {α : Type} (l : List α) : rep 0 l = [] := rfl
theorem rep_succ {α : Type} (n : Nat) (l : List α) : rep (n + 1) l = l ++ rep n l := by show lapp l (rep n l) = _; rw [lapp_eq]

/-! ### Finite maps -/
def N8.geti {β : Type} (t : N8 β) (i : Nat) : β := match i with
  | 0 => t.c0 | 1 => t.c1 | 2 => t.c2 | 3 => t.c3 | 4 => t.c4 | 5 => t.c5 | 6 => t.c6 | _ => t.c7
def N8.upd {β : Type} (t : N8 β) (i : Nat) (x : β) : N8 β := match i with
  | 0 => { t with c0 := x } | 1 => { t with c1 := x } | 2 => { t with c2 := x } | 3 => { t with c3 := x } | 4 => { t with c4 := x } | 5 => { t with c5 := x } | 6 => { t with c6 := x } | _ => { t with c7 := x }
theorem lt8 {i : Nat} (h : i < 8) : i = 0 ∨ i = 1 ∨ i = 2 ∨ i = 3 ∨ i = 4 ∨ i = 5 ∨ i = 6 ∨ i = 7 := by omega
theorem geti_upd {β : Type} (t : N8 β) (i j : Nat) (x : β) (hi : i < 8) (hj : j < 8) : (t.upd i x).geti j = if i = j then x else t.geti j := by
  rcases lt8 hi with rfl | rfl | rfl | rfl | rfl | rfl | rfl | rfl <;> rcases lt8 hj with rfl | rfl | rfl | rfl | rfl | rfl | rfl | rfl <;> rfl
theorem dig_spec (i : Nat) (hi : i < 8) : ∃ (g : (β : Type) → N8 β → β) (s : (β γ : Type) → (β → (β → γ) → γ) → N8 β → (N8 β → γ) → γ), dig i = .mk g s ∧ (∀ β t, g β t = t.geti i) ∧
    (∀ (β γ : Type) (F : β → β) (t : N8 β) (k : N8 β → γ), s β γ (fun x κ => κ (F x)) t k = k (t.upd i (F (t.geti i)))) := by
  rcases lt8 hi with rfl | rfl | rfl | rfl | rfl | rfl | rfl | rfl <;> exact ⟨_, _, rfl, fun _ _ => rfl, fun _ _ _ _ _ => rfl⟩

theorem HOW_at (i : Nat) : ∃ g s, HOW.at i = .mk g s ∧ (∀ t, g t = (((((t.geti (i / 4096 % 8)).geti (i / 512 % 8)).geti (i / 64 % 8)).geti (i / 8 % 8)).geti (i % 8))) ∧ (∀ v t, s v t = (t.upd (i / 4096 % 8) ((t.geti (i / 4096 % 8)).upd (i / 512 % 8) (((t.geti (i / 4096 % 8)).geti (i / 512 % 8)).upd (i / 64 % 8) ((((t.geti (i / 4096 % 8)).geti (i / 512 % 8)).geti (i / 64 % 8)).upd (i / 8 % 8) (((((t.geti (i / 4096 % 8)).geti (i / 512 % 8)).geti (i / 64 % 8)).geti (i / 8 % 8)).upd (i % 8) v)))))) := by
  obtain ⟨g0, s0, e0, hg0, hs0⟩ := dig_spec (i % 8) (by omega)
  obtain ⟨g1, s1, e1, hg1, hs1⟩ := dig_spec (i / 8 % 8) (by omega)
  obtain ⟨g2, s2, e2, hg2, hs2⟩ := dig_spec (i / 64 % 8) (by omega)
  obtain ⟨g3, s3, e3, hg3, hs3⟩ := dig_spec (i / 512 % 8) (by omega)
  obtain ⟨g4, s4, e4, hg4, hs4⟩ := dig_spec (i / 4096 % 8) (by omega)
  refine ⟨fun t => (g0 HO0 (g1 HO1 (g2 HO2 (g3 HO3 (g4 HO4 t))))), fun v t => (s4 HO4 HO5 (s3 HO3 HO5 (s2 HO2 HO5 (s1 HO1 HO5 (s0 HO0 HO5 (fun (_ : HO0) (k : HO0 → HO5) => k v)))))) t fun t => t, ?_, ?_, ?_⟩
  · unfold HOW.at
    have f0 : dig (Nat.mod i 8) = DG.mk g0 s0 := e0
    have f1 : dig (Nat.mod (Nat.div i 8) 8) = DG.mk g1 s1 := e1
    have f2 : dig (Nat.mod (Nat.div i 64) 8) = DG.mk g2 s2 := e2
    have f3 : dig (Nat.mod (Nat.div i 512) 8) = DG.mk g3 s3 := e3
    have f4 : dig (Nat.mod (Nat.div i 4096) 8) = DG.mk g4 s4 := e4
    simp only [f0, f1, f2, f3, f4]
  · intro t; simp only [hg0, hg1, hg2, hg3, hg4]
  · intro v t
    have h0 : s0 HO0 HO5 (fun (_ : HO0) (k : HO0 → HO5) => k v) = (fun (x : HO1) (κ : HO1 → HO5) => κ (x.upd (i % 8) v)) := by funext x κ; exact hs0 HO0 HO5 (fun x => v) x κ
    have h1 : s1 HO1 HO5 (fun (x : HO1) (κ : HO1 → HO5) => κ (x.upd (i % 8) v)) = (fun (x : HO2) (κ : HO2 → HO5) => κ (x.upd (i / 8 % 8) ((x.geti (i / 8 % 8)).upd (i % 8) v))) := by funext x κ; exact hs1 HO1 HO5 (fun x => (x.upd (i % 8) v)) x κ
    have h2 : s2 HO2 HO5 (fun (x : HO2) (κ : HO2 → HO5) => κ (x.upd (i / 8 % 8) ((x.geti (i / 8 % 8)).upd (i % 8) v))) = (fun (x : HO3) (κ : HO3 → HO5) => κ (x.upd (i / 64 % 8) ((x.geti (i / 64 % 8)).upd (i / 8 % 8) (((x.geti (i / 64 % 8)).geti (i / 8 % 8)).upd (i % 8) v)))) := by funext x κ; exact hs2 HO2 HO5 (fun x => (x.upd (i / 8 % 8) ((x.geti (i / 8 % 8)).upd (i % 8) v))) x κ
    have h3 : s3 HO3 HO5 (fun (x : HO3) (κ : HO3 → HO5) => κ (x.upd (i / 64 % 8) ((x.geti (i / 64 % 8)).upd (i / 8 % 8) (((x.geti (i / 64 % 8)).geti (i / 8 % 8)).upd (i % 8) v)))) = (fun (x : HO4) (κ : HO4 → HO5) => κ (x.upd (i / 512 % 8) ((x.geti (i / 512 % 8)).upd (i / 64 % 8) (((x.geti (i / 512 % 8)).geti (i / 64 % 8)).upd (i / 8 % 8) ((((x.geti (i / 512 % 8)).geti (i / 64 % 8)).geti (i / 8 % 8)).upd (i % 8) v))))) := by funext x κ; exact hs3 HO3 HO5 (fun x => (x.upd (i / 64 % 8) ((x.geti (i / 64 % 8)).upd (i / 8 % 8) (((x.geti (i / 64 % 8)).geti (i / 8 % 8)).upd (i % 8) v)))) x κ
    simp only [h0, h1, h2, h3]
    exact hs4 HO4 HO5 (fun x => (x.upd (i / 512 % 8) ((x.geti (i / 512 % 8)).upd (i / 64 % 8) (((x.geti (i / 512 % 8)).geti (i / 64 % 8)).upd (i / 8 % 8) ((((x.geti (i / 512 % 8)).geti (i / 64 % 8)).geti (i / 8 % 8)).upd (i % 8) v))))) t _
theorem HO.get_set (t : HO5) (i j : Nat) (v : HO0) (hi : i < 32768) (hj : j < 32768) : HO.get (HO.set t i v) j = if i = j then v else HO.get t j := by
  obtain ⟨g, s, e, hg, hs⟩ := HOW_at i
  obtain ⟨g', s', e', hg', hs'⟩ := HOW_at j
  have h1 : HO.set t i v = s v t := by unfold HO.set; rw [e]
  have h2 : ∀ t, HO.get t j = g' t := by intro t; unfold HO.get; rw [e']
  rw [h1, h2, h2, hg', hg', hs]
  by_cases q4 : i / 4096 % 8 = j / 4096 % 8
  rotate_left
  · rw [geti_upd _ _ _ _ (by omega) (by omega), if_neg q4, if_neg (by intro e; subst e; exact q4 rfl)]
  rw [geti_upd _ _ _ _ (by omega) (by omega), if_pos q4]
  try rw [q4]
  by_cases q3 : i / 512 % 8 = j / 512 % 8
  rotate_left
  · rw [geti_upd _ _ _ _ (by omega) (by omega), if_neg q3, if_neg (by intro e; subst e; exact q3 rfl)]
  rw [geti_upd _ _ _ _ (by omega) (by omega), if_pos q3]
  try rw [q3]
  by_cases q2 : i / 64 % 8 = j / 64 % 8
  rotate_left
  · rw [geti_upd _ _ _ _ (by omega) (by omega), if_neg q2, if_neg (by intro e; subst e; exact q2 rfl)]
  rw [geti_upd _ _ _ _ (by omega) (by omega), if_pos q2]
  try rw [q2]
  by_cases q1 : i / 8 % 8 = j / 8 % 8
  rotate_left
  · rw [geti_upd _ _ _ _ (by omega) (by omega), if_neg q1, if_neg (by intro e; subst e; exact q1 rfl)]
  rw [geti_upd _ _ _ _ (by omega) (by omega), if_pos q1]
  try rw [q1]
  by_cases q0 : i % 8 = j % 8
  rotate_left
  · rw [geti_upd _ _ _ _ (by omega) (by omega), if_neg q0, if_neg (by intro e; subst e; exact q0 rfl)]
  rw [geti_upd _ _ _ _ (by omega) (by omega), if_pos q0]
  try rw [q0]
  rw [if_pos (by omega)]
theorem HO.forced_eq {γ : Type} (t : HO5) (k : HO5 → γ) : HO.forced t k = k t := rfl
theorem HFW_at (i : Nat) : ∃ g s, HFW.at i = .mk g s ∧ (∀ t, g t = (((((t.geti (i / 4096 % 8)).geti (i / 512 % 8)).geti (i / 64 % 8)).geti (i / 8 % 8)).geti (i % 8))) ∧ (∀ v t, s v t = (t.upd (i / 4096 % 8) ((t.geti (i / 4096 % 8)).upd (i / 512 % 8) (((t.geti (i / 4096 % 8)).geti (i / 512 % 8)).upd (i / 64 % 8) ((((t.geti (i / 4096 % 8)).geti (i / 512 % 8)).geti (i / 64 % 8)).upd (i / 8 % 8) (((((t.geti (i / 4096 % 8)).geti (i / 512 % 8)).geti (i / 64 % 8)).geti (i / 8 % 8)).upd (i % 8) v)))))) := by
  obtain ⟨g0, s0, e0, hg0, hs0⟩ := dig_spec (i % 8) (by omega)
  obtain ⟨g1, s1, e1, hg1, hs1⟩ := dig_spec (i / 8 % 8) (by omega)
  obtain ⟨g2, s2, e2, hg2, hs2⟩ := dig_spec (i / 64 % 8) (by omega)
  obtain ⟨g3, s3, e3, hg3, hs3⟩ := dig_spec (i / 512 % 8) (by omega)
  obtain ⟨g4, s4, e4, hg4, hs4⟩ := dig_spec (i / 4096 % 8) (by omega)
  refine ⟨fun t => (g0 HF0 (g1 HF1 (g2 HF2 (g3 HF3 (g4 HF4 t))))), fun v t => (s4 HF4 HF5 (s3 HF3 HF5 (s2 HF2 HF5 (s1 HF1 HF5 (s0 HF0 HF5 (fun (_ : HF0) (k : HF0 → HF5) => k v)))))) t fun t => t, ?_, ?_, ?_⟩
  · unfold HFW.at
    have f0 : dig (Nat.mod i 8) = DG.mk g0 s0 := e0
    have f1 : dig (Nat.mod (Nat.div i 8) 8) = DG.mk g1 s1 := e1
    have f2 : dig (Nat.mod (Nat.div i 64) 8) = DG.mk g2 s2 := e2
    have f3 : dig (Nat.mod (Nat.div i 512) 8) = DG.mk g3 s3 := e3
    have f4 : dig (Nat.mod (Nat.div i 4096) 8) = DG.mk g4 s4 := e4
    simp only [f0, f1, f2, f3, f4]
  · intro t; simp only [hg0, hg1, hg2, hg3, hg4]
  · intro v t
    have h0 : s0 HF0 HF5 (fun (_ : HF0) (k : HF0 → HF5) => k v) = (fun (x : HF1) (κ : HF1 → HF5) => κ (x.upd (i % 8) v)) := by funext x κ; exact hs0 HF0 HF5 (fun x => v) x κ
    have h1 : s1 HF1 HF5 (fun (x : HF1) (κ : HF1 → HF5) => κ (x.upd (i % 8) v)) = (fun (x : HF2) (κ : HF2 → HF5) => κ (x.upd (i / 8 % 8) ((x.geti (i / 8 % 8)).upd (i % 8) v))) := by funext x κ; exact hs1 HF1 HF5 (fun x => (x.upd (i % 8) v)) x κ
    have h2 : s2 HF2 HF5 (fun (x : HF2) (κ : HF2 → HF5) => κ (x.upd (i / 8 % 8) ((x.geti (i / 8 % 8)).upd (i % 8) v))) = (fun (x : HF3) (κ : HF3 → HF5) => κ (x.upd (i / 64 % 8) ((x.geti (i / 64 % 8)).upd (i / 8 % 8) (((x.geti (i / 64 % 8)).geti (i / 8 % 8)).upd (i % 8) v)))) := by funext x κ; exact hs2 HF2 HF5 (fun x => (x.upd (i / 8 % 8) ((x.geti (i / 8 % 8)).upd (i % 8) v))) x κ
    have h3 : s3 HF3 HF5 (fun (x : HF3) (κ : HF3 → HF5) => κ (x.upd (i / 64 % 8) ((x.geti (i / 64 % 8)).upd (i / 8 % 8) (((x.geti (i / 64 % 8)).geti (i / 8 % 8)).upd (i % 8) v)))) = (fun (x : HF4) (κ : HF4 → HF5) => κ (x.upd (i / 512 % 8) ((x.geti (i / 512 % 8)).upd (i / 64 % 8) (((x.geti (i / 512 % 8)).geti (i / 64 % 8)).upd (i / 8 % 8) ((((x.geti (i / 512 % 8)).geti (i / 64 % 8)).geti (i / 8 % 8)).upd (i % 8) v))))) := by funext x κ; exact hs3 HF3 HF5 (fun x => (x.upd (i / 64 % 8) ((x.geti (i / 64 % 8)).upd (i / 8 % 8) (((x.geti (i / 64 % 8)).geti (i / 8 % 8)).upd (i % 8) v)))) x κ
    simp only [h0, h1, h2, h3]
    exact hs4 HF4 HF5 (fun x => (x.upd (i / 512 % 8) ((x.geti (i / 512 % 8)).upd (i / 64 % 8) (((x.geti (i / 512 % 8)).geti (i / 64 % 8)).upd (i / 8 % 8) ((((x.geti (i / 512 % 8)).geti (i / 64 % 8)).geti (i / 8 % 8)).upd (i % 8) v))))) t _
theorem HF.get_set (t : HF5) (i j : Nat) (v : HF0) (hi : i < 32768) (hj : j < 32768) : HF.get (HF.set t i v) j = if i = j then v else HF.get t j := by
  obtain ⟨g, s, e, hg, hs⟩ := HFW_at i
  obtain ⟨g', s', e', hg', hs'⟩ := HFW_at j
  have h1 : HF.set t i v = s v t := by unfold HF.set; rw [e]
  have h2 : ∀ t, HF.get t j = g' t := by intro t; unfold HF.get; rw [e']
  rw [h1, h2, h2, hg', hg', hs]
  by_cases q4 : i / 4096 % 8 = j / 4096 % 8
  rotate_left
  · rw [geti_upd _ _ _ _ (by omega) (by omega), if_neg q4, if_neg (by intro e; subst e; exact q4 rfl)]
  rw [geti_upd _ _ _ _ (by omega) (by omega), if_pos q4]
  try rw [q4]
  by_cases q3 : i / 512 % 8 = j / 512 % 8
  rotate_left
  · rw [geti_upd _ _ _ _ (by omega) (by omega), if_neg q3, if_neg (by intro e; subst e; exact q3 rfl)]
  rw [geti_upd _ _ _ _ (by omega) (by omega), if_pos q3]
  try rw [q3]
  by_cases q2 : i / 64 % 8 = j / 64 % 8
  rotate_left
  · rw [geti_upd _ _ _ _ (by omega) (by omega), if_neg q2, if_neg (by intro e; subst e; exact q2 rfl)]
  rw [geti_upd _ _ _ _ (by omega) (by omega), if_pos q2]
  try rw [q2]
  by_cases q1 : i / 8 % 8 = j / 8 % 8
  rotate_left
  · rw [geti_upd _ _ _ _ (by omega) (by omega), if_neg q1, if_neg (by intro e; subst e; exact q1 rfl)]
  rw [geti_upd _ _ _ _ (by omega) (by omega), if_pos q1]
  try rw [q1]
  by_cases q0 : i % 8 = j % 8
  rotate_left
  · rw [geti_upd _ _ _ _ (by omega) (by omega), if_neg q0, if_neg (by intro e; subst e; exact q0 rfl)]
  rw [geti_upd _ _ _ _ (by omega) (by omega), if_pos q0]
  try rw [q0]
  rw [if_pos (by omega)]
theorem HF.forced_eq {γ : Type} (t : HF5) (k : HF5 → γ) : HF.forced t k = k t := rfl
theorem TMW_at (i : Nat) : ∃ g s, TMW.at i = .mk g s ∧ (∀ t, g t = (((t.geti (i / 64 % 8)).geti (i / 8 % 8)).geti (i % 8))) ∧ (∀ v t, s v t = (t.upd (i / 64 % 8) ((t.geti (i / 64 % 8)).upd (i / 8 % 8) (((t.geti (i / 64 % 8)).geti (i / 8 % 8)).upd (i % 8) v)))) := by
  obtain ⟨g0, s0, e0, hg0, hs0⟩ := dig_spec (i % 8) (by omega)
  obtain ⟨g1, s1, e1, hg1, hs1⟩ := dig_spec (i / 8 % 8) (by omega)
  obtain ⟨g2, s2, e2, hg2, hs2⟩ := dig_spec (i / 64 % 8) (by omega)
  refine ⟨fun t => (g0 TM0 (g1 TM1 (g2 TM2 t))), fun v t => (s2 TM2 TM3 (s1 TM1 TM3 (s0 TM0 TM3 (fun (_ : TM0) (k : TM0 → TM3) => k v)))) t fun t => t, ?_, ?_, ?_⟩
  · unfold TMW.at
    have f0 : dig (Nat.mod i 8) = DG.mk g0 s0 := e0
    have f1 : dig (Nat.mod (Nat.div i 8) 8) = DG.mk g1 s1 := e1
    have f2 : dig (Nat.mod (Nat.div i 64) 8) = DG.mk g2 s2 := e2
    simp only [f0, f1, f2]
  · intro t; simp only [hg0, hg1, hg2]
  · intro v t
    have h0 : s0 TM0 TM3 (fun (_ : TM0) (k : TM0 → TM3) => k v) = (fun (x : TM1) (κ : TM1 → TM3) => κ (x.upd (i % 8) v)) := by funext x κ; exact hs0 TM0 TM3 (fun x => v) x κ
    have h1 : s1 TM1 TM3 (fun (x : TM1) (κ : TM1 → TM3) => κ (x.upd (i % 8) v)) = (fun (x : TM2) (κ : TM2 → TM3) => κ (x.upd (i / 8 % 8) ((x.geti (i / 8 % 8)).upd (i % 8) v))) := by funext x κ; exact hs1 TM1 TM3 (fun x => (x.upd (i % 8) v)) x κ
    simp only [h0, h1]
    exact hs2 TM2 TM3 (fun x => (x.upd (i / 8 % 8) ((x.geti (i / 8 % 8)).upd (i % 8) v))) t _
theorem TM.get_set (t : TM3) (i j : Nat) (v : TM0) (hi : i < 512) (hj : j < 512) : TM.get (TM.set t i v) j = if i = j then v else TM.get t j := by
  obtain ⟨g, s, e, hg, hs⟩ := TMW_at i
  obtain ⟨g', s', e', hg', hs'⟩ := TMW_at j
  have h1 : TM.set t i v = s v t := by unfold TM.set; rw [e]
  have h2 : ∀ t, TM.get t j = g' t := by intro t; unfold TM.get; rw [e']
  rw [h1, h2, h2, hg', hg', hs]
  by_cases q2 : i / 64 % 8 = j / 64 % 8
  rotate_left
  · rw [geti_upd _ _ _ _ (by omega) (by omega), if_neg q2, if_neg (by intro e; subst e; exact q2 rfl)]
  rw [geti_upd _ _ _ _ (by omega) (by omega), if_pos q2]
  try rw [q2]
  by_cases q1 : i / 8 % 8 = j / 8 % 8
  rotate_left
  · rw [geti_upd _ _ _ _ (by omega) (by omega), if_neg q1, if_neg (by intro e; subst e; exact q1 rfl)]
  rw [geti_upd _ _ _ _ (by omega) (by omega), if_pos q1]
  try rw [q1]
  by_cases q0 : i % 8 = j % 8
  rotate_left
  · rw [geti_upd _ _ _ _ (by omega) (by omega), if_neg q0, if_neg (by intro e; subst e; exact q0 rfl)]
  rw [geti_upd _ _ _ _ (by omega) (by omega), if_pos q0]
  try rw [q0]
  rw [if_pos (by omega)]
theorem TM.forced_eq {γ : Type} (t : TM3) (k : TM3 → γ) : TM.forced t k = k t := rfl
end Go.Proofs.YtlghjodldfjmbaaGreat.Eng
