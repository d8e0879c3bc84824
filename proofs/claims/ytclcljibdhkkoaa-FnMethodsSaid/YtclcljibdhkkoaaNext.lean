/-
  Contracts: NextMethods, of the program and of the reference.
-/
import Derived.Test.YtclcljibdhkkoaaMethods
namespace Go.Proofs.Ytclcljibdhkkoaa
open Go.ChangeShapes Go.WideShapes Go.ChangeAt Go.RowKit Go.Deep

/-- the names behind the method's -/
def nextB (g : List UInt8) (l : List (List UInt8)) (m : List UInt8) : List (List UInt8) × Bool :=
  if 0 ≤ findB (methB g l) m then ((methB g l).drop ((findB (methB g l) m).toNat + 1), true) else ([], false)

theorem own_slice {w : World} {base n : Nat} {e : TypeId} {size : Nat} {v : Value} {xs : List Value} (h : w.ownsRow base e size v n xs) (hn : 0 < n) : ∃ g cap, v = .slice (some ⟨g, 0, none⟩) n cap ∧ base ≤ g ∧ g < w.heap.size ∧ n ≤ cap ∧ cap ≤ maxLen := by
  rcases h.2 with ⟨_, h0⟩ | ⟨g, cap, cur, rfl, hb, hg, h1, h2, _⟩
  · omega
  · exact ⟨g, cap, rfl, hb, (Array.getElem?_eq_some_iff.1 hg).1, h1, h2⟩

theorem SlR.drop {α : Type} {w : World} {size : Nat} {R : List Value → α → Prop} {b off n cap : Nat} {l : List α} (h : SlR w size R (.slice (some ⟨b, off, none⟩) n cap) l) (k : Nat) (hk : k ≤ n) :
    SlR w size R (.slice (some ⟨b, off + k * size, none⟩) (n - k) (cap - k)) (l.drop k) := by
  obtain ⟨A, c, hv, h1, h2, hx⟩ := h
  injection hv with e1 e2 e3
  subst e1 e2 e3
  refine ⟨_, _, by rw [List.length_drop], by rw [List.length_drop]; omega, by omega, fun h0 => ?_⟩
  rw [List.length_drop] at h0
  obtain ⟨b', off', hA, hlt, hat⟩ := hx (by omega)
  injection hA with hA
  injection hA with e4 e5
  subst e4 e5
  refine ⟨b, _, rfl, hlt, fun j hj => ?_⟩
  rw [List.length_drop] at hj
  obtain ⟨cs, g1, g2, g3⟩ := hat (k + j) (by omega)
  refine ⟨cs, g1, ?_, ?_⟩
  · rw [Nat.add_assoc, ← Nat.add_mul]; exact g2
  · rw [List.getElem_drop]; exact g3
theorem SlR.empty {α : Type} (w : World) (size : Nat) (R : List Value → α → Prop) (A : Option Addr) (n cap : Nat) (hn : n = 0) (hc : cap ≤ maxLen) : SlR w size R (.slice A n cap) [] := by
  subst hn
  exact ⟨A, cap, rfl, Nat.zero_le _, hc, fun h => absurd h (by simp)⟩

theorem nextB_some (g : List UInt8) (l : List (List UInt8)) (m : List UInt8) (y : Nat) (h : findB (methB g l) m = y) : nextB g l m = ((methB g l).drop (y + 1), true) := by
  unfold nextB
  rw [h, if_pos (by omega)]
  rfl
theorem nextB_none (g : List UInt8) (l : List (List UInt8)) (m : List UInt8) (h : ¬ 0 ≤ findB (methB g l) m) : nextB g l m = ([], false) := by
  unfold nextB
  rw [if_neg h]

theorem nextB_len (g : List UInt8) (l : List (List UInt8)) (m : List UInt8) : (nextB g l m).1.length ≤ l.length + 1 := by
  unfold nextB
  split
  · simp [methB_length]; omega
  · simp
theorem nextB_small (g : List UInt8) (l : List (List UInt8)) (m : List UInt8) (hg : g.length ≤ 1048576) (hs : ∀ s ∈ l, s.length ≤ 1048576) : ∀ s ∈ (nextB g l m).1, s.length ≤ maxLen := by
  unfold nextB
  split
  · intro s h
    have := methB_small g l hg hs s (List.mem_of_mem_drop h)
    unfold maxLen; omega
  · simp

/-- it returns new strings and a bool -/
def RetTB (w : World) (r : List (List UInt8) × Bool) (e : Ending) (w' : World) : Prop :=
  ∃ v', e = .returned (.tuple #[v', .bool r.2]) ∧ w'.ownsRow w.heap.size 9 1 v' r.1.length (r.1.map fun s => Value.string (str s)) ∧ Below w.heap.size w w'

set_option maxHeartbeats 400000 in
theorem impl_NextMethods (g : List UInt8) (l : List (List UInt8)) (m : List UInt8) (v : Value) (w : World) (h : Txts w v l) (hg : g.length ≤ 1048576) (hl : l.length ≤ 1048576) (hs : Hid (∀ s ∈ l, s.length ≤ 1048576)) :
    Calls Try.prog 26 #[.string (str g), v, .string (str m)] w (RetTB w (nextB g l m)) := by
  have hfl := findB_le (methB g l) m
  have hml := methB_length g l
  rw [hml] at hfl
  have hsm : ∀ s ∈ methB g l, s.length ≤ maxLen := fun s hx => by have := methB_small g l hg hs.out s hx; unfold maxLen; omega
  have HSM := Lib.hid hsm
  have HML := Lib.hid hml
  clear hsm hml
  by_cases hf : 0 ≤ findB (methB g l) m
  · obtain ⟨y, hy⟩ := Int.eq_ofNat_of_zero_le hf
    rw [nextB_some g l m y hy]
    clear hf
    rw [hy] at hfl
    have HY := Lib.hid hy
    clear hy
    go_enter Try.func26, Try.ntmps26
    go_wp2_with fail
    refine (impl_MethodNames g l v _ h hg hl hs).mono ?_
    rintro e w1 ⟨v1, rfl, ho1, hb1⟩
    obtain ⟨gb, cap, rfl, hgb, hgl, hcap, hcm⟩ := own_slice ho1 (by omega)
    have HT1 := Lib.hid (Txts.of_own (l := methB g l) (by rw [HML.out]; exact ho1) HSM.out)
    have HB1 := Lib.hid hb1
    clear ho1 hb1
    have hcm' := hcm
    unfold maxLen at hcm'
    go_wp2_with fail
    refine (impl_textIndex (methB g l) m _ _ HT1.out).mono ?_
    rintro e w2 ⟨rfl, rfl⟩
    rw [HY.out]
    go_wp2_with fail
    · refine (impl_copyTexts ((methB g l).drop (y + 1)) _ _ ?_ ?_).mono ?_
      · rw [List.drop_eq_nil_of_le (by have := HML.out; omega)]
        exact SlR.empty _ _ _ _ _ _ (by omega) (by unfold maxLen; omega)
      · rw [List.length_drop, HML.out]; omega
      · rintro e w2 ⟨v2, rfl, ho2, hb2⟩
        go_wp2_with fail
        go_ret2
        exact ⟨_, rfl, own_base ho2 HB1.out.size, HB1.out.trans (hb2.mono HB1.out.size)⟩
    · refine (impl_copyTexts ((methB g l).drop (y + 1)) _ _ ?_ ?_).mono ?_
      · have := SlR.drop HT1.out (y + 1) (by omega)
        unfold Txts
        simpa using this
      · rw [List.length_drop, HML.out]; omega
      · rintro e w2 ⟨v2, rfl, ho2, hb2⟩
        go_wp2_with fail
        go_ret2
        exact ⟨_, rfl, own_base ho2 HB1.out.size, HB1.out.trans (hb2.mono HB1.out.size)⟩
  · rw [nextB_none g l m hf]
    go_enter Try.func26, Try.ntmps26
    go_wp2_with fail
    refine (impl_MethodNames g l v _ h hg hl hs).mono ?_
    rintro e w1 ⟨v1, rfl, ho1, hb1⟩
    have HT1 := Lib.hid (Txts.of_own (l := methB g l) (by rw [HML.out]; exact ho1) HSM.out)
    have HB1 := Lib.hid hb1
    clear ho1 hb1
    go_wp2_with fail
    refine (impl_textIndex (methB g l) m _ _ HT1.out).mono ?_
    rintro e w2 ⟨rfl, rfl⟩
    go_wp2_with fail
    go_ret2
    exact ⟨_, rfl, World.ownsRow_nil _ _ _ _, HB1.out⟩

set_option maxHeartbeats 400000 in
theorem spec_NextMethods (g : List UInt8) (l : List (List UInt8)) (m : List UInt8) (v : Value) (w : World) (h : Txts w v l) (hg : g.length ≤ 1048576) (hl : l.length ≤ 1048576) (hs : Hid (∀ s ∈ l, s.length ≤ 1048576)) :
    Calls Try.prog 36 #[.string (str g), v, .string (str m)] w (RetTB w (nextB g l m)) := by
  have hfl := findB_le (methB g l) m
  have hml := methB_length g l
  rw [hml] at hfl
  have hsm : ∀ s ∈ methB g l, s.length ≤ maxLen := fun s hx => by have := methB_small g l hg hs.out s hx; unfold maxLen; omega
  have HSM := Lib.hid hsm
  have HML := Lib.hid hml
  clear hsm hml
  by_cases hf : 0 ≤ findB (methB g l) m
  · obtain ⟨y, hy⟩ := Int.eq_ofNat_of_zero_le hf
    rw [nextB_some g l m y hy]
    clear hf
    rw [hy] at hfl
    have HY := Lib.hid hy
    clear hy
    go_enter Try.func36, Try.ntmps36
    go_wp2_with fail
    refine (spec_MethodNames g l v _ h hg hl hs).mono ?_
    rintro e w1 ⟨v1, rfl, ho1, hb1⟩
    obtain ⟨gb, cap, rfl, hgb, hgl, hcap, hcm⟩ := own_slice ho1 (by omega)
    have HT1 := Lib.hid (Txts.of_own (l := methB g l) (by rw [HML.out]; exact ho1) HSM.out)
    have HB1 := Lib.hid hb1
    have hbs := hb1.size
    clear ho1 hb1
    have hcm' := hcm
    unfold maxLen at hcm'
    go_wp2_with fail
    refine (spec_l1Find (methB g l) m _ _ HT1.out).mono ?_
    rintro e w2 ⟨rfl, rfl⟩
    rw [HY.out]
    have hdl : ((methB g l).drop (y + 1)).length = l.length - y := by rw [List.length_drop, HML.out]; omega
    have HDL := Lib.hid hdl
    have hb0 : Below w1.heap.size w1 (w1.alloc (.cells #[] 9)) := (Below.refl _ _).alloc (Nat.le_refl _) _
    have HB0 := Lib.hid hb0
    clear hb0 hdl
    have hD1 : Hid (cap ≠ y + 1 → Src w1 1 (some ⟨gb, y + 1, none⟩) (l.length - y) (((methB g l).drop (y + 1)).map fun s => Value.string (str s))) := by
      intro _
      have h8 := SlR.drop HT1.out (y + 1) (by omega)
      have h9 := (Txts.src h8).2
      rw [HDL.out] at h9
      simpa using h9
    have hD2 : Hid (∀ A, l.length - y = 0 → Src w1 1 A (l.length - y) (((methB g l).drop (y + 1)).map fun s => Value.string (str s))) := by
      intro A h0
      rw [List.eq_nil_of_length_eq_zero (HDL.out.trans h0), h0]
      exact ⟨rfl, by simp, fun h => absurd h (by omega)⟩
    go_wp2_with (at_builtin; go_must (refine wpList_cat rfl _ _ 30 rfl w1.heap.size 9 (.string ByteArray.empty) 1 16 Try.underlying30 info_str rfl (by decide) _ _ 0 [] rfl (by exact owns_new w1 _ 1 0 _ 0 [] rfl (Nat.le_refl _) (by unfold maxLen; omega) rfl rfl) _ (l.length - y) _ (((methB g l).drop (y + 1)).map fun s => Value.string (str s)) rfl (by rcases Nat.eq_zero_or_pos (l.length - y) with h0 | h0; (exact (hD2.out _ h0).below (by decide) HB0.out); (rw [if_neg (by omega)]; exact (hD1.out (by omega)).below (by decide) HB0.out)) (by omega) (by omega) (by simp) ?_); intro v1 w2 ho2 _ _ hb2)
    all_goals
      go_ret2
      simp only [Nat.zero_add, List.nil_append] at ho2
      refine ⟨_, rfl, ?_, (HB1.out.trans (HB0.out.mono hbs)).trans (hb2.mono hbs)⟩
      show w2.ownsRow w.heap.size _ 1 v1 ((methB g l).drop (y + 1)).length _
      rw [HDL.out]
      exact own_base ho2 hbs
  · rw [nextB_none g l m hf]
    go_enter Try.func36, Try.ntmps36
    go_wp2_with fail
    refine (spec_MethodNames g l v _ h hg hl hs).mono ?_
    rintro e w1 ⟨v1, rfl, ho1, hb1⟩
    have HT1 := Lib.hid (Txts.of_own (l := methB g l) (by rw [HML.out]; exact ho1) HSM.out)
    have HB1 := Lib.hid hb1
    clear ho1 hb1
    go_wp2_with fail
    refine (spec_l1Find (methB g l) m _ _ HT1.out).mono ?_
    rintro e w2 ⟨rfl, rfl⟩
    go_wp2_with fail
    go_ret2
    exact ⟨_, rfl, own_base (owns_new w1 _ 1 0 _ 0 [] rfl (Nat.le_refl _) (by unfold maxLen; omega) rfl rfl) HB1.out.size, HB1.out.alloc HB1.out.size _⟩
end Go.Proofs.Ytclcljibdhkkoaa
