/-
  Contracts: labels and names of a vector, of the program and of the reference.
-/
import Derived.Test.YtjdfancbmjnjfaaGreatVecOk
namespace Go.Proofs.YtjdfancbmjnjfaaGreat
set_option maxRecDepth 100000
open Go.ChangeShapes Go.WideShapes Go.ChangeAt Go.RowKit Go.Deep

def labB (l : List (List UInt8)) (k : Nat) (s : List UInt8) : Bool := !s.isEmpty && decide (s.length ≤ 60) && !hasB (l.take k) s
def labelsOk (l : List (List UInt8)) (most : Int) : Bool := decide ((l.length : Int) ≤ most) && decide (∀ j (h : j < l.length), labB l j l[j] = true)
theorem labelsOk_len {l : List (List UInt8)} {most : Int} (h : ¬ (l.length : Int) ≤ most) : labelsOk l most = false := by simp [labelsOk, h]
theorem labelsOk_no {l : List (List UInt8)} {most : Int} (k : Nat) (hk : k < l.length) (h : labB l k l[k] = false) : labelsOk l most = false := by
  simp only [labelsOk, Bool.and_eq_false_iff, decide_eq_false_iff_not]
  right
  intro h'
  rw [h' k hk] at h
  cases h
theorem labelsOk_yes {l : List (List UInt8)} {most : Int} (h : (l.length : Int) ≤ most) (hn : ∀ j (h : j < l.length), labB l j l[j] = true) : labelsOk l most = true := by
  simp only [labelsOk, Bool.and_eq_true, decide_eq_true_eq]
  exact ⟨h, hn⟩

theorem SlR.take {α : Type} {w : World} {size : Nat} {R : List Value → α → Prop} {A : Option Addr} {n c : Nat} {l : List α} (h : SlR w size R (.slice A n c) l) (k : Nat) (hk : k ≤ l.length) : SlR w size R (.slice A k c) (l.take k) := by
  obtain ⟨A', c', he, hlc, hc, hx⟩ := h
  injection he with e1 e2 e3
  subst e1 e3
  refine ⟨A, c, by rw [List.length_take, Nat.min_eq_left hk], by rw [List.length_take, Nat.min_eq_left hk]; omega, hc, fun h0 => ?_⟩
  rw [List.length_take, Nat.min_eq_left hk] at h0
  obtain ⟨b, off, hA, hb, hg⟩ := hx (by omega)
  refine ⟨b, off, hA, hb, fun j hj => ?_⟩
  rw [List.length_take, Nat.min_eq_left hk] at hj
  obtain ⟨cs, q1, q2, q3⟩ := hg j (by omega)
  exact ⟨cs, q1, q2, by rw [List.getElem_take]; exact q3⟩

set_option maxHeartbeats 1000000 in
theorem impl_labelsValid (l : List (List UInt8)) (most : Int) (v : Value) (w : World) (h : Txts w v l) :
    Calls Tryz.prog 146 #[v, .int .i64 most] w fun e w' => e = .returned (.bool (labelsOk l most)) ∧ w = w' := by
  have HT := Lib.hid h
  obtain ⟨A, c, rfl, hlc, hm, HC⟩ := h.open_
  clear h
  unfold maxLen at hm
  by_cases hle : (l.length : Int) ≤ most
  · go_enter Tryz.func146, Tryz.ntmps146
    go_wp2
    go_loop [13] (fun i => ∃ k : Nat, k ≤ l.length ∧ i = .int .i64 k ∧ Hid (∀ j (h : j < l.length), j < k → labB l j l[j] = true)) (fun i => l.length - (intOf i).toNat)
    case atStart => exact ⟨0, Nat.zero_le _, rfl, fun j _ h => absurd h (by omega)⟩
    case round =>
      obtain ⟨k, hk, rfl, hn⟩ := hrel
      by_cases hlt : k < l.length
      · obtain ⟨b, off, rfl, hbl, hcell, hsz⟩ := HC.out k hlt
        have HK := Lib.hid (SlR.take HT.out k (by omega))
        by_cases g1 : l[k] = []
        · have HE := Lib.hid (show labB l k l[k] = false by simp [labB, g1])
          have hb2 : l[k].isEmpty = true := by simp [g1]
          clear g1
          go_wp2
          go_ret
          exact ⟨ret_bool (labelsOk_no k hlt HE.out).symm, rfl⟩
        have hb2 : l[k].isEmpty = false := by simp [g1]
        by_cases g2 : 60 < l[k].length
        · have HE := Lib.hid (show labB l k l[k] = false by simp [labB]; intro _ _; omega)
          clear g1
          go_wp2
          go_ret
          exact ⟨ret_bool (labelsOk_no k hlt HE.out).symm, rfl⟩
        cases g3 : hasB (l.take k) l[k]
        all_goals
          have HE := Lib.hid (show labB l k l[k] = !hasB (l.take k) l[k] by simp [labB, g1]; intro _; omega)
          have HG := Lib.hid g3
          clear g1 g3
          go_wp2_with (go_at_call 56; refine (impl_hasText (l.take k) l[k] _ _ HK.out).mono ?_; rintro e w' ⟨rfl, rfl⟩; rw [HG.out])
        · go_round
          case rel => exact ⟨k + 1, by omega, by go_num, fun j h1 hj => by rcases Nat.lt_succ_iff_lt_or_eq.1 hj with h3 | rfl; exact hn.out j h1 h3; rw [HE.out, HG.out]; rfl⟩
          case measure => simp [intOf]; omega
        · go_ret
          exact ⟨ret_bool (labelsOk_no k hlt (by rw [HE.out, HG.out]; rfl)).symm, rfl⟩
      · go_wp2
        go_ret
        exact ⟨ret_bool (labelsOk_yes hle (fun j h => hn.out j h (by omega))).symm, rfl⟩
  · go_enter Tryz.func146, Tryz.ntmps146
    go_wp2
    go_ret
    exact ⟨ret_bool (labelsOk_len (by omega)).symm, rfl⟩

theorem findB_take (l : List (List UInt8)) (k : Nat) (hk : k < l.length) : decide (findB l l[k] < (k : Int)) = hasB (l.take k) l[k] := by
  rw [Bool.eq_iff_iff]
  simp only [decide_eq_true_eq, hasB, List.contains_iff_mem]
  constructor
  · intro h
    unfold findB at h
    split at h
    · rename_i i hi
      obtain ⟨h1, h2, h3⟩ := List.findIdx?_eq_some_iff_getElem.1 hi
      have hik : i < k := by omega
      have : l[i] = l[k] := by simpa using h2
      rw [← this]
      exact List.mem_take_iff_getElem.2 ⟨i, by omega, rfl⟩
    · rename_i hi
      have := List.findIdx?_eq_none_iff.1 hi l[k] (List.getElem_mem hk)
      simp at this
  · intro h
    obtain ⟨i, hi, he⟩ := List.mem_take_iff_getElem.1 h
    unfold findB
    split
    · rename_i j hj
      obtain ⟨h1, h2, h3⟩ := List.findIdx?_eq_some_iff_getElem.1 hj
      have : ¬ i < j := fun hij => by
        have := h3 i hij
        simp [he] at this
      omega
    · omega

set_option maxHeartbeats 1000000 in
theorem spec_l4Labels (l : List (List UInt8)) (most : Int) (v : Value) (w : World) (h : Txts w v l) :
    Calls Tryz.prog 135 #[v, .int .i64 most] w fun e w' => e = .returned (.bool (labelsOk l most)) ∧ w = w' := by
  have HT := Lib.hid h
  obtain ⟨A, c, rfl, hlc, hm, HC⟩ := h.open_
  clear h
  unfold maxLen at hm
  go_enter Tryz.func135, Tryz.ntmps135
  go_wp2
  go_loop [5] (fun i => ∃ k : Nat, k ≤ l.length ∧ i = .int .i64 k ∧ Hid (∀ j (h : j < l.length), j < k → labB l j l[j] = true)) (fun i => l.length - (intOf i).toNat)
  case atStart => exact ⟨0, Nat.zero_le _, rfl, fun j _ h => absurd h (by omega)⟩
  case round =>
    obtain ⟨k, hk, rfl, hn⟩ := hrel
    by_cases hlt : k < l.length
    · obtain ⟨b, off, rfl, hbl, hcell, hsz⟩ := HC.out k hlt
      by_cases hmo : (k : Int) ≤ most
      · by_cases g1 : l[k] = []
        · have HE := Lib.hid (show labB l k l[k] = false by simp [labB, g1])
          have hb2 : l[k].isEmpty = true := by simp [g1]
          clear g1
          go_wp2
          go_ret
          exact ⟨ret_bool (labelsOk_no k hlt HE.out).symm, rfl⟩
        have hb2 : l[k].isEmpty = false := by simp [g1]
        by_cases g2 : 60 < l[k].length
        · have HE := Lib.hid (show labB l k l[k] = false by simp [labB]; intro _ _; omega)
          clear g1
          go_wp2
          go_ret
          exact ⟨ret_bool (labelsOk_no k hlt HE.out).symm, rfl⟩
        have HX := Lib.hid (findB_take l k hlt)
        have HE := Lib.hid (show labB l k l[k] = !hasB (l.take k) l[k] by simp [labB, g1]; intro _; omega)
        by_cases g3 : findB l l[k] < (k : Int)
        all_goals
          clear g1
          go_wp2_with (go_at_call 50; refine (spec_l1Find l l[k] _ _ HT.out).mono ?_; rintro e w' ⟨rfl, rfl⟩)
        · go_ret
          exact ⟨ret_bool (labelsOk_no k hlt (by rw [HE.out, ← HX.out, decide_eq_true g3]; rfl)).symm, rfl⟩
        · go_round
          case rel => exact ⟨k + 1, by omega, by go_num, fun j h1 hj => by rcases Nat.lt_succ_iff_lt_or_eq.1 hj with h3 | rfl; exact hn.out j h1 h3; rw [HE.out, ← HX.out, decide_eq_false (by omega)]; rfl⟩
          case measure => simp [intOf]; omega
      · have hL : ¬ (l.length : Int) ≤ most := by omega
        go_wp2
        go_ret
        exact ⟨ret_bool (by rw [labelsOk_len (by omega)]), rfl⟩
    · by_cases hL : (l.length : Int) ≤ most
      · go_wp2
        go_ret
        exact ⟨ret_bool (by rw [labelsOk_yes hL (fun j h => hn.out j h (by omega))]), rfl⟩
      · go_wp2
        go_ret
        exact ⟨ret_bool (by rw [labelsOk_len (by omega)]), rfl⟩

def named (l : List (List UInt8)) : Bool := decide (∀ j (h : j < l.length), l[j].length ≤ 60) && (l.isEmpty || !allE l)
theorem named_no {l : List (List UInt8)} (k : Nat) (hk : k < l.length) (h : ¬ l[k].length ≤ 60) : named l = false := by
  simp only [named, Bool.and_eq_false_iff, decide_eq_false_iff_not]
  left
  exact fun h' => h (h' k hk)
theorem named_all {l : List (List UInt8)} (hn : ∀ j (h : j < l.length), l[j].length ≤ 60) : named l = (l.isEmpty || !allE l) := by
  simp only [named, Bool.and_eq_right_iff_imp]
  intro _
  exact decide_eq_true hn

/-- some element before k is not empty, or there is none at all -/
def someB (l : List (List UInt8)) (k : Nat) : Bool := l.isEmpty || !allE (l.take k)
theorem someB_zero (l : List (List UInt8)) : someB l 0 = l.isEmpty := by simp [someB, allE]
theorem someB_all (l : List (List UInt8)) (k : Nat) (h : l.length ≤ k) : someB l k = (l.isEmpty || !allE l) := by rw [someB, List.take_of_length_le h]
theorem someB_succ (l : List (List UInt8)) (k : Nat) (h : k < l.length) : someB l (k + 1) = (someB l k || !l[k].isEmpty) := by
  have h1 : allE (l.take (k + 1)) = (allE (l.take k) && l[k].isEmpty) := by
    rw [Bool.eq_iff_iff]
    simp only [allE, decide_eq_true_eq, Bool.and_eq_true, List.isEmpty_iff, List.length_take, List.getElem_take]
    constructor
    · intro h'
      exact ⟨fun j hj => h' j (by omega), h' k (by omega)⟩
    · rintro ⟨h2, h3⟩ j hj
      by_cases hjk : j < k
      · exact h2 j (by omega)
      · obtain rfl : j = k := by omega
        exact h3
  rw [someB, someB, h1]
  cases l.isEmpty <;> cases allE (l.take k) <;> cases l[k].isEmpty <;> rfl

set_option maxHeartbeats 1000000 in
theorem spec_l4Named (l : List (List UInt8)) (v : Value) (w : World) (h : Txts w v l) :
    Calls Tryz.prog 134 #[v] w fun e w' => e = .returned (.bool (named l)) ∧ w = w' := by
  obtain ⟨A, c, rfl, hlc, hm, HC⟩ := h.open_
  clear h
  unfold maxLen at hm
  go_enter Tryz.func134, Tryz.ntmps134
  go_wp2
  go_loop [3, 4] (fun s i => ∃ k : Nat, k ≤ l.length ∧ i = .int .i64 k ∧ s = .bool (someB l k) ∧ Hid (∀ j (h : j < l.length), j < k → l[j].length ≤ 60)) (fun _ i => l.length - (intOf i).toNat)
  case atStart => exact ⟨0, Nat.zero_le _, rfl, by rw [someB_zero]; cases l <;> simp <;> omega, fun j _ h => absurd h (by omega)⟩
  case round =>
    obtain ⟨k, hk, rfl, rfl, hn⟩ := hrel
    by_cases hlt : k < l.length
    · obtain ⟨b, off, rfl, hbl, hcell, hsz⟩ := HC.out k hlt
      by_cases g2 : 60 < l[k].length
      · go_wp2
        go_ret
        exact ⟨ret_bool (named_no k hlt (by omega)).symm, rfl⟩
      · have HS := Lib.hid (someB_succ l k hlt)
        cases hs : someB l k
        all_goals
          have HSS := Lib.hid hs
          clear hs
          go_wp2
          go_round
          case rel => exact ⟨k + 1, by omega, by go_num, by rw [HS.out, HSS.out]; simp, fun j h1 hj => by rcases Nat.lt_succ_iff_lt_or_eq.1 hj with h3 | rfl; exact hn.out j h1 h3; omega⟩
          case measure => simp [intOf]; omega
    · go_wp2
      go_ret
      exact ⟨ret_bool (by rw [someB_all l k (by omega), named_all (fun j h => hn.out j h (by omega))]), rfl⟩

end Go.Proofs.YtjdfancbmjnjfaaGreat
