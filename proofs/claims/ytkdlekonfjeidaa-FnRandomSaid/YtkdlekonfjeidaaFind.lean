/-
  Contracts: the searches in lists of strings (impl.textIndex, impl.hasText, spec.l1Find, spec.l1Has) return the first position at which the list holds the string.
-/
import Derived.Test.YtkdlekonfjeidaaBase
namespace Go.Proofs.Ytkdlekonfjeidaa
set_option maxRecDepth 100000
open Go.ChangeShapes Go.WideShapes Go.ChangeAt Go.RowKit Go.Deep

/-- the first position of s in l, or -1 -/
def findB (l : List (List UInt8)) (s : List UInt8) : Int := match l.findIdx? (fun x => x == s) with | some i => i | none => -1

theorem findB_at (l : List (List UInt8)) (s : List UInt8) (k : Nat) (hk : k < l.length) (hn : ∀ j (h : j < l.length), j < k → (l[j] == s) = false) (he : (l[k] == s) = true) : findB l s = k := by
  unfold findB
  have : l.findIdx? (fun x => x == s) = some k := by
    rw [List.findIdx?_eq_some_iff_getElem]
    exact ⟨hk, he, fun j hj => by simp [hn j (by omega) hj]⟩
  rw [this]
theorem findB_no (l : List (List UInt8)) (s : List UInt8) (hn : ∀ j (h : j < l.length), (l[j] == s) = false) : findB l s = -1 := by
  unfold findB
  have : l.findIdx? (fun x => x == s) = none := by
    rw [List.findIdx?_eq_none_iff]
    intro x hx
    obtain ⟨j, hj, rfl⟩ := List.getElem_of_mem hx
    exact hn j hj
  rw [this]
/-- whether l holds s -/
def hasB (l : List (List UInt8)) (s : List UInt8) : Bool := l.contains s
theorem findB_nonneg (l : List (List UInt8)) (s : List UInt8) : decide (0 ≤ findB l s) = hasB l s := by
  show _ = l.contains s
  unfold findB
  cases h : l.findIdx? (fun x => x == s) with
  | none =>
    rw [List.findIdx?_eq_none_iff] at h
    have : l.contains s = false := by
      rw [Bool.eq_false_iff]
      intro hc
      have hm := List.contains_iff_mem.1 hc
      simpa using h s hm
    rw [this]
    rfl
  | some i =>
    rw [List.findIdx?_eq_some_iff_getElem] at h
    obtain ⟨hi, he, _⟩ := h
    have : l.contains s = true := List.contains_iff_mem.2 (by have := eq_of_beq he; rw [← this]; exact List.getElem_mem hi)
    rw [this]
    exact decide_eq_true (Int.natCast_nonneg i)
theorem findB_le (l : List (List UInt8)) (s : List UInt8) : -1 ≤ findB l s ∧ findB l s < l.length := by
  unfold findB
  cases h : l.findIdx? (fun x => x == s) with
  | none => simp; omega
  | some i =>
    rw [List.findIdx?_eq_some_iff_getElem] at h
    obtain ⟨hi, _⟩ := h
    constructor
    · show -1 ≤ (i : Int); omega
    · show (i : Int) < _; omega

end Go.Proofs.Ytkdlekonfjeidaa
