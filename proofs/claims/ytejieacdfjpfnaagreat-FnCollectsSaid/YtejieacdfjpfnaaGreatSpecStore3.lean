/-
  The pure law of l26Slot of the reference: it answers as slotRight of the program.
-/
import Derived.Test.YtejieacdfjpfnaaGreatStoreOk3
namespace Go.Proofs.YtejieacdfjpfnaaGreat
set_option maxRecDepth 100000
open Go.ChangeShapes Go.WideShapes Go.ChangeAt Go.RowKit Go.Deep

theorem zeroV_eq {d : VecD} (h : zeroV d = true) : d = .mk 0 [] [] [] [] [] 0 0 := by
  cases d with
  | mk k i p n c l co en =>
    simp [zeroV, VecD.kind, VecD.items, VecD.parts, VecD.names, VecD.cls, VecD.levels, VecD.code, VecD.env] at h
    obtain ⟨⟨⟨⟨⟨⟨⟨h1, h2⟩, h3⟩, h4⟩, h5⟩, h6⟩, h7⟩, h8⟩ := h
    subst h1 h2 h3 h4 h5 h6 h7 h8
    rfl
theorem zero_fit (s : StoreD) {d : VecD} (h : zeroV d = true) : valFit s d = true := by
  rw [zeroV_eq h]
  have h1 : vecOk (.mk 0 [] [] [] [] [] 0 0) = true := by decide
  rw [valFit, h1]
  rfl

def slT (x : SlotD) : Bool := (x.kind == 1 || zeroV x.value) && (x.kind == 2 || x.promise == 0) && (x.kind == 3 || !decide (0 < (x.promises.length : Int) + (x.labels.length : Int)))
def slU (s : StoreD) (x : SlotD) : Bool := slT x && (if x.kind = 3 then slD s x && decide (x.promises.length = x.labels.length) else (x.kind == 0 || (x.kind == 1 && valFit s x.value) || (x.kind == 2 && promU s x.promise)))
theorem slU_eq (s : StoreD) (x : SlotD) : slU s x = slotOk s x := by
  have hz := @zero_fit s x.value
  have hd : x.promises.length = 0 → slD s x = true := fun h => decide_eq_true (fun j hj => absurd hj (by omega))
  have hs : (!decide (0 < (x.promises.length : Int) + (x.labels.length : Int))) = decide (x.promises.length + x.labels.length = 0) := by
    by_cases hh : x.promises.length + x.labels.length = 0
    · rw [decide_eq_true hh, decide_eq_false (by omega)]; rfl
    · rw [decide_eq_false hh, decide_eq_true (by omega)]; rfl
  unfold slU slotOk slA slB slC slT
  rw [hs]
  by_cases k3 : x.kind = 3
  · simp only [k3, if_true]
    grind
  · simp only [k3, if_false]
    grind

theorem find_take (l : List (List UInt8)) (k : Nat) (h : k < l.length) : decide (findB l l[k] < (k : Int)) = hasB (l.take k) l[k] := by
  rw [Bool.eq_iff_iff, decide_eq_true_eq]
  unfold hasB
  rw [List.contains_iff_mem]
  unfold findB
  cases hf : l.findIdx? (fun x => x == l[k]) with
  | none =>
    rw [List.findIdx?_eq_none_iff] at hf
    have := hf l[k] (List.getElem_mem h)
    simp at this
  | some i =>
    rw [List.findIdx?_eq_some_iff_getElem] at hf
    obtain ⟨hi, he, hn⟩ := hf
    constructor
    · intro h1
      have h2 : (i : Int) < k := h1
      rw [← eq_of_beq he]
      exact List.mem_take_iff_getElem.2 ⟨i, by omega, rfl⟩
    · intro hm
      obtain ⟨j, hj, hje⟩ := List.mem_take_iff_getElem.1 hm
      show (i : Int) < k
      by_cases hij : j < i
      · have := hn j hij
        rw [hje] at this
        simp at this
      · omega

/-! ### environments and promises, as the reference looks at them -/
end Go.Proofs.YtejieacdfjpfnaaGreat
