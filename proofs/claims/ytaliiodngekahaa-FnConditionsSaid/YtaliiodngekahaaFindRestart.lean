/-
  Contracts: FindRestart.
-/
import Derived.Test.YtaliiodngekahaaHandlers
namespace Go.Proofs.Ytaliiodngekahaa
set_option maxRecDepth 100000
open Go.ChangeShapes Go.WideShapes Go.ChangeAt Go.RowKit Go.Deep
open Go.ChangeMaps (open_string shut_string)
set_option linter.unusedVariables false

def isRestart (s : List UInt8) (d : HandD) : Bool := d.kind == 2 && d.name == s
/-- the last restart with the name among the first n handlers, or -1 -/
def findR (l : List HandD) (s : List UInt8) : Nat → Int
  | 0 => -1
  | n + 1 => match l[n]? with
    | some d => if isRestart s d then n else findR l s n
    | none => findR l s n
theorem findR_yes (l : List HandD) (s : List UInt8) (n : Nat) (h : n < l.length) (hr : isRestart s l[n] = true) : findR l s (n + 1) = n := by
  rw [findR, List.getElem?_eq_getElem h]; simp [hr]
theorem findR_no (l : List HandD) (s : List UInt8) (n : Nat) (h : n < l.length) (hr : isRestart s l[n] = false) : findR l s (n + 1) = findR l s n := by
  rw [findR, List.getElem?_eq_getElem h]; simp [hr]

set_option maxHeartbeats 400000 in
theorem impl_FindRestart (l : List HandD) (s : List UInt8) (v : Value) (w : World) (h : Hands w v l) :
    Calls Try.prog 11 #[v, .string (str s)] w fun e w' => e = .returned (.int .i64 (findR l s l.length)) ∧ w = w' := by
  obtain ⟨A, c, rfl, hlc, hm, HC⟩ := h.open_
  clear h
  unfold maxLen at hm
  go_enter Try.func11, Try.ntmps11
  go_wp2
  go_loop [5] (fun i => ∃ (k : Nat) (y : Int), k ≤ l.length ∧ i = .int .i64 y ∧ y + 1 ≤ k ∧ k ≤ y + 1 ∧ Hid (findR l s l.length = findR l s k)) (fun i => (intOf i + 1).toNat)
  case atStart => exact ⟨l.length, _, Nat.le_refl _, rfl, by omega, by omega, rfl⟩
  case round =>
    obtain ⟨k, y, hk, rfl, hy1, hy2, hR⟩ := hrel
    by_cases hlt : 0 < k
    · obtain ⟨k, rfl⟩ : ∃ j, k = j + 1 := ⟨k - 1, by omega⟩
      obtain rfl : y = (k : Int) := by omega
      obtain ⟨b, off, rfl, hbl, hc0, hc1, _, _⟩ := HC.out k (by omega)
      by_cases h1 : l[k].kind = 2
      · have h1b : (l[k].kind == 2) = true := by simp [h1]
        have H1 := Lib.hid h1
        clear h1
        by_cases h2 : l[k].name = s
        · have h2b : (l[k].name == s) = true := by simp [h2]
          have HY := Lib.hid (findR_yes l s k (by omega) (by simp [isRestart, h1b, h2b]))
          clear h2
          go_wp2
          go_ret
          exact ⟨ret_int (by rw [hR.out, HY.out]), rfl⟩
        · have h2b : (l[k].name == s) = false := by simp [h2]
          have HY := Lib.hid (findR_no l s k (by omega) (by simp [isRestart, h2b]))
          clear h2
          go_wp2
          go_round
          case rel => exact ⟨k, (k : Int) - 1, by omega, by go_num, by omega, by omega, by show _ = _; rw [hR.out, HY.out]⟩
          case measure => simp [intOf]
      · have h1b : (l[k].kind == 2) = false := by simp [h1]
        have HY := Lib.hid (findR_no l s k (by omega) (by simp [isRestart, h1b]))
        clear h1
        go_wp2
        go_round
        case rel => exact ⟨k, (k : Int) - 1, by omega, by go_num, by omega, by omega, by show _ = _; rw [hR.out, HY.out]⟩
        case measure => simp [intOf]
    · obtain rfl : k = 0 := by omega
      obtain rfl : y = -1 := by omega
      go_wp2
      go_ret
      exact ⟨ret_int hR.out.symm, rfl⟩
end Go.Proofs.Ytaliiodngekahaa
