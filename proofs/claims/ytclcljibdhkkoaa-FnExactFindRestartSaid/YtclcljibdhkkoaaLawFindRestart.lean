/-
  The law FnExactFindRestart returns true for every list of handlers and every string.
-/
import Derived.Test.YtclcljibdhkkoaaHandlers
namespace Go.Proofs.Ytclcljibdhkkoaa
open Go.ChangeShapes Go.WideShapes Go.ChangeAt Go.RowKit Go.Deep
open Go.ChangeMaps (open_string shut_string)
set_option linter.unusedVariables false

def isRestart (s : List UInt8) (d : HandD) : Bool := d.kind == 2 && d.name == s
/-- the last restart with the name among the first n handlers, or -1 -/
def findR (l : List HandD) (s : List UInt8) : Nat → Int
  | 0 => -1
  | n + 1 => match l[n]? with
    | some d => if isRestart s d then n else findR l s n
    | none => findR l s n
theorem findR_yes (l : List HandD) (s : List UInt8) (n : Nat) (h : n < l.length) (hr : isRestart s l[n] = true) : findR l s (n + 1) = n := by
  rw [findR, List.getElem?_eq_getElem h]; simp [hr]
theorem findR_no (l : List HandD) (s : List UInt8) (n : Nat) (h : n < l.length) (hr : isRestart s l[n] = false) : findR l s (n + 1) = findR l s n := by
  rw [findR, List.getElem?_eq_getElem h]; simp [hr]

set_option maxHeartbeats 400000 in
theorem spec_FindRestart (l : List HandD) (s : List UInt8) (v : Value) (w : World) (h : Hands w v l) :
    Calls Try.prog 13 #[v, .string (str s)] w fun e w' => e = .returned (.int .i64 (findR l s l.length)) ∧ w = w' := by
  obtain ⟨A, c, rfl, hlc, hm, HC⟩ := h.open_
  clear h
  unfold maxLen at hm
  go_enter Try.func13, Try.ntmps13
  go_wp2
  go_loop [5] (fun i => ∃ (k : Nat) (y : Int), k ≤ l.length ∧ i = .int .i64 y ∧ y + 1 ≤ k ∧ k ≤ y + 1 ∧ Hid (findR l s l.length = findR l s k)) (fun i => (intOf i + 1).toNat)
  case atStart => exact ⟨l.length, _, Nat.le_refl _, rfl, by omega, by omega, rfl⟩
  case round =>
    obtain ⟨k, y, hk, rfl, hy1, hy2, hR⟩ := hrel
    by_cases hlt : 0 < k
    · obtain ⟨k, rfl⟩ : ∃ j, k = j + 1 := ⟨k - 1, by omega⟩
      obtain rfl : y = (k : Int) := by omega
      obtain ⟨b, off, rfl, hbl, hc0, hc1, _, _⟩ := HC.out k (by omega)
      by_cases h1 : l[k].kind = 2
      · have h1b : (l[k].kind == 2) = true := by simp [h1]
        have H1 := Lib.hid h1
        clear h1
        by_cases h2 : l[k].name = s
        · have h2b : (l[k].name == s) = true := by simp [h2]
          have HY := Lib.hid (findR_yes l s k (by omega) (by simp [isRestart, h1b, h2b]))
          clear h2
          go_wp2
          go_ret
          exact ⟨ret_int (by rw [hR.out, HY.out]), rfl⟩
        · have h2b : (l[k].name == s) = false := by simp [h2]
          have HY := Lib.hid (findR_no l s k (by omega) (by simp [isRestart, h2b]))
          clear h2
          go_wp2
          go_round
          case rel => exact ⟨k, (k : Int) - 1, by omega, by go_num, by omega, by omega, by show _ = _; rw [hR.out, HY.out]⟩
          case measure => simp [intOf]
      · have h1b : (l[k].kind == 2) = false := by simp [h1]
        have HY := Lib.hid (findR_no l s k (by omega) (by simp [isRestart, h1b]))
        clear h1
        go_wp2
        go_round
        case rel => exact ⟨k, (k : Int) - 1, by omega, by go_num, by omega, by omega, by show _ = _; rw [hR.out, HY.out]⟩
        case measure => simp [intOf]
    · obtain rfl : k = 0 := by omega
      obtain rfl : y = -1 := by omega
      go_wp2
      go_ret
      exact ⟨ret_int hR.out.symm, rfl⟩

set_option maxHeartbeats 400000 in
theorem impl_FindRestart (l : List HandD) (s : List UInt8) (v : Value) (w : World) (h : Hands w v l) :
    Calls Try.prog 15 #[v, .string (str s)] w fun e w' => e = .returned (.int .i64 (findR l s l.length)) ∧ w = w' := by
  obtain ⟨A, c, rfl, hlc, hm, HC⟩ := h.open_
  clear h
  unfold maxLen at hm
  go_enter Try.func15, Try.ntmps15
  go_wp2
  go_loop [5] (fun i => ∃ (k : Nat) (y : Int), k ≤ l.length ∧ i = .int .i64 y ∧ y + 1 ≤ k ∧ k ≤ y + 1 ∧ Hid (findR l s l.length = findR l s k)) (fun i => (intOf i + 1).toNat)
  case atStart => exact ⟨l.length, _, Nat.le_refl _, rfl, by omega, by omega, rfl⟩
  case round =>
    obtain ⟨k, y, hk, rfl, hy1, hy2, hR⟩ := hrel
    by_cases hlt : 0 < k
    · obtain ⟨k, rfl⟩ : ∃ j, k = j + 1 := ⟨k - 1, by omega⟩
      obtain rfl : y = (k : Int) := by omega
      obtain ⟨b, off, rfl, hbl, hc0, hc1, _, _⟩ := HC.out k (by omega)
      by_cases h1 : l[k].kind = 2
      · have h1b : (l[k].kind == 2) = true := by simp [h1]
        have H1 := Lib.hid h1
        clear h1
        by_cases h2 : l[k].name = s
        · have h2b : (l[k].name == s) = true := by simp [h2]
          have HY := Lib.hid (findR_yes l s k (by omega) (by simp [isRestart, h1b, h2b]))
          clear h2
          go_wp2
          go_ret
          exact ⟨ret_int (by rw [hR.out, HY.out]), rfl⟩
        · have h2b : (l[k].name == s) = false := by simp [h2]
          have HY := Lib.hid (findR_no l s k (by omega) (by simp [isRestart, h2b]))
          clear h2
          go_wp2
          go_round
          case rel => exact ⟨k, (k : Int) - 1, by omega, by go_num, by omega, by omega, by show _ = _; rw [hR.out, HY.out]⟩
          case measure => simp [intOf]
      · have h1b : (l[k].kind == 2) = false := by simp [h1]
        have HY := Lib.hid (findR_no l s k (by omega) (by simp [isRestart, h1b]))
        clear h1
        go_wp2
        go_round
        case rel => exact ⟨k, (k : Int) - 1, by omega, by go_num, by omega, by omega, by show _ = _; rw [hR.out, HY.out]⟩
        case measure => simp [intOf]
    · obtain rfl : k = 0 := by omega
      obtain rfl : y = -1 := by omega
      go_wp2
      go_ret
      exact ⟨ret_int hR.out.symm, rfl⟩

namespace fnExactFindRestart
set_option maxHeartbeats 1000000 in
theorem walk (v : Value) (l : List HandD) {w : World} (h : Hands w v l) (s : List UInt8) (hs0 : s.length ≤ maxLen) :
    Calls Try.prog 4 #[v, .string (str s)] w fun e w' => e = .returned (.bool true) ∧ Below w.heap.size w w' := by
  unfold maxLen at hs0
  by_cases hs : s.length ≤ 1048576
  · by_cases hz : (szH l : Int) ≤ 1048576
    · have HZ := Lib.hid (szR_pos hz)
      have hl : l.length ≤ 1048576 := by
        have h9 := szH_take_le l 0
        rw [List.length_drop] at h9
        omega
      have HT := Lib.hid h
      clear h
      go_enter Try.func4, Try.ntmps4
      go_wp2_with fail
      refine (laws_szHandlerS l v 1048576 _ HT.out (by omega) (by omega)).mono ?_
      rintro e w1 ⟨rfl, hb1⟩
      have HB1 := Lib.hid hb1
      clear hb1
      rw [HZ.out]
      go_wp2_with fail
      refine (laws_toHandlerS l v _ (HT.out.below HB1.out) hl).mono ?_
      rintro e w2 ⟨va, rfl, _, ta, hb2⟩
      have HB2 := Lib.hid (HB1.out.trans (hb2.mono HB1.out.size))
      clear hb2
      go_wp2_with fail
      refine (spec_FindRestart l s va _ ta).mono ?_
      rintro e w3 ⟨rfl, rfl⟩
      clear ta
      go_wp2_with fail
      refine (laws_toHandlerS l v _ (HT.out.below HB2.out) hl).mono ?_
      rintro e w3 ⟨x0, rfl, _, tx, hb3⟩
      have HB3 := Lib.hid (HB2.out.trans (hb3.mono HB2.out.size))
      have TX := Lib.hid tx
      clear hb3 tx
      go_wp2_with fail
      refine (impl_FindRestart l s x0 _ TX.out).mono ?_
      rintro e w4 ⟨rfl, rfl⟩
      go_wp2_with fail
      refine (laws_toHandlerS l v _ (HT.out.below HB3.out) hl).mono ?_
      rintro e w4 ⟨xb, rfl, _, tb, hb4⟩
      have HB4 := Lib.hid (HB3.out.trans (hb4.mono HB3.out.size))
      have TX4 := Lib.hid (TX.out.below hb4)
      clear hb4
      go_wp2_with fail
      refine (laws_eqHandlerS_same l x0 xb _ TX4.out tb).mono ?_
      rintro e w5 ⟨rfl, hb5⟩
      have HB5 := Lib.hid (HB4.out.trans (hb5.mono HB4.out.size))
      clear hb5 tb
      go_wp2_with fail
      go_ret
      exact ⟨rfl, HB5.out⟩
    · have HZ := Lib.hid (szR_neg hz)
      go_enter Try.func4, Try.ntmps4
      go_wp2_with fail
      refine (laws_szHandlerS l v 1048576 _ h (by omega) (by omega)).mono ?_
      rintro e w1 ⟨rfl, hb1⟩
      have HB1 := Lib.hid hb1
      clear hb1
      rw [HZ.out]
      go_wp2_with fail
      go_ret
      exact ⟨rfl, HB1.out⟩
  · go_enter Try.func4, Try.ntmps4
    go_wp2_with fail
    go_ret
    exact ⟨rfl, Below.refl _ _⟩
set_option maxRecDepth 100000 in
theorem lifted (os : Os) (started : os.Started) (H : Type) (enc : TypeId × Value → H) :
    ReturnsInHanded {} Try.checked os 4 .any (Rows.fnExactFindRestartSpec.pre6 enc Try.prog Try.f4 Rows.fnExactFindRestartRow.domain false) (Rows.fnExactFindRestartSpec.post enc Try.prog Try.f4 false true false false) := by
  refine returnsInHanded_of_change (C := Try.checked) own started (by kernel_rfl) Try.func4
    (ChangeSpec.witness6 (enc := enc) (C := Try.checked) false ⟨#[], #[.slice none 0 0, .string ByteArray.empty], []⟩ 8 (by kernel_rfl) (by kernel_rfl) (by kernel_rfl) (by kernel_rfl)) ?_
  intro W base args ds gs before hval0 hW hcnd _
  have hval : ∀ (j : Nat) t v, Try.f4.params[j]? = some t → args[j]? = some v → Value.okWide Try.prog W .any base t v := hval0
  have hW' := hW
  obtain ⟨p, q, hA0, hV, rfl, hfz, hnd⟩ := hW
  have hA : DataW.TrodAll enc Try.prog W 0 (fun _ => true) true Try.f4.params.toList args.toList ds p := hA0
  rw [Try.params4] at hA hval
  obtain ⟨v0, vs0, d0, ds0, p0, q0, hargs, rfl, rfl, h0, r0⟩ := trodAll_cons hA
  obtain ⟨v1, vs1, d1, ds1, p1, q1, rfl, rfl, rfl, h1, r1⟩ := trodAll_cons r0
  obtain ⟨rfl, rfl, rfl⟩ := trodAll_nil r1
  obtain rfl : args = #[v0, v1] := by cases args; simp_all
  obtain ⟨rfl, rfl⟩ := trodVars_none hV
  obtain ⟨x0, u0⟩ := open_handlers (hval 0 23 v0 rfl rfl) h0
  obtain ⟨s1, rfl, rfl, rfl, u1⟩ := open_string Try.underlying9 (hval 1 9 v1 rfl rfl) h1
  obtain ⟨x1, rfl⟩ := exists_str s1
  rw [str_size] at u1
  clear hA0 hval0
  refine (walk v0 x0 u0 x1 u1).mono fun e W' ⟨he, hg⟩ => ?_
  subst he
  exact ⟨_, rfl, law_post laidOut hW' rfl rfl Try.underlying4 rfl rfl rfl (by intro t ht; rw [Try.params4] at ht; have ht2 : t ∈ [23, 9] := ht; simp only [List.mem_cons, List.not_mem_nil, or_false] at ht2; rcases ht2 with rfl | rfl <;> exact ⟨by kernel_rfl, of_decide_eq_true (by kernel_rfl)⟩) hg⟩

theorem over : Rows.fnExactFindRestartRow.holds Try.pinned (OpenSpec.ofChange Rows.fnExactFindRestartSpec) :=
  OpenClaim.holds_of_wide 4 Try.f4 rfl rfl rfl rfl rfl rfl rfl ⟨rfl, rfl, rfl, rfl, rfl⟩ rfl rfl rfl rfl rfl (by kernel_rfl) Try.func4 (by kernel_rfl)
    (of_decide_eq_true (by kernel_rfl)) (by unfold Func.isWrapper; first | (rw [if_pos (by decide +kernel)]; kernel_rfl) | (rw [if_neg (by decide +kernel)]; exact ⟨rfl, rfl⟩))
    (fun os started H enc _ => lifted os started H enc)

/-- THE STATEMENT -/
theorem proved : Rows.FnExactFindRestartSaid :=
  over
#print axioms proved
end fnExactFindRestart
end Go.Proofs.Ytclcljibdhkkoaa
