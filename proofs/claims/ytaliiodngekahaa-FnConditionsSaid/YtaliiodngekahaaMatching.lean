/-
  Contracts: MatchingHandlers.
-/
import Derived.Test.YtaliiodngekahaaHandlers
import Derived.Test.YtaliiodngekahaaMarkInt
namespace Go.Proofs.Ytaliiodngekahaa
set_option maxRecDepth 100000
open Go.ChangeShapes Go.WideShapes Go.ChangeAt Go.RowKit Go.Deep
open Go.ChangeMaps (open_string shut_string)
set_option linter.unusedVariables false

/-- the handlers that a signal reaches, among the first n, from the last down -/
def matchF (l : List HandD) (s : List UInt8) : Nat → List Int
  | 0 => []
  | n + 1 => match l[n]? with
    | some d => if d.name = s then (if d.kind = 1 then (n : Int) :: matchF l s n else if d.kind = 0 then [(n : Int)] else matchF l s n) else matchF l s n
    | none => matchF l s n
theorem matchF_at (l : List HandD) (s : List UInt8) (n : Nat) (h : n < l.length) : matchF l s (n + 1) = if l[n].name = s then (if l[n].kind = 1 then (n : Int) :: matchF l s n else if l[n].kind = 0 then [(n : Int)] else matchF l s n) else matchF l s n := by
  rw [matchF, List.getElem?_eq_getElem h]
theorem matchF_len (l : List HandD) (s : List UInt8) : ∀ n, (matchF l s n).length ≤ n ∧ ∀ x ∈ matchF l s n, 0 ≤ x ∧ x < n := by
  intro n
  induction n with
  | zero => simp [matchF]
  | succ n ih =>
    rw [matchF]
    cases l[n]? with
    | none => exact ⟨by have := ih.1; show (matchF l s n).length ≤ n + 1; omega, fun x hx => by have := ih.2 x hx; omega⟩
    | some d =>
      dsimp only
      split
      · split
        · refine ⟨by have := ih.1; simp; omega, fun x hx => ?_⟩
          rcases List.mem_cons.1 hx with rfl | hx
          · omega
          · have := ih.2 x hx; omega
        · split
          · refine ⟨by simp, fun x hx => ?_⟩
            have := List.mem_singleton.1 hx
            omega
          · exact ⟨by have := ih.1; omega, fun x hx => by have := ih.2 x hx; omega⟩
      · exact ⟨by have := ih.1; omega, fun x hx => by have := ih.2 x hx; omega⟩

def intV (n : Int) : Value := .int .i64 n
theorem intV_def (n : Int) : Value.int .i64 n = intV n := rfl

def RetMH (w : World) (l : List HandD) (s : List UInt8) (e : Ending) (w' : World) : Prop :=
  ∃ A c, e = .returned (.slice A (matchF l s l.length).length c) ∧ w'.ownsRow w.heap.size 3 1 (.slice A (matchF l s l.length).length c) (matchF l s l.length).length ((matchF l s l.length).map fun n => Value.int .i64 n) ∧ Below w.heap.size w w'

theorem retMH {w w' : World} {l : List HandD} {s : List UInt8} {v : Value} {o : List Int} (ho : w'.ownsRow w.heap.size 3 1 v o.length (o.map fun n => Value.int .i64 n)) (he : matchF l s l.length = o) (hb : Below w.heap.size w w') : RetMH w l s (.returned v) w' := by
  subst he
  obtain ⟨A, c, rfl⟩ := own_shape ho
  exact ⟨A, c, rfl, ho, hb⟩

set_option maxHeartbeats 1000000 in
theorem impl_MatchingHandlers (l : List HandD) (s : List UInt8) (v : Value) (w : World) (h : Hands w v l) (hl : l.length ≤ 1048576) :
    Calls Try.prog 8 #[v, .string (str s)] w (RetMH w l s) := by
  obtain ⟨A, c, rfl, hlc, hm, HC⟩ := h.open_
  clear h
  unfold maxLen at hm
  go_enter Try.func8, Try.ntmps8
  go_wp2
  go_loopw [5, 6] (fun q i wr => ∃ (k : Nat) (y : Int) (o : List Int), k ≤ l.length ∧ i = .int .i64 y ∧ y + 1 ≤ k ∧ k ≤ y + 1 ∧ o.length + k ≤ l.length ∧ wr.ownsRow w.heap.size 3 1 q o.length (o.map fun n => Value.int .i64 n) ∧ Hid (matchF l s l.length = o ++ matchF l s k) ∧ Below w.heap.size w wr) (fun _ i _ => (intOf i + 1).toNat)
  case atStart => exact ⟨l.length, _, [], Nat.le_refl _, rfl, by omega, by omega, by simp, World.ownsRow_nil _ _ _ _, rfl, Below.refl _ _⟩
  case round =>
    obtain ⟨k, y, o, hk, rfl, hy1, hy2, hol, ho, hR, hb⟩ := hrel
    have hbs := hb.size
    by_cases hlt : 0 < k
    · obtain ⟨k, rfl⟩ : ∃ j, k = j + 1 := ⟨k - 1, by omega⟩
      obtain rfl : y = (k : Int) := by omega
      obtain ⟨b, off, rfl, hbl, hc0, hc1, _, _⟩ := HC.out k (by omega)
      have hd0 := (hb.cell (p := ⟨b, off + k * 2, none⟩) hbl).trans hc0
      have hd1 := (hb.cell (p := ⟨b, off + k * 2 + 1, none⟩) hbl).trans hc1
      clear hc0 hc1
      have HM := Lib.hid (matchF_at l s k (by omega))
      by_cases h2 : l[k].name = s
      · have h2b : (l[k].name == s) = true := by simp [h2]
        by_cases h1 : l[k].kind = 1
        · have h1b : (l[k].kind == 1) = true := by simp [h1]
          have h1c : (l[k].kind != 1) = false := by simp [h1]
          have h1d : (l[k].kind == 0) = false := by simp [h1]
          have h1e : (l[k].kind != 0) = true := by simp [h1]
          have HY := Lib.hid (show matchF l s (k + 1) = (k : Int) :: matchF l s k by rw [HM.out]; simp [h1, h2])
          clear h1 h2 HM
          go_wp2_with (at_builtin; go_must (refine wpList_push rfl _ _ 27 rfl w.heap.size 3 (.int .i64 0) 1 8 Try.underlying27 info_int rfl (by decide) _ _ _ _ _ rfl rfl (by exact ho) rfl (by simp [Value.oneCell']) (by omega) (by omega) hbs ?_); intro v1 w1 ho1 _ _ hb1; have hd2 := (hb1.cell (p := ⟨b, off + k * 2, none⟩) hbl).trans hd0; clear hd0 hd1)
          go_roundw
          case rel =>
            refine ⟨k, (k : Int) - 1, o ++ [(k : Int)], by omega, by go_num, by omega, by omega, by simp; omega, ?_, ?_, hb.trans hb1⟩
            · rw [List.map_append, List.length_append]; exact ho1
            · show _ = _
              rw [hR.out, HY.out]; simp
          case measure => simp [intOf]
        · by_cases h0 : l[k].kind = 0
          · have h1b : (l[k].kind == 1) = false := by simp [h1]
            have h1c : (l[k].kind != 1) = true := by simp [h1]
            have h0b : (l[k].kind == 0) = true := by simp [h0]
            have h0c : (l[k].kind != 0) = false := by simp [h0]
            have HY := Lib.hid (show matchF l s (k + 1) = [(k : Int)] by rw [HM.out]; simp [h2, h0])
            clear h1 h2 h0 HM
            go_wp2_with (at_builtin; go_must (refine wpList_push rfl _ _ 27 rfl w.heap.size 3 (.int .i64 0) 1 8 Try.underlying27 info_int rfl (by decide) _ _ _ _ _ rfl rfl (by exact ho) rfl (by simp [Value.oneCell']) (by omega) (by omega) hbs ?_); intro v1 w1 ho1 _ _ hb1; have hd2 := (hb1.cell (p := ⟨b, off + k * 2, none⟩) hbl).trans hd0; clear hd0 hd1)
            go_ret
            refine retMH (o := o ++ [(k : Int)]) ?_ (by rw [hR.out, HY.out]) (hb.trans hb1)
            rw [List.map_append, List.length_append]; exact ho1
          · have h1b : (l[k].kind == 1) = false := by simp [h1]
            have h1c : (l[k].kind != 1) = true := by simp [h1]
            have h0b : (l[k].kind == 0) = false := by simp [h0]
            have h0c : (l[k].kind != 0) = true := by simp [h0]
            have HY := Lib.hid (show matchF l s (k + 1) = matchF l s k by rw [HM.out]; simp [h1, h2, h0])
            clear h1 h2 h0 HM
            go_wp2
            go_roundw
            case rel => exact ⟨k, (k : Int) - 1, o, by omega, by go_num, by omega, by omega, by omega, ho, by show _ = _; rw [hR.out, HY.out], hb⟩
            case measure => simp [intOf]
      · have h2b : (l[k].name == s) = false := by simp [h2]
        have HY := Lib.hid (show matchF l s (k + 1) = matchF l s k by rw [HM.out]; simp [h2])
        clear h2 HM
        go_wp2
        go_roundw
        case rel => exact ⟨k, (k : Int) - 1, o, by omega, by go_num, by omega, by omega, by omega, ho, by show _ = _; rw [hR.out, HY.out], hb⟩
        case measure => simp [intOf]
    · obtain rfl : k = 0 := by omega
      obtain rfl : y = -1 := by omega
      go_wp2
      go_ret
      exact retMH ho (by rw [hR.out]; simp [matchF]) hb

set_option maxHeartbeats 1000000 in
theorem spec_MatchingHandlers (l : List HandD) (s : List UInt8) (v : Value) (w : World) (h : Hands w v l) (hl : l.length ≤ 1048576) :
    Calls Try.prog 10 #[v, .string (str s)] w (RetMH w l s) := by
  obtain ⟨A, c, rfl, hlc, hm, HC⟩ := h.open_
  clear h
  unfold maxLen at hm
  go_enter Try.func10, Try.ntmps10
  go_wp2
  go_loopw [5, 6] (fun q i wr => ∃ (k : Nat) (y : Int) (o : List Int), k ≤ l.length ∧ i = .int .i64 y ∧ y + 1 ≤ k ∧ k ≤ y + 1 ∧ o.length + k ≤ l.length ∧ wr.ownsRow w.heap.size 3 1 q o.length (o.map fun n => Value.int .i64 n) ∧ Hid (matchF l s l.length = o ++ matchF l s k) ∧ Below w.heap.size w wr) (fun _ i _ => (intOf i + 1).toNat)
  case atStart => exact ⟨l.length, _, [], Nat.le_refl _, rfl, by omega, by omega, by simp, owns_new w _ 1 0 _ 0 [] rfl (Nat.le_refl _) (by unfold maxLen; omega) rfl rfl, rfl, (Below.refl _ _).alloc (Nat.le_refl _) _⟩
  case round =>
    obtain ⟨k, y, o, hk, rfl, hy1, hy2, hol, ho, hR, hb⟩ := hrel
    have hbs := hb.size
    by_cases hlt : 0 < k
    · obtain ⟨k, rfl⟩ : ∃ j, k = j + 1 := ⟨k - 1, by omega⟩
      obtain rfl : y = (k : Int) := by omega
      obtain ⟨b, off, rfl, hbl, hc0, hc1, _, _⟩ := HC.out k (by omega)
      have hd0 := (hb.cell (p := ⟨b, off + k * 2, none⟩) hbl).trans hc0
      have hd1 := (hb.cell (p := ⟨b, off + k * 2 + 1, none⟩) hbl).trans hc1
      clear hc0 hc1
      have HM := Lib.hid (matchF_at l s k (by omega))
      by_cases h2 : l[k].name = s
      · have h2b : (l[k].name == s) = true := by simp [h2]
        by_cases h1 : l[k].kind = 1
        · have h1b : (l[k].kind == 1) = true := by simp [h1]
          have h1c : (l[k].kind != 1) = false := by simp [h1]
          have h1d : (l[k].kind == 0) = false := by simp [h1]
          have h1e : (l[k].kind != 0) = true := by simp [h1]
          have HY := Lib.hid (show matchF l s (k + 1) = (k : Int) :: matchF l s k by rw [HM.out]; simp [h1, h2])
          clear h1 h2 HM
          go_wp2_with (at_builtin; go_must (refine wpList_push rfl _ _ 27 rfl w.heap.size 3 (.int .i64 0) 1 8 Try.underlying27 info_int rfl (by decide) _ _ _ _ _ rfl rfl (by exact ho) rfl (by simp [Value.oneCell']) (by omega) (by omega) hbs ?_); intro v1 w1 ho1 _ _ hb1; have hd2 := (hb1.cell (p := ⟨b, off + k * 2, none⟩) hbl).trans hd0; clear hd0 hd1)
          go_roundw
          case rel =>
            refine ⟨k, (k : Int) - 1, o ++ [(k : Int)], by omega, by go_num, by omega, by omega, by simp; omega, ?_, ?_, hb.trans hb1⟩
            · rw [List.map_append, List.length_append]; exact ho1
            · show _ = _
              rw [hR.out, HY.out]; simp
          case measure => simp [intOf]
        · by_cases h0 : l[k].kind = 0
          · have h1b : (l[k].kind == 1) = false := by simp [h1]
            have h1c : (l[k].kind != 1) = true := by simp [h1]
            have h0b : (l[k].kind == 0) = true := by simp [h0]
            have h0c : (l[k].kind != 0) = false := by simp [h0]
            have HY := Lib.hid (show matchF l s (k + 1) = [(k : Int)] by rw [HM.out]; simp [h2, h0])
            clear h1 h2 h0 HM
            go_wp2_with (at_builtin; go_must (refine wpList_push rfl _ _ 27 rfl w.heap.size 3 (.int .i64 0) 1 8 Try.underlying27 info_int rfl (by decide) _ _ _ _ _ rfl rfl (by exact ho) rfl (by simp [Value.oneCell']) (by omega) (by omega) hbs ?_); intro v1 w1 ho1 _ _ hb1; have hd2 := (hb1.cell (p := ⟨b, off + k * 2, none⟩) hbl).trans hd0; clear hd0 hd1)
            go_ret
            refine retMH (o := o ++ [(k : Int)]) ?_ (by rw [hR.out, HY.out]) (hb.trans hb1)
            rw [List.map_append, List.length_append]; exact ho1
          · have h1b : (l[k].kind == 1) = false := by simp [h1]
            have h1c : (l[k].kind != 1) = true := by simp [h1]
            have h0b : (l[k].kind == 0) = false := by simp [h0]
            have h0c : (l[k].kind != 0) = true := by simp [h0]
            have HY := Lib.hid (show matchF l s (k + 1) = matchF l s k by rw [HM.out]; simp [h1, h2, h0])
            clear h1 h2 h0 HM
            go_wp2
            go_roundw
            case rel => exact ⟨k, (k : Int) - 1, o, by omega, by go_num, by omega, by omega, by omega, ho, by show _ = _; rw [hR.out, HY.out], hb⟩
            case measure => simp [intOf]
      · have h2b : (l[k].name == s) = false := by simp [h2]
        have HY := Lib.hid (show matchF l s (k + 1) = matchF l s k by rw [HM.out]; simp [h2])
        clear h2 HM
        go_wp2
        go_roundw
        case rel => exact ⟨k, (k : Int) - 1, o, by omega, by go_num, by omega, by omega, by omega, ho, by show _ = _; rw [hR.out, HY.out], hb⟩
        case measure => simp [intOf]
    · obtain rfl : k = 0 := by omega
      obtain rfl : y = -1 := by omega
      go_wp2
      go_ret
      exact retMH ho (by rw [hR.out]; simp [matchF]) hb
end Go.Proofs.Ytaliiodngekahaa
