/-
  The law FnExactMatchingHandlers returns true for every list of handlers and every string.
-/
import Derived.Test.YtlhffbahepmclaaRows
import Derived.Test.YtlhffbahepmclaaHandlers
import Derived.Test.YtlhffbahepmclaaIntS
namespace Go.Proofs.Ytlhffbahepmclaa
set_option maxRecDepth 100000
open Go.ChangeShapes Go.WideShapes Go.ChangeAt Go.RowKit Go.Deep
open Go.ChangeMaps (open_string shut_string)
set_option linter.unusedVariables false

/-- the handlers that a signal reaches, among the first n, from the last down -/
def matchF (l : List HandD) (s : List UInt8) : Nat → List Int
  | 0 => []
  | n + 1 => match l[n]? with
    | some d => if d.name = s then (if d.kind = 1 then (n : Int) :: matchF l s n else if d.kind = 0 then [(n : Int)] else matchF l s n) else matchF l s n
    | none => matchF l s n
theorem matchF_at (l : List HandD) (s : List UInt8) (n : Nat) (h : n < l.length) : matchF l s (n + 1) = if l[n].name = s then (if l[n].kind = 1 then (n : Int) :: matchF l s n else if l[n].kind = 0 then [(n : Int)] else matchF l s n) else matchF l s n := by
  rw [matchF, List.getElem?_eq_getElem h]
theorem matchF_len (l : List HandD) (s : List UInt8) : ∀ n, (matchF l s n).length ≤ n ∧ ∀ x ∈ matchF l s n, 0 ≤ x ∧ x < n := by
  intro n
  induction n with
  | zero => simp [matchF]
  | succ n ih =>
    rw [matchF]
    cases l[n]? with
    | none => exact ⟨by have := ih.1; show (matchF l s n).length ≤ n + 1; omega, fun x hx => by have := ih.2 x hx; omega⟩
    | some d =>
      dsimp only
      split
      · split
        · refine ⟨by have := ih.1; simp; omega, fun x hx => ?_⟩
          rcases List.mem_cons.1 hx with rfl | hx
          · omega
          · have := ih.2 x hx; omega
        · split
          · refine ⟨by simp, fun x hx => ?_⟩
            have := List.mem_singleton.1 hx
            omega
          · exact ⟨by have := ih.1; omega, fun x hx => by have := ih.2 x hx; omega⟩
      · exact ⟨by have := ih.1; omega, fun x hx => by have := ih.2 x hx; omega⟩

def intV (n : Int) : Value := .int .i64 n
theorem intV_def (n : Int) : Value.int .i64 n = intV n := rfl

def RetMH (w : World) (l : List HandD) (s : List UInt8) (e : Ending) (w' : World) : Prop :=
  ∃ A c, e = .returned (.slice A (matchF l s l.length).length c) ∧ w'.ownsRow w.heap.size 3 1 (.slice A (matchF l s l.length).length c) (matchF l s l.length).length ((matchF l s l.length).map fun n => Value.int .i64 n) ∧ Below w.heap.size w w'

theorem own_shape {w : World} {base n : Nat} {e : TypeId} {size : Nat} {v : Value} {xs : List Value} (h : w.ownsRow base e size v n xs) : ∃ A c, v = .slice A n c := by
  rcases h.2 with ⟨rfl, rfl⟩ | ⟨g, cap, cur, rfl, _⟩
  · exact ⟨none, 0, rfl⟩
  · exact ⟨_, cap, rfl⟩
theorem retMH {w w' : World} {l : List HandD} {s : List UInt8} {v : Value} {o : List Int} (ho : w'.ownsRow w.heap.size 3 1 v o.length (o.map fun n => Value.int .i64 n)) (he : matchF l s l.length = o) (hb : Below w.heap.size w w') : RetMH w l s (.returned v) w' := by
  subst he
  obtain ⟨A, c, rfl⟩ := own_shape ho
  exact ⟨A, c, rfl, ho, hb⟩

set_option maxHeartbeats 1000000 in
theorem impl_MatchingHandlers (l : List HandD) (s : List UInt8) (v : Value) (w : World) (h : Hands w v l) (hl : l.length ≤ 1048576) :
    Calls Try.prog 8 #[v, .string (str s)] w (RetMH w l s) := by
  obtain ⟨A, c, rfl, hlc, hm, HC⟩ := h.open_
  clear h
  unfold maxLen at hm
  go_enter Try.func8, Try.ntmps8
  go_wp2
  go_loopw [5, 6] (fun q i wr => ∃ (k : Nat) (y : Int) (o : List Int), k ≤ l.length ∧ i = .int .i64 y ∧ y + 1 ≤ k ∧ k ≤ y + 1 ∧ o.length + k ≤ l.length ∧ wr.ownsRow w.heap.size 3 1 q o.length (o.map fun n => Value.int .i64 n) ∧ Hid (matchF l s l.length = o ++ matchF l s k) ∧ Below w.heap.size w wr) (fun _ i _ => (intOf i + 1).toNat)
  case atStart => exact ⟨l.length, _, [], Nat.le_refl _, rfl, by omega, by omega, by simp, World.ownsRow_nil _ _ _ _, rfl, Below.refl _ _⟩
  case round =>
    obtain ⟨k, y, o, hk, rfl, hy1, hy2, hol, ho, hR, hb⟩ := hrel
    have hbs := hb.size
    by_cases hlt : 0 < k
    · obtain ⟨k, rfl⟩ : ∃ j, k = j + 1 := ⟨k - 1, by omega⟩
      obtain rfl : y = (k : Int) := by omega
      obtain ⟨b, off, rfl, hbl, hc0, hc1, _, _⟩ := HC.out k (by omega)
      have hd0 := (hb.cell (p := ⟨b, off + k * 2, none⟩) hbl).trans hc0
      have hd1 := (hb.cell (p := ⟨b, off + k * 2 + 1, none⟩) hbl).trans hc1
      clear hc0 hc1
      have HM := Lib.hid (matchF_at l s k (by omega))
      by_cases h2 : l[k].name = s
      · have h2b : (l[k].name == s) = true := by simp [h2]
        by_cases h1 : l[k].kind = 1
        · have h1b : (l[k].kind == 1) = true := by simp [h1]
          have h1c : (l[k].kind != 1) = false := by simp [h1]
          have h1d : (l[k].kind == 0) = false := by simp [h1]
          have h1e : (l[k].kind != 0) = true := by simp [h1]
          have HY := Lib.hid (show matchF l s (k + 1) = (k : Int) :: matchF l s k by rw [HM.out]; simp [h1, h2])
          clear h1 h2 HM
          go_wp2_with (at_builtin; go_must (refine wpList_push rfl _ _ 24 rfl w.heap.size 3 (.int .i64 0) 1 8 Try.underlying24 info_int rfl (by decide) _ _ _ _ _ rfl rfl (by exact ho) rfl (by simp [Value.oneCell']) (by omega) (by omega) hbs ?_); intro v1 w1 ho1 _ _ hb1; have hd2 := (hb1.cell (p := ⟨b, off + k * 2, none⟩) hbl).trans hd0; clear hd0 hd1)
          go_roundw
          case rel =>
            refine ⟨k, (k : Int) - 1, o ++ [(k : Int)], by omega, by go_num, by omega, by omega, by simp; omega, ?_, ?_, hb.trans hb1⟩
            · rw [List.map_append, List.length_append]; exact ho1
            · show _ = _
              rw [hR.out, HY.out]; simp
          case measure => simp [intOf]
        · by_cases h0 : l[k].kind = 0
          · have h1b : (l[k].kind == 1) = false := by simp [h1]
            have h1c : (l[k].kind != 1) = true := by simp [h1]
            have h0b : (l[k].kind == 0) = true := by simp [h0]
            have h0c : (l[k].kind != 0) = false := by simp [h0]
            have HY := Lib.hid (show matchF l s (k + 1) = [(k : Int)] by rw [HM.out]; simp [h2, h0])
            clear h1 h2 h0 HM
            go_wp2_with (at_builtin; go_must (refine wpList_push rfl _ _ 24 rfl w.heap.size 3 (.int .i64 0) 1 8 Try.underlying24 info_int rfl (by decide) _ _ _ _ _ rfl rfl (by exact ho) rfl (by simp [Value.oneCell']) (by omega) (by omega) hbs ?_); intro v1 w1 ho1 _ _ hb1; have hd2 := (hb1.cell (p := ⟨b, off + k * 2, none⟩) hbl).trans hd0; clear hd0 hd1)
            go_ret
            refine retMH (o := o ++ [(k : Int)]) ?_ (by rw [hR.out, HY.out]) (hb.trans hb1)
            rw [List.map_append, List.length_append]; exact ho1
          · have h1b : (l[k].kind == 1) = false := by simp [h1]
            have h1c : (l[k].kind != 1) = true := by simp [h1]
            have h0b : (l[k].kind == 0) = false := by simp [h0]
            have h0c : (l[k].kind != 0) = true := by simp [h0]
            have HY := Lib.hid (show matchF l s (k + 1) = matchF l s k by rw [HM.out]; simp [h1, h2, h0])
            clear h1 h2 h0 HM
            go_wp2
            go_roundw
            case rel => exact ⟨k, (k : Int) - 1, o, by omega, by go_num, by omega, by omega, by omega, ho, by show _ = _; rw [hR.out, HY.out], hb⟩
            case measure => simp [intOf]
      · have h2b : (l[k].name == s) = false := by simp [h2]
        have HY := Lib.hid (show matchF l s (k + 1) = matchF l s k by rw [HM.out]; simp [h2])
        clear h2 HM
        go_wp2
        go_roundw
        case rel => exact ⟨k, (k : Int) - 1, o, by omega, by go_num, by omega, by omega, by omega, ho, by show _ = _; rw [hR.out, HY.out], hb⟩
        case measure => simp [intOf]
    · obtain rfl : k = 0 := by omega
      obtain rfl : y = -1 := by omega
      go_wp2
      go_ret
      exact retMH ho (by rw [hR.out]; simp [matchF]) hb

set_option maxHeartbeats 1000000 in
theorem spec_MatchingHandlers (l : List HandD) (s : List UInt8) (v : Value) (w : World) (h : Hands w v l) (hl : l.length ≤ 1048576) :
    Calls Try.prog 6 #[v, .string (str s)] w (RetMH w l s) := by
  obtain ⟨A, c, rfl, hlc, hm, HC⟩ := h.open_
  clear h
  unfold maxLen at hm
  go_enter Try.func6, Try.ntmps6
  go_wp2
  go_loopw [5, 6] (fun q i wr => ∃ (k : Nat) (y : Int) (o : List Int), k ≤ l.length ∧ i = .int .i64 y ∧ y + 1 ≤ k ∧ k ≤ y + 1 ∧ o.length + k ≤ l.length ∧ wr.ownsRow w.heap.size 3 1 q o.length (o.map fun n => Value.int .i64 n) ∧ Hid (matchF l s l.length = o ++ matchF l s k) ∧ Below w.heap.size w wr) (fun _ i _ => (intOf i + 1).toNat)
  case atStart => exact ⟨l.length, _, [], Nat.le_refl _, rfl, by omega, by omega, by simp, owns_new w _ 1 0 _ 0 [] rfl (Nat.le_refl _) (by unfold maxLen; omega) rfl rfl, rfl, (Below.refl _ _).alloc (Nat.le_refl _) _⟩
  case round =>
    obtain ⟨k, y, o, hk, rfl, hy1, hy2, hol, ho, hR, hb⟩ := hrel
    have hbs := hb.size
    by_cases hlt : 0 < k
    · obtain ⟨k, rfl⟩ : ∃ j, k = j + 1 := ⟨k - 1, by omega⟩
      obtain rfl : y = (k : Int) := by omega
      obtain ⟨b, off, rfl, hbl, hc0, hc1, _, _⟩ := HC.out k (by omega)
      have hd0 := (hb.cell (p := ⟨b, off + k * 2, none⟩) hbl).trans hc0
      have hd1 := (hb.cell (p := ⟨b, off + k * 2 + 1, none⟩) hbl).trans hc1
      clear hc0 hc1
      have HM := Lib.hid (matchF_at l s k (by omega))
      by_cases h2 : l[k].name = s
      · have h2b : (l[k].name == s) = true := by simp [h2]
        by_cases h1 : l[k].kind = 1
        · have h1b : (l[k].kind == 1) = true := by simp [h1]
          have h1c : (l[k].kind != 1) = false := by simp [h1]
          have h1d : (l[k].kind == 0) = false := by simp [h1]
          have h1e : (l[k].kind != 0) = true := by simp [h1]
          have HY := Lib.hid (show matchF l s (k + 1) = (k : Int) :: matchF l s k by rw [HM.out]; simp [h1, h2])
          clear h1 h2 HM
          go_wp2_with (at_builtin; go_must (refine wpList_push rfl _ _ 24 rfl w.heap.size 3 (.int .i64 0) 1 8 Try.underlying24 info_int rfl (by decide) _ _ _ _ _ rfl rfl (by exact ho) rfl (by simp [Value.oneCell']) (by omega) (by omega) hbs ?_); intro v1 w1 ho1 _ _ hb1; have hd2 := (hb1.cell (p := ⟨b, off + k * 2, none⟩) hbl).trans hd0; clear hd0 hd1)
          go_roundw
          case rel =>
            refine ⟨k, (k : Int) - 1, o ++ [(k : Int)], by omega, by go_num, by omega, by omega, by simp; omega, ?_, ?_, hb.trans hb1⟩
            · rw [List.map_append, List.length_append]; exact ho1
            · show _ = _
              rw [hR.out, HY.out]; simp
          case measure => simp [intOf]
        · by_cases h0 : l[k].kind = 0
          · have h1b : (l[k].kind == 1) = false := by simp [h1]
            have h1c : (l[k].kind != 1) = true := by simp [h1]
            have h0b : (l[k].kind == 0) = true := by simp [h0]
            have h0c : (l[k].kind != 0) = false := by simp [h0]
            have HY := Lib.hid (show matchF l s (k + 1) = [(k : Int)] by rw [HM.out]; simp [h2, h0])
            clear h1 h2 h0 HM
            go_wp2_with (at_builtin; go_must (refine wpList_push rfl _ _ 24 rfl w.heap.size 3 (.int .i64 0) 1 8 Try.underlying24 info_int rfl (by decide) _ _ _ _ _ rfl rfl (by exact ho) rfl (by simp [Value.oneCell']) (by omega) (by omega) hbs ?_); intro v1 w1 ho1 _ _ hb1; have hd2 := (hb1.cell (p := ⟨b, off + k * 2, none⟩) hbl).trans hd0; clear hd0 hd1)
            go_ret
            refine retMH (o := o ++ [(k : Int)]) ?_ (by rw [hR.out, HY.out]) (hb.trans hb1)
            rw [List.map_append, List.length_append]; exact ho1
          · have h1b : (l[k].kind == 1) = false := by simp [h1]
            have h1c : (l[k].kind != 1) = true := by simp [h1]
            have h0b : (l[k].kind == 0) = false := by simp [h0]
            have h0c : (l[k].kind != 0) = true := by simp [h0]
            have HY := Lib.hid (show matchF l s (k + 1) = matchF l s k by rw [HM.out]; simp [h1, h2, h0])
            clear h1 h2 h0 HM
            go_wp2
            go_roundw
            case rel => exact ⟨k, (k : Int) - 1, o, by omega, by go_num, by omega, by omega, by omega, ho, by show _ = _; rw [hR.out, HY.out], hb⟩
            case measure => simp [intOf]
      · have h2b : (l[k].name == s) = false := by simp [h2]
        have HY := Lib.hid (show matchF l s (k + 1) = matchF l s k by rw [HM.out]; simp [h2])
        clear h2 HM
        go_wp2
        go_roundw
        case rel => exact ⟨k, (k : Int) - 1, o, by omega, by go_num, by omega, by omega, by omega, ho, by show _ = _; rw [hR.out, HY.out], hb⟩
        case measure => simp [intOf]
    · obtain rfl : k = 0 := by omega
      obtain rfl : y = -1 := by omega
      go_wp2
      go_ret
      exact retMH ho (by rw [hR.out]; simp [matchF]) hb

def markI (k n : Nat) : List Int := (List.range n).map fun i => ((k + i : Nat) : Int)
theorem markI_length (k n : Nat) : (markI k n).length = n := by simp [markI]
theorem markI_at (k n i : Nat) (h : i < (markI k n).length) : (markI k n)[i] = ((k + i : Nat) : Int) := by simp [markI]
theorem markI_succ (k n : Nat) : markI k (n + 1) = markI k n ++ [((k + n : Nat) : Int)] := by simp [markI, List.range_succ]
theorem markI_small (k n : Nat) (h : k + n ≤ 4611686018427387904) : ∀ x ∈ markI k n, I64 x := by
  intro x hx
  simp only [markI, List.mem_map, List.mem_range] at hx
  obtain ⟨i, hi, rfl⟩ := hx
  exact ⟨by omega, by omega⟩

set_option maxHeartbeats 400000 in
theorem laws_markIntS (xs : List Value) (base n : Nat) (v : Value) (k0 : Int) (e : TypeId) (w : World) (h : w.ownsRow base e 1 v n xs) (h0 : 0 < k0) (h1 : k0 + n ≤ 4611686018427387904) :
    Calls Try.prog 12 #[v, .int .i64 k0] w fun e' w' => e' = .returned (.int .i64 (k0 + n)) ∧ w'.ownsRow base e 1 v n ((markI k0.toNat n).map fun n => Value.int .i64 n) ∧ w.grownBy w' v.ownBlock := by
  obtain ⟨k, rfl⟩ := Int.eq_ofNat_of_zero_le (show 0 ≤ k0 by omega)
  rw [Int.toNat_natCast]
  have hl := h.1
  rcases h.2 with ⟨rfl, rfl⟩ | ⟨g, cap, cur, rfl, hb, hg, hnc, hcm, hcs, htake⟩
  · go_enter Try.func12, Try.ntmps12
    go_wp2_with fail
    go_loop [1, 5] (fun x i => i = .int .i64 0 ∧ x = .int .i64 k) (fun _ i => 0)
    case atStart => exact ⟨rfl, rfl⟩
    case round =>
      obtain ⟨rfl, rfl⟩ := hrel
      go_wp2_with fail
      go_ret
      exact ⟨ret_int (by simp), by simp [markI]; exact World.ownsRow_nil _ _ _ _, World.grownBy.refl _ _⟩
  · unfold maxLen at hcm
    have hown := Lib.hid h
    have HL := Lib.hid hl
    clear h hl htake hg hcs cur
    show Calls Try.prog 12 #[Value.slice (some ⟨g, 0, none⟩) n cap, Value.int IntKind.i64 ↑k] w fun e' w' => e' = Ending.returned (Value.int IntKind.i64 (↑k + ↑n)) ∧ w'.ownsRow base e 1 (Value.slice (some ⟨g, 0, none⟩) n cap) n (List.map (fun n => Value.int .i64 n) (markI k n)) ∧ w.grownBy w' (some g)
    go_enter Try.func12, Try.ntmps12
    go_wp2_with fail
    go_loopw [1, 5] (fun x i wr => ∃ j : Nat, j ≤ n ∧ i = .int .i64 j ∧ x = .int .i64 (k + j : Nat) ∧ w.grownBy wr (some g) ∧ Hid (wr.ownsRow base e 1 (.slice (some ⟨g, 0, none⟩) n cap) n (((markI k j).map fun n => Value.int .i64 n) ++ xs.drop j))) (fun _ i _ => n - (intOf i).toNat)
    case atStart => exact ⟨0, Nat.zero_le _, rfl, rfl, World.grownBy.refl _ _, by have := hown.out; simpa [markI, Hid] using this⟩
    case round =>
      obtain ⟨j, hj, rfl, rfl, hgr, ho⟩ := hrel
      by_cases hlt : j < n
      · have hfr := ho.out.frozenAt j
        have hcl := ho.out.cellAt j (by omega)
        obtain ⟨u, hu⟩ : ∃ u, wr.cell? ⟨g, j, none⟩ = some u := ⟨_, hcl.trans (List.getElem?_eq_getElem (by have := ho.out.1; omega))⟩
        clear hcl
        go_wp2_with fail
        go_roundw
        case rel =>
          obtain ⟨h2, h3⟩ := ho.out.stored j (Value.int .i64 ((k : Int) + j))
          refine ⟨j + 1, by omega, by go_num, by go_num, hgr.trans h3, ?_⟩
          rw [set_mid _ _ _ _ (by simp [markI]) (by have := HL.out; omega)] at h2
          rw [markI_succ, List.map_append]
          exact h2
        case measure => simp [intOf]; omega
      · obtain rfl : j = n := by omega
        go_wp2_with fail
        go_ret
        refine ⟨ret_int (by omega), ?_, hgr⟩
        have := ho.out
        rw [List.drop_eq_nil_of_le (by have := HL.out; omega), List.append_nil] at this
        exact this

set_option maxHeartbeats 400000 in
theorem laws_heldIntS (n : Nat) (v : Value) (k0 : Int) (w : World) (h0 : 0 < k0) (h1 : k0 + n ≤ 4611686018427387904) (h : Ints w v (markI k0.toNat n)) :
    Calls Try.prog 13 #[v, .int .i64 k0] w fun e' w' => e' = .returned (.int .i64 (k0 + n)) ∧ w = w' := by
  obtain ⟨k, rfl⟩ := Int.eq_ofNat_of_zero_le (show 0 ≤ k0 by omega)
  rw [Int.toNat_natCast] at h
  obtain ⟨A, c, rfl, hlc, hm, HC⟩ := h.open_
  clear h
  rw [markI_length] at *
  unfold maxLen at hm
  go_enter Try.func13, Try.ntmps13
  go_wp2_with fail
  go_loop [1, 5] (fun x i => ∃ j : Nat, j ≤ n ∧ i = .int .i64 j ∧ x = .int .i64 (k + j : Nat)) (fun _ i => n - (intOf i).toNat)
  case atStart => exact ⟨0, Nat.zero_le _, rfl, rfl⟩
  case round =>
      obtain ⟨j, hj, rfl, rfl⟩ := hrel
      by_cases hlt : j < n
      · obtain ⟨b, off, rfl, hbl, hcell, _, _⟩ := HC.out j (by rw [markI_length]; exact hlt)
        rw [markI_at] at hcell
        have he : (((k + j : Nat) : Int) != (k : Int) + j) = false := by simp
        go_wp2_with fail
        go_round
        case rel => exact ⟨j + 1, by omega, by go_num, by go_num⟩
        case measure => simp [intOf]; omega
      · obtain rfl : j = n := by omega
        go_wp2_with fail
        go_ret
        exact ⟨ret_int (by omega), rfl⟩

set_option maxHeartbeats 1000000 in
theorem laws_markHandlerS (xs : List Value) (base n : Nat) (v : Value) (k0 : Int) (e : TypeId) (w : World) (h : w.ownsRow base e 2 v n xs) (h0 : 0 < k0) (h1 : k0 + 2 * n ≤ 4611686018427387904) :
    Calls Try.prog 11 #[v, .int .i64 k0] w fun e' w' => e' = .returned (.int .i64 (k0 + 2 * n)) ∧ w.grownBy w' v.ownBlock := by
  have hl := h.1
  rcases h.2 with ⟨rfl, rfl⟩ | ⟨g, cap, cur, rfl, hb, hg, hnc, hcm, hcs, htake⟩
  · go_enter Try.func11, Try.ntmps11
    go_wp2_with fail
    go_loop [1, 5] (fun x i => i = .int .i64 0 ∧ x = .int .i64 k0) (fun _ i => 0)
    case atStart => exact ⟨rfl, rfl⟩
    case round =>
      obtain ⟨rfl, rfl⟩ := hrel
      go_wp2_with fail
      go_ret
      exact ⟨ret_int (by simp), World.grownBy.refl _ _⟩
  · unfold maxLen at hcm
    have hown := Lib.hid h
    clear h hl htake hg hcs cur
    show Calls Try.prog 11 #[Value.slice (some ⟨g, 0, none⟩) n cap, Value.int IntKind.i64 k0] w fun e' w' => e' = Ending.returned (Value.int IntKind.i64 (k0 + 2 * n)) ∧ w.grownBy w' (some g)
    go_enter Try.func11, Try.ntmps11
    go_wp2_with fail
    go_loopw [1, 5] (fun x i wr => ∃ (j : Nat) (y : Int), j ≤ n ∧ i = .int .i64 j ∧ x = .int .i64 y ∧ y ≤ k0 + 2 * j ∧ k0 + 2 * j ≤ y ∧ w.grownBy wr (some g) ∧ Hid (∃ ys, wr.ownsRow base e 2 (.slice (some ⟨g, 0, none⟩) n cap) n ys)) (fun _ i _ => n - (intOf i).toNat)
    case atStart => exact ⟨0, k0, Nat.zero_le _, rfl, rfl, by omega, by omega, World.grownBy.refl _ _, ⟨xs, hown.out⟩⟩
    case round =>
      obtain ⟨j, y, hj, rfl, rfl, hy1, hy2, hgr, hq⟩ := hrel
      obtain ⟨ys, ho⟩ := hq.out
      by_cases hlt : j < n
      · have hfr := ho.frozenAt (j * 2)
        have hcl := ho.cellAt (j * 2) (by omega)
        obtain ⟨u, hu⟩ : ∃ u, wr.cell? ⟨g, j * 2, none⟩ = some u := ⟨_, hcl.trans (List.getElem?_eq_getElem (by have := ho.1; omega))⟩
        obtain ⟨h2, h3⟩ := ho.stored (j * 2) (Value.int .i64 y)
        have HO := Lib.hid h2
        have HG := Lib.hid (hgr.trans h3)
        clear hcl ho h2 h3 hq
        go_wp2_with fail
        refine (laws_markText _ _ (by omega) (by omega)).mono ?_
        rintro e1 w1 ⟨rfl, hb1⟩
        have ho1 := own_below HO.out hb1
        have hg1 := HG.out.trans (grown_of_below hb1 (some g))
        have hfr1 := ho1.frozenAt (j * 2 + 1)
        have hcl := ho1.cellAt (j * 2 + 1) (by omega)
        obtain ⟨u1, hu1⟩ : ∃ u, w1.cell? ⟨g, j * 2 + 1, none⟩ = some u := ⟨_, hcl.trans (List.getElem?_eq_getElem (by have := ho1.1; omega))⟩
        have HO1 := Lib.hid ho1
        have HG1 := Lib.hid hg1
        clear hcl ho1 hg1 hb1 hfr hu HO HG
        go_wp2_with fail
        go_roundw
        case rel =>
          obtain ⟨h2, h3⟩ := HO1.out.stored (j * 2 + 1) (Value.string (str (markT (y + 1).toNat)))
          exact ⟨j + 1, y + 1 + 1, by omega, by go_num, rfl, by omega, by omega, HG1.out.trans h3, ⟨_, h2⟩⟩
        case measure => simp [intOf]; omega
      · obtain rfl : j = n := by omega
        go_wp2_with fail
        go_ret
        exact ⟨ret_int (by omega), hgr⟩

namespace fnExactMatchingHandlers
set_option maxHeartbeats 2000000 in
theorem walk (v : Value) (l : List HandD) {w : World} (h : Hands w v l) (s : List UInt8) (hs0 : s.length ≤ maxLen) :
    Calls Try.prog 3 #[v, .string (str s)] w fun e w' => e = .returned (.bool true) ∧ Below w.heap.size w w' := by
  unfold maxLen at hs0
  by_cases hs : s.length ≤ 1048576
  rotate_left
  · go_enter Try.func3, Try.ntmps3
    go_wp2_with fail
    go_ret
    exact ⟨rfl, Below.refl _ _⟩
  by_cases hz : (szH l : Int) ≤ 1048576
  rotate_left
  · have HZ := Lib.hid (szR_neg hz)
    go_enter Try.func3, Try.ntmps3
    go_wp2_with fail
    refine (laws_szHandlerS l v 1048576 _ h (by omega) (by omega)).mono ?_
    rintro e w1 ⟨rfl, hb1⟩
    have HB1 := Lib.hid hb1
    clear hb1
    rw [HZ.out]
    go_wp2_with fail
    go_ret
    exact ⟨rfl, HB1.out⟩
  have HZ := Lib.hid (szR_pos hz)
  have hl : l.length ≤ 1048576 := by
    have h9 := szH_take_le l 0
    rw [List.length_drop] at h9
    omega
  have HT := Lib.hid h
  have hML := matchF_len l s l.length
  have HSM := Lib.hid (show ∀ n ∈ matchF l s l.length, I64 n from fun n hn => by have := hML.2 n hn; exact ⟨by omega, by omega⟩)
  have hnl := hML.1
  clear h hML
  go_enter Try.func3, Try.ntmps3
  go_wp2_with fail
  refine (laws_szHandlerS l v 1048576 _ HT.out (by omega) (by omega)).mono ?_
  rintro e w1 ⟨rfl, hb⟩
  have HB := Lib.hid hb
  clear hb
  rw [HZ.out]
  go_wp2_with fail
  refine (laws_toHandlerS l v _ (HT.out.below HB.out) hl).mono ?_
  rintro e w2 ⟨va, rfl, _, ta, hb⟩
  replace HB := Lib.hid (HB.out.trans (hb.mono HB.out.size))
  clear hb
  go_wp2_with fail
  refine (spec_MatchingHandlers l s va _ ta hl).mono ?_
  rintro e w3 ⟨A0, c0, rfl, o0, hb⟩
  generalize hM : matchF l s l.length = M at *
  have O0 := Lib.hid (own_base o0 (Nat.zero_le _))
  have lt0 := Lib.hid (fun k (hk : (Value.slice A0 M.length c0).ownBlock = some k) => (o0.lt k hk).2)
  replace HB := Lib.hid (HB.out.trans (hb.mono HB.out.size))
  clear hb o0 ta
  go_wp2_with fail
  refine (laws_toHandlerS l v _ (HT.out.below HB.out) hl).mono ?_
  rintro e w4 ⟨x0, rfl, ox, tx, hb⟩
  have hw34 : w3.heap.size ≤ w4.heap.size := hb.size
  have OX := Lib.hid ox
  have TX := Lib.hid tx
  replace O0 := Lib.hid (own_below O0.out hb)
  have hB3 : w.heap.size ≤ w3.heap.size := HB.out.size
  replace HB := Lib.hid (HB.out.trans (hb.mono HB.out.size))
  clear hb ox tx
  go_wp2_with fail
  refine (impl_MatchingHandlers l s x0 _ TX.out hl).mono ?_
  unfold RetMH
  rw [hM]
  rintro e w5 ⟨A1, c1, rfl, o1, hb⟩
  have O1 := Lib.hid o1
  replace O0 := Lib.hid (own_below O0.out hb)
  replace TX := Lib.hid (TX.out.below hb)
  have OX5 := Lib.hid (own_below OX.out hb)
  have nGX := Lib.hid (own_apart OX.out o1)
  have hB4 : w.heap.size ≤ w4.heap.size := HB.out.size
  have n0G := Lib.hid (show (Value.slice A0 M.length c0).ownBlock = none ∨ (Value.slice A0 M.length c0).ownBlock ≠ (Value.slice A1 M.length c1).ownBlock by
    cases hv : (Value.slice A0 M.length c0).ownBlock with
    | none => exact .inl rfl
    | some k =>
      right
      intro he
      have h1 := lt0.out k hv
      have h2 := (o1.lt k he.symm).1
      omega)
  have n0X := Lib.hid (show (Value.slice A0 M.length c0).ownBlock = none ∨ (Value.slice A0 M.length c0).ownBlock ≠ x0.ownBlock by
    cases hv : (Value.slice A0 M.length c0).ownBlock with
    | none => exact .inl rfl
    | some k =>
      right
      intro he
      have h1 := lt0.out k hv
      have h2 := (OX.out.lt k he.symm).1
      omega)
  replace HB := Lib.hid (HB.out.trans (hb.mono HB.out.size))
  have HM := Lib.hid hM
  clear hb o1 hM lt0
  go_wp2_with fail
  refine (laws_eqIntS_same M _ _ _ (Ints.of_own O1.out HSM.out) (Ints.of_own O0.out HSM.out)).mono ?_
  rintro e w6 ⟨rfl, hb⟩
  replace O0 := Lib.hid (own_below O0.out hb)
  replace O1 := Lib.hid (own_below O1.out hb)
  replace OX5 := Lib.hid (own_below OX5.out hb)
  replace TX := Lib.hid (TX.out.below hb)
  replace HB := Lib.hid (HB.out.trans (hb.mono HB.out.size))
  clear hb
  go_wp2_with fail
  refine (laws_toHandlerS l v _ (HT.out.below HB.out) hl).mono ?_
  rintro e w7 ⟨xb, rfl, _, tb, hb⟩
  replace O0 := Lib.hid (own_below O0.out hb)
  replace O1 := Lib.hid (own_below O1.out hb)
  replace OX5 := Lib.hid (own_below OX5.out hb)
  replace TX := Lib.hid (TX.out.below hb)
  replace HB := Lib.hid (HB.out.trans (hb.mono HB.out.size))
  clear hb
  go_wp2_with fail
  refine (laws_eqHandlerS_same l x0 xb _ TX.out tb).mono ?_
  rintro e w8 ⟨rfl, hb⟩
  replace O0 := Lib.hid (own_below O0.out hb)
  replace O1 := Lib.hid (own_below O1.out hb)
  replace OX5 := Lib.hid (own_below OX5.out hb)
  replace HB := Lib.hid (HB.out.trans (hb.mono HB.out.size))
  clear hb tb TX
  go_wp2_with fail
  refine (laws_markHandlerS _ _ _ x0 1 _ _ OX5.out (by omega) (by omega)).mono ?_
  rintro e w9 ⟨rfl, hg⟩
  replace O1 := Lib.hid (own_kept O1.out hg nGX.out)
  replace O0 := Lib.hid (own_kept O0.out hg n0X.out)
  replace HB := Lib.hid (below_mark HB.out OX5.out hB3 HB.out.size hg)
  clear hg
  go_wp2_with fail
  refine (laws_eqIntS_same M _ _ _ (Ints.of_own O1.out HSM.out) (Ints.of_own O0.out HSM.out)).mono ?_
  rintro e w10 ⟨rfl, hb⟩
  replace O0 := Lib.hid (own_below O0.out hb)
  replace O1 := Lib.hid (own_below O1.out hb)
  replace HB := Lib.hid (HB.out.trans (hb.mono HB.out.size))
  clear hb
  go_wp2_with fail
  refine (laws_markIntS _ _ _ _ 1 _ _ O1.out (by omega) (by omega)).mono ?_
  rintro e w11 ⟨rfl, om, hg⟩
  replace O0 := Lib.hid (own_kept O0.out hg n0G.out)
  replace HB := Lib.hid (below_mark HB.out O1.out hB4 HB.out.size hg)
  have OM := Lib.hid om
  clear hg om O1
  go_wp2_with fail
  have IM : ∀ {W : World} {base : Nat}, W.ownsRow base 3 1 (.slice A1 M.length c1) M.length ((markI 1 M.length).map fun n => Value.int .i64 n) → Ints W (.slice A1 M.length c1) (markI 1 M.length) := fun h => Ints.of_own (by rw [markI_length]; exact h) (markI_small 1 _ (by omega))
  refine (laws_heldIntS M.length _ 1 _ (by omega) (by omega) (IM OM.out)).mono ?_
  rintro e w12 ⟨rfl, rfl⟩
  have HIM := Lib.hid (IM OM.out)
  clear IM
  go_wp2_with fail
  refine (laws_toHandlerS l v _ (HT.out.below HB.out) hl).mono ?_
  rintro e w12 ⟨xc, rfl, _, tc, hb⟩
  replace O0 := Lib.hid (own_below O0.out hb)
  replace HIM := Lib.hid (HIM.out.below hb)
  replace HB := Lib.hid (HB.out.trans (hb.mono HB.out.size))
  clear hb
  go_wp2_with fail
  refine (impl_MatchingHandlers l s xc _ tc hl).mono ?_
  unfold RetMH
  rw [HM.out]
  rintro e w13 ⟨A2, c2, rfl, o2, hb⟩
  replace O0 := Lib.hid (own_below O0.out hb)
  replace HIM := Lib.hid (HIM.out.below hb)
  replace HB := Lib.hid (HB.out.trans (hb.mono HB.out.size))
  have O2 := Lib.hid o2
  clear hb o2 tc
  go_wp2_with fail
  refine (laws_eqIntS_same M _ _ _ (Ints.of_own O2.out HSM.out) (Ints.of_own O0.out HSM.out)).mono ?_
  rintro e w14 ⟨rfl, hb⟩
  replace HIM := Lib.hid (HIM.out.below hb)
  replace HB := Lib.hid (HB.out.trans (hb.mono HB.out.size))
  clear hb
  go_wp2_with fail
  refine (laws_heldIntS M.length _ 1 _ (by omega) (by omega) HIM.out).mono ?_
  rintro e w15 ⟨rfl, rfl⟩
  go_wp2_with fail
  go_ret
  exact ⟨rfl, HB.out⟩
set_option maxRecDepth 100000 in
theorem lifted (os : Os) (started : os.Started) (H : Type) (enc : TypeId × Value → H) :
    ReturnsInHanded {} Try.checked os 3 .any (Rows.fnExactMatchingHandlersSpec.pre6 enc Try.prog Try.f3 Rows.fnExactMatchingHandlersRow.domain false) (Rows.fnExactMatchingHandlersSpec.post enc Try.prog Try.f3 false true false false) := by
  refine returnsInHanded_of_change (C := Try.checked) own started (by kernel_rfl) Try.func3
    (ChangeSpec.witness6 (enc := enc) (C := Try.checked) false ⟨#[], #[.slice none 0 0, .string ByteArray.empty], []⟩ 8 (by kernel_rfl) (by kernel_rfl) (by kernel_rfl) (by kernel_rfl)) ?_
  intro W base args ds gs before hval0 hW hcnd _
  have hval : ∀ (j : Nat) t v, Try.f3.params[j]? = some t → args[j]? = some v → Value.okWide Try.prog W .any base t v := hval0
  have hW' := hW
  obtain ⟨p, q, hA0, hV, rfl, hfz, hnd⟩ := hW
  have hA : DataW.TrodAll enc Try.prog W 0 (fun _ => true) true Try.f3.params.toList args.toList ds p := hA0
  rw [Try.params3] at hA hval
  obtain ⟨v0, vs0, d0, ds0, p0, q0, hargs, rfl, rfl, h0, r0⟩ := trodAll_cons hA
  obtain ⟨v1, vs1, d1, ds1, p1, q1, rfl, rfl, rfl, h1, r1⟩ := trodAll_cons r0
  obtain ⟨rfl, rfl, rfl⟩ := trodAll_nil r1
  obtain rfl : args = #[v0, v1] := by cases args; simp_all
  obtain ⟨rfl, rfl⟩ := trodVars_none hV
  obtain ⟨x0, u0⟩ := open_handlers (hval 0 22 v0 rfl rfl) h0
  obtain ⟨s1, rfl, rfl, rfl, u1⟩ := open_string Try.underlying9 (hval 1 9 v1 rfl rfl) h1
  obtain ⟨x1, rfl⟩ := exists_str s1
  rw [str_size] at u1
  clear hA0 hval0
  refine (walk v0 x0 u0 x1 u1).mono fun e W' ⟨he, hg⟩ => ?_
  subst he
  exact ⟨_, rfl, law_post laidOut hW' rfl rfl Try.underlying4 rfl rfl rfl (by intro t ht; rw [Try.params3] at ht; have ht2 : t ∈ [22, 9] := ht; simp only [List.mem_cons, List.not_mem_nil, or_false] at ht2; rcases ht2 with rfl | rfl <;> exact ⟨by kernel_rfl, of_decide_eq_true (by kernel_rfl)⟩) hg⟩

theorem over : Rows.fnExactMatchingHandlersRow.holds Try.pinned (OpenSpec.ofChange Rows.fnExactMatchingHandlersSpec) :=
  OpenClaim.holds_of_wide 3 Try.f3 rfl rfl rfl rfl rfl rfl rfl ⟨rfl, rfl, rfl, rfl, rfl⟩ rfl rfl rfl rfl rfl (by kernel_rfl) Try.func3 (by kernel_rfl)
    (of_decide_eq_true (by kernel_rfl)) (by unfold Func.isWrapper; first | (rw [if_pos (by decide +kernel)]; kernel_rfl) | (rw [if_neg (by decide +kernel)]; exact ⟨rfl, rfl⟩))
    (fun os started H enc _ => lifted os started H enc)

/-- THE STATEMENT -/
theorem proved : Rows.FnExactMatchingHandlersSaid :=
  over
#print axioms proved
end fnExactMatchingHandlers
end Go.Proofs.Ytlhffbahepmclaa
