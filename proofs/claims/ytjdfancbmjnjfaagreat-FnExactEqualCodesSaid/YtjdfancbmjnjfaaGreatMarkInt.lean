/-
  Marking ints: the walks, and what is held of the marks.
-/
import Derived.Test.YtjdfancbmjnjfaaGreatMarks
import Derived.Test.YtjdfancbmjnjfaaGreatIntS
namespace Go.Proofs.YtjdfancbmjnjfaaGreat
set_option maxRecDepth 100000
open Go.ChangeShapes Go.WideShapes Go.ChangeAt Go.RowKit Go.Deep
set_option linter.unusedVariables false

theorem own_shape {w : World} {base n : Nat} {e : TypeId} {size : Nat} {v : Value} {xs : List Value} (h : w.ownsRow base e size v n xs) : ∃ A c, v = .slice A n c := by
  rcases h.2 with ⟨rfl, rfl⟩ | ⟨g, cap, cur, rfl, _⟩
  · exact ⟨none, 0, rfl⟩
  · exact ⟨_, cap, rfl⟩
def markI (k n : Nat) : List Int := (List.range n).map fun i => ((k + i : Nat) : Int)
theorem markI_length (k n : Nat) : (markI k n).length = n := by simp [markI]
theorem markI_at (k n i : Nat) (h : i < (markI k n).length) : (markI k n)[i] = ((k + i : Nat) : Int) := by simp [markI]
theorem markI_succ (k n : Nat) : markI k (n + 1) = markI k n ++ [((k + n : Nat) : Int)] := by simp [markI, List.range_succ]
theorem markI_small (k n : Nat) (h : k + n ≤ 4611686018427387904) : ∀ x ∈ markI k n, I64 x := by
  intro x hx
  simp only [markI, List.mem_map, List.mem_range] at hx
  obtain ⟨i, hi, rfl⟩ := hx
  exact ⟨by omega, by omega⟩

set_option maxHeartbeats 400000 in
theorem laws_markIntS (xs : List Value) (base n : Nat) (v : Value) (k0 : Int) (e : TypeId) (w : World) (h : w.ownsRow base e 1 v n xs) (h0 : 0 < k0) (h1 : k0 + n ≤ 4611686018427387904) :
    Calls Tryz.prog 43 #[v, .int .i64 k0] w fun e' w' => e' = .returned (.int .i64 (k0 + n)) ∧ w'.ownsRow base e 1 v n ((markI k0.toNat n).map fun n => Value.int .i64 n) ∧ w.grownBy w' v.ownBlock := by
  obtain ⟨k, rfl⟩ := Int.eq_ofNat_of_zero_le (show 0 ≤ k0 by omega)
  rw [Int.toNat_natCast]
  have hl := h.1
  rcases h.2 with ⟨rfl, rfl⟩ | ⟨g, cap, cur, rfl, hb, hg, hnc, hcm, hcs, htake⟩
  · go_enter Tryz.func43, Tryz.ntmps43
    go_wp2_with fail
    go_loop [1, 5] (fun x i => i = .int .i64 0 ∧ x = .int .i64 k) (fun _ i => 0)
    case atStart => exact ⟨rfl, rfl⟩
    case round =>
      obtain ⟨rfl, rfl⟩ := hrel
      go_wp2_with fail
      go_ret
      exact ⟨ret_int (by simp), by simp [markI]; exact World.ownsRow_nil _ _ _ _, World.grownBy.refl _ _⟩
  · unfold maxLen at hcm
    have hown := Lib.hid h
    have HL := Lib.hid hl
    clear h hl htake hg hcs cur
    show Calls Tryz.prog 43 #[Value.slice (some ⟨g, 0, none⟩) n cap, Value.int IntKind.i64 ↑k] w fun e' w' => e' = Ending.returned (Value.int IntKind.i64 (↑k + ↑n)) ∧ w'.ownsRow base e 1 (Value.slice (some ⟨g, 0, none⟩) n cap) n (List.map (fun n => Value.int .i64 n) (markI k n)) ∧ w.grownBy w' (some g)
    go_enter Tryz.func43, Tryz.ntmps43
    go_wp2_with fail
    go_loopw [1, 5] (fun x i wr => ∃ j : Nat, j ≤ n ∧ i = .int .i64 j ∧ x = .int .i64 (k + j : Nat) ∧ w.grownBy wr (some g) ∧ Hid (wr.ownsRow base e 1 (.slice (some ⟨g, 0, none⟩) n cap) n (((markI k j).map fun n => Value.int .i64 n) ++ xs.drop j))) (fun _ i _ => n - (intOf i).toNat)
    case atStart => exact ⟨0, Nat.zero_le _, rfl, rfl, World.grownBy.refl _ _, by have := hown.out; simpa [markI, Hid] using this⟩
    case round =>
      obtain ⟨j, hj, rfl, rfl, hgr, ho⟩ := hrel
      by_cases hlt : j < n
      · have hfr := ho.out.frozenAt j
        have hcl := ho.out.cellAt j (by omega)
        obtain ⟨u, hu⟩ : ∃ u, wr.cell? ⟨g, j, none⟩ = some u := ⟨_, hcl.trans (List.getElem?_eq_getElem (by have := ho.out.1; omega))⟩
        clear hcl
        go_wp2_with fail
        go_roundw
        case rel =>
          obtain ⟨h2, h3⟩ := ho.out.stored j (Value.int .i64 ((k : Int) + j))
          refine ⟨j + 1, by omega, by go_num, by go_num, hgr.trans h3, ?_⟩
          rw [set_mid _ _ _ _ (by simp [markI]) (by have := HL.out; omega)] at h2
          rw [markI_succ, List.map_append]
          exact h2
        case measure => simp [intOf]; omega
      · obtain rfl : j = n := by omega
        go_wp2_with fail
        go_ret
        refine ⟨ret_int (by omega), ?_, hgr⟩
        have := ho.out
        rw [List.drop_eq_nil_of_le (by have := HL.out; omega), List.append_nil] at this
        exact this

set_option maxHeartbeats 400000 in
theorem laws_heldIntS (n : Nat) (v : Value) (k0 : Int) (w : World) (h0 : 0 < k0) (h1 : k0 + n ≤ 4611686018427387904) (h : Ints w v (markI k0.toNat n)) :
    Calls Tryz.prog 46 #[v, .int .i64 k0] w fun e' w' => e' = .returned (.int .i64 (k0 + n)) ∧ w = w' := by
  obtain ⟨k, rfl⟩ := Int.eq_ofNat_of_zero_le (show 0 ≤ k0 by omega)
  rw [Int.toNat_natCast] at h
  obtain ⟨A, c, rfl, hlc, hm, HC⟩ := h.open_
  clear h
  rw [markI_length] at *
  unfold maxLen at hm
  go_enter Tryz.func46, Tryz.ntmps46
  go_wp2_with fail
  go_loop [1, 5] (fun x i => ∃ j : Nat, j ≤ n ∧ i = .int .i64 j ∧ x = .int .i64 (k + j : Nat)) (fun _ i => n - (intOf i).toNat)
  case atStart => exact ⟨0, Nat.zero_le _, rfl, rfl⟩
  case round =>
      obtain ⟨j, hj, rfl, rfl⟩ := hrel
      by_cases hlt : j < n
      · obtain ⟨b, off, rfl, hbl, hcell, _, _⟩ := HC.out j (by rw [markI_length]; exact hlt)
        rw [markI_at] at hcell
        have he : (((k + j : Nat) : Int) != (k : Int) + j) = false := by simp
        go_wp2_with fail
        go_round
        case rel => exact ⟨j + 1, by omega, by go_num, by go_num⟩
        case measure => simp [intOf]; omega
      · obtain rfl : j = n := by omega
        go_wp2_with fail
        go_ret
        exact ⟨ret_int (by omega), rfl⟩

theorem laws_markInts (S : Nat → Prop) (l : List Int) (v : Value) (k : Int) (w : World) (h : IntO S w v l) (h0 : 0 < k) (h1 : k + l.length ≤ 4611686018427387904) :
    Calls Tryz.prog 43 #[v, .int .i64 k] w (RetMark S w (k + l.length) fun w' => IntO S w' v (markI k.toNat l.length)) :=
  (laws_markIntS _ 0 l.length v k 3 w h.1.1 h0 h1).mono fun e w' ⟨he, ho, hg⟩ =>
    ⟨he, ⟨⟨by rw [markI_length]; exact ho, h.1.2⟩, markI_small _ _ (by omega)⟩, Keeps.grown' hg h.1.2, (Below.refl 0 w).grown hg (Nat.zero_le _) (fun _ _ => Nat.zero_le _)⟩
end Go.Proofs.YtjdfancbmjnjfaaGreat
