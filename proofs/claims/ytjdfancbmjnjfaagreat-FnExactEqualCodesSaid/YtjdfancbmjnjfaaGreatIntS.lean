/-
  Contracts of the laws' helpers on slices of ints and of bools: sizes, copies, comparisons, marks.
-/
import Derived.Test.YtjdfancbmjnjfaaGreatSlOwn
namespace Go.Proofs.YtjdfancbmjnjfaaGreat
set_option maxRecDepth 100000
open Go.ChangeShapes Go.WideShapes Go.ChangeAt Go.RowKit Go.Deep

theorem Ints.small {w : World} {v : Value} {l : List Int} (h : Ints w v l) : ∀ n ∈ l, I64 n := fun n hn => by
  obtain ⟨A, c, rfl, hlc, hm, HC⟩ := h.open_
  obtain ⟨k, hk, rfl⟩ := List.getElem_of_mem hn
  obtain ⟨_, _, _, _, _, h5⟩ := HC.out k hk
  exact h5
theorem Bools.open_ {w : World} {v : Value} {l : List Bool} (h : Bools w v l) : ∃ A c, v = .slice A l.length c ∧ l.length ≤ c ∧ c ≤ maxLen ∧
    Hid (∀ k (hk : k < l.length), ∃ b off, A = some ⟨b, off, none⟩ ∧ b < w.heap.size ∧ w.cell? ⟨b, off + k, none⟩ = some (.bool l[k])) := by
  obtain ⟨A, c, rfl, hn, hc, hx⟩ := SlR.open_ h
  refine ⟨A, c, rfl, hn, hc, fun k hk => ?_⟩
  obtain ⟨b, off, cs, rfl, hlt, _, hat, rfl⟩ := hx.out k hk
  exact ⟨b, off, rfl, hlt, by simpa using hat 0 _ rfl⟩
theorem Bools.of_own {w : World} {base : Nat} {e : TypeId} {v : Value} {l : List Bool} (h : w.ownsRow base e 1 v l.length (l.map fun n => Value.bool n)) : Bools w v l :=
  SlR.of_own (fun n => [Value.bool n]) l h rfl (map_flat _ l) (fun _ _ => ⟨rfl, rfl⟩)
def IntO (S : Nat → Prop) (w : World) (v : Value) (l : List Int) : Prop := FlO S w 3 1 v l.length (l.map fun n => Value.int .i64 n) ∧ ∀ n ∈ l, I64 n
theorem IntO.keeps {S : Nat → Prop} {w w' : World} {v : Value} {l : List Int} (h : IntO S w v l) (hk : Keeps S w w') : IntO S w' v l := ⟨h.1.keeps hk, h.2⟩
theorem IntO.mono {S S' : Nat → Prop} {w : World} {v : Value} {l : List Int} (h : IntO S w v l) (hs : ∀ b, S b → S' b) : IntO S' w v l := ⟨h.1.mono hs, h.2⟩
theorem IntO.read {S : Nat → Prop} {w : World} {v : Value} {l : List Int} (h : IntO S w v l) : Ints w v l := Ints.of_own h.1.1 h.2
theorem cells_slice_int : Tryz.prog.cellsOf 23 = 1 := by kernel_rfl
theorem info_int : (Tryz.prog.info? 3).map (fun i => (i.zero, i.size, i.bytes)) = some (some (.int .i64 0), 1, 8) := by kernel_rfl

set_option maxHeartbeats 400000 in
theorem laws_toIntS_own (l : List Int) (v : Value) (w : World) (h : Ints w v l) (hl : l.length ≤ 1048576) :
    Calls Tryz.prog 25 #[v] w fun e w' => ∃ A c, e = .returned (.slice A l.length c) ∧ IntO (Rng w.heap.size w'.heap.size) w' (.slice A l.length c) l ∧ Below w.heap.size w w' := by
  have HSS := Lib.hid h.small
  obtain ⟨A, c, rfl, hlc, hm, HC⟩ := h.open_
  clear h
  unfold maxLen at hm
  have hmk := run_mk (P := Tryz.prog) w 23 3 _ 1 8 Tryz.underlying23 info_int l.length (by omega) (by omega)
  go_enter Tryz.func25, Tryz.ntmps25
  go_wp2
  clear hmk
  go_loopw [4] (fun i wr => ∃ k : Nat, k ≤ l.length ∧ i = .int .i64 k ∧ Fill wr w.heap.size 3 1 l.length k ((l.take k).map fun n => Value.int .i64 n) ∧ Below w.heap.size w wr) (fun i _ => l.length - (intOf i).toNat)
  case atStart => exact ⟨0, Nat.zero_le _, rfl, Fill.start _ _ _ _ _ (by simp [size_madeCells]), (Below.refl _ _).alloc (Nat.le_refl _) _⟩
  case round =>
    obtain ⟨k, hk, rfl, hf, hb⟩ := hrel
    by_cases hlt : k < l.length
    · obtain ⟨b, off, rfl, hbl, hcell, _, _⟩ := HC.out k hlt
      obtain ⟨u, hu⟩ := hf.cell k (by omega)
      have hfr := hf.frozen k
      have hc1 := (hb.cell (p := ⟨b, off + k, none⟩) hbl).trans hcell
      clear hcell
      go_wp2
      go_roundw
      case rel =>
        refine ⟨k + 1, by omega, by go_num, ?_, hb.setCell (p := ⟨w.heap.size, k, none⟩) (Nat.le_refl _) _⟩
        have h9 := hf.step hlt [Value.int .i64 l[k]] rfl
        rw [List.take_succ_eq_append_getElem hlt, List.map_append]
        simpa [putCells] using h9
      case measure => simp [intOf]; omega
    · obtain rfl : k = l.length := by omega
      rw [List.take_length] at hf
      have ho := Lib.hid (FlO.of_own (hf.own (Nat.le_refl w.heap.size) (by unfold maxLen; omega)))
      clear hf
      go_wp2
      go_ret
      exact ⟨_, _, rfl, ⟨ho.out, HSS.out⟩, hb⟩

theorem laws_szIntS (l : List Int) (v : Value) (left : Int) (w : World) (h : Ints w v l) (h0 : 0 ≤ left) (h1 : left ≤ 1048576) :
    Calls Tryz.prog 18 #[v, .int .i64 left] w fun e w' => e = .returned (.int .i64 (szR left l.length)) ∧ Below w.heap.size w w' := by
  obtain ⟨A, c, rfl, hlc, hm, HC⟩ := h.open_
  clear h HC
  unfold maxLen at hm
  by_cases hle : (l.length : Int) ≤ left
  · have HZ := Lib.hid (szR_pos hle)
    go_enter Tryz.func18, Tryz.ntmps18
    go_wp2
    go_ret
    exact ⟨ret_int HZ.out.symm, Below.refl _ _⟩
  · have HZ := Lib.hid (szR_neg hle)
    go_enter Tryz.func18, Tryz.ntmps18
    go_wp2
    go_ret
    exact ⟨ret_int HZ.out.symm, Below.refl _ _⟩
set_option maxHeartbeats 400000 in
theorem laws_eqIntS_same (l : List Int) (v u : Value) (w : World) (h : Ints w v l) (h' : Ints w u l) :
    Calls Tryz.prog 31 #[v, u] w fun e w' => e = .returned (.bool true) ∧ Below w.heap.size w w' := by
  obtain ⟨A, c, rfl, hlc, hm, HC⟩ := h.open_
  obtain ⟨A', c', rfl, hlc', hm', HC'⟩ := h'.open_
  clear h h'
  unfold maxLen at hm hm'
  go_enter Tryz.func31, Tryz.ntmps31
  go_wp2
  go_loopw [5] (fun i wr => ∃ k : Nat, k ≤ l.length ∧ i = .int .i64 k ∧ ∃ n, wr = w.drewN n) (fun i _ => l.length - (intOf i).toNat)
  case atStart => exact ⟨0, Nat.zero_le _, rfl, 0, rfl⟩
  case round =>
    obtain ⟨k, hk, rfl, n, rfl⟩ := hrel
    by_cases hlt : k < l.length
    · obtain ⟨b, off, rfl, hbl, hcell, _, _⟩ := HC.out k hlt
      obtain ⟨b', off', rfl, hbl', hcell', _, _⟩ := HC'.out k hlt
      go_wp2
      go_quiet (fail)
      go_wp2
      go_roundw
      case rel => exact ⟨k + 1, by omega, by go_num, _, rfl⟩
      case measure => simp [intOf]; omega
    · go_wp2
      go_ret
      exact ⟨rfl, below_quiet _ _ _⟩
def BoolO (S : Nat → Prop) (w : World) (v : Value) (l : List Bool) : Prop := FlO S w 4 1 v l.length (l.map fun n => Value.bool n)
theorem BoolO.keeps {S : Nat → Prop} {w w' : World} {v : Value} {l : List Bool} (h : BoolO S w v l) (hk : Keeps S w w') : BoolO S w' v l := FlO.keeps h hk
theorem BoolO.mono {S S' : Nat → Prop} {w : World} {v : Value} {l : List Bool} (h : BoolO S w v l) (hs : ∀ b, S b → S' b) : BoolO S' w v l := FlO.mono h hs
theorem BoolO.read {S : Nat → Prop} {w : World} {v : Value} {l : List Bool} (h : BoolO S w v l) : Bools w v l := Bools.of_own h.1
theorem cells_slice_bool : Tryz.prog.cellsOf 24 = 1 := by kernel_rfl
theorem info_bool : (Tryz.prog.info? 4).map (fun i => (i.zero, i.size, i.bytes)) = some (some (.bool false), 1, 1) := by kernel_rfl

set_option maxHeartbeats 400000 in
theorem laws_toBoolS_own (l : List Bool) (v : Value) (w : World) (h : Bools w v l) (hl : l.length ≤ 1048576) :
    Calls Tryz.prog 26 #[v] w fun e w' => ∃ A c, e = .returned (.slice A l.length c) ∧ BoolO (Rng w.heap.size w'.heap.size) w' (.slice A l.length c) l ∧ Below w.heap.size w w' := by
  obtain ⟨A, c, rfl, hlc, hm, HC⟩ := h.open_
  clear h
  unfold maxLen at hm
  have hmk := run_mk (P := Tryz.prog) w 24 4 _ 1 1 Tryz.underlying24 info_bool l.length (by omega) (by omega)
  go_enter Tryz.func26, Tryz.ntmps26
  go_wp2
  clear hmk
  go_loopw [4] (fun i wr => ∃ k : Nat, k ≤ l.length ∧ i = .int .i64 k ∧ Fill wr w.heap.size 4 1 l.length k ((l.take k).map fun n => Value.bool n) ∧ Below w.heap.size w wr) (fun i _ => l.length - (intOf i).toNat)
  case atStart => exact ⟨0, Nat.zero_le _, rfl, Fill.start _ _ _ _ _ (by simp [size_madeCells]), (Below.refl _ _).alloc (Nat.le_refl _) _⟩
  case round =>
    obtain ⟨k, hk, rfl, hf, hb⟩ := hrel
    by_cases hlt : k < l.length
    · obtain ⟨b, off, rfl, hbl, hcell⟩ := HC.out k hlt
      obtain ⟨u, hu⟩ := hf.cell k (by omega)
      have hfr := hf.frozen k
      have hc1 := (hb.cell (p := ⟨b, off + k, none⟩) hbl).trans hcell
      clear hcell
      go_wp2
      go_roundw
      case rel =>
        refine ⟨k + 1, by omega, by go_num, ?_, hb.setCell (p := ⟨w.heap.size, k, none⟩) (Nat.le_refl _) _⟩
        have h9 := hf.step hlt [Value.bool l[k]] rfl
        rw [List.take_succ_eq_append_getElem hlt, List.map_append]
        simpa [putCells] using h9
      case measure => simp [intOf]; omega
    · obtain rfl : k = l.length := by omega
      rw [List.take_length] at hf
      have ho := Lib.hid (FlO.of_own (hf.own (Nat.le_refl w.heap.size) (by unfold maxLen; omega)))
      clear hf
      go_wp2
      go_ret
      exact ⟨_, _, rfl, ho.out, hb⟩

theorem laws_szBoolS (l : List Bool) (v : Value) (left : Int) (w : World) (h : Bools w v l) (h0 : 0 ≤ left) (h1 : left ≤ 1048576) :
    Calls Tryz.prog 19 #[v, .int .i64 left] w fun e w' => e = .returned (.int .i64 (szR left l.length)) ∧ Below w.heap.size w w' := by
  obtain ⟨A, c, rfl, hlc, hm, HC⟩ := h.open_
  clear h HC
  unfold maxLen at hm
  by_cases hle : (l.length : Int) ≤ left
  · have HZ := Lib.hid (szR_pos hle)
    go_enter Tryz.func19, Tryz.ntmps19
    go_wp2
    go_ret
    exact ⟨ret_int HZ.out.symm, Below.refl _ _⟩
  · have HZ := Lib.hid (szR_neg hle)
    go_enter Tryz.func19, Tryz.ntmps19
    go_wp2
    go_ret
    exact ⟨ret_int HZ.out.symm, Below.refl _ _⟩
set_option maxHeartbeats 400000 in
theorem laws_eqBoolS_same (l : List Bool) (v u : Value) (w : World) (h : Bools w v l) (h' : Bools w u l) :
    Calls Tryz.prog 32 #[v, u] w fun e w' => e = .returned (.bool true) ∧ Below w.heap.size w w' := by
  obtain ⟨A, c, rfl, hlc, hm, HC⟩ := h.open_
  obtain ⟨A', c', rfl, hlc', hm', HC'⟩ := h'.open_
  clear h h'
  unfold maxLen at hm hm'
  go_enter Tryz.func32, Tryz.ntmps32
  go_wp2
  go_loopw [5] (fun i wr => ∃ k : Nat, k ≤ l.length ∧ i = .int .i64 k ∧ ∃ n, wr = w.drewN n) (fun i _ => l.length - (intOf i).toNat)
  case atStart => exact ⟨0, Nat.zero_le _, rfl, 0, rfl⟩
  case round =>
    obtain ⟨k, hk, rfl, n, rfl⟩ := hrel
    by_cases hlt : k < l.length
    · obtain ⟨b, off, rfl, hbl, hcell⟩ := HC.out k hlt
      obtain ⟨b', off', rfl, hbl', hcell'⟩ := HC'.out k hlt
      go_wp2
      go_quiet (fail)
      go_wp2
      go_roundw
      case rel => exact ⟨k + 1, by omega, by go_num, _, rfl⟩
      case measure => simp [intOf]; omega
    · go_wp2
      go_ret
      exact ⟨rfl, below_quiet _ _ _⟩
end Go.Proofs.YtjdfancbmjnjfaaGreat
