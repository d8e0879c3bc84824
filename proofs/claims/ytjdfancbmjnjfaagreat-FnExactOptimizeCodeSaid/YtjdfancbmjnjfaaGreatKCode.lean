/-
  Merged texts: IntS, GInstr, GSegment, GBytecode, CodeSize.
-/
import Derived.Test.YtjdfancbmjnjfaaGreatKBase
import Derived.Test.YtjdfancbmjnjfaaGreatKVec
namespace Go.Proofs.YtjdfancbmjnjfaaGreat
set_option maxRecDepth 100000
set_option maxRecDepth 100000
open Go.ChangeShapes Go.WideShapes Go.ChangeAt Go.RowKit Go.Deep

theorem Ints.small {w : World} {v : Value} {l : List Int} (h : Ints w v l) : ∀ n ∈ l, I64 n := fun n hn => by
  obtain ⟨A, c, rfl, hlc, hm, HC⟩ := h.open_
  obtain ⟨k, hk, rfl⟩ := List.getElem_of_mem hn
  obtain ⟨_, _, _, _, _, h5⟩ := HC.out k hk
  exact h5
theorem Bools.open_ {w : World} {v : Value} {l : List Bool} (h : Bools w v l) : ∃ A c, v = .slice A l.length c ∧ l.length ≤ c ∧ c ≤ maxLen ∧
    Hid (∀ k (hk : k < l.length), ∃ b off, A = some ⟨b, off, none⟩ ∧ b < w.heap.size ∧ w.cell? ⟨b, off + k, none⟩ = some (.bool l[k])) := by
  obtain ⟨A, c, rfl, hn, hc, hx⟩ := SlR.open_ h
  refine ⟨A, c, rfl, hn, hc, fun k hk => ?_⟩
  obtain ⟨b, off, cs, rfl, hlt, _, hat, rfl⟩ := hx.out k hk
  exact ⟨b, off, rfl, hlt, by simpa using hat 0 _ rfl⟩
theorem Bools.of_own {w : World} {base : Nat} {e : TypeId} {v : Value} {l : List Bool} (h : w.ownsRow base e 1 v l.length (l.map fun n => Value.bool n)) : Bools w v l :=
  SlR.of_own (fun n => [Value.bool n]) l h rfl (map_flat _ l) (fun _ _ => ⟨rfl, rfl⟩)
def IntO (S : Nat → Prop) (w : World) (v : Value) (l : List Int) : Prop := FlO S w 3 1 v l.length (l.map fun n => Value.int .i64 n) ∧ ∀ n ∈ l, I64 n
theorem IntO.keeps {S : Nat → Prop} {w w' : World} {v : Value} {l : List Int} (h : IntO S w v l) (hk : Keeps S w w') : IntO S w' v l := ⟨h.1.keeps hk, h.2⟩
theorem IntO.mono {S S' : Nat → Prop} {w : World} {v : Value} {l : List Int} (h : IntO S w v l) (hs : ∀ b, S b → S' b) : IntO S' w v l := ⟨h.1.mono hs, h.2⟩
theorem IntO.read {S : Nat → Prop} {w : World} {v : Value} {l : List Int} (h : IntO S w v l) : Ints w v l := Ints.of_own h.1.1 h.2
theorem cells_slice_int : Tryz.prog.cellsOf 23 = 1 := by kernel_rfl
theorem info_int : (Tryz.prog.info? 3).map (fun i => (i.zero, i.size, i.bytes)) = some (some (.int .i64 0), 1, 8) := by kernel_rfl

set_option maxHeartbeats 400000 in
theorem laws_toIntS_own (l : List Int) (v : Value) (w : World) (h : Ints w v l) (hl : l.length ≤ 1048576) :
    Calls Tryz.prog 25 #[v] w fun e w' => ∃ A c, e = .returned (.slice A l.length c) ∧ IntO (Rng w.heap.size w'.heap.size) w' (.slice A l.length c) l ∧ Below w.heap.size w w' := by
  have HSS := Lib.hid h.small
  obtain ⟨A, c, rfl, hlc, hm, HC⟩ := h.open_
  clear h
  unfold maxLen at hm
  have hmk := run_mk (P := Tryz.prog) w 23 3 _ 1 8 Tryz.underlying23 info_int l.length (by omega) (by omega)
  go_enter Tryz.func25, Tryz.ntmps25
  go_wp2
  clear hmk
  go_loopw [4] (fun i wr => ∃ k : Nat, k ≤ l.length ∧ i = .int .i64 k ∧ Fill wr w.heap.size 3 1 l.length k ((l.take k).map fun n => Value.int .i64 n) ∧ Below w.heap.size w wr) (fun i _ => l.length - (intOf i).toNat)
  case atStart => exact ⟨0, Nat.zero_le _, rfl, Fill.start _ _ _ _ _ (by simp [size_madeCells]), (Below.refl _ _).alloc (Nat.le_refl _) _⟩
  case round =>
    obtain ⟨k, hk, rfl, hf, hb⟩ := hrel
    by_cases hlt : k < l.length
    · obtain ⟨b, off, rfl, hbl, hcell, _, _⟩ := HC.out k hlt
      obtain ⟨u, hu⟩ := hf.cell k (by omega)
      have hfr := hf.frozen k
      have hc1 := (hb.cell (p := ⟨b, off + k, none⟩) hbl).trans hcell
      clear hcell
      go_wp2
      go_roundw
      case rel =>
        refine ⟨k + 1, by omega, by go_num, ?_, hb.setCell (p := ⟨w.heap.size, k, none⟩) (Nat.le_refl _) _⟩
        have h9 := hf.step hlt [Value.int .i64 l[k]] rfl
        rw [List.take_succ_eq_append_getElem hlt, List.map_append]
        simpa [putCells] using h9
      case measure => simp [intOf]; omega
    · obtain rfl : k = l.length := by omega
      rw [List.take_length] at hf
      have ho := Lib.hid (FlO.of_own (hf.own (Nat.le_refl w.heap.size) (by unfold maxLen; omega)))
      clear hf
      go_wp2
      go_ret
      exact ⟨_, _, rfl, ⟨ho.out, HSS.out⟩, hb⟩

theorem laws_szIntS (l : List Int) (v : Value) (left : Int) (w : World) (h : Ints w v l) (h0 : 0 ≤ left) (h1 : left ≤ 1048576) :
    Calls Tryz.prog 18 #[v, .int .i64 left] w fun e w' => e = .returned (.int .i64 (szR left l.length)) ∧ Below w.heap.size w w' := by
  obtain ⟨A, c, rfl, hlc, hm, HC⟩ := h.open_
  clear h HC
  unfold maxLen at hm
  by_cases hle : (l.length : Int) ≤ left
  · have HZ := Lib.hid (szR_pos hle)
    go_enter Tryz.func18, Tryz.ntmps18
    go_wp2
    go_ret
    exact ⟨ret_int HZ.out.symm, Below.refl _ _⟩
  · have HZ := Lib.hid (szR_neg hle)
    go_enter Tryz.func18, Tryz.ntmps18
    go_wp2
    go_ret
    exact ⟨ret_int HZ.out.symm, Below.refl _ _⟩
set_option maxHeartbeats 400000 in
theorem laws_eqIntS_same (l : List Int) (v u : Value) (w : World) (h : Ints w v l) (h' : Ints w u l) :
    Calls Tryz.prog 31 #[v, u] w fun e w' => e = .returned (.bool true) ∧ Below w.heap.size w w' := by
  obtain ⟨A, c, rfl, hlc, hm, HC⟩ := h.open_
  obtain ⟨A', c', rfl, hlc', hm', HC'⟩ := h'.open_
  clear h h'
  unfold maxLen at hm hm'
  go_enter Tryz.func31, Tryz.ntmps31
  go_wp2
  go_loopw [5] (fun i wr => ∃ k : Nat, k ≤ l.length ∧ i = .int .i64 k ∧ ∃ n, wr = w.drewN n) (fun i _ => l.length - (intOf i).toNat)
  case atStart => exact ⟨0, Nat.zero_le _, rfl, 0, rfl⟩
  case round =>
    obtain ⟨k, hk, rfl, n, rfl⟩ := hrel
    by_cases hlt : k < l.length
    · obtain ⟨b, off, rfl, hbl, hcell, _, _⟩ := HC.out k hlt
      obtain ⟨b', off', rfl, hbl', hcell', _, _⟩ := HC'.out k hlt
      go_wp2
      go_quiet (fail)
      go_wp2
      go_roundw
      case rel => exact ⟨k + 1, by omega, by go_num, _, rfl⟩
      case measure => simp [intOf]; omega
    · go_wp2
      go_ret
      exact ⟨rfl, below_quiet _ _ _⟩
def BoolO (S : Nat → Prop) (w : World) (v : Value) (l : List Bool) : Prop := FlO S w 4 1 v l.length (l.map fun n => Value.bool n)
theorem BoolO.keeps {S : Nat → Prop} {w w' : World} {v : Value} {l : List Bool} (h : BoolO S w v l) (hk : Keeps S w w') : BoolO S w' v l := FlO.keeps h hk
theorem BoolO.mono {S S' : Nat → Prop} {w : World} {v : Value} {l : List Bool} (h : BoolO S w v l) (hs : ∀ b, S b → S' b) : BoolO S' w v l := FlO.mono h hs
theorem BoolO.read {S : Nat → Prop} {w : World} {v : Value} {l : List Bool} (h : BoolO S w v l) : Bools w v l := Bools.of_own h.1
theorem cells_slice_bool : Tryz.prog.cellsOf 24 = 1 := by kernel_rfl
theorem info_bool : (Tryz.prog.info? 4).map (fun i => (i.zero, i.size, i.bytes)) = some (some (.bool false), 1, 1) := by kernel_rfl

set_option maxHeartbeats 400000 in
theorem laws_toBoolS_own (l : List Bool) (v : Value) (w : World) (h : Bools w v l) (hl : l.length ≤ 1048576) :
    Calls Tryz.prog 26 #[v] w fun e w' => ∃ A c, e = .returned (.slice A l.length c) ∧ BoolO (Rng w.heap.size w'.heap.size) w' (.slice A l.length c) l ∧ Below w.heap.size w w' := by
  obtain ⟨A, c, rfl, hlc, hm, HC⟩ := h.open_
  clear h
  unfold maxLen at hm
  have hmk := run_mk (P := Tryz.prog) w 24 4 _ 1 1 Tryz.underlying24 info_bool l.length (by omega) (by omega)
  go_enter Tryz.func26, Tryz.ntmps26
  go_wp2
  clear hmk
  go_loopw [4] (fun i wr => ∃ k : Nat, k ≤ l.length ∧ i = .int .i64 k ∧ Fill wr w.heap.size 4 1 l.length k ((l.take k).map fun n => Value.bool n) ∧ Below w.heap.size w wr) (fun i _ => l.length - (intOf i).toNat)
  case atStart => exact ⟨0, Nat.zero_le _, rfl, Fill.start _ _ _ _ _ (by simp [size_madeCells]), (Below.refl _ _).alloc (Nat.le_refl _) _⟩
  case round =>
    obtain ⟨k, hk, rfl, hf, hb⟩ := hrel
    by_cases hlt : k < l.length
    · obtain ⟨b, off, rfl, hbl, hcell⟩ := HC.out k hlt
      obtain ⟨u, hu⟩ := hf.cell k (by omega)
      have hfr := hf.frozen k
      have hc1 := (hb.cell (p := ⟨b, off + k, none⟩) hbl).trans hcell
      clear hcell
      go_wp2
      go_roundw
      case rel =>
        refine ⟨k + 1, by omega, by go_num, ?_, hb.setCell (p := ⟨w.heap.size, k, none⟩) (Nat.le_refl _) _⟩
        have h9 := hf.step hlt [Value.bool l[k]] rfl
        rw [List.take_succ_eq_append_getElem hlt, List.map_append]
        simpa [putCells] using h9
      case measure => simp [intOf]; omega
    · obtain rfl : k = l.length := by omega
      rw [List.take_length] at hf
      have ho := Lib.hid (FlO.of_own (hf.own (Nat.le_refl w.heap.size) (by unfold maxLen; omega)))
      clear hf
      go_wp2
      go_ret
      exact ⟨_, _, rfl, ho.out, hb⟩

theorem laws_szBoolS (l : List Bool) (v : Value) (left : Int) (w : World) (h : Bools w v l) (h0 : 0 ≤ left) (h1 : left ≤ 1048576) :
    Calls Tryz.prog 19 #[v, .int .i64 left] w fun e w' => e = .returned (.int .i64 (szR left l.length)) ∧ Below w.heap.size w w' := by
  obtain ⟨A, c, rfl, hlc, hm, HC⟩ := h.open_
  clear h HC
  unfold maxLen at hm
  by_cases hle : (l.length : Int) ≤ left
  · have HZ := Lib.hid (szR_pos hle)
    go_enter Tryz.func19, Tryz.ntmps19
    go_wp2
    go_ret
    exact ⟨ret_int HZ.out.symm, Below.refl _ _⟩
  · have HZ := Lib.hid (szR_neg hle)
    go_enter Tryz.func19, Tryz.ntmps19
    go_wp2
    go_ret
    exact ⟨ret_int HZ.out.symm, Below.refl _ _⟩
set_option maxHeartbeats 400000 in
theorem laws_eqBoolS_same (l : List Bool) (v u : Value) (w : World) (h : Bools w v l) (h' : Bools w u l) :
    Calls Tryz.prog 32 #[v, u] w fun e w' => e = .returned (.bool true) ∧ Below w.heap.size w w' := by
  obtain ⟨A, c, rfl, hlc, hm, HC⟩ := h.open_
  obtain ⟨A', c', rfl, hlc', hm', HC'⟩ := h'.open_
  clear h h'
  unfold maxLen at hm hm'
  go_enter Tryz.func32, Tryz.ntmps32
  go_wp2
  go_loopw [5] (fun i wr => ∃ k : Nat, k ≤ l.length ∧ i = .int .i64 k ∧ ∃ n, wr = w.drewN n) (fun i _ => l.length - (intOf i).toNat)
  case atStart => exact ⟨0, Nat.zero_le _, rfl, 0, rfl⟩
  case round =>
    obtain ⟨k, hk, rfl, n, rfl⟩ := hrel
    by_cases hlt : k < l.length
    · obtain ⟨b, off, rfl, hbl, hcell⟩ := HC.out k hlt
      obtain ⟨b', off', rfl, hbl', hcell'⟩ := HC'.out k hlt
      go_wp2
      go_quiet (fail)
      go_wp2
      go_roundw
      case rel => exact ⟨k + 1, by omega, by go_num, _, rfl⟩
      case measure => simp [intOf]; omega
    · go_wp2
      go_ret
      exact ⟨rfl, below_quiet _ _ _⟩
end Go.Proofs.YtjdfancbmjnjfaaGreat
namespace Go.Proofs.YtjdfancbmjnjfaaGreat
set_option maxRecDepth 100000
open Go.ChangeShapes Go.WideShapes Go.ChangeAt Go.RowKit Go.Deep

structure InstrD where
  op : Int
  arg : Int
  count : Int
  text : List UInt8
  labels : List (List UInt8)
  value : VecD

/-- the cells of a Instr -/
def InstrR (w : World) (cs : List Value) (d : InstrD) : Prop :=
  ∃ v4 v51 v52 v53 v54 v55, cs = [.int .i64 d.op, .int .i64 d.arg, .int .i64 d.count, .string (str d.text), v4, .int .i64 d.value.kind, v51, v52, v53, v54, v55, .int .i64 d.value.code, .int .i64 d.value.env] ∧ I64 d.op ∧ I64 d.arg ∧ I64 d.count ∧ d.text.length ≤ maxLen ∧ Txts w v4 d.labels ∧ VecR w [.int .i64 d.value.kind, v51, v52, v53, v54, v55, .int .i64 d.value.code, .int .i64 d.value.env] d.value
theorem InstrR.below {w w' : World} {cs : List Value} {d : InstrD} (h : InstrR w cs d) (hb : Below w.heap.size w w') : InstrR w' cs d := by
  obtain ⟨v4, v51, v52, v53, v54, v55, rfl, h0, h1, h2, h3, h4, h5⟩ := h
  exact ⟨v4, v51, v52, v53, v54, v55, rfl, h0, h1, h2, h3, h4.below hb, h5.below hb⟩
theorem InstrR.shape {w : World} {cs : List Value} {d : InstrD} (h : InstrR w cs d) : ∃ v4 v51 v52 v53 v54 v55, cs = [.int .i64 d.op, .int .i64 d.arg, .int .i64 d.count, .string (str d.text), v4, .int .i64 d.value.kind, v51, v52, v53, v54, v55, .int .i64 d.value.code, .int .i64 d.value.env] := by
  obtain ⟨v4, v51, v52, v53, v54, v55, rfl, _⟩ := h
  exact ⟨v4, v51, v52, v53, v54, v55, rfl⟩
/-- the cells of a Instr whose slices lie in blocks of its own, in S -/
def InstrO (S : Nat → Prop) (w : World) (cs : List Value) (d : InstrD) : Prop :=
  ∃ (A4 : Option Addr) (c4 : Nat) (A51 : Option Addr) (c51 : Nat) (A52 : Option Addr) (c52 : Nat) (A53 : Option Addr) (c53 : Nat) (A54 : Option Addr) (c54 : Nat) (A55 : Option Addr) (c55 : Nat), ∃ f : Nat → Nat, cs = [.int .i64 d.op, .int .i64 d.arg, .int .i64 d.count, .string (str d.text), .slice A4 d.labels.length c4, .int .i64 d.value.kind, .slice A51 d.value.items.length c51, .slice A52 d.value.parts.length c52, .slice A53 d.value.names.length c53, .slice A54 d.value.cls.length c54, .slice A55 d.value.levels.length c55, .int .i64 d.value.code, .int .i64 d.value.env] ∧ I64 d.op ∧ I64 d.arg ∧ I64 d.count ∧ d.text.length ≤ maxLen ∧ TxtO (fun b => S b ∧ f b = 4) w (.slice A4 d.labels.length c4) d.labels ∧ VecO (fun b => S b ∧ f b = 5) w [.int .i64 d.value.kind, .slice A51 d.value.items.length c51, .slice A52 d.value.parts.length c52, .slice A53 d.value.names.length c53, .slice A54 d.value.cls.length c54, .slice A55 d.value.levels.length c55, .int .i64 d.value.code, .int .i64 d.value.env] d.value
theorem InstrO.read {S : Nat → Prop} {w : World} {cs : List Value} {d : InstrD} (h : InstrO S w cs d) : InstrR w cs d := by
  obtain ⟨A4, c4, A51, c51, A52, c52, A53, c53, A54, c54, A55, c55, f, rfl, h0, h1, h2, h3, h4, h5⟩ := h
  exact ⟨_, _, _, _, _, _, rfl, h0, h1, h2, h3, h4.read, h5.read⟩
theorem InstrO.keeps {S : Nat → Prop} {w w' : World} {cs : List Value} {d : InstrD} (h : InstrO S w cs d) (hk : Keeps S w w') : InstrO S w' cs d := by
  obtain ⟨A4, c4, A51, c51, A52, c52, A53, c53, A54, c54, A55, c55, f, rfl, h0, h1, h2, h3, h4, h5⟩ := h
  exact ⟨A4, c4, A51, c51, A52, c52, A53, c53, A54, c54, A55, c55, f, rfl, h0, h1, h2, h3, h4.keeps (hk.mono fun _ h => h.1), h5.keeps (hk.mono fun _ h => h.1)⟩
theorem InstrO.mono {S S' : Nat → Prop} {w : World} {cs : List Value} {d : InstrD} (h : InstrO S w cs d) (hs : ∀ b, S b → S' b) : InstrO S' w cs d := by
  obtain ⟨A4, c4, A51, c51, A52, c52, A53, c53, A54, c54, A55, c55, f, rfl, h0, h1, h2, h3, h4, h5⟩ := h
  exact ⟨A4, c4, A51, c51, A52, c52, A53, c53, A54, c54, A55, c55, f, rfl, h0, h1, h2, h3, h4.mono (fun b h => ⟨hs b h.1, h.2⟩), h5.mono (fun b h => ⟨hs b h.1, h.2⟩)⟩
theorem InstrO.shape {S : Nat → Prop} {w : World} {cs : List Value} {d : InstrD} (h : InstrO S w cs d) : ∃ (A4 : Option Addr) (c4 : Nat) (A51 : Option Addr) (c51 : Nat) (A52 : Option Addr) (c52 : Nat) (A53 : Option Addr) (c53 : Nat) (A54 : Option Addr) (c54 : Nat) (A55 : Option Addr) (c55 : Nat), cs = [.int .i64 d.op, .int .i64 d.arg, .int .i64 d.count, .string (str d.text), .slice A4 d.labels.length c4, .int .i64 d.value.kind, .slice A51 d.value.items.length c51, .slice A52 d.value.parts.length c52, .slice A53 d.value.names.length c53, .slice A54 d.value.cls.length c54, .slice A55 d.value.levels.length c55, .int .i64 d.value.code, .int .i64 d.value.env] := by
  obtain ⟨A4, c4, A51, c51, A52, c52, A53, c53, A54, c54, A55, c55, f, rfl, _⟩ := h
  exact ⟨A4, c4, A51, c51, A52, c52, A53, c53, A54, c54, A55, c55, rfl⟩
theorem InstrO.length {S : Nat → Prop} {w : World} {cs : List Value} {d : InstrD} (h : InstrO S w cs d) : cs.length = 13 := by
  obtain ⟨A4, c4, A51, c51, A52, c52, A53, c53, A54, c54, A55, c55, f, rfl, _⟩ := h
  rfl

def szInstr (d : InstrD) : Nat := d.text.length + szL d.labels + szVector d.value

set_option maxHeartbeats 1000000 in
theorem laws_szInstr (d : InstrD) (cs : List Value) (left : Int) (w : World) (h : InstrR w cs d) (h0 : 0 ≤ left) (h1 : left ≤ 1048576) :
    Calls Tryz.prog 113 #[.agg cs.toArray, .int .i64 left] w fun e w' => e = .returned (.int .i64 (szR left (szInstr d))) ∧ Below w.heap.size w w' := by
  obtain ⟨v4, v51, v52, v53, v54, v55, rfl, _q0, _q1, _q2, q3, q4, q5⟩ := h
  unfold maxLen at q3
  have Q4 := Lib.hid q4
  clear q4
  have Q5 := Lib.hid q5
  clear q5
  have hE : szInstr d = d.text.length + szL d.labels + szVector d.value := rfl
  have HE := Lib.hid hE
  clear hE
  have HWB := Lib.hid (show Below w.heap.size w (w.alloc (.cells #[.int .i64 d.op, .int .i64 d.arg, .int .i64 d.count, .string (str d.text), v4, .int .i64 d.value.kind, v51, v52, v53, v54, v55, .int .i64 d.value.code, .int .i64 d.value.env] 113)) from (Below.refl _ _).alloc (Nat.le_refl _) _)
  have HWK := Lib.hid (Blk.new w 113 [.int .i64 d.op, .int .i64 d.arg, .int .i64 d.count, .string (str d.text), v4, .int .i64 d.value.kind, v51, v52, v53, v54, v55, .int .i64 d.value.code, .int .i64 d.value.env])
  by_cases hz3 : ((d.text.length : Nat) : Int) ≤ left
  rotate_left
  · go_enter Tryz.func113, Tryz.ntmps113
    go_wp2_with fail
    go_ret
    exact ⟨ret_int (by have h9 := HE.out; rw [szR_neg (by omega)]), by exact HWB.out⟩
  go_enter Tryz.func113, Tryz.ntmps113
  go_wp2_with fail
  refine abs_w (fun W => Blk W w.heap.size 113 [.int .i64 d.op, .int .i64 d.arg, .int .i64 d.count, .string (str d.text), v4, .int .i64 d.value.kind, v51, v52, v53, v54, v55, .int .i64 d.value.code, .int .i64 d.value.env] ∧ Below w.heap.size w W) ⟨by exact HWK.out, by exact HWB.out⟩ ?_
  clear HWK HWB
  rintro W0 ⟨hK0, hB0⟩
  have HWK := Lib.hid hK0
  have HWB := Lib.hid hB0
  clear hK0 hB0
  refine (laws_szStringS_b d.labels v4 (left - ((d.text.length : Nat) : Int)) _ (Q4.out.below HWB.out) (by omega) (by omega)).mono ?_
  rintro e w4 ⟨rfl, hb4⟩
  replace HWK := Lib.hid (HWK.out.below hb4)
  replace HWB := Lib.hid (HWB.out.trans (hb4.mono HWB.out.size))
  clear hb4
  by_cases hz4 : ((szL d.labels : Nat) : Int) ≤ left - ((d.text.length : Nat) : Int)
  rotate_left
  · rw [szR_neg hz4]
    go_wp2_with fail
    go_ret
    exact ⟨ret_int (by have h9 := HE.out; rw [szR_neg (by omega)]), by exact HWB.out⟩
  rw [szR_pos hz4]
  have x0 := HWK.out.cell 0 _ rfl
  have x1 := HWK.out.cell 1 _ rfl
  have x2 := HWK.out.cell 2 _ rfl
  have x3 := HWK.out.cell 3 _ rfl
  have x4 := HWK.out.cell 4 _ rfl
  have x5 := HWK.out.cell 5 _ rfl
  have x6 := HWK.out.cell 6 _ rfl
  have x7 := HWK.out.cell 7 _ rfl
  have x8 := HWK.out.cell 8 _ rfl
  have x9 := HWK.out.cell 9 _ rfl
  have x10 := HWK.out.cell 10 _ rfl
  have x11 := HWK.out.cell 11 _ rfl
  have x12 := HWK.out.cell 12 _ rfl
  go_wp2_with fail
  clear x0 x1 x2 x3 x4 x5 x6 x7 x8 x9 x10 x11 x12
  refine (laws_szVec d.value _ (left - ((d.text.length : Nat) : Int) - ((szL d.labels : Nat) : Int)) _ (Q5.out.below HWB.out) (by omega) (by omega)).mono ?_
  rintro e w5 ⟨rfl, hb5⟩
  replace HWK := Lib.hid (HWK.out.below hb5)
  replace HWB := Lib.hid (HWB.out.trans (hb5.mono HWB.out.size))
  clear hb5
  by_cases hz5 : ((szVector d.value : Nat) : Int) ≤ left - ((d.text.length : Nat) : Int) - ((szL d.labels : Nat) : Int)
  rotate_left
  · rw [szR_neg hz5]
    go_wp2_with fail
    go_ret
    exact ⟨ret_int (by have h9 := HE.out; rw [szR_neg (by omega)]), by exact HWB.out⟩
  rw [szR_pos hz5]
  have x0 := HWK.out.cell 0 _ rfl
  have x1 := HWK.out.cell 1 _ rfl
  have x2 := HWK.out.cell 2 _ rfl
  have x3 := HWK.out.cell 3 _ rfl
  have x4 := HWK.out.cell 4 _ rfl
  have x5 := HWK.out.cell 5 _ rfl
  have x6 := HWK.out.cell 6 _ rfl
  have x7 := HWK.out.cell 7 _ rfl
  have x8 := HWK.out.cell 8 _ rfl
  have x9 := HWK.out.cell 9 _ rfl
  have x10 := HWK.out.cell 10 _ rfl
  have x11 := HWK.out.cell 11 _ rfl
  have x12 := HWK.out.cell 12 _ rfl
  go_wp2_with fail
  go_ret
  exact ⟨ret_int (by have h9 := HE.out; rw [szR_pos (by omega)]; omega), by exact HWB.out⟩

def RetInstr (w : World) (d : InstrD) (e : Ending) (w' : World) : Prop := ∃ cs, e = .returned (.agg cs.toArray) ∧ InstrO (Rng w.heap.size w'.heap.size) w' cs d ∧ Below w.heap.size w w'
set_option maxHeartbeats 4000000 in
theorem laws_toInstr (d : InstrD) (cs : List Value) (w : World) (h : InstrR w cs d) (hz : szInstr d ≤ 1048576) :
    Calls Tryz.prog 120 #[.agg cs.toArray] w (RetInstr w d) := by
  obtain ⟨v4, v51, v52, v53, v54, v55, rfl, q0, q1, q2, q3, q4, q5⟩ := h
  have QQ := Lib.hid (show True ∧ I64 d.op ∧ I64 d.arg ∧ I64 d.count ∧ d.text.length ≤ maxLen from ⟨trivial, q0, q1, q2, q3⟩)
  clear q0 q1 q2 q3
  have Q4 := Lib.hid q4
  clear q4
  have Q5 := Lib.hid q5
  clear q5
  unfold szInstr at hz
  go_enter Tryz.func120, Tryz.ntmps120
  go_wp2_with fail
  refine abs_w (fun W => Blk W w.heap.size 113 [.int .i64 d.op, .int .i64 d.arg, .int .i64 d.count, .string (str d.text), v4, .int .i64 d.value.kind, v51, v52, v53, v54, v55, .int .i64 d.value.code, .int .i64 d.value.env] ∧ Blk W (w.heap.size + 1) 63 [.int .i64 0, .int .i64 0, .int .i64 0, .string ByteArray.empty, .slice none 0 0, .int .i64 0, .slice none 0 0, .slice none 0 0, .slice none 0 0, .slice none 0 0, .slice none 0 0, .int .i64 0, .int .i64 0] ∧ Blk W (w.heap.size + 1 + 1) 63 [.int .i64 d.op, .int .i64 d.arg, .int .i64 d.count, .string (str d.text), .slice none 0 0, .int .i64 0, .slice none 0 0, .slice none 0 0, .slice none 0 0, .slice none 0 0, .slice none 0 0, .int .i64 0, .int .i64 0] ∧ w.heap.size + 3 ≤ W.heap.size ∧ Below w.heap.size w W) ⟨by exact ((Blk.new _ _ _).alloc _).alloc _, by exact (Blk.new_at _ _ _ _ (by simp)).alloc _, by exact Blk.new_at _ _ _ _ (by simp), by simp, by exact (((Below.refl _ _).alloc (Nat.le_refl _) _).alloc (by simp) _).alloc (by simp; omega) _⟩ ?_
  rintro W4 ⟨hS1, hR1, hO1, hN4, hB1⟩
  refine (laws_toStringS_own d.labels v4 _ (Q4.out.below hB1) (by omega)).mono ?_
  rintro e w4 ⟨A4, c4, rfl, o1, hb1⟩
  have HS := Lib.hid (hS1.below hb1)
  have HR := Lib.hid (hR1.below hb1)
  have HO := Lib.hid (hO1.below hb1)
  have HB := Lib.hid (hB1.trans (hb1.mono hB1.size))
  have hM4 : W4.heap.size ≤ w4.heap.size := hb1.size
  have O4 := Lib.hid o1
  clear hS1 hR1 hO1 hB1 hb1 o1 
  have s0 := HS.out.cell 0 _ rfl
  have s1 := HS.out.cell 1 _ rfl
  have s2 := HS.out.cell 2 _ rfl
  have s3 := HS.out.cell 3 _ rfl
  have s4 := HS.out.cell 4 _ rfl
  have s5 := HS.out.cell 5 _ rfl
  have s6 := HS.out.cell 6 _ rfl
  have s7 := HS.out.cell 7 _ rfl
  have s8 := HS.out.cell 8 _ rfl
  have s9 := HS.out.cell 9 _ rfl
  have s10 := HS.out.cell 10 _ rfl
  have s11 := HS.out.cell 11 _ rfl
  have s12 := HS.out.cell 12 _ rfl
  have o0 := HO.out.cell 0 _ rfl
  have o1 := HO.out.cell 1 _ rfl
  have o2 := HO.out.cell 2 _ rfl
  have o3 := HO.out.cell 3 _ rfl
  have o4 := HO.out.cell 4 _ rfl
  have o5 := HO.out.cell 5 _ rfl
  have o6 := HO.out.cell 6 _ rfl
  have o7 := HO.out.cell 7 _ rfl
  have o8 := HO.out.cell 8 _ rfl
  have o9 := HO.out.cell 9 _ rfl
  have o10 := HO.out.cell 10 _ rfl
  have o11 := HO.out.cell 11 _ rfl
  have o12 := HO.out.cell 12 _ rfl
  have fz := HO.out.frozen
  go_wp2_with fail
  clear s0 s1 s2 s3 s4 s5 s6 s7 s8 s9 s10 s11 s12 o0 o1 o2 o3 o4 o5 o6 o7 o8 o9 o10 o11 o12 fz
  refine abs_w (fun W => Blk W w.heap.size 113 [.int .i64 d.op, .int .i64 d.arg, .int .i64 d.count, .string (str d.text), v4, .int .i64 d.value.kind, v51, v52, v53, v54, v55, .int .i64 d.value.code, .int .i64 d.value.env] ∧ Blk W (w.heap.size + 1) 63 [.int .i64 0, .int .i64 0, .int .i64 0, .string ByteArray.empty, .slice none 0 0, .int .i64 0, .slice none 0 0, .slice none 0 0, .slice none 0 0, .slice none 0 0, .slice none 0 0, .int .i64 0, .int .i64 0] ∧ Blk W (w.heap.size + 1 + 1) 63 [.int .i64 d.op, .int .i64 d.arg, .int .i64 d.count, .string (str d.text), .slice A4 d.labels.length c4, .int .i64 0, .slice none 0 0, .slice none 0 0, .slice none 0 0, .slice none 0 0, .slice none 0 0, .int .i64 0, .int .i64 0] ∧ w4.heap.size ≤ W.heap.size ∧ Below w.heap.size w W ∧ TxtO (Rng W4.heap.size w4.heap.size) W (.slice A4 d.labels.length c4) d.labels) ⟨by exact (HS.out.far _ (by simp; omega) _), by exact (HR.out.far _ (by simp) _), by exact (HO.out.set_ 4 _), by simp [World.setCell], by exact (below_sc HB.out (by omega) _), by exact O4.out.keeps ((Keeps.refl _ _).sc (fun h => by have := h.1; omega) _)⟩ ?_
  clear HS HR HO HB O4
  rintro W5 ⟨hS1, hR1, hO1, hN5, hB1, hP4⟩
  refine (laws_toVec d.value _ _ (Q5.out.below hB1) (by omega)).mono ?_
  rintro e w5 ⟨cv, rfl, o1, hb1⟩
  obtain ⟨A51, c51, A52, c52, A53, c53, A54, c54, A55, c55, rfl⟩ := o1.shape
  have HS := Lib.hid (hS1.below hb1)
  have HR := Lib.hid (hR1.below hb1)
  have HO := Lib.hid (hO1.below hb1)
  have HB := Lib.hid (hB1.trans (hb1.mono hB1.size))
  have hM5 : W5.heap.size ≤ w5.heap.size := hb1.size
  have O5 := Lib.hid o1
  have O4 := Lib.hid (hP4.keeps (Keeps.of_below _ hb1))
  clear hS1 hR1 hO1 hB1 hb1 o1 hP4
  have s0 := HS.out.cell 0 _ rfl
  have s1 := HS.out.cell 1 _ rfl
  have s2 := HS.out.cell 2 _ rfl
  have s3 := HS.out.cell 3 _ rfl
  have s4 := HS.out.cell 4 _ rfl
  have s5 := HS.out.cell 5 _ rfl
  have s6 := HS.out.cell 6 _ rfl
  have s7 := HS.out.cell 7 _ rfl
  have s8 := HS.out.cell 8 _ rfl
  have s9 := HS.out.cell 9 _ rfl
  have s10 := HS.out.cell 10 _ rfl
  have s11 := HS.out.cell 11 _ rfl
  have s12 := HS.out.cell 12 _ rfl
  have o0 := HO.out.cell 0 _ rfl
  have o1 := HO.out.cell 1 _ rfl
  have o2 := HO.out.cell 2 _ rfl
  have o3 := HO.out.cell 3 _ rfl
  have o4 := HO.out.cell 4 _ rfl
  have o5 := HO.out.cell 5 _ rfl
  have o6 := HO.out.cell 6 _ rfl
  have o7 := HO.out.cell 7 _ rfl
  have o8 := HO.out.cell 8 _ rfl
  have o9 := HO.out.cell 9 _ rfl
  have o10 := HO.out.cell 10 _ rfl
  have o11 := HO.out.cell 11 _ rfl
  have o12 := HO.out.cell 12 _ rfl
  have fz := HO.out.frozen
  have r0 := HR.out.cell 0 _ rfl
  have r1 := HR.out.cell 1 _ rfl
  have r2 := HR.out.cell 2 _ rfl
  have r3 := HR.out.cell 3 _ rfl
  have r4 := HR.out.cell 4 _ rfl
  have r5 := HR.out.cell 5 _ rfl
  have r6 := HR.out.cell 6 _ rfl
  have r7 := HR.out.cell 7 _ rfl
  have r8 := HR.out.cell 8 _ rfl
  have r9 := HR.out.cell 9 _ rfl
  have r10 := HR.out.cell 10 _ rfl
  have r11 := HR.out.cell 11 _ rfl
  have r12 := HR.out.cell 12 _ rfl
  have fr := HR.out.frozen
  go_wp2_with fail
  refine bodyPost_ret (v := .agg #[.int .i64 d.op, .int .i64 d.arg, .int .i64 d.count, .string (str d.text), .slice A4 d.labels.length c4, .int .i64 d.value.kind, .slice A51 d.value.items.length c51, .slice A52 d.value.parts.length c52, .slice A53 d.value.names.length c53, .slice A54 d.value.cls.length c54, .slice A55 d.value.levels.length c55, .int .i64 d.value.code, .int .i64 d.value.env]) (by simp [results, Tryz.results120, go_sem, r0, r1, r2, r3, r4, r5, r6, r7, r8, r9, r10, r11, r12]) rfl ?_
  clear s0 s1 s2 s3 s4 s5 s6 s7 s8 s9 s10 s11 s12 o0 o1 o2 o3 o4 o5 o6 o7 o8 o9 o10 o11 o12 r0 r1 r2 r3 r4 r5 r6 r7 r8 r9 r10 r11 r12 fz fr
  have bm1 : w.heap.size ≤ w.heap.size + 1 := by omega
  have bm2 : w.heap.size ≤ w.heap.size + 1 + 1 := by omega
  obtain ⟨_, q0, q1, q2, q3⟩ := QQ.out
  refine ⟨_, rfl, ⟨A4, c4, A51, c51, A52, c52, A53, c53, A54, c54, A55, c55, fun b => if b < w4.heap.size then 4 else 5, rfl, q0, q1, q2, q3, ?_, ?_⟩, (below_sc (below_sc (below_sc (below_sc (below_sc (below_sc (below_sc (below_sc (below_sc (below_sc (below_sc (below_sc (below_sc (below_sc (below_sc (below_sc (below_sc (below_sc (below_sc (below_sc (below_sc HB.out bm2 _) bm2 _) bm2 _) bm2 _) bm2 _) bm2 _) bm2 _) bm2 _) bm1 _) bm1 _) bm1 _) bm1 _) bm1 _) bm1 _) bm1 _) bm1 _) bm1 _) bm1 _) bm1 _) bm1 _) bm1 _)⟩
  · have m1x : ¬ Rng W4.heap.size w4.heap.size (w.heap.size + 1) := fun h => by have := h.1; omega
    have m2x : ¬ Rng W4.heap.size w4.heap.size (w.heap.size + 1 + 1) := fun h => by have := h.1; omega
    refine (O4.out.keeps ((((((((((((((((((((((Keeps.refl _ _).sc m2x _).sc m2x _).sc m2x _).sc m2x _).sc m2x _).sc m2x _).sc m2x _).sc m2x _).sc m1x _).sc m1x _).sc m1x _).sc m1x _).sc m1x _).sc m1x _).sc m1x _).sc m1x _).sc m1x _).sc m1x _).sc m1x _).sc m1x _).sc m1x _)).mono (fun b hb => ?_)
    obtain ⟨x1, x2⟩ := hb
    refine ⟨⟨by omega, by simp only [size_sc]; omega⟩, ?_⟩
    dsimp only
    repeat (first | rfl | rw [if_pos (by omega)] | rw [if_neg (by omega)])
  · have m1x : ¬ Rng W5.heap.size w5.heap.size (w.heap.size + 1) := fun h => by have := h.1; omega
    have m2x : ¬ Rng W5.heap.size w5.heap.size (w.heap.size + 1 + 1) := fun h => by have := h.1; omega
    refine (O5.out.keeps ((((((((((((((((((((((Keeps.refl _ _).sc m2x _).sc m2x _).sc m2x _).sc m2x _).sc m2x _).sc m2x _).sc m2x _).sc m2x _).sc m1x _).sc m1x _).sc m1x _).sc m1x _).sc m1x _).sc m1x _).sc m1x _).sc m1x _).sc m1x _).sc m1x _).sc m1x _).sc m1x _).sc m1x _)).mono (fun b hb => ?_)
    obtain ⟨x1, x2⟩ := hb
    refine ⟨⟨by omega, by simp only [size_sc]; omega⟩, ?_⟩
    dsimp only
    repeat (first | rfl | rw [if_pos (by omega)] | rw [if_neg (by omega)])

set_option maxHeartbeats 1000000 in
theorem laws_eqInstr_same (d : InstrD) (cs cs' : List Value) (w : World) (h : InstrR w cs d) (h' : InstrR w cs' d) :
    Calls Tryz.prog 127 #[.agg cs.toArray, .agg cs'.toArray] w fun e w' => e = .returned (.bool true) ∧ Below w.heap.size w w' := by
  obtain ⟨v4, v51, v52, v53, v54, v55, rfl, _q0, _q1, _q2, _q3, q4, q5⟩ := h
  obtain ⟨u4, u51, u52, u53, u54, u55, rfl, _p0, _p1, _p2, _p3, p4, p5⟩ := h'
  have Q4 := Lib.hid q4
  have P4 := Lib.hid p4
  clear q4 p4
  have Q5 := Lib.hid q5
  have P5 := Lib.hid p5
  clear q5 p5
  go_enter Tryz.func127, Tryz.ntmps127
  go_wp2_with fail
  refine abs_w (fun W => Blk W w.heap.size 63 [.int .i64 d.op, .int .i64 d.arg, .int .i64 d.count, .string (str d.text), v4, .int .i64 d.value.kind, v51, v52, v53, v54, v55, .int .i64 d.value.code, .int .i64 d.value.env] ∧ Blk W (w.heap.size + 1) 63 [.int .i64 d.op, .int .i64 d.arg, .int .i64 d.count, .string (str d.text), u4, .int .i64 d.value.kind, u51, u52, u53, u54, u55, .int .i64 d.value.code, .int .i64 d.value.env] ∧ Below w.heap.size w W) ⟨by exact (Blk.new _ _ _).alloc _, by exact Blk.new_at _ _ _ _ (by simp), by exact ((Below.refl _ _).alloc (Nat.le_refl _) _).alloc (by simp) _⟩ ?_
  rintro W0 ⟨hK0, hL0, hB0⟩
  have HK := Lib.hid hK0
  have HL := Lib.hid hL0
  have HB := Lib.hid hB0
  clear hK0 hL0 hB0
  refine (laws_eqStringS_same d.labels v4 u4 _ (Q4.out.below HB.out) (P4.out.below HB.out)).mono ?_
  rintro e w4 ⟨rfl, hb4⟩
  replace HK := Lib.hid (HK.out.below hb4)
  replace HL := Lib.hid (HL.out.below hb4)
  replace HB := Lib.hid (HB.out.trans (hb4.mono HB.out.size))
  clear hb4
  have s0 := HK.out.cell 0 _ rfl
  have s1 := HK.out.cell 1 _ rfl
  have s2 := HK.out.cell 2 _ rfl
  have s3 := HK.out.cell 3 _ rfl
  have s4 := HK.out.cell 4 _ rfl
  have s5 := HK.out.cell 5 _ rfl
  have s6 := HK.out.cell 6 _ rfl
  have s7 := HK.out.cell 7 _ rfl
  have s8 := HK.out.cell 8 _ rfl
  have s9 := HK.out.cell 9 _ rfl
  have s10 := HK.out.cell 10 _ rfl
  have s11 := HK.out.cell 11 _ rfl
  have s12 := HK.out.cell 12 _ rfl
  have o0 := HL.out.cell 0 _ rfl
  have o1 := HL.out.cell 1 _ rfl
  have o2 := HL.out.cell 2 _ rfl
  have o3 := HL.out.cell 3 _ rfl
  have o4 := HL.out.cell 4 _ rfl
  have o5 := HL.out.cell 5 _ rfl
  have o6 := HL.out.cell 6 _ rfl
  have o7 := HL.out.cell 7 _ rfl
  have o8 := HL.out.cell 8 _ rfl
  have o9 := HL.out.cell 9 _ rfl
  have o10 := HL.out.cell 10 _ rfl
  have o11 := HL.out.cell 11 _ rfl
  have o12 := HL.out.cell 12 _ rfl
  go_wp2_with fail
  clear s0 s1 s2 s3 s4 s5 s6 s7 s8 s9 s10 s11 s12 o0 o1 o2 o3 o4 o5 o6 o7 o8 o9 o10 o11 o12
  refine (laws_eqVec_same d.value _ _ _ (Q5.out.below HB.out) (P5.out.below HB.out)).mono ?_
  rintro e w5 ⟨rfl, hb5⟩
  replace HK := Lib.hid (HK.out.below hb5)
  replace HL := Lib.hid (HL.out.below hb5)
  replace HB := Lib.hid (HB.out.trans (hb5.mono HB.out.size))
  clear hb5
  have s0 := HK.out.cell 0 _ rfl
  have s1 := HK.out.cell 1 _ rfl
  have s2 := HK.out.cell 2 _ rfl
  have s3 := HK.out.cell 3 _ rfl
  have s4 := HK.out.cell 4 _ rfl
  have s5 := HK.out.cell 5 _ rfl
  have s6 := HK.out.cell 6 _ rfl
  have s7 := HK.out.cell 7 _ rfl
  have s8 := HK.out.cell 8 _ rfl
  have s9 := HK.out.cell 9 _ rfl
  have s10 := HK.out.cell 10 _ rfl
  have s11 := HK.out.cell 11 _ rfl
  have s12 := HK.out.cell 12 _ rfl
  have o0 := HL.out.cell 0 _ rfl
  have o1 := HL.out.cell 1 _ rfl
  have o2 := HL.out.cell 2 _ rfl
  have o3 := HL.out.cell 3 _ rfl
  have o4 := HL.out.cell 4 _ rfl
  have o5 := HL.out.cell 5 _ rfl
  have o6 := HL.out.cell 6 _ rfl
  have o7 := HL.out.cell 7 _ rfl
  have o8 := HL.out.cell 8 _ rfl
  have o9 := HL.out.cell 9 _ rfl
  have o10 := HL.out.cell 10 _ rfl
  have o11 := HL.out.cell 11 _ rfl
  have o12 := HL.out.cell 12 _ rfl
  go_wp2_with fail
  clear s0 s1 s2 s3 s4 s5 s6 s7 s8 s9 s10 s11 s12 o0 o1 o2 o3 o4 o5 o6 o7 o8 o9 o10 o11 o12
  go_ret
  exact ⟨rfl, HB.out⟩

theorem open_InstrR {H : Type} {enc : TypeId × Value → H} {w : World} {base : Nat} {spare : Nat → Bool} {held : Bool} {n : Nat} {cs : List Value} {x : DataW H × List MemPlace} (h : DataW.trod enc Tryz.prog w base spare held n 113 cs = some x) : ∃ d, InstrR w cs d := by
  obtain ⟨hlen, n', hn, hg⟩ := open_field Tryz.underlying113 h
  match cs, hlen.trans (show Tryz.prog.cellsOf 113 = 13 by kernel_rfl) with
  | [c0, c1, c2, c3, c4, c5, c6, c7, c8, c9, c10, c11, c12], _ =>
    obtain ⟨y0, g0⟩ := hg 0 _ rfl
    rw [show List.take (Tryz.prog.cellsOf _) (List.drop _ [c0, c1, c2, c3, c4, c5, c6, c7, c8, c9, c10, c11, c12]) = [c0] by simp [cells_int]] at g0
    obtain ⟨d0, e0, r0⟩ := open_i64 Tryz.underlying3 g0
    obtain ⟨y1, g1⟩ := hg 1 _ rfl
    rw [show List.take (Tryz.prog.cellsOf _) (List.drop _ [c0, c1, c2, c3, c4, c5, c6, c7, c8, c9, c10, c11, c12]) = [c1] by simp [cells_int]] at g1
    obtain ⟨d1, e1, r1⟩ := open_i64 Tryz.underlying3 g1
    obtain ⟨y2, g2⟩ := hg 2 _ rfl
    rw [show List.take (Tryz.prog.cellsOf _) (List.drop _ [c0, c1, c2, c3, c4, c5, c6, c7, c8, c9, c10, c11, c12]) = [c2] by simp [cells_int]] at g2
    obtain ⟨d2, e2, r2⟩ := open_i64 Tryz.underlying3 g2
    obtain ⟨y3, g3⟩ := hg 3 _ rfl
    rw [show List.take (Tryz.prog.cellsOf _) (List.drop _ [c0, c1, c2, c3, c4, c5, c6, c7, c8, c9, c10, c11, c12]) = [c3] by simp [cells_string]] at g3
    obtain ⟨d3, e3, r3⟩ := open_str Tryz.underlying9 g3
    obtain ⟨y4, g4⟩ := hg 4 _ rfl
    rw [show List.take (Tryz.prog.cellsOf _) (List.drop _ [c0, c1, c2, c3, c4, c5, c6, c7, c8, c9, c10, c11, c12]) = [c4] by simp [cells_slice_string]] at g4
    obtain ⟨a4, d4, e4, r4⟩ := open_slr Tryz.underlying46 cells_string (by decide) StrR (fun _ _ _ _ _ h => open_str Tryz.underlying9 h) g4
    obtain ⟨y5, g5⟩ := hg 5 _ rfl
    rw [show List.take (Tryz.prog.cellsOf _) (List.drop _ [c0, c1, c2, c3, c4, c5, c6, c7, c8, c9, c10, c11, c12]) = [c5, c6, c7, c8, c9, c10, c11, c12] by simp [cells_Vector]] at g5
    obtain ⟨d5, r5⟩ := open_VecR g5
    simp only [List.cons.injEq, and_true] at e0
    subst e0
    simp only [List.cons.injEq, and_true] at e1
    subst e1
    simp only [List.cons.injEq, and_true] at e2
    subst e2
    simp only [List.cons.injEq, and_true] at e3
    subst e3
    simp only [List.cons.injEq, and_true] at e4
    subst e4
    obtain ⟨b51, b52, b53, b54, b55, hs5⟩ := r5.shape
    simp only [List.cons.injEq, and_true] at hs5
    obtain ⟨rfl, rfl, rfl, rfl, rfl, rfl, rfl, rfl⟩ := hs5
    exact ⟨⟨d0, d1, d2, d3, d4, d5⟩, _, _, _, _, _, _, rfl, r0, r1, r2, r3, r4, r5⟩

def Instrs (w : World) (v : Value) (l : List InstrD) : Prop := SlR w 13 (InstrR w) v l
theorem Instrs.below {w w' : World} {v : Value} {l : List InstrD} (h : Instrs w v l) (hb : Below w.heap.size w w') : Instrs w' v l := SlR.below h hb (fun _ _ h => h.below hb)
def InstrsO (S : Nat → Prop) (w : World) (v : Value) (l : List InstrD) : Prop := SlO S w 63 13 InstrO v l
theorem InstrsO.read {S : Nat → Prop} {w : World} {v : Value} {l : List InstrD} (h : InstrsO S w v l) : Instrs w v l := SlO.read (fun _ h => h.read) h
theorem InstrsO.keeps {S : Nat → Prop} {w w' : World} {v : Value} {l : List InstrD} (h : InstrsO S w v l) (hk : Keeps S w w') : InstrsO S w' v l := SlO.keeps (fun _ h k => h.keeps k) h hk
theorem InstrsO.mono {S S' : Nat → Prop} {w : World} {v : Value} {l : List InstrD} (h : InstrsO S w v l) (hs : ∀ b, S b → S' b) : InstrsO S' w v l := SlO.mono (fun _ h k => h.mono k) h hs
theorem cells_slice_Instr : Tryz.prog.cellsOf 71 = 1 := by kernel_rfl
theorem info_Instr : (Tryz.prog.info? 63).map (fun i => (i.zero, i.size, i.bytes)) = some (some (.agg #[.int .i64 0, .int .i64 0, .int .i64 0, .string ByteArray.empty, .slice none 0 0, .int .i64 0, .slice none 0 0, .slice none 0 0, .slice none 0 0, .slice none 0 0, .slice none 0 0, .int .i64 0, .int .i64 0]), 13, 208) := by kernel_rfl
set_option maxHeartbeats 1000000 in
theorem laws_szInstrS (l : List InstrD) (v : Value) (left : Int) (w : World) (h : Instrs w v l) (h0 : 0 ≤ left) (h1 : left ≤ 1048576) :
    Calls Tryz.prog 79 #[v, .int .i64 left] w fun e w' => e = .returned (.int .i64 (szR left (szS szInstr l))) ∧ Below w.heap.size w w' := by
  obtain ⟨A, c, rfl, hlc, hm, HC⟩ := SlR.open_ h
  clear h
  unfold maxLen at hm
  by_cases hle : (l.length : Int) ≤ left
  · go_enter Tryz.func79, Tryz.ntmps79
    go_wp2_with fail
    go_loopw [1, 5] (fun x i wr => ∃ k : Nat, k ≤ l.length ∧ i = .int .i64 k ∧ ∃ y : Int, x = .int .i64 y ∧ 0 ≤ y ∧ y ≤ 1048576 ∧ Hid (y = left - l.length - (szS szInstr (l.take k) - k : Int)) ∧ Below w.heap.size w wr) (fun _ i _ => l.length - (intOf i).toNat)
    case atStart => exact ⟨0, Nat.zero_le _, rfl, _, rfl, by omega, by omega, by show _ = _; rw [szS_zero]; simp, Below.refl _ _⟩
    case round =>
      obtain ⟨k, hk, rfl, y, rfl, hy0, hy1, hy, hb⟩ := hrel
      by_cases hlt : k < l.length
      · obtain ⟨b, off, cs, rfl, hbl, _, hat, hr⟩ := HC.out k hlt
        have HRK := Lib.hid (hr.below hb)
        obtain ⟨v4, v51, v52, v53, v54, v55, rfl⟩ := hr.shape
        have x0 := (hb.cell (p := ⟨b, off + k * 13, none⟩) hbl).trans (by simpa using hat 0 _ rfl)
        have x1 := (hb.cell (p := ⟨b, off + k * 13 + 1, none⟩) hbl).trans (hat 1 _ rfl)
        have x2 := (hb.cell (p := ⟨b, off + k * 13 + 2, none⟩) hbl).trans (hat 2 _ rfl)
        have x3 := (hb.cell (p := ⟨b, off + k * 13 + 3, none⟩) hbl).trans (hat 3 _ rfl)
        have x4 := (hb.cell (p := ⟨b, off + k * 13 + 4, none⟩) hbl).trans (hat 4 _ rfl)
        have x5 := (hb.cell (p := ⟨b, off + k * 13 + 5, none⟩) hbl).trans (hat 5 _ rfl)
        have x6 := (hb.cell (p := ⟨b, off + k * 13 + 6, none⟩) hbl).trans (hat 6 _ rfl)
        have x7 := (hb.cell (p := ⟨b, off + k * 13 + 7, none⟩) hbl).trans (hat 7 _ rfl)
        have x8 := (hb.cell (p := ⟨b, off + k * 13 + 8, none⟩) hbl).trans (hat 8 _ rfl)
        have x9 := (hb.cell (p := ⟨b, off + k * 13 + 9, none⟩) hbl).trans (hat 9 _ rfl)
        have x10 := (hb.cell (p := ⟨b, off + k * 13 + 10, none⟩) hbl).trans (hat 10 _ rfl)
        have x11 := (hb.cell (p := ⟨b, off + k * 13 + 11, none⟩) hbl).trans (hat 11 _ rfl)
        have x12 := (hb.cell (p := ⟨b, off + k * 13 + 12, none⟩) hbl).trans (hat 12 _ rfl)
        have HS := Lib.hid (szS_take_succ szInstr l k hlt)
        clear hat hr
        go_wp2_with fail
        refine (laws_szInstr l[k] _ y _ HRK.out hy0 hy1).mono ?_
        rintro e w1 ⟨rfl, hb1⟩
        have HB1 := Lib.hid (hb.trans (hb1.mono hb.size))
        clear hb1 x0 x1 x2 x3 x4 x5 x6 x7 x8 x9 x10 x11 x12
        by_cases hle2 : (szInstr l[k] : Int) ≤ y
        · rw [szR_pos hle2]
          go_wp2_with fail
          go_roundw
          case rel => exact ⟨k + 1, by omega, by go_num, _, rfl, by omega, by omega, by have := hy.out; have := HS.out; show _ = _; omega, HB1.out⟩
          case measure => simp [intOf]; omega
        · rw [szR_neg hle2]
          go_wp2_with fail
          go_ret
          refine ⟨ret_int ?_, HB1.out⟩
          have h9 := szS_take_le szInstr l (k + 1)
          rw [List.length_drop] at h9
          have := hy.out
          have := HS.out
          rw [szR_neg (by omega)]
      · obtain rfl : k = l.length := by omega
        rw [List.take_length] at hy
        go_wp2_with fail
        go_ret
        refine ⟨ret_int ?_, hb⟩
        have := hy.out
        rw [szR_pos (by omega)]
        omega
  · have h9 := szS_length szInstr l
    have HR := Lib.hid (szR_neg (left := left) (n := szS szInstr l) (by omega))
    go_enter Tryz.func79, Tryz.ntmps79
    go_wp2
    go_ret
    exact ⟨ret_int HR.out.symm, Below.refl _ _⟩

set_option maxHeartbeats 2000000 in
theorem laws_toInstrS (l : List InstrD) (v : Value) (w : World) (h : Instrs w v l) (hz : szS szInstr l ≤ 1048576) :
    Calls Tryz.prog 88 #[v] w fun e w' => ∃ A c, e = .returned (.slice A l.length c) ∧ InstrsO (Rng w.heap.size w'.heap.size) w' (.slice A l.length c) l ∧ Below w.heap.size w w' := by
  have hl := szS_length szInstr l
  obtain ⟨A, c, rfl, hlc, hm, HC⟩ := SlR.open_ h
  clear h
  unfold maxLen at hm
  have hmk := run_mk (P := Tryz.prog) w 47 63 _ 13 208 Tryz.underlying47 info_Instr l.length (by omega) (by omega)
  go_enter Tryz.func88, Tryz.ntmps88
  go_wp2
  clear hmk
  go_loopw [4] (fun i wr => ∃ k : Nat, k ≤ l.length ∧ i = .int .i64 k ∧ CopyO wr w.heap.size 63 13 l.length k (InstrO) l ∧ Below w.heap.size w wr ∧ w.heap.size < wr.heap.size) (fun i _ => l.length - (intOf i).toNat)
  case atStart => exact ⟨0, Nat.zero_le _, rfl, CopyO.start _ _ _ _ _ _ _ (by simp [size_madeCells]), (Below.refl _ _).alloc (Nat.le_refl _) _, by simp⟩
  case round =>
    obtain ⟨k, hk, rfl, hf, hb, hgt⟩ := hrel
    by_cases hlt : k < l.length
    · obtain ⟨b, off, cs, rfl, hbl, _, hat, hr⟩ := HC.out k hlt
      have HRK := Lib.hid (hr.below hb)
      obtain ⟨v4, v51, v52, v53, v54, v55, rfl⟩ := hr.shape
      have x0 := (hb.cell (p := ⟨b, off + k * 13, none⟩) hbl).trans (by simpa using hat 0 _ rfl)
      have x1 := (hb.cell (p := ⟨b, off + k * 13 + 1, none⟩) hbl).trans (hat 1 _ rfl)
      have x2 := (hb.cell (p := ⟨b, off + k * 13 + 2, none⟩) hbl).trans (hat 2 _ rfl)
      have x3 := (hb.cell (p := ⟨b, off + k * 13 + 3, none⟩) hbl).trans (hat 3 _ rfl)
      have x4 := (hb.cell (p := ⟨b, off + k * 13 + 4, none⟩) hbl).trans (hat 4 _ rfl)
      have x5 := (hb.cell (p := ⟨b, off + k * 13 + 5, none⟩) hbl).trans (hat 5 _ rfl)
      have x6 := (hb.cell (p := ⟨b, off + k * 13 + 6, none⟩) hbl).trans (hat 6 _ rfl)
      have x7 := (hb.cell (p := ⟨b, off + k * 13 + 7, none⟩) hbl).trans (hat 7 _ rfl)
      have x8 := (hb.cell (p := ⟨b, off + k * 13 + 8, none⟩) hbl).trans (hat 8 _ rfl)
      have x9 := (hb.cell (p := ⟨b, off + k * 13 + 9, none⟩) hbl).trans (hat 9 _ rfl)
      have x10 := (hb.cell (p := ⟨b, off + k * 13 + 10, none⟩) hbl).trans (hat 10 _ rfl)
      have x11 := (hb.cell (p := ⟨b, off + k * 13 + 11, none⟩) hbl).trans (hat 11 _ rfl)
      have x12 := (hb.cell (p := ⟨b, off + k * 13 + 12, none⟩) hbl).trans (hat 12 _ rfl)
      clear hat hr
      have hsk := szS_at szInstr l k hlt
      go_wp2_with fail
      refine (laws_toInstr l[k] _ _ HRK.out (by omega)).mono ?_
      rintro e w1 ⟨cs1, rfl, ho1, hb1⟩
      have HST := Lib.hid (CopyO.step (fun _ h k => h.keeps k) (fun _ h k => h.mono k) hf hb1 hlt hlt cs1 ho1.length ho1)
      have HB1 := Lib.hid (hb.trans (hb1.mono hb.size))
      have hg1 : w.heap.size < w1.heap.size := Nat.lt_of_lt_of_le hgt hb1.size
      obtain ⟨_, _, _, hfl, _⟩ := hf
      have hf1 := hfl.keep (hb1.block _ hfl.lt)
      obtain ⟨A4, c4, A51, c51, A52, c52, A53, c53, A54, c54, A55, c55, rfl⟩ := ho1.shape
      clear hb1 x0 x1 x2 x3 x4 x5 x6 x7 x8 x9 x10 x11 x12 hfl ho1
      obtain ⟨t0, ht0⟩ := hf1.cell (k * 13) (by omega)
      have hz0 := hf1.frozen (k * 13)
      obtain ⟨t1, ht1⟩ := hf1.cell (k * 13 + 1) (by omega)
      have hz1 := hf1.frozen (k * 13 + 1)
      obtain ⟨t2, ht2⟩ := hf1.cell (k * 13 + 2) (by omega)
      have hz2 := hf1.frozen (k * 13 + 2)
      obtain ⟨t3, ht3⟩ := hf1.cell (k * 13 + 3) (by omega)
      have hz3 := hf1.frozen (k * 13 + 3)
      obtain ⟨t4, ht4⟩ := hf1.cell (k * 13 + 4) (by omega)
      have hz4 := hf1.frozen (k * 13 + 4)
      obtain ⟨t5, ht5⟩ := hf1.cell (k * 13 + 5) (by omega)
      have hz5 := hf1.frozen (k * 13 + 5)
      obtain ⟨t6, ht6⟩ := hf1.cell (k * 13 + 6) (by omega)
      have hz6 := hf1.frozen (k * 13 + 6)
      obtain ⟨t7, ht7⟩ := hf1.cell (k * 13 + 7) (by omega)
      have hz7 := hf1.frozen (k * 13 + 7)
      obtain ⟨t8, ht8⟩ := hf1.cell (k * 13 + 8) (by omega)
      have hz8 := hf1.frozen (k * 13 + 8)
      obtain ⟨t9, ht9⟩ := hf1.cell (k * 13 + 9) (by omega)
      have hz9 := hf1.frozen (k * 13 + 9)
      obtain ⟨t10, ht10⟩ := hf1.cell (k * 13 + 10) (by omega)
      have hz10 := hf1.frozen (k * 13 + 10)
      obtain ⟨t11, ht11⟩ := hf1.cell (k * 13 + 11) (by omega)
      have hz11 := hf1.frozen (k * 13 + 11)
      obtain ⟨t12, ht12⟩ := hf1.cell (k * 13 + 12) (by omega)
      have hz12 := hf1.frozen (k * 13 + 12)
      have HF1 := Lib.hid hf1
      clear hf1
      go_wp2_with fail
      go_roundw
      case rel => exact ⟨k + 1, by omega, by go_num, by exact HST.out, by exact (below_sc (below_sc (below_sc (below_sc (below_sc (below_sc (below_sc (below_sc (below_sc (below_sc (below_sc (below_sc (below_sc HB1.out (Nat.le_refl _) _) (Nat.le_refl _) _) (Nat.le_refl _) _) (Nat.le_refl _) _) (Nat.le_refl _) _) (Nat.le_refl _) _) (Nat.le_refl _) _) (Nat.le_refl _) _) (Nat.le_refl _) _) (Nat.le_refl _) _) (Nat.le_refl _) _) (Nat.le_refl _) _) (Nat.le_refl _) _), by simp only [size_sc]; exact hg1⟩
      case measure => simp [intOf]; omega
    · obtain rfl : k = l.length := by omega
      have ho := Lib.hid (CopyO.own (fun _ h k => h.mono k) hf (by unfold maxLen; omega))
      clear hf
      go_wp2_with fail
      go_ret
      exact ⟨_, _, rfl, ho.out, hb⟩

set_option maxHeartbeats 1000000 in
theorem laws_eqInstrS_same (l : List InstrD) (v u : Value) (w : World) (h : Instrs w v l) (h' : Instrs w u l) :
    Calls Tryz.prog 100 #[v, u] w fun e w' => e = .returned (.bool true) ∧ Below w.heap.size w w' := by
  obtain ⟨A, c, rfl, hlc, hm, HC⟩ := SlR.open_ h
  obtain ⟨A', c', rfl, hlc', hm', HC'⟩ := SlR.open_ h'
  clear h h'
  unfold maxLen at hm hm'
  go_enter Tryz.func100, Tryz.ntmps100
  go_wp2
  go_loopw [5] (fun i wr => ∃ k : Nat, k ≤ l.length ∧ i = .int .i64 k ∧ Below w.heap.size w wr) (fun i _ => l.length - (intOf i).toNat)
  case atStart => exact ⟨0, Nat.zero_le _, rfl, Below.refl _ _⟩
  case round =>
    obtain ⟨k, hk, rfl, hb⟩ := hrel
    by_cases hlt : k < l.length
    · obtain ⟨b, off, cs, rfl, hbl, _, hat, hr⟩ := HC.out k hlt
      have HRK := Lib.hid (hr.below hb)
      obtain ⟨v4, v51, v52, v53, v54, v55, rfl⟩ := hr.shape
      have x0 := (hb.cell (p := ⟨b, off + k * 13, none⟩) hbl).trans (by simpa using hat 0 _ rfl)
      have x1 := (hb.cell (p := ⟨b, off + k * 13 + 1, none⟩) hbl).trans (hat 1 _ rfl)
      have x2 := (hb.cell (p := ⟨b, off + k * 13 + 2, none⟩) hbl).trans (hat 2 _ rfl)
      have x3 := (hb.cell (p := ⟨b, off + k * 13 + 3, none⟩) hbl).trans (hat 3 _ rfl)
      have x4 := (hb.cell (p := ⟨b, off + k * 13 + 4, none⟩) hbl).trans (hat 4 _ rfl)
      have x5 := (hb.cell (p := ⟨b, off + k * 13 + 5, none⟩) hbl).trans (hat 5 _ rfl)
      have x6 := (hb.cell (p := ⟨b, off + k * 13 + 6, none⟩) hbl).trans (hat 6 _ rfl)
      have x7 := (hb.cell (p := ⟨b, off + k * 13 + 7, none⟩) hbl).trans (hat 7 _ rfl)
      have x8 := (hb.cell (p := ⟨b, off + k * 13 + 8, none⟩) hbl).trans (hat 8 _ rfl)
      have x9 := (hb.cell (p := ⟨b, off + k * 13 + 9, none⟩) hbl).trans (hat 9 _ rfl)
      have x10 := (hb.cell (p := ⟨b, off + k * 13 + 10, none⟩) hbl).trans (hat 10 _ rfl)
      have x11 := (hb.cell (p := ⟨b, off + k * 13 + 11, none⟩) hbl).trans (hat 11 _ rfl)
      have x12 := (hb.cell (p := ⟨b, off + k * 13 + 12, none⟩) hbl).trans (hat 12 _ rfl)
      clear hat hr
      obtain ⟨b', off', cs', rfl, hbl', _, hat, hr⟩ := HC'.out k hlt
      have HRL := Lib.hid (hr.below hb)
      obtain ⟨u4, u51, u52, u53, u54, u55, rfl⟩ := hr.shape
      have y0 := (hb.cell (p := ⟨b', off' + k * 13, none⟩) hbl').trans (by simpa using hat 0 _ rfl)
      have y1 := (hb.cell (p := ⟨b', off' + k * 13 + 1, none⟩) hbl').trans (hat 1 _ rfl)
      have y2 := (hb.cell (p := ⟨b', off' + k * 13 + 2, none⟩) hbl').trans (hat 2 _ rfl)
      have y3 := (hb.cell (p := ⟨b', off' + k * 13 + 3, none⟩) hbl').trans (hat 3 _ rfl)
      have y4 := (hb.cell (p := ⟨b', off' + k * 13 + 4, none⟩) hbl').trans (hat 4 _ rfl)
      have y5 := (hb.cell (p := ⟨b', off' + k * 13 + 5, none⟩) hbl').trans (hat 5 _ rfl)
      have y6 := (hb.cell (p := ⟨b', off' + k * 13 + 6, none⟩) hbl').trans (hat 6 _ rfl)
      have y7 := (hb.cell (p := ⟨b', off' + k * 13 + 7, none⟩) hbl').trans (hat 7 _ rfl)
      have y8 := (hb.cell (p := ⟨b', off' + k * 13 + 8, none⟩) hbl').trans (hat 8 _ rfl)
      have y9 := (hb.cell (p := ⟨b', off' + k * 13 + 9, none⟩) hbl').trans (hat 9 _ rfl)
      have y10 := (hb.cell (p := ⟨b', off' + k * 13 + 10, none⟩) hbl').trans (hat 10 _ rfl)
      have y11 := (hb.cell (p := ⟨b', off' + k * 13 + 11, none⟩) hbl').trans (hat 11 _ rfl)
      have y12 := (hb.cell (p := ⟨b', off' + k * 13 + 12, none⟩) hbl').trans (hat 12 _ rfl)
      clear hat hr
      go_wp2_with fail
      go_still_tail 8, (by kernel_rfl)
      change wpList _ _ _ _ _ wr.drew
      have hb2 : Below w.heap.size w wr.drew := hb.drew
      replace HRK := Lib.hid (show InstrR wr.drew _ _ from HRK.out.below (Below.drew (Below.refl _ _)))
      replace HRL := Lib.hid (show InstrR wr.drew _ _ from HRL.out.below (Below.drew (Below.refl _ _)))
      generalize wr.drew = w2 at *
      go_wp2_with fail
      refine (laws_eqInstr_same l[k] _ _ _ HRK.out HRL.out).mono ?_
      rintro e w3 ⟨rfl, hb3⟩
      have HB3 := Lib.hid (hb2.trans (hb3.mono hb2.size))
      clear hb3
      go_wp2_with fail
      go_roundw
      case rel => exact ⟨k + 1, by omega, by go_num, HB3.out⟩
      case measure => simp [intOf]; omega
    · go_wp2_with fail
      go_ret
      exact ⟨rfl, hb⟩

end Go.Proofs.YtjdfancbmjnjfaaGreat
namespace Go.Proofs.YtjdfancbmjnjfaaGreat
set_option maxRecDepth 100000
open Go.ChangeShapes Go.WideShapes Go.ChangeAt Go.RowKit Go.Deep

structure SegD where
  labels : List (List UInt8)
  defaults : List Int
  instrs : List InstrD

/-- the cells of a Segment -/
def SegmentR (w : World) (cs : List Value) (d : SegD) : Prop :=
  ∃ v0 v1 v2, cs = [v0, v1, v2] ∧ Txts w v0 d.labels ∧ Ints w v1 d.defaults ∧ Instrs w v2 d.instrs
theorem SegmentR.below {w w' : World} {cs : List Value} {d : SegD} (h : SegmentR w cs d) (hb : Below w.heap.size w w') : SegmentR w' cs d := by
  obtain ⟨v0, v1, v2, rfl, h0, h1, h2⟩ := h
  exact ⟨v0, v1, v2, rfl, h0.below hb, h1.below hb, h2.below hb⟩
theorem SegmentR.shape {w : World} {cs : List Value} {d : SegD} (h : SegmentR w cs d) : ∃ v0 v1 v2, cs = [v0, v1, v2] := by
  obtain ⟨v0, v1, v2, rfl, _⟩ := h
  exact ⟨v0, v1, v2, rfl⟩
/-- the cells of a Segment whose slices lie in blocks of its own, in S -/
def SegmentO (S : Nat → Prop) (w : World) (cs : List Value) (d : SegD) : Prop :=
  ∃ (A0 : Option Addr) (c0 : Nat) (A1 : Option Addr) (c1 : Nat) (A2 : Option Addr) (c2 : Nat), ∃ f : Nat → Nat, cs = [.slice A0 d.labels.length c0, .slice A1 d.defaults.length c1, .slice A2 d.instrs.length c2] ∧ TxtO (fun b => S b ∧ f b = 0) w (.slice A0 d.labels.length c0) d.labels ∧ IntO (fun b => S b ∧ f b = 1) w (.slice A1 d.defaults.length c1) d.defaults ∧ InstrsO (fun b => S b ∧ f b = 2) w (.slice A2 d.instrs.length c2) d.instrs
theorem SegmentO.read {S : Nat → Prop} {w : World} {cs : List Value} {d : SegD} (h : SegmentO S w cs d) : SegmentR w cs d := by
  obtain ⟨A0, c0, A1, c1, A2, c2, f, rfl, h0, h1, h2⟩ := h
  exact ⟨_, _, _, rfl, h0.read, h1.read, h2.read⟩
theorem SegmentO.keeps {S : Nat → Prop} {w w' : World} {cs : List Value} {d : SegD} (h : SegmentO S w cs d) (hk : Keeps S w w') : SegmentO S w' cs d := by
  obtain ⟨A0, c0, A1, c1, A2, c2, f, rfl, h0, h1, h2⟩ := h
  exact ⟨A0, c0, A1, c1, A2, c2, f, rfl, h0.keeps (hk.mono fun _ h => h.1), h1.keeps (hk.mono fun _ h => h.1), h2.keeps (hk.mono fun _ h => h.1)⟩
theorem SegmentO.mono {S S' : Nat → Prop} {w : World} {cs : List Value} {d : SegD} (h : SegmentO S w cs d) (hs : ∀ b, S b → S' b) : SegmentO S' w cs d := by
  obtain ⟨A0, c0, A1, c1, A2, c2, f, rfl, h0, h1, h2⟩ := h
  exact ⟨A0, c0, A1, c1, A2, c2, f, rfl, h0.mono (fun b h => ⟨hs b h.1, h.2⟩), h1.mono (fun b h => ⟨hs b h.1, h.2⟩), h2.mono (fun b h => ⟨hs b h.1, h.2⟩)⟩
theorem SegmentO.shape {S : Nat → Prop} {w : World} {cs : List Value} {d : SegD} (h : SegmentO S w cs d) : ∃ (A0 : Option Addr) (c0 : Nat) (A1 : Option Addr) (c1 : Nat) (A2 : Option Addr) (c2 : Nat), cs = [.slice A0 d.labels.length c0, .slice A1 d.defaults.length c1, .slice A2 d.instrs.length c2] := by
  obtain ⟨A0, c0, A1, c1, A2, c2, f, rfl, _⟩ := h
  exact ⟨A0, c0, A1, c1, A2, c2, rfl⟩
theorem SegmentO.length {S : Nat → Prop} {w : World} {cs : List Value} {d : SegD} (h : SegmentO S w cs d) : cs.length = 3 := by
  obtain ⟨A0, c0, A1, c1, A2, c2, f, rfl, _⟩ := h
  rfl

def szSegment (d : SegD) : Nat := szL d.labels + List.length d.defaults + szS szInstr d.instrs

set_option maxHeartbeats 1000000 in
theorem laws_szSegment (d : SegD) (cs : List Value) (left : Int) (w : World) (h : SegmentR w cs d) (h0 : 0 ≤ left) (h1 : left ≤ 1048576) :
    Calls Tryz.prog 48 #[.agg cs.toArray, .int .i64 left] w fun e w' => e = .returned (.int .i64 (szR left (szSegment d))) ∧ Below w.heap.size w w' := by
  obtain ⟨v0, v1, v2, rfl, q0, q1, q2⟩ := h
  have Q0 := Lib.hid q0
  clear q0
  have Q1 := Lib.hid q1
  clear q1
  have Q2 := Lib.hid q2
  clear q2
  have hE : szSegment d = szL d.labels + List.length d.defaults + szS szInstr d.instrs := rfl
  have HE := Lib.hid hE
  clear hE
  have HWB := Lib.hid (show Below w.heap.size w (w.alloc (.cells #[v0, v1, v2] 73)) from (Below.refl _ _).alloc (Nat.le_refl _) _)
  have HWK := Lib.hid (Blk.new w 73 [v0, v1, v2])
  go_enter Tryz.func48, Tryz.ntmps48
  go_wp2_with fail
  refine abs_w (fun W => Blk W w.heap.size 73 [v0, v1, v2] ∧ Below w.heap.size w W) ⟨by exact HWK.out, by exact HWB.out⟩ ?_
  clear HWK HWB
  rintro W0 ⟨hK0, hB0⟩
  have HWK := Lib.hid hK0
  have HWB := Lib.hid hB0
  clear hK0 hB0
  refine (laws_szStringS_b d.labels v0 (left) _ (Q0.out.below HWB.out) (by omega) (by omega)).mono ?_
  rintro e w0 ⟨rfl, hb0⟩
  replace HWK := Lib.hid (HWK.out.below hb0)
  replace HWB := Lib.hid (HWB.out.trans (hb0.mono HWB.out.size))
  clear hb0
  by_cases hz0 : ((szL d.labels : Nat) : Int) ≤ left
  rotate_left
  · rw [szR_neg hz0]
    go_wp2_with fail
    go_ret
    exact ⟨ret_int (by have h9 := HE.out; rw [szR_neg (by omega)]), by exact HWB.out⟩
  rw [szR_pos hz0]
  have x0 := HWK.out.cell 0 _ rfl
  have x1 := HWK.out.cell 1 _ rfl
  have x2 := HWK.out.cell 2 _ rfl
  go_wp2_with fail
  clear x0 x1 x2
  refine (laws_szIntS d.defaults v1 (left - ((szL d.labels : Nat) : Int)) _ (Q1.out.below HWB.out) (by omega) (by omega)).mono ?_
  rintro e w1 ⟨rfl, hb1⟩
  replace HWK := Lib.hid (HWK.out.below hb1)
  replace HWB := Lib.hid (HWB.out.trans (hb1.mono HWB.out.size))
  clear hb1
  by_cases hz1 : ((List.length d.defaults : Nat) : Int) ≤ left - ((szL d.labels : Nat) : Int)
  rotate_left
  · rw [szR_neg hz1]
    go_wp2_with fail
    go_ret
    exact ⟨ret_int (by have h9 := HE.out; rw [szR_neg (by omega)]), by exact HWB.out⟩
  rw [szR_pos hz1]
  have x0 := HWK.out.cell 0 _ rfl
  have x1 := HWK.out.cell 1 _ rfl
  have x2 := HWK.out.cell 2 _ rfl
  go_wp2_with fail
  clear x0 x1 x2
  refine (laws_szInstrS d.instrs v2 (left - ((szL d.labels : Nat) : Int) - ((List.length d.defaults : Nat) : Int)) _ (Q2.out.below HWB.out) (by omega) (by omega)).mono ?_
  rintro e w2 ⟨rfl, hb2⟩
  replace HWK := Lib.hid (HWK.out.below hb2)
  replace HWB := Lib.hid (HWB.out.trans (hb2.mono HWB.out.size))
  clear hb2
  by_cases hz2 : ((szS szInstr d.instrs : Nat) : Int) ≤ left - ((szL d.labels : Nat) : Int) - ((List.length d.defaults : Nat) : Int)
  rotate_left
  · rw [szR_neg hz2]
    go_wp2_with fail
    go_ret
    exact ⟨ret_int (by have h9 := HE.out; rw [szR_neg (by omega)]), by exact HWB.out⟩
  rw [szR_pos hz2]
  have x0 := HWK.out.cell 0 _ rfl
  have x1 := HWK.out.cell 1 _ rfl
  have x2 := HWK.out.cell 2 _ rfl
  go_wp2_with fail
  go_ret
  exact ⟨ret_int (by have h9 := HE.out; rw [szR_pos (by omega)]; omega), by exact HWB.out⟩

def RetSegment (w : World) (d : SegD) (e : Ending) (w' : World) : Prop := ∃ cs, e = .returned (.agg cs.toArray) ∧ SegmentO (Rng w.heap.size w'.heap.size) w' cs d ∧ Below w.heap.size w w'
set_option maxHeartbeats 4000000 in
theorem laws_toSegment (d : SegD) (cs : List Value) (w : World) (h : SegmentR w cs d) (hz : szSegment d ≤ 1048576) :
    Calls Tryz.prog 54 #[.agg cs.toArray] w (RetSegment w d) := by
  obtain ⟨v0, v1, v2, rfl, q0, q1, q2⟩ := h
  have QQ := Lib.hid trivial
  have Q0 := Lib.hid q0
  clear q0
  have Q1 := Lib.hid q1
  clear q1
  have Q2 := Lib.hid q2
  clear q2
  unfold szSegment at hz
  go_enter Tryz.func54, Tryz.ntmps54
  go_wp2_with fail
  refine abs_w (fun W => Blk W w.heap.size 73 [v0, v1, v2] ∧ Blk W (w.heap.size + 1) 49 [.slice none 0 0, .slice none 0 0, .slice none 0 0] ∧ Blk W (w.heap.size + 1 + 1) 49 [.slice none 0 0, .slice none 0 0, .slice none 0 0] ∧ w.heap.size + 3 ≤ W.heap.size ∧ Below w.heap.size w W) ⟨by exact ((Blk.new _ _ _).alloc _).alloc _, by exact (Blk.new_at _ _ _ _ (by simp)).alloc _, by exact Blk.new_at _ _ _ _ (by simp), by simp, by exact (((Below.refl _ _).alloc (Nat.le_refl _) _).alloc (by simp) _).alloc (by simp; omega) _⟩ ?_
  rintro W0 ⟨hS1, hR1, hO1, hN0, hB1⟩
  refine (laws_toStringS_own d.labels v0 _ (Q0.out.below hB1) (by omega)).mono ?_
  rintro e w0 ⟨A0, c0, rfl, o1, hb1⟩
  have HS := Lib.hid (hS1.below hb1)
  have HR := Lib.hid (hR1.below hb1)
  have HO := Lib.hid (hO1.below hb1)
  have HB := Lib.hid (hB1.trans (hb1.mono hB1.size))
  have hM0 : W0.heap.size ≤ w0.heap.size := hb1.size
  have O0 := Lib.hid o1
  clear hS1 hR1 hO1 hB1 hb1 o1 
  have s0 := HS.out.cell 0 _ rfl
  have s1 := HS.out.cell 1 _ rfl
  have s2 := HS.out.cell 2 _ rfl
  have o0 := HO.out.cell 0 _ rfl
  have o1 := HO.out.cell 1 _ rfl
  have o2 := HO.out.cell 2 _ rfl
  have fz := HO.out.frozen
  go_wp2_with fail
  clear s0 s1 s2 o0 o1 o2 fz
  refine abs_w (fun W => Blk W w.heap.size 73 [v0, v1, v2] ∧ Blk W (w.heap.size + 1) 49 [.slice none 0 0, .slice none 0 0, .slice none 0 0] ∧ Blk W (w.heap.size + 1 + 1) 49 [.slice A0 d.labels.length c0, .slice none 0 0, .slice none 0 0] ∧ w0.heap.size ≤ W.heap.size ∧ Below w.heap.size w W ∧ TxtO (Rng W0.heap.size w0.heap.size) W (.slice A0 d.labels.length c0) d.labels) ⟨by exact (HS.out.far _ (by simp; omega) _), by exact (HR.out.far _ (by simp) _), by exact (HO.out.set_ 0 _), by simp [World.setCell], by exact (below_sc HB.out (by omega) _), by exact O0.out.keeps ((Keeps.refl _ _).sc (fun h => by have := h.1; omega) _)⟩ ?_
  clear HS HR HO HB O0
  rintro W1 ⟨hS1, hR1, hO1, hN1, hB1, hP0⟩
  refine (laws_toIntS_own d.defaults v1 _ (Q1.out.below hB1) (by omega)).mono ?_
  rintro e w1 ⟨A1, c1, rfl, o1, hb1⟩
  have HS := Lib.hid (hS1.below hb1)
  have HR := Lib.hid (hR1.below hb1)
  have HO := Lib.hid (hO1.below hb1)
  have HB := Lib.hid (hB1.trans (hb1.mono hB1.size))
  have hM1 : W1.heap.size ≤ w1.heap.size := hb1.size
  have O1 := Lib.hid o1
  have O0 := Lib.hid (hP0.keeps (Keeps.of_below _ hb1))
  clear hS1 hR1 hO1 hB1 hb1 o1 hP0
  have s0 := HS.out.cell 0 _ rfl
  have s1 := HS.out.cell 1 _ rfl
  have s2 := HS.out.cell 2 _ rfl
  have o0 := HO.out.cell 0 _ rfl
  have o1 := HO.out.cell 1 _ rfl
  have o2 := HO.out.cell 2 _ rfl
  have fz := HO.out.frozen
  go_wp2_with fail
  clear s0 s1 s2 o0 o1 o2 fz
  refine abs_w (fun W => Blk W w.heap.size 73 [v0, v1, v2] ∧ Blk W (w.heap.size + 1) 49 [.slice none 0 0, .slice none 0 0, .slice none 0 0] ∧ Blk W (w.heap.size + 1 + 1) 49 [.slice A0 d.labels.length c0, .slice A1 d.defaults.length c1, .slice none 0 0] ∧ w1.heap.size ≤ W.heap.size ∧ Below w.heap.size w W ∧ TxtO (Rng W0.heap.size w0.heap.size) W (.slice A0 d.labels.length c0) d.labels ∧ IntO (Rng W1.heap.size w1.heap.size) W (.slice A1 d.defaults.length c1) d.defaults) ⟨by exact (HS.out.far _ (by simp; omega) _), by exact (HR.out.far _ (by simp) _), by exact (HO.out.set_ 1 _), by simp [World.setCell], by exact (below_sc HB.out (by omega) _), by exact O0.out.keeps ((Keeps.refl _ _).sc (fun h => by have := h.1; omega) _), by exact O1.out.keeps ((Keeps.refl _ _).sc (fun h => by have := h.1; omega) _)⟩ ?_
  clear HS HR HO HB O0 O1
  rintro W2 ⟨hS1, hR1, hO1, hN2, hB1, hP0, hP1⟩
  refine (laws_toInstrS d.instrs v2 _ (Q2.out.below hB1) (by omega)).mono ?_
  rintro e w2 ⟨A2, c2, rfl, o1, hb1⟩
  have HS := Lib.hid (hS1.below hb1)
  have HR := Lib.hid (hR1.below hb1)
  have HO := Lib.hid (hO1.below hb1)
  have HB := Lib.hid (hB1.trans (hb1.mono hB1.size))
  have hM2 : W2.heap.size ≤ w2.heap.size := hb1.size
  have O2 := Lib.hid o1
  have O0 := Lib.hid (hP0.keeps (Keeps.of_below _ hb1))
  have O1 := Lib.hid (hP1.keeps (Keeps.of_below _ hb1))
  clear hS1 hR1 hO1 hB1 hb1 o1 hP0 hP1
  have s0 := HS.out.cell 0 _ rfl
  have s1 := HS.out.cell 1 _ rfl
  have s2 := HS.out.cell 2 _ rfl
  have o0 := HO.out.cell 0 _ rfl
  have o1 := HO.out.cell 1 _ rfl
  have o2 := HO.out.cell 2 _ rfl
  have fz := HO.out.frozen
  have r0 := HR.out.cell 0 _ rfl
  have r1 := HR.out.cell 1 _ rfl
  have r2 := HR.out.cell 2 _ rfl
  have fr := HR.out.frozen
  go_wp2_with fail
  refine bodyPost_ret (v := .agg #[.slice A0 d.labels.length c0, .slice A1 d.defaults.length c1, .slice A2 d.instrs.length c2]) (by simp [results, Tryz.results54, go_sem, r0, r1, r2]) rfl ?_
  clear s0 s1 s2 o0 o1 o2 r0 r1 r2 fz fr
  have bm1 : w.heap.size ≤ w.heap.size + 1 := by omega
  have bm2 : w.heap.size ≤ w.heap.size + 1 + 1 := by omega
  refine ⟨_, rfl, ⟨A0, c0, A1, c1, A2, c2, fun b => if b < w0.heap.size then 0 else if b < w1.heap.size then 1 else 2, rfl, ?_, ?_, ?_⟩, (below_sc (below_sc (below_sc (below_sc HB.out bm2 _) bm1 _) bm1 _) bm1 _)⟩
  · have m1x : ¬ Rng W0.heap.size w0.heap.size (w.heap.size + 1) := fun h => by have := h.1; omega
    have m2x : ¬ Rng W0.heap.size w0.heap.size (w.heap.size + 1 + 1) := fun h => by have := h.1; omega
    refine (O0.out.keeps (((((Keeps.refl _ _).sc m2x _).sc m1x _).sc m1x _).sc m1x _)).mono (fun b hb => ?_)
    obtain ⟨x1, x2⟩ := hb
    refine ⟨⟨by omega, by simp only [size_sc]; omega⟩, ?_⟩
    dsimp only
    repeat (first | rfl | rw [if_pos (by omega)] | rw [if_neg (by omega)])
  · have m1x : ¬ Rng W1.heap.size w1.heap.size (w.heap.size + 1) := fun h => by have := h.1; omega
    have m2x : ¬ Rng W1.heap.size w1.heap.size (w.heap.size + 1 + 1) := fun h => by have := h.1; omega
    refine (O1.out.keeps (((((Keeps.refl _ _).sc m2x _).sc m1x _).sc m1x _).sc m1x _)).mono (fun b hb => ?_)
    obtain ⟨x1, x2⟩ := hb
    refine ⟨⟨by omega, by simp only [size_sc]; omega⟩, ?_⟩
    dsimp only
    repeat (first | rfl | rw [if_pos (by omega)] | rw [if_neg (by omega)])
  · have m1x : ¬ Rng W2.heap.size w2.heap.size (w.heap.size + 1) := fun h => by have := h.1; omega
    have m2x : ¬ Rng W2.heap.size w2.heap.size (w.heap.size + 1 + 1) := fun h => by have := h.1; omega
    refine (O2.out.keeps (((((Keeps.refl _ _).sc m2x _).sc m1x _).sc m1x _).sc m1x _)).mono (fun b hb => ?_)
    obtain ⟨x1, x2⟩ := hb
    refine ⟨⟨by omega, by simp only [size_sc]; omega⟩, ?_⟩
    dsimp only
    repeat (first | rfl | rw [if_pos (by omega)] | rw [if_neg (by omega)])

set_option maxHeartbeats 1000000 in
theorem laws_eqSegment_same (d : SegD) (cs cs' : List Value) (w : World) (h : SegmentR w cs d) (h' : SegmentR w cs' d) :
    Calls Tryz.prog 63 #[.agg cs.toArray, .agg cs'.toArray] w fun e w' => e = .returned (.bool true) ∧ Below w.heap.size w w' := by
  obtain ⟨v0, v1, v2, rfl, q0, q1, q2⟩ := h
  obtain ⟨u0, u1, u2, rfl, p0, p1, p2⟩ := h'
  have Q0 := Lib.hid q0
  have P0 := Lib.hid p0
  clear q0 p0
  have Q1 := Lib.hid q1
  have P1 := Lib.hid p1
  clear q1 p1
  have Q2 := Lib.hid q2
  have P2 := Lib.hid p2
  clear q2 p2
  go_enter Tryz.func63, Tryz.ntmps63
  go_wp2_with fail
  refine abs_w (fun W => Blk W w.heap.size 49 [v0, v1, v2] ∧ Blk W (w.heap.size + 1) 49 [u0, u1, u2] ∧ Below w.heap.size w W) ⟨by exact (Blk.new _ _ _).alloc _, by exact Blk.new_at _ _ _ _ (by simp), by exact ((Below.refl _ _).alloc (Nat.le_refl _) _).alloc (by simp) _⟩ ?_
  rintro W0 ⟨hK0, hL0, hB0⟩
  have HK := Lib.hid hK0
  have HL := Lib.hid hL0
  have HB := Lib.hid hB0
  clear hK0 hL0 hB0
  refine (laws_eqStringS_same d.labels v0 u0 _ (Q0.out.below HB.out) (P0.out.below HB.out)).mono ?_
  rintro e w0 ⟨rfl, hb0⟩
  replace HK := Lib.hid (HK.out.below hb0)
  replace HL := Lib.hid (HL.out.below hb0)
  replace HB := Lib.hid (HB.out.trans (hb0.mono HB.out.size))
  clear hb0
  have s0 := HK.out.cell 0 _ rfl
  have s1 := HK.out.cell 1 _ rfl
  have s2 := HK.out.cell 2 _ rfl
  have o0 := HL.out.cell 0 _ rfl
  have o1 := HL.out.cell 1 _ rfl
  have o2 := HL.out.cell 2 _ rfl
  go_wp2_with fail
  clear s0 s1 s2 o0 o1 o2
  refine (laws_eqIntS_same d.defaults v1 u1 _ (Q1.out.below HB.out) (P1.out.below HB.out)).mono ?_
  rintro e w1 ⟨rfl, hb1⟩
  replace HK := Lib.hid (HK.out.below hb1)
  replace HL := Lib.hid (HL.out.below hb1)
  replace HB := Lib.hid (HB.out.trans (hb1.mono HB.out.size))
  clear hb1
  have s0 := HK.out.cell 0 _ rfl
  have s1 := HK.out.cell 1 _ rfl
  have s2 := HK.out.cell 2 _ rfl
  have o0 := HL.out.cell 0 _ rfl
  have o1 := HL.out.cell 1 _ rfl
  have o2 := HL.out.cell 2 _ rfl
  go_wp2_with fail
  clear s0 s1 s2 o0 o1 o2
  refine (laws_eqInstrS_same d.instrs v2 u2 _ (Q2.out.below HB.out) (P2.out.below HB.out)).mono ?_
  rintro e w2 ⟨rfl, hb2⟩
  replace HK := Lib.hid (HK.out.below hb2)
  replace HL := Lib.hid (HL.out.below hb2)
  replace HB := Lib.hid (HB.out.trans (hb2.mono HB.out.size))
  clear hb2
  have s0 := HK.out.cell 0 _ rfl
  have s1 := HK.out.cell 1 _ rfl
  have s2 := HK.out.cell 2 _ rfl
  have o0 := HL.out.cell 0 _ rfl
  have o1 := HL.out.cell 1 _ rfl
  have o2 := HL.out.cell 2 _ rfl
  go_wp2_with fail
  clear s0 s1 s2 o0 o1 o2
  go_ret
  exact ⟨rfl, HB.out⟩

theorem open_SegmentR {H : Type} {enc : TypeId × Value → H} {w : World} {base : Nat} {spare : Nat → Bool} {held : Bool} {n : Nat} {cs : List Value} {x : DataW H × List MemPlace} (h : DataW.trod enc Tryz.prog w base spare held n 73 cs = some x) : ∃ d, SegmentR w cs d := by
  obtain ⟨hlen, n', hn, hg⟩ := open_field Tryz.underlying73 h
  match cs, hlen.trans (show Tryz.prog.cellsOf 73 = 3 by kernel_rfl) with
  | [c0, c1, c2], _ =>
    obtain ⟨y0, g0⟩ := hg 0 _ rfl
    rw [show List.take (Tryz.prog.cellsOf _) (List.drop _ [c0, c1, c2]) = [c0] by simp [cells_slice_string]] at g0
    obtain ⟨a0, d0, e0, r0⟩ := open_slr Tryz.underlying46 cells_string (by decide) StrR (fun _ _ _ _ _ h => open_str Tryz.underlying9 h) g0
    obtain ⟨y1, g1⟩ := hg 1 _ rfl
    rw [show List.take (Tryz.prog.cellsOf _) (List.drop _ [c0, c1, c2]) = [c1] by simp [cells_slice_int]] at g1
    obtain ⟨a1, d1, e1, r1⟩ := open_slr Tryz.underlying23 cells_int (by decide) IntR (fun _ _ _ _ _ h => open_i64 Tryz.underlying3 h) g1
    obtain ⟨y2, g2⟩ := hg 2 _ rfl
    rw [show List.take (Tryz.prog.cellsOf _) (List.drop _ [c0, c1, c2]) = [c2] by simp [cells_slice_Instr]] at g2
    obtain ⟨a2, d2, e2, r2⟩ := open_slr Tryz.underlying71 (show Tryz.prog.cellsOf 113 = 13 by kernel_rfl) (by decide) (InstrR w) (fun _ _ _ _ _ h => open_InstrR h) g2
    simp only [List.cons.injEq, and_true] at e0
    subst e0
    simp only [List.cons.injEq, and_true] at e1
    subst e1
    simp only [List.cons.injEq, and_true] at e2
    subst e2
    exact ⟨⟨d0, d1, d2⟩, _, _, _, rfl, r0, r1, r2⟩

def Segments (w : World) (v : Value) (l : List SegD) : Prop := SlR w 3 (SegmentR w) v l
theorem Segments.below {w w' : World} {v : Value} {l : List SegD} (h : Segments w v l) (hb : Below w.heap.size w w') : Segments w' v l := SlR.below h hb (fun _ _ h => h.below hb)
def SegmentsO (S : Nat → Prop) (w : World) (v : Value) (l : List SegD) : Prop := SlO S w 49 3 SegmentO v l
theorem SegmentsO.read {S : Nat → Prop} {w : World} {v : Value} {l : List SegD} (h : SegmentsO S w v l) : Segments w v l := SlO.read (fun _ h => h.read) h
theorem SegmentsO.keeps {S : Nat → Prop} {w w' : World} {v : Value} {l : List SegD} (h : SegmentsO S w v l) (hk : Keeps S w w') : SegmentsO S w' v l := SlO.keeps (fun _ h k => h.keeps k) h hk
theorem SegmentsO.mono {S S' : Nat → Prop} {w : World} {v : Value} {l : List SegD} (h : SegmentsO S w v l) (hs : ∀ b, S b → S' b) : SegmentsO S' w v l := SlO.mono (fun _ h k => h.mono k) h hs
theorem cells_slice_Segment : Tryz.prog.cellsOf 22 = 1 := by kernel_rfl
theorem info_Segment : (Tryz.prog.info? 49).map (fun i => (i.zero, i.size, i.bytes)) = some (some (.agg #[.slice none 0 0, .slice none 0 0, .slice none 0 0]), 3, 72) := by kernel_rfl
set_option maxHeartbeats 1000000 in
theorem laws_szSegmentS (l : List SegD) (v : Value) (left : Int) (w : World) (h : Segments w v l) (h0 : 0 ≤ left) (h1 : left ≤ 1048576) :
    Calls Tryz.prog 17 #[v, .int .i64 left] w fun e w' => e = .returned (.int .i64 (szR left (szS szSegment l))) ∧ Below w.heap.size w w' := by
  obtain ⟨A, c, rfl, hlc, hm, HC⟩ := SlR.open_ h
  clear h
  unfold maxLen at hm
  by_cases hle : (l.length : Int) ≤ left
  · go_enter Tryz.func17, Tryz.ntmps17
    go_wp2_with fail
    go_loopw [1, 5] (fun x i wr => ∃ k : Nat, k ≤ l.length ∧ i = .int .i64 k ∧ ∃ y : Int, x = .int .i64 y ∧ 0 ≤ y ∧ y ≤ 1048576 ∧ Hid (y = left - l.length - (szS szSegment (l.take k) - k : Int)) ∧ Below w.heap.size w wr) (fun _ i _ => l.length - (intOf i).toNat)
    case atStart => exact ⟨0, Nat.zero_le _, rfl, _, rfl, by omega, by omega, by show _ = _; rw [szS_zero]; simp, Below.refl _ _⟩
    case round =>
      obtain ⟨k, hk, rfl, y, rfl, hy0, hy1, hy, hb⟩ := hrel
      by_cases hlt : k < l.length
      · obtain ⟨b, off, cs, rfl, hbl, _, hat, hr⟩ := HC.out k hlt
        have HRK := Lib.hid (hr.below hb)
        obtain ⟨v0, v1, v2, rfl⟩ := hr.shape
        have x0 := (hb.cell (p := ⟨b, off + k * 3, none⟩) hbl).trans (by simpa using hat 0 _ rfl)
        have x1 := (hb.cell (p := ⟨b, off + k * 3 + 1, none⟩) hbl).trans (hat 1 _ rfl)
        have x2 := (hb.cell (p := ⟨b, off + k * 3 + 2, none⟩) hbl).trans (hat 2 _ rfl)
        have HS := Lib.hid (szS_take_succ szSegment l k hlt)
        clear hat hr
        go_wp2_with fail
        refine (laws_szSegment l[k] _ y _ HRK.out hy0 hy1).mono ?_
        rintro e w1 ⟨rfl, hb1⟩
        have HB1 := Lib.hid (hb.trans (hb1.mono hb.size))
        clear hb1 x0 x1 x2
        by_cases hle2 : (szSegment l[k] : Int) ≤ y
        · rw [szR_pos hle2]
          go_wp2_with fail
          go_roundw
          case rel => exact ⟨k + 1, by omega, by go_num, _, rfl, by omega, by omega, by have := hy.out; have := HS.out; show _ = _; omega, HB1.out⟩
          case measure => simp [intOf]; omega
        · rw [szR_neg hle2]
          go_wp2_with fail
          go_ret
          refine ⟨ret_int ?_, HB1.out⟩
          have h9 := szS_take_le szSegment l (k + 1)
          rw [List.length_drop] at h9
          have := hy.out
          have := HS.out
          rw [szR_neg (by omega)]
      · obtain rfl : k = l.length := by omega
        rw [List.take_length] at hy
        go_wp2_with fail
        go_ret
        refine ⟨ret_int ?_, hb⟩
        have := hy.out
        rw [szR_pos (by omega)]
        omega
  · have h9 := szS_length szSegment l
    have HR := Lib.hid (szR_neg (left := left) (n := szS szSegment l) (by omega))
    go_enter Tryz.func17, Tryz.ntmps17
    go_wp2
    go_ret
    exact ⟨ret_int HR.out.symm, Below.refl _ _⟩

set_option maxHeartbeats 2000000 in
theorem laws_toSegmentS (l : List SegD) (v : Value) (w : World) (h : Segments w v l) (hz : szS szSegment l ≤ 1048576) :
    Calls Tryz.prog 24 #[v] w fun e w' => ∃ A c, e = .returned (.slice A l.length c) ∧ SegmentsO (Rng w.heap.size w'.heap.size) w' (.slice A l.length c) l ∧ Below w.heap.size w w' := by
  have hl := szS_length szSegment l
  obtain ⟨A, c, rfl, hlc, hm, HC⟩ := SlR.open_ h
  clear h
  unfold maxLen at hm
  have hmk := run_mk (P := Tryz.prog) w 29 49 _ 3 72 Tryz.underlying29 info_Segment l.length (by omega) (by omega)
  go_enter Tryz.func24, Tryz.ntmps24
  go_wp2
  clear hmk
  go_loopw [4] (fun i wr => ∃ k : Nat, k ≤ l.length ∧ i = .int .i64 k ∧ CopyO wr w.heap.size 49 3 l.length k (SegmentO) l ∧ Below w.heap.size w wr ∧ w.heap.size < wr.heap.size) (fun i _ => l.length - (intOf i).toNat)
  case atStart => exact ⟨0, Nat.zero_le _, rfl, CopyO.start _ _ _ _ _ _ _ (by simp [size_madeCells]), (Below.refl _ _).alloc (Nat.le_refl _) _, by simp⟩
  case round =>
    obtain ⟨k, hk, rfl, hf, hb, hgt⟩ := hrel
    by_cases hlt : k < l.length
    · obtain ⟨b, off, cs, rfl, hbl, _, hat, hr⟩ := HC.out k hlt
      have HRK := Lib.hid (hr.below hb)
      obtain ⟨v0, v1, v2, rfl⟩ := hr.shape
      have x0 := (hb.cell (p := ⟨b, off + k * 3, none⟩) hbl).trans (by simpa using hat 0 _ rfl)
      have x1 := (hb.cell (p := ⟨b, off + k * 3 + 1, none⟩) hbl).trans (hat 1 _ rfl)
      have x2 := (hb.cell (p := ⟨b, off + k * 3 + 2, none⟩) hbl).trans (hat 2 _ rfl)
      clear hat hr
      have hsk := szS_at szSegment l k hlt
      go_wp2_with fail
      refine (laws_toSegment l[k] _ _ HRK.out (by omega)).mono ?_
      rintro e w1 ⟨cs1, rfl, ho1, hb1⟩
      have HST := Lib.hid (CopyO.step (fun _ h k => h.keeps k) (fun _ h k => h.mono k) hf hb1 hlt hlt cs1 ho1.length ho1)
      have HB1 := Lib.hid (hb.trans (hb1.mono hb.size))
      have hg1 : w.heap.size < w1.heap.size := Nat.lt_of_lt_of_le hgt hb1.size
      obtain ⟨_, _, _, hfl, _⟩ := hf
      have hf1 := hfl.keep (hb1.block _ hfl.lt)
      obtain ⟨A0, c0, A1, c1, A2, c2, rfl⟩ := ho1.shape
      clear hb1 x0 x1 x2 hfl ho1
      obtain ⟨t0, ht0⟩ := hf1.cell (k * 3) (by omega)
      have hz0 := hf1.frozen (k * 3)
      obtain ⟨t1, ht1⟩ := hf1.cell (k * 3 + 1) (by omega)
      have hz1 := hf1.frozen (k * 3 + 1)
      obtain ⟨t2, ht2⟩ := hf1.cell (k * 3 + 2) (by omega)
      have hz2 := hf1.frozen (k * 3 + 2)
      have HF1 := Lib.hid hf1
      clear hf1
      go_wp2_with fail
      go_roundw
      case rel => exact ⟨k + 1, by omega, by go_num, by exact HST.out, by exact (below_sc (below_sc (below_sc HB1.out (Nat.le_refl _) _) (Nat.le_refl _) _) (Nat.le_refl _) _), by simp only [size_sc]; exact hg1⟩
      case measure => simp [intOf]; omega
    · obtain rfl : k = l.length := by omega
      have ho := Lib.hid (CopyO.own (fun _ h k => h.mono k) hf (by unfold maxLen; omega))
      clear hf
      go_wp2_with fail
      go_ret
      exact ⟨_, _, rfl, ho.out, hb⟩

set_option maxHeartbeats 1000000 in
theorem laws_eqSegmentS_same (l : List SegD) (v u : Value) (w : World) (h : Segments w v l) (h' : Segments w u l) :
    Calls Tryz.prog 30 #[v, u] w fun e w' => e = .returned (.bool true) ∧ Below w.heap.size w w' := by
  obtain ⟨A, c, rfl, hlc, hm, HC⟩ := SlR.open_ h
  obtain ⟨A', c', rfl, hlc', hm', HC'⟩ := SlR.open_ h'
  clear h h'
  unfold maxLen at hm hm'
  go_enter Tryz.func30, Tryz.ntmps30
  go_wp2
  go_loopw [5] (fun i wr => ∃ k : Nat, k ≤ l.length ∧ i = .int .i64 k ∧ Below w.heap.size w wr) (fun i _ => l.length - (intOf i).toNat)
  case atStart => exact ⟨0, Nat.zero_le _, rfl, Below.refl _ _⟩
  case round =>
    obtain ⟨k, hk, rfl, hb⟩ := hrel
    by_cases hlt : k < l.length
    · obtain ⟨b, off, cs, rfl, hbl, _, hat, hr⟩ := HC.out k hlt
      have HRK := Lib.hid (hr.below hb)
      obtain ⟨v0, v1, v2, rfl⟩ := hr.shape
      have x0 := (hb.cell (p := ⟨b, off + k * 3, none⟩) hbl).trans (by simpa using hat 0 _ rfl)
      have x1 := (hb.cell (p := ⟨b, off + k * 3 + 1, none⟩) hbl).trans (hat 1 _ rfl)
      have x2 := (hb.cell (p := ⟨b, off + k * 3 + 2, none⟩) hbl).trans (hat 2 _ rfl)
      clear hat hr
      obtain ⟨b', off', cs', rfl, hbl', _, hat, hr⟩ := HC'.out k hlt
      have HRL := Lib.hid (hr.below hb)
      obtain ⟨u0, u1, u2, rfl⟩ := hr.shape
      have y0 := (hb.cell (p := ⟨b', off' + k * 3, none⟩) hbl').trans (by simpa using hat 0 _ rfl)
      have y1 := (hb.cell (p := ⟨b', off' + k * 3 + 1, none⟩) hbl').trans (hat 1 _ rfl)
      have y2 := (hb.cell (p := ⟨b', off' + k * 3 + 2, none⟩) hbl').trans (hat 2 _ rfl)
      clear hat hr
      go_wp2_with fail
      go_still_tail 8, (by kernel_rfl)
      change wpList _ _ _ _ _ wr.drew
      have hb2 : Below w.heap.size w wr.drew := hb.drew
      replace HRK := Lib.hid (show SegmentR wr.drew _ _ from HRK.out.below (Below.drew (Below.refl _ _)))
      replace HRL := Lib.hid (show SegmentR wr.drew _ _ from HRL.out.below (Below.drew (Below.refl _ _)))
      generalize wr.drew = w2 at *
      go_wp2_with fail
      refine (laws_eqSegment_same l[k] _ _ _ HRK.out HRL.out).mono ?_
      rintro e w3 ⟨rfl, hb3⟩
      have HB3 := Lib.hid (hb2.trans (hb3.mono hb2.size))
      clear hb3
      go_wp2_with fail
      go_roundw
      case rel => exact ⟨k + 1, by omega, by go_num, HB3.out⟩
      case measure => simp [intOf]; omega
    · go_wp2_with fail
      go_ret
      exact ⟨rfl, hb⟩

end Go.Proofs.YtjdfancbmjnjfaaGreat
namespace Go.Proofs.YtjdfancbmjnjfaaGreat
set_option maxRecDepth 100000
open Go.ChangeShapes Go.WideShapes Go.ChangeAt Go.RowKit Go.Deep

structure CodeD where
  segments : List SegD
  main : List Int
  quiet : List Bool

/-- the cells of a Bytecode -/
def BytecodeR (w : World) (cs : List Value) (d : CodeD) : Prop :=
  ∃ v0 v1 v2, cs = [v0, v1, v2] ∧ Segments w v0 d.segments ∧ Ints w v1 d.main ∧ Bools w v2 d.quiet
theorem BytecodeR.below {w w' : World} {cs : List Value} {d : CodeD} (h : BytecodeR w cs d) (hb : Below w.heap.size w w') : BytecodeR w' cs d := by
  obtain ⟨v0, v1, v2, rfl, h0, h1, h2⟩ := h
  exact ⟨v0, v1, v2, rfl, h0.below hb, h1.below hb, h2.below hb⟩
theorem BytecodeR.shape {w : World} {cs : List Value} {d : CodeD} (h : BytecodeR w cs d) : ∃ v0 v1 v2, cs = [v0, v1, v2] := by
  obtain ⟨v0, v1, v2, rfl, _⟩ := h
  exact ⟨v0, v1, v2, rfl⟩
/-- the cells of a Bytecode whose slices lie in blocks of its own, in S -/
def BytecodeO (S : Nat → Prop) (w : World) (cs : List Value) (d : CodeD) : Prop :=
  ∃ (A0 : Option Addr) (c0 : Nat) (A1 : Option Addr) (c1 : Nat) (A2 : Option Addr) (c2 : Nat), ∃ f : Nat → Nat, cs = [.slice A0 d.segments.length c0, .slice A1 d.main.length c1, .slice A2 d.quiet.length c2] ∧ SegmentsO (fun b => S b ∧ f b = 0) w (.slice A0 d.segments.length c0) d.segments ∧ IntO (fun b => S b ∧ f b = 1) w (.slice A1 d.main.length c1) d.main ∧ BoolO (fun b => S b ∧ f b = 2) w (.slice A2 d.quiet.length c2) d.quiet
theorem BytecodeO.read {S : Nat → Prop} {w : World} {cs : List Value} {d : CodeD} (h : BytecodeO S w cs d) : BytecodeR w cs d := by
  obtain ⟨A0, c0, A1, c1, A2, c2, f, rfl, h0, h1, h2⟩ := h
  exact ⟨_, _, _, rfl, h0.read, h1.read, h2.read⟩
theorem BytecodeO.keeps {S : Nat → Prop} {w w' : World} {cs : List Value} {d : CodeD} (h : BytecodeO S w cs d) (hk : Keeps S w w') : BytecodeO S w' cs d := by
  obtain ⟨A0, c0, A1, c1, A2, c2, f, rfl, h0, h1, h2⟩ := h
  exact ⟨A0, c0, A1, c1, A2, c2, f, rfl, h0.keeps (hk.mono fun _ h => h.1), h1.keeps (hk.mono fun _ h => h.1), h2.keeps (hk.mono fun _ h => h.1)⟩
theorem BytecodeO.mono {S S' : Nat → Prop} {w : World} {cs : List Value} {d : CodeD} (h : BytecodeO S w cs d) (hs : ∀ b, S b → S' b) : BytecodeO S' w cs d := by
  obtain ⟨A0, c0, A1, c1, A2, c2, f, rfl, h0, h1, h2⟩ := h
  exact ⟨A0, c0, A1, c1, A2, c2, f, rfl, h0.mono (fun b h => ⟨hs b h.1, h.2⟩), h1.mono (fun b h => ⟨hs b h.1, h.2⟩), h2.mono (fun b h => ⟨hs b h.1, h.2⟩)⟩
theorem BytecodeO.shape {S : Nat → Prop} {w : World} {cs : List Value} {d : CodeD} (h : BytecodeO S w cs d) : ∃ (A0 : Option Addr) (c0 : Nat) (A1 : Option Addr) (c1 : Nat) (A2 : Option Addr) (c2 : Nat), cs = [.slice A0 d.segments.length c0, .slice A1 d.main.length c1, .slice A2 d.quiet.length c2] := by
  obtain ⟨A0, c0, A1, c1, A2, c2, f, rfl, _⟩ := h
  exact ⟨A0, c0, A1, c1, A2, c2, rfl⟩
def szBytecode (d : CodeD) : Nat := szS szSegment d.segments + List.length d.main + List.length d.quiet

set_option maxHeartbeats 1000000 in
theorem laws_szBytecode (d : CodeD) (cs : List Value) (left : Int) (w : World) (h : BytecodeR w cs d) (h0 : 0 ≤ left) (h1 : left ≤ 1048576) :
    Calls Tryz.prog 6 #[.agg cs.toArray, .int .i64 left] w fun e w' => e = .returned (.int .i64 (szR left (szBytecode d))) ∧ Below w.heap.size w w' := by
  obtain ⟨v0, v1, v2, rfl, q0, q1, q2⟩ := h
  have Q0 := Lib.hid q0
  clear q0
  have Q1 := Lib.hid q1
  clear q1
  have Q2 := Lib.hid q2
  clear q2
  have hE : szBytecode d = szS szSegment d.segments + List.length d.main + List.length d.quiet := rfl
  have HE := Lib.hid hE
  clear hE
  have HWB := Lib.hid (show Below w.heap.size w (w.alloc (.cells #[v0, v1, v2] 26)) from (Below.refl _ _).alloc (Nat.le_refl _) _)
  have HWK := Lib.hid (Blk.new w 26 [v0, v1, v2])
  go_enter Tryz.func6, Tryz.ntmps6
  go_wp2_with fail
  refine abs_w (fun W => Blk W w.heap.size 26 [v0, v1, v2] ∧ Below w.heap.size w W) ⟨by exact HWK.out, by exact HWB.out⟩ ?_
  clear HWK HWB
  rintro W0 ⟨hK0, hB0⟩
  have HWK := Lib.hid hK0
  have HWB := Lib.hid hB0
  clear hK0 hB0
  refine (laws_szSegmentS d.segments v0 (left) _ (Q0.out.below HWB.out) (by omega) (by omega)).mono ?_
  rintro e w0 ⟨rfl, hb0⟩
  replace HWK := Lib.hid (HWK.out.below hb0)
  replace HWB := Lib.hid (HWB.out.trans (hb0.mono HWB.out.size))
  clear hb0
  by_cases hz0 : ((szS szSegment d.segments : Nat) : Int) ≤ left
  rotate_left
  · rw [szR_neg hz0]
    go_wp2_with fail
    go_ret
    exact ⟨ret_int (by have h9 := HE.out; rw [szR_neg (by omega)]), by exact HWB.out⟩
  rw [szR_pos hz0]
  have x0 := HWK.out.cell 0 _ rfl
  have x1 := HWK.out.cell 1 _ rfl
  have x2 := HWK.out.cell 2 _ rfl
  go_wp2_with fail
  clear x0 x1 x2
  refine (laws_szIntS d.main v1 (left - ((szS szSegment d.segments : Nat) : Int)) _ (Q1.out.below HWB.out) (by omega) (by omega)).mono ?_
  rintro e w1 ⟨rfl, hb1⟩
  replace HWK := Lib.hid (HWK.out.below hb1)
  replace HWB := Lib.hid (HWB.out.trans (hb1.mono HWB.out.size))
  clear hb1
  by_cases hz1 : ((List.length d.main : Nat) : Int) ≤ left - ((szS szSegment d.segments : Nat) : Int)
  rotate_left
  · rw [szR_neg hz1]
    go_wp2_with fail
    go_ret
    exact ⟨ret_int (by have h9 := HE.out; rw [szR_neg (by omega)]), by exact HWB.out⟩
  rw [szR_pos hz1]
  have x0 := HWK.out.cell 0 _ rfl
  have x1 := HWK.out.cell 1 _ rfl
  have x2 := HWK.out.cell 2 _ rfl
  go_wp2_with fail
  clear x0 x1 x2
  refine (laws_szBoolS d.quiet v2 (left - ((szS szSegment d.segments : Nat) : Int) - ((List.length d.main : Nat) : Int)) _ (Q2.out.below HWB.out) (by omega) (by omega)).mono ?_
  rintro e w2 ⟨rfl, hb2⟩
  replace HWK := Lib.hid (HWK.out.below hb2)
  replace HWB := Lib.hid (HWB.out.trans (hb2.mono HWB.out.size))
  clear hb2
  by_cases hz2 : ((List.length d.quiet : Nat) : Int) ≤ left - ((szS szSegment d.segments : Nat) : Int) - ((List.length d.main : Nat) : Int)
  rotate_left
  · rw [szR_neg hz2]
    go_wp2_with fail
    go_ret
    exact ⟨ret_int (by have h9 := HE.out; rw [szR_neg (by omega)]), by exact HWB.out⟩
  rw [szR_pos hz2]
  have x0 := HWK.out.cell 0 _ rfl
  have x1 := HWK.out.cell 1 _ rfl
  have x2 := HWK.out.cell 2 _ rfl
  go_wp2_with fail
  go_ret
  exact ⟨ret_int (by have h9 := HE.out; rw [szR_pos (by omega)]; omega), by exact HWB.out⟩

def RetBytecode (w : World) (d : CodeD) (e : Ending) (w' : World) : Prop := ∃ cs, e = .returned (.agg cs.toArray) ∧ BytecodeO (Rng w.heap.size w'.heap.size) w' cs d ∧ Below w.heap.size w w'
set_option maxHeartbeats 4000000 in
theorem laws_toBytecode (d : CodeD) (cs : List Value) (w : World) (h : BytecodeR w cs d) (hz : szBytecode d ≤ 1048576) :
    Calls Tryz.prog 8 #[.agg cs.toArray] w (RetBytecode w d) := by
  obtain ⟨v0, v1, v2, rfl, q0, q1, q2⟩ := h
  have QQ := Lib.hid trivial
  have Q0 := Lib.hid q0
  clear q0
  have Q1 := Lib.hid q1
  clear q1
  have Q2 := Lib.hid q2
  clear q2
  unfold szBytecode at hz
  go_enter Tryz.func8, Tryz.ntmps8
  go_wp2_with fail
  refine abs_w (fun W => Blk W w.heap.size 26 [v0, v1, v2] ∧ Blk W (w.heap.size + 1) 31 [.slice none 0 0, .slice none 0 0, .slice none 0 0] ∧ Blk W (w.heap.size + 1 + 1) 31 [.slice none 0 0, .slice none 0 0, .slice none 0 0] ∧ w.heap.size + 3 ≤ W.heap.size ∧ Below w.heap.size w W) ⟨by exact ((Blk.new _ _ _).alloc _).alloc _, by exact (Blk.new_at _ _ _ _ (by simp)).alloc _, by exact Blk.new_at _ _ _ _ (by simp), by simp, by exact (((Below.refl _ _).alloc (Nat.le_refl _) _).alloc (by simp) _).alloc (by simp; omega) _⟩ ?_
  rintro W0 ⟨hS1, hR1, hO1, hN0, hB1⟩
  refine (laws_toSegmentS d.segments v0 _ (Q0.out.below hB1) (by omega)).mono ?_
  rintro e w0 ⟨A0, c0, rfl, o1, hb1⟩
  have HS := Lib.hid (hS1.below hb1)
  have HR := Lib.hid (hR1.below hb1)
  have HO := Lib.hid (hO1.below hb1)
  have HB := Lib.hid (hB1.trans (hb1.mono hB1.size))
  have hM0 : W0.heap.size ≤ w0.heap.size := hb1.size
  have O0 := Lib.hid o1
  clear hS1 hR1 hO1 hB1 hb1 o1 
  have s0 := HS.out.cell 0 _ rfl
  have s1 := HS.out.cell 1 _ rfl
  have s2 := HS.out.cell 2 _ rfl
  have o0 := HO.out.cell 0 _ rfl
  have o1 := HO.out.cell 1 _ rfl
  have o2 := HO.out.cell 2 _ rfl
  have fz := HO.out.frozen
  go_wp2_with fail
  clear s0 s1 s2 o0 o1 o2 fz
  refine abs_w (fun W => Blk W w.heap.size 26 [v0, v1, v2] ∧ Blk W (w.heap.size + 1) 31 [.slice none 0 0, .slice none 0 0, .slice none 0 0] ∧ Blk W (w.heap.size + 1 + 1) 31 [.slice A0 d.segments.length c0, .slice none 0 0, .slice none 0 0] ∧ w0.heap.size ≤ W.heap.size ∧ Below w.heap.size w W ∧ SegmentsO (Rng W0.heap.size w0.heap.size) W (.slice A0 d.segments.length c0) d.segments) ⟨by exact (HS.out.far _ (by simp; omega) _), by exact (HR.out.far _ (by simp) _), by exact (HO.out.set_ 0 _), by simp [World.setCell], by exact (below_sc HB.out (by omega) _), by exact O0.out.keeps ((Keeps.refl _ _).sc (fun h => by have := h.1; omega) _)⟩ ?_
  clear HS HR HO HB O0
  rintro W1 ⟨hS1, hR1, hO1, hN1, hB1, hP0⟩
  refine (laws_toIntS_own d.main v1 _ (Q1.out.below hB1) (by omega)).mono ?_
  rintro e w1 ⟨A1, c1, rfl, o1, hb1⟩
  have HS := Lib.hid (hS1.below hb1)
  have HR := Lib.hid (hR1.below hb1)
  have HO := Lib.hid (hO1.below hb1)
  have HB := Lib.hid (hB1.trans (hb1.mono hB1.size))
  have hM1 : W1.heap.size ≤ w1.heap.size := hb1.size
  have O1 := Lib.hid o1
  have O0 := Lib.hid (hP0.keeps (Keeps.of_below _ hb1))
  clear hS1 hR1 hO1 hB1 hb1 o1 hP0
  have s0 := HS.out.cell 0 _ rfl
  have s1 := HS.out.cell 1 _ rfl
  have s2 := HS.out.cell 2 _ rfl
  have o0 := HO.out.cell 0 _ rfl
  have o1 := HO.out.cell 1 _ rfl
  have o2 := HO.out.cell 2 _ rfl
  have fz := HO.out.frozen
  go_wp2_with fail
  clear s0 s1 s2 o0 o1 o2 fz
  refine abs_w (fun W => Blk W w.heap.size 26 [v0, v1, v2] ∧ Blk W (w.heap.size + 1) 31 [.slice none 0 0, .slice none 0 0, .slice none 0 0] ∧ Blk W (w.heap.size + 1 + 1) 31 [.slice A0 d.segments.length c0, .slice A1 d.main.length c1, .slice none 0 0] ∧ w1.heap.size ≤ W.heap.size ∧ Below w.heap.size w W ∧ SegmentsO (Rng W0.heap.size w0.heap.size) W (.slice A0 d.segments.length c0) d.segments ∧ IntO (Rng W1.heap.size w1.heap.size) W (.slice A1 d.main.length c1) d.main) ⟨by exact (HS.out.far _ (by simp; omega) _), by exact (HR.out.far _ (by simp) _), by exact (HO.out.set_ 1 _), by simp [World.setCell], by exact (below_sc HB.out (by omega) _), by exact O0.out.keeps ((Keeps.refl _ _).sc (fun h => by have := h.1; omega) _), by exact O1.out.keeps ((Keeps.refl _ _).sc (fun h => by have := h.1; omega) _)⟩ ?_
  clear HS HR HO HB O0 O1
  rintro W2 ⟨hS1, hR1, hO1, hN2, hB1, hP0, hP1⟩
  refine (laws_toBoolS_own d.quiet v2 _ (Q2.out.below hB1) (by omega)).mono ?_
  rintro e w2 ⟨A2, c2, rfl, o1, hb1⟩
  have HS := Lib.hid (hS1.below hb1)
  have HR := Lib.hid (hR1.below hb1)
  have HO := Lib.hid (hO1.below hb1)
  have HB := Lib.hid (hB1.trans (hb1.mono hB1.size))
  have hM2 : W2.heap.size ≤ w2.heap.size := hb1.size
  have O2 := Lib.hid o1
  have O0 := Lib.hid (hP0.keeps (Keeps.of_below _ hb1))
  have O1 := Lib.hid (hP1.keeps (Keeps.of_below _ hb1))
  clear hS1 hR1 hO1 hB1 hb1 o1 hP0 hP1
  have s0 := HS.out.cell 0 _ rfl
  have s1 := HS.out.cell 1 _ rfl
  have s2 := HS.out.cell 2 _ rfl
  have o0 := HO.out.cell 0 _ rfl
  have o1 := HO.out.cell 1 _ rfl
  have o2 := HO.out.cell 2 _ rfl
  have fz := HO.out.frozen
  have r0 := HR.out.cell 0 _ rfl
  have r1 := HR.out.cell 1 _ rfl
  have r2 := HR.out.cell 2 _ rfl
  have fr := HR.out.frozen
  go_wp2_with fail
  refine bodyPost_ret (v := .agg #[.slice A0 d.segments.length c0, .slice A1 d.main.length c1, .slice A2 d.quiet.length c2]) (by simp [results, Tryz.results8, go_sem, r0, r1, r2]) rfl ?_
  clear s0 s1 s2 o0 o1 o2 r0 r1 r2 fz fr
  have bm1 : w.heap.size ≤ w.heap.size + 1 := by omega
  have bm2 : w.heap.size ≤ w.heap.size + 1 + 1 := by omega
  refine ⟨_, rfl, ⟨A0, c0, A1, c1, A2, c2, fun b => if b < w0.heap.size then 0 else if b < w1.heap.size then 1 else 2, rfl, ?_, ?_, ?_⟩, (below_sc (below_sc (below_sc (below_sc HB.out bm2 _) bm1 _) bm1 _) bm1 _)⟩
  · have m1x : ¬ Rng W0.heap.size w0.heap.size (w.heap.size + 1) := fun h => by have := h.1; omega
    have m2x : ¬ Rng W0.heap.size w0.heap.size (w.heap.size + 1 + 1) := fun h => by have := h.1; omega
    refine (O0.out.keeps (((((Keeps.refl _ _).sc m2x _).sc m1x _).sc m1x _).sc m1x _)).mono (fun b hb => ?_)
    obtain ⟨x1, x2⟩ := hb
    refine ⟨⟨by omega, by simp only [size_sc]; omega⟩, ?_⟩
    dsimp only
    repeat (first | rfl | rw [if_pos (by omega)] | rw [if_neg (by omega)])
  · have m1x : ¬ Rng W1.heap.size w1.heap.size (w.heap.size + 1) := fun h => by have := h.1; omega
    have m2x : ¬ Rng W1.heap.size w1.heap.size (w.heap.size + 1 + 1) := fun h => by have := h.1; omega
    refine (O1.out.keeps (((((Keeps.refl _ _).sc m2x _).sc m1x _).sc m1x _).sc m1x _)).mono (fun b hb => ?_)
    obtain ⟨x1, x2⟩ := hb
    refine ⟨⟨by omega, by simp only [size_sc]; omega⟩, ?_⟩
    dsimp only
    repeat (first | rfl | rw [if_pos (by omega)] | rw [if_neg (by omega)])
  · have m1x : ¬ Rng W2.heap.size w2.heap.size (w.heap.size + 1) := fun h => by have := h.1; omega
    have m2x : ¬ Rng W2.heap.size w2.heap.size (w.heap.size + 1 + 1) := fun h => by have := h.1; omega
    refine (O2.out.keeps (((((Keeps.refl _ _).sc m2x _).sc m1x _).sc m1x _).sc m1x _)).mono (fun b hb => ?_)
    obtain ⟨x1, x2⟩ := hb
    refine ⟨⟨by omega, by simp only [size_sc]; omega⟩, ?_⟩
    dsimp only
    repeat (first | rfl | rw [if_pos (by omega)] | rw [if_neg (by omega)])

set_option maxHeartbeats 1000000 in
theorem laws_eqBytecode_same (d : CodeD) (cs cs' : List Value) (w : World) (h : BytecodeR w cs d) (h' : BytecodeR w cs' d) :
    Calls Tryz.prog 10 #[.agg cs.toArray, .agg cs'.toArray] w fun e w' => e = .returned (.bool true) ∧ Below w.heap.size w w' := by
  obtain ⟨v0, v1, v2, rfl, q0, q1, q2⟩ := h
  obtain ⟨u0, u1, u2, rfl, p0, p1, p2⟩ := h'
  have Q0 := Lib.hid q0
  have P0 := Lib.hid p0
  clear q0 p0
  have Q1 := Lib.hid q1
  have P1 := Lib.hid p1
  clear q1 p1
  have Q2 := Lib.hid q2
  have P2 := Lib.hid p2
  clear q2 p2
  go_enter Tryz.func10, Tryz.ntmps10
  go_wp2_with fail
  refine abs_w (fun W => Blk W w.heap.size 31 [v0, v1, v2] ∧ Blk W (w.heap.size + 1) 31 [u0, u1, u2] ∧ Below w.heap.size w W) ⟨by exact (Blk.new _ _ _).alloc _, by exact Blk.new_at _ _ _ _ (by simp), by exact ((Below.refl _ _).alloc (Nat.le_refl _) _).alloc (by simp) _⟩ ?_
  rintro W0 ⟨hK0, hL0, hB0⟩
  have HK := Lib.hid hK0
  have HL := Lib.hid hL0
  have HB := Lib.hid hB0
  clear hK0 hL0 hB0
  refine (laws_eqSegmentS_same d.segments v0 u0 _ (Q0.out.below HB.out) (P0.out.below HB.out)).mono ?_
  rintro e w0 ⟨rfl, hb0⟩
  replace HK := Lib.hid (HK.out.below hb0)
  replace HL := Lib.hid (HL.out.below hb0)
  replace HB := Lib.hid (HB.out.trans (hb0.mono HB.out.size))
  clear hb0
  have s0 := HK.out.cell 0 _ rfl
  have s1 := HK.out.cell 1 _ rfl
  have s2 := HK.out.cell 2 _ rfl
  have o0 := HL.out.cell 0 _ rfl
  have o1 := HL.out.cell 1 _ rfl
  have o2 := HL.out.cell 2 _ rfl
  go_wp2_with fail
  clear s0 s1 s2 o0 o1 o2
  refine (laws_eqIntS_same d.main v1 u1 _ (Q1.out.below HB.out) (P1.out.below HB.out)).mono ?_
  rintro e w1 ⟨rfl, hb1⟩
  replace HK := Lib.hid (HK.out.below hb1)
  replace HL := Lib.hid (HL.out.below hb1)
  replace HB := Lib.hid (HB.out.trans (hb1.mono HB.out.size))
  clear hb1
  have s0 := HK.out.cell 0 _ rfl
  have s1 := HK.out.cell 1 _ rfl
  have s2 := HK.out.cell 2 _ rfl
  have o0 := HL.out.cell 0 _ rfl
  have o1 := HL.out.cell 1 _ rfl
  have o2 := HL.out.cell 2 _ rfl
  go_wp2_with fail
  clear s0 s1 s2 o0 o1 o2
  refine (laws_eqBoolS_same d.quiet v2 u2 _ (Q2.out.below HB.out) (P2.out.below HB.out)).mono ?_
  rintro e w2 ⟨rfl, hb2⟩
  replace HK := Lib.hid (HK.out.below hb2)
  replace HL := Lib.hid (HL.out.below hb2)
  replace HB := Lib.hid (HB.out.trans (hb2.mono HB.out.size))
  clear hb2
  have s0 := HK.out.cell 0 _ rfl
  have s1 := HK.out.cell 1 _ rfl
  have s2 := HK.out.cell 2 _ rfl
  have o0 := HL.out.cell 0 _ rfl
  have o1 := HL.out.cell 1 _ rfl
  have o2 := HL.out.cell 2 _ rfl
  go_wp2_with fail
  clear s0 s1 s2 o0 o1 o2
  go_ret
  exact ⟨rfl, HB.out⟩

theorem open_BytecodeR {H : Type} {enc : TypeId × Value → H} {w : World} {base : Nat} {spare : Nat → Bool} {held : Bool} {n : Nat} {cs : List Value} {x : DataW H × List MemPlace} (h : DataW.trod enc Tryz.prog w base spare held n 26 cs = some x) : ∃ d, BytecodeR w cs d := by
  obtain ⟨hlen, n', hn, hg⟩ := open_field Tryz.underlying26 h
  match cs, hlen.trans (show Tryz.prog.cellsOf 26 = 3 by kernel_rfl) with
  | [c0, c1, c2], _ =>
    obtain ⟨y0, g0⟩ := hg 0 _ rfl
    rw [show List.take (Tryz.prog.cellsOf _) (List.drop _ [c0, c1, c2]) = [c0] by simp [cells_slice_Segment]] at g0
    obtain ⟨a0, d0, e0, r0⟩ := open_slr Tryz.underlying22 (show Tryz.prog.cellsOf 73 = 3 by kernel_rfl) (by decide) (SegmentR w) (fun _ _ _ _ _ h => open_SegmentR h) g0
    obtain ⟨y1, g1⟩ := hg 1 _ rfl
    rw [show List.take (Tryz.prog.cellsOf _) (List.drop _ [c0, c1, c2]) = [c1] by simp [cells_slice_int]] at g1
    obtain ⟨a1, d1, e1, r1⟩ := open_slr Tryz.underlying23 cells_int (by decide) IntR (fun _ _ _ _ _ h => open_i64 Tryz.underlying3 h) g1
    obtain ⟨y2, g2⟩ := hg 2 _ rfl
    rw [show List.take (Tryz.prog.cellsOf _) (List.drop _ [c0, c1, c2]) = [c2] by simp [cells_slice_bool]] at g2
    obtain ⟨a2, d2, e2, r2⟩ := open_slr Tryz.underlying24 cells_bool (by decide) BoolR (fun _ _ _ _ _ h => open_boo Tryz.underlying4 h) g2
    simp only [List.cons.injEq, and_true] at e0
    subst e0
    simp only [List.cons.injEq, and_true] at e1
    subst e1
    simp only [List.cons.injEq, and_true] at e2
    subst e2
    exact ⟨⟨d0, d1, d2⟩, _, _, _, rfl, r0, r1, r2⟩

theorem open_bytecode {H : Type} {enc : TypeId × Value → H} {w : World} {base : Nat} {spare : Nat → Bool} {held : Bool} {v : Value} {d : DataW H} {p : List MemPlace} {r : Reach} {b0 : Nat} (hv : Value.okWide Tryz.prog w r b0 26 v) (h : DataW.Trod enc Tryz.prog w base spare held 26 v d p) : ∃ x : List Value × CodeD, v = .agg x.1.toArray ∧ BytecodeR w x.1 x.2 := by
  obtain ⟨cs, rfl, _⟩ := okWide_struct Tryz.underlying26 hv
  obtain ⟨fuel, hf⟩ := h
  obtain ⟨d, hd⟩ := open_BytecodeR hf
  exact ⟨(cs.toList, d), by simp, by simpa [Value.cells] using hd⟩

end Go.Proofs.YtjdfancbmjnjfaaGreat
namespace Go.Proofs.YtjdfancbmjnjfaaGreat
set_option maxRecDepth 100000
open Go.ChangeShapes Go.WideShapes Go.ChangeAt Go.RowKit Go.Deep

def sizeC (l : List SegD) : Nat := (l.map fun g => g.instrs.length).sum
theorem sizeC_succ (l : List SegD) (k : Nat) (h : k < l.length) : sizeC (l.take (k + 1)) = sizeC (l.take k) + l[k].instrs.length := by
  unfold sizeC
  rw [List.take_succ_eq_append_getElem h, List.map_append, List.sum_append]
  simp
theorem sizeC_take (l : List SegD) (k : Nat) : sizeC (l.take k) ≤ sizeC l := by
  unfold sizeC
  have h : (l.map fun g => g.instrs.length).sum = ((l.take k).map fun g => g.instrs.length).sum + ((l.drop k).map fun g => g.instrs.length).sum := by
    rw [← List.sum_append, ← List.map_append, List.take_append_drop]
  omega
theorem sizeC_le (l : List SegD) : sizeC l ≤ szS szSegment l := by
  induction l with
  | nil => simp [sizeC, szS]
  | cons g l ih =>
    have h1 : g.instrs.length ≤ szSegment g := by
      have := szS_length szInstr g.instrs
      unfold szSegment
      omega
    unfold sizeC szS at *
    simp only [List.map_cons, List.sum_cons, List.length_cons]
    omega

set_option maxHeartbeats 1000000 in
theorem spec_CodeSize (d : CodeD) (cs : List Value) (w : World) (h : BytecodeR w cs d) (hz : szBytecode d ≤ 1048576) :
    Calls Tryz.prog 20 #[.agg cs.toArray] w fun e w' => e = .returned (.int .i64 (sizeC d.segments)) ∧ Below w.heap.size w w' := by
  obtain ⟨v0, v1, v2, rfl, q0, q1, q2⟩ := h
  obtain ⟨A, c, rfl, hlc, hm, HC⟩ := SlR.open_ q0
  have hsz : sizeC d.segments ≤ 1048576 := by have := sizeC_le d.segments; unfold szBytecode at hz; omega
  have hll : d.segments.length ≤ 1048576 := by have := szS_length szSegment d.segments; unfold szBytecode at hz; omega
  clear q0 q1 q2 hz
  unfold maxLen at hm
  go_enter Tryz.func20, Tryz.ntmps20
  go_wp2
  go_loop [3, 4] (fun x i => ∃ k : Nat, k ≤ d.segments.length ∧ i = .int .i64 k ∧ ∃ y : Nat, x = .int .i64 y ∧ y ≤ 1048576 ∧ Hid (y = sizeC (d.segments.take k))) (fun _ i => d.segments.length - (intOf i).toNat)
  case atStart => exact ⟨0, Nat.zero_le _, rfl, 0, rfl, by omega, by simp [Hid, sizeC]⟩
  case round =>
    obtain ⟨k, hk, rfl, y, rfl, hy, hY⟩ := hrel
    by_cases hlt : k < d.segments.length
    · obtain ⟨b, off, cs, rfl, hbl, _, hat, u0, u1, u2, rfl, _, _, hr⟩ := HC.out k hlt
      obtain ⟨A2, c2, rfl⟩ := SlR.shape hr
      have h1 := sizeC_succ d.segments k hlt
      have h2 := sizeC_take d.segments (k + 1)
      have h3 : y + d.segments[k].instrs.length ≤ 1048576 := by have := hY.out; omega
      have H1 := Lib.hid h1
      have hc2 : w.cell? ⟨b, off + k * 3 + 2, none⟩ = some (.slice A2 d.segments[k].instrs.length c2) := by simpa using hat 2 _ rfl
      have hd2 := (World.cell?_alloc_lt w (.cells #[.slice (some ⟨b, off, none⟩) d.segments.length c, v1, v2] 31) ⟨b, off + k * 3 + 2, none⟩ hbl).trans hc2
      clear hat hr hc2 h1 h2
      go_wp2
      go_round
      case rel => exact ⟨k + 1, by omega, by go_num, y + d.segments[k].instrs.length, by go_num, by omega, by have := hY.out; have := H1.out; show _ = _; omega⟩
      case measure => simp [intOf]; omega
    · obtain rfl : k = d.segments.length := by omega
      rw [List.take_length] at hY
      go_wp2
      go_ret
      exact ⟨ret_int (by rw [hY.out]), (Below.refl _ _).alloc (Nat.le_refl _) _⟩

set_option maxHeartbeats 1000000 in
theorem impl_CodeSize (d : CodeD) (cs : List Value) (w : World) (h : BytecodeR w cs d) (hz : szBytecode d ≤ 1048576) :
    Calls Tryz.prog 27 #[.agg cs.toArray] w fun e w' => e = .returned (.int .i64 (sizeC d.segments)) ∧ Below w.heap.size w w' := by
  obtain ⟨v0, v1, v2, rfl, q0, q1, q2⟩ := h
  obtain ⟨A, c, rfl, hlc, hm, HC⟩ := SlR.open_ q0
  have hsz : sizeC d.segments ≤ 1048576 := by have := sizeC_le d.segments; unfold szBytecode at hz; omega
  have hll : d.segments.length ≤ 1048576 := by have := szS_length szSegment d.segments; unfold szBytecode at hz; omega
  clear q0 q1 q2 hz
  unfold maxLen at hm
  go_enter Tryz.func27, Tryz.ntmps27
  go_wp2
  go_loopw [3, 9] (fun x i wr => ∃ k : Nat, k ≤ d.segments.length ∧ i = .int .i64 k ∧ ∃ y : Nat, x = .int .i64 y ∧ y ≤ 1048576 ∧ Hid (y = sizeC (d.segments.take k)) ∧ Below w.heap.size w wr) (fun _ i _ => d.segments.length - (intOf i).toNat)
  case atStart => exact ⟨0, Nat.zero_le _, rfl, 0, rfl, by omega, by simp [Hid, sizeC], (Below.refl _ _).alloc (Nat.le_refl _) _⟩
  case round =>
    obtain ⟨k, hk, rfl, y, rfl, hy, hY, hb⟩ := hrel
    by_cases hlt : k < d.segments.length
    · obtain ⟨b, off, cs, rfl, hbl, _, hat, u0, u1, u2, rfl, hr0, hr1, hr⟩ := HC.out k hlt
      obtain ⟨A0, c0, rfl⟩ := SlR.shape hr0
      obtain ⟨A1, c1, rfl⟩ := SlR.shape hr1
      obtain ⟨A2, c2, rfl⟩ := SlR.shape hr
      have h1 := sizeC_succ d.segments k hlt
      have h2 := sizeC_take d.segments (k + 1)
      have h3 : y + d.segments[k].instrs.length ≤ 1048576 := by have := hY.out; omega
      have H1 := Lib.hid h1
      have hd0 := (hb.cell (p := ⟨b, off + k * 3, none⟩) hbl).trans (by simpa using hat 0 _ rfl)
      have hd1 := (hb.cell (p := ⟨b, off + k * 3 + 1, none⟩) hbl).trans (hat 1 _ rfl)
      have hd2 := (hb.cell (p := ⟨b, off + k * 3 + 2, none⟩) hbl).trans (hat 2 _ rfl)
      clear hat hr h1 h2 hr0 hr1
      go_wp2
      go_roundw
      case rel => exact ⟨k + 1, by omega, by go_num, y + d.segments[k].instrs.length, by go_num, by omega, by have := hY.out; have := H1.out; show _ = _; omega, hb.alloc hb.size _⟩
      case measure => simp [intOf]; omega
    · obtain rfl : k = d.segments.length := by omega
      rw [List.take_length] at hY
      go_wp2
      go_ret
      exact ⟨ret_int (by rw [hY.out]), hb⟩
end Go.Proofs.YtjdfancbmjnjfaaGreat
