/-
  Contracts: CodeSize, of the program and of the reference, is the number of instructions.
-/
import Derived.Test.YtjdfancbmjnjfaaGreatGBytecode
namespace Go.Proofs.YtjdfancbmjnjfaaGreat
set_option maxRecDepth 100000
open Go.ChangeShapes Go.WideShapes Go.ChangeAt Go.RowKit Go.Deep

def sizeC (l : List SegD) : Nat := (l.map fun g => g.instrs.length).sum
theorem sizeC_succ (l : List SegD) (k : Nat) (h : k < l.length) : sizeC (l.take (k + 1)) = sizeC (l.take k) + l[k].instrs.length := by
  unfold sizeC
  rw [List.take_succ_eq_append_getElem h, List.map_append, List.sum_append]
  simp
theorem sizeC_take (l : List SegD) (k : Nat) : sizeC (l.take k) ≤ sizeC l := by
  unfold sizeC
  have h : (l.map fun g => g.instrs.length).sum = ((l.take k).map fun g => g.instrs.length).sum + ((l.drop k).map fun g => g.instrs.length).sum := by
    rw [← List.sum_append, ← List.map_append, List.take_append_drop]
  omega
theorem sizeC_le (l : List SegD) : sizeC l ≤ szS szSegment l := by
  induction l with
  | nil => simp [sizeC, szS]
  | cons g l ih =>
    have h1 : g.instrs.length ≤ szSegment g := by
      have := szS_length szInstr g.instrs
      unfold szSegment
      omega
    unfold sizeC szS at *
    simp only [List.map_cons, List.sum_cons, List.length_cons]
    omega

set_option maxHeartbeats 1000000 in
theorem spec_CodeSize (d : CodeD) (cs : List Value) (w : World) (h : BytecodeR w cs d) (hz : szBytecode d ≤ 1048576) :
    Calls Tryz.prog 20 #[.agg cs.toArray] w fun e w' => e = .returned (.int .i64 (sizeC d.segments)) ∧ Below w.heap.size w w' := by
  obtain ⟨v0, v1, v2, rfl, q0, q1, q2⟩ := h
  obtain ⟨A, c, rfl, hlc, hm, HC⟩ := SlR.open_ q0
  have hsz : sizeC d.segments ≤ 1048576 := by have := sizeC_le d.segments; unfold szBytecode at hz; omega
  have hll : d.segments.length ≤ 1048576 := by have := szS_length szSegment d.segments; unfold szBytecode at hz; omega
  clear q0 q1 q2 hz
  unfold maxLen at hm
  go_enter Tryz.func20, Tryz.ntmps20
  go_wp2
  go_loop [3, 4] (fun x i => ∃ k : Nat, k ≤ d.segments.length ∧ i = .int .i64 k ∧ ∃ y : Nat, x = .int .i64 y ∧ y ≤ 1048576 ∧ Hid (y = sizeC (d.segments.take k))) (fun _ i => d.segments.length - (intOf i).toNat)
  case atStart => exact ⟨0, Nat.zero_le _, rfl, 0, rfl, by omega, by simp [Hid, sizeC]⟩
  case round =>
    obtain ⟨k, hk, rfl, y, rfl, hy, hY⟩ := hrel
    by_cases hlt : k < d.segments.length
    · obtain ⟨b, off, cs, rfl, hbl, _, hat, u0, u1, u2, rfl, _, _, hr⟩ := HC.out k hlt
      obtain ⟨A2, c2, rfl⟩ := SlR.shape hr
      have h1 := sizeC_succ d.segments k hlt
      have h2 := sizeC_take d.segments (k + 1)
      have h3 : y + d.segments[k].instrs.length ≤ 1048576 := by have := hY.out; omega
      have H1 := Lib.hid h1
      have hc2 : w.cell? ⟨b, off + k * 3 + 2, none⟩ = some (.slice A2 d.segments[k].instrs.length c2) := by simpa using hat 2 _ rfl
      have hd2 := (World.cell?_alloc_lt w (.cells #[.slice (some ⟨b, off, none⟩) d.segments.length c, v1, v2] 31) ⟨b, off + k * 3 + 2, none⟩ hbl).trans hc2
      clear hat hr hc2 h1 h2
      go_wp2
      go_round
      case rel => exact ⟨k + 1, by omega, by go_num, y + d.segments[k].instrs.length, by go_num, by omega, by have := hY.out; have := H1.out; show _ = _; omega⟩
      case measure => simp [intOf]; omega
    · obtain rfl : k = d.segments.length := by omega
      rw [List.take_length] at hY
      go_wp2
      go_ret
      exact ⟨ret_int (by rw [hY.out]), (Below.refl _ _).alloc (Nat.le_refl _) _⟩

set_option maxHeartbeats 1000000 in
theorem impl_CodeSize (d : CodeD) (cs : List Value) (w : World) (h : BytecodeR w cs d) (hz : szBytecode d ≤ 1048576) :
    Calls Tryz.prog 27 #[.agg cs.toArray] w fun e w' => e = .returned (.int .i64 (sizeC d.segments)) ∧ Below w.heap.size w w' := by
  obtain ⟨v0, v1, v2, rfl, q0, q1, q2⟩ := h
  obtain ⟨A, c, rfl, hlc, hm, HC⟩ := SlR.open_ q0
  have hsz : sizeC d.segments ≤ 1048576 := by have := sizeC_le d.segments; unfold szBytecode at hz; omega
  have hll : d.segments.length ≤ 1048576 := by have := szS_length szSegment d.segments; unfold szBytecode at hz; omega
  clear q0 q1 q2 hz
  unfold maxLen at hm
  go_enter Tryz.func27, Tryz.ntmps27
  go_wp2
  go_loopw [3, 9] (fun x i wr => ∃ k : Nat, k ≤ d.segments.length ∧ i = .int .i64 k ∧ ∃ y : Nat, x = .int .i64 y ∧ y ≤ 1048576 ∧ Hid (y = sizeC (d.segments.take k)) ∧ Below w.heap.size w wr) (fun _ i _ => d.segments.length - (intOf i).toNat)
  case atStart => exact ⟨0, Nat.zero_le _, rfl, 0, rfl, by omega, by simp [Hid, sizeC], (Below.refl _ _).alloc (Nat.le_refl _) _⟩
  case round =>
    obtain ⟨k, hk, rfl, y, rfl, hy, hY, hb⟩ := hrel
    by_cases hlt : k < d.segments.length
    · obtain ⟨b, off, cs, rfl, hbl, _, hat, u0, u1, u2, rfl, hr0, hr1, hr⟩ := HC.out k hlt
      obtain ⟨A0, c0, rfl⟩ := SlR.shape hr0
      obtain ⟨A1, c1, rfl⟩ := SlR.shape hr1
      obtain ⟨A2, c2, rfl⟩ := SlR.shape hr
      have h1 := sizeC_succ d.segments k hlt
      have h2 := sizeC_take d.segments (k + 1)
      have h3 : y + d.segments[k].instrs.length ≤ 1048576 := by have := hY.out; omega
      have H1 := Lib.hid h1
      have hd0 := (hb.cell (p := ⟨b, off + k * 3, none⟩) hbl).trans (by simpa using hat 0 _ rfl)
      have hd1 := (hb.cell (p := ⟨b, off + k * 3 + 1, none⟩) hbl).trans (hat 1 _ rfl)
      have hd2 := (hb.cell (p := ⟨b, off + k * 3 + 2, none⟩) hbl).trans (hat 2 _ rfl)
      clear hat hr h1 h2 hr0 hr1
      go_wp2
      go_roundw
      case rel => exact ⟨k + 1, by omega, by go_num, y + d.segments[k].instrs.length, by go_num, by omega, by have := hY.out; have := H1.out; show _ = _; omega, hb.alloc hb.size _⟩
      case measure => simp [intOf]; omega
    · obtain rfl : k = d.segments.length := by omega
      rw [List.take_length] at hY
      go_wp2
      go_ret
      exact ⟨ret_int (by rw [hY.out]), hb⟩
end Go.Proofs.YtjdfancbmjnjfaaGreat
