/-
  Bytecode: what values of this type read as; contracts of the laws' helpers on them (written by wip/gen/gen3.py).
-/
import Derived.Test.YtjdfancbmjnjfaaGreatGSegment
namespace Go.Proofs.YtjdfancbmjnjfaaGreat
set_option maxRecDepth 100000
open Go.ChangeShapes Go.WideShapes Go.ChangeAt Go.RowKit Go.Deep

structure CodeD where
  segments : List SegD
  main : List Int
  quiet : List Bool

/-- the cells of a Bytecode -/
def BytecodeR (w : World) (cs : List Value) (d : CodeD) : Prop :=
  ∃ v0 v1 v2, cs = [v0, v1, v2] ∧ Segments w v0 d.segments ∧ Ints w v1 d.main ∧ Bools w v2 d.quiet
theorem BytecodeR.below {w w' : World} {cs : List Value} {d : CodeD} (h : BytecodeR w cs d) (hb : Below w.heap.size w w') : BytecodeR w' cs d := by
  obtain ⟨v0, v1, v2, rfl, h0, h1, h2⟩ := h
  exact ⟨v0, v1, v2, rfl, h0.below hb, h1.below hb, h2.below hb⟩
theorem BytecodeR.shape {w : World} {cs : List Value} {d : CodeD} (h : BytecodeR w cs d) : ∃ v0 v1 v2, cs = [v0, v1, v2] := by
  obtain ⟨v0, v1, v2, rfl, _⟩ := h
  exact ⟨v0, v1, v2, rfl⟩
theorem BytecodeR.length {w : World} {cs : List Value} {d : CodeD} (h : BytecodeR w cs d) : cs.length = 3 := by
  obtain ⟨v0, v1, v2, rfl, _⟩ := h
  rfl
/-- the cells of a Bytecode whose slices lie in blocks of its own, in S -/
def BytecodeO (S : Nat → Prop) (w : World) (cs : List Value) (d : CodeD) : Prop :=
  ∃ (A0 : Option Addr) (c0 : Nat) (A1 : Option Addr) (c1 : Nat) (A2 : Option Addr) (c2 : Nat), ∃ f : Nat → Nat, cs = [.slice A0 d.segments.length c0, .slice A1 d.main.length c1, .slice A2 d.quiet.length c2] ∧ SegmentsO (fun b => S b ∧ f b = 0) w (.slice A0 d.segments.length c0) d.segments ∧ IntO (fun b => S b ∧ f b = 1) w (.slice A1 d.main.length c1) d.main ∧ BoolO (fun b => S b ∧ f b = 2) w (.slice A2 d.quiet.length c2) d.quiet
theorem BytecodeO.read {S : Nat → Prop} {w : World} {cs : List Value} {d : CodeD} (h : BytecodeO S w cs d) : BytecodeR w cs d := by
  obtain ⟨A0, c0, A1, c1, A2, c2, f, rfl, h0, h1, h2⟩ := h
  exact ⟨_, _, _, rfl, h0.read, h1.read, h2.read⟩
theorem BytecodeO.keeps {S : Nat → Prop} {w w' : World} {cs : List Value} {d : CodeD} (h : BytecodeO S w cs d) (hk : Keeps S w w') : BytecodeO S w' cs d := by
  obtain ⟨A0, c0, A1, c1, A2, c2, f, rfl, h0, h1, h2⟩ := h
  exact ⟨A0, c0, A1, c1, A2, c2, f, rfl, h0.keeps (hk.mono fun _ h => h.1), h1.keeps (hk.mono fun _ h => h.1), h2.keeps (hk.mono fun _ h => h.1)⟩
theorem BytecodeO.mono {S S' : Nat → Prop} {w : World} {cs : List Value} {d : CodeD} (h : BytecodeO S w cs d) (hs : ∀ b, S b → S' b) : BytecodeO S' w cs d := by
  obtain ⟨A0, c0, A1, c1, A2, c2, f, rfl, h0, h1, h2⟩ := h
  exact ⟨A0, c0, A1, c1, A2, c2, f, rfl, h0.mono (fun b h => ⟨hs b h.1, h.2⟩), h1.mono (fun b h => ⟨hs b h.1, h.2⟩), h2.mono (fun b h => ⟨hs b h.1, h.2⟩)⟩
theorem BytecodeO.shape {S : Nat → Prop} {w : World} {cs : List Value} {d : CodeD} (h : BytecodeO S w cs d) : ∃ (A0 : Option Addr) (c0 : Nat) (A1 : Option Addr) (c1 : Nat) (A2 : Option Addr) (c2 : Nat), cs = [.slice A0 d.segments.length c0, .slice A1 d.main.length c1, .slice A2 d.quiet.length c2] := by
  obtain ⟨A0, c0, A1, c1, A2, c2, f, rfl, _⟩ := h
  exact ⟨A0, c0, A1, c1, A2, c2, rfl⟩
theorem BytecodeO.length {S : Nat → Prop} {w : World} {cs : List Value} {d : CodeD} (h : BytecodeO S w cs d) : cs.length = 3 := by
  obtain ⟨A0, c0, A1, c1, A2, c2, f, rfl, _⟩ := h
  rfl

def szBytecode (d : CodeD) : Nat := szS szSegment d.segments + List.length d.main + List.length d.quiet

set_option maxHeartbeats 1000000 in
theorem laws_szBytecode (d : CodeD) (cs : List Value) (left : Int) (w : World) (h : BytecodeR w cs d) (h0 : 0 ≤ left) (h1 : left ≤ 1048576) :
    Calls Tryz.prog 6 #[.agg cs.toArray, .int .i64 left] w fun e w' => e = .returned (.int .i64 (szR left (szBytecode d))) ∧ Below w.heap.size w w' := by
  obtain ⟨v0, v1, v2, rfl, q0, q1, q2⟩ := h
  have Q0 := Lib.hid q0
  clear q0
  have Q1 := Lib.hid q1
  clear q1
  have Q2 := Lib.hid q2
  clear q2
  have hE : szBytecode d = szS szSegment d.segments + List.length d.main + List.length d.quiet := rfl
  have HE := Lib.hid hE
  clear hE
  have HWB := Lib.hid (show Below w.heap.size w (w.alloc (.cells #[v0, v1, v2] 26)) from (Below.refl _ _).alloc (Nat.le_refl _) _)
  have HWK := Lib.hid (Blk.new w 26 [v0, v1, v2])
  go_enter Tryz.func6, Tryz.ntmps6
  go_wp2_with fail
  refine abs_w (fun W => Blk W w.heap.size 26 [v0, v1, v2] ∧ Below w.heap.size w W) ⟨by exact HWK.out, by exact HWB.out⟩ ?_
  clear HWK HWB
  rintro W0 ⟨hK0, hB0⟩
  have HWK := Lib.hid hK0
  have HWB := Lib.hid hB0
  clear hK0 hB0
  refine (laws_szSegmentS d.segments v0 (left) _ (Q0.out.below HWB.out) (by omega) (by omega)).mono ?_
  rintro e w0 ⟨rfl, hb0⟩
  replace HWK := Lib.hid (HWK.out.below hb0)
  replace HWB := Lib.hid (HWB.out.trans (hb0.mono HWB.out.size))
  clear hb0
  by_cases hz0 : ((szS szSegment d.segments : Nat) : Int) ≤ left
  rotate_left
  · rw [szR_neg hz0]
    go_wp2_with fail
    go_ret
    exact ⟨ret_int (by have h9 := HE.out; rw [szR_neg (by omega)]), by exact HWB.out⟩
  rw [szR_pos hz0]
  have x0 := HWK.out.cell 0 _ rfl
  have x1 := HWK.out.cell 1 _ rfl
  have x2 := HWK.out.cell 2 _ rfl
  go_wp2_with fail
  clear x0 x1 x2
  refine (laws_szIntS d.main v1 (left - ((szS szSegment d.segments : Nat) : Int)) _ (Q1.out.below HWB.out) (by omega) (by omega)).mono ?_
  rintro e w1 ⟨rfl, hb1⟩
  replace HWK := Lib.hid (HWK.out.below hb1)
  replace HWB := Lib.hid (HWB.out.trans (hb1.mono HWB.out.size))
  clear hb1
  by_cases hz1 : ((List.length d.main : Nat) : Int) ≤ left - ((szS szSegment d.segments : Nat) : Int)
  rotate_left
  · rw [szR_neg hz1]
    go_wp2_with fail
    go_ret
    exact ⟨ret_int (by have h9 := HE.out; rw [szR_neg (by omega)]), by exact HWB.out⟩
  rw [szR_pos hz1]
  have x0 := HWK.out.cell 0 _ rfl
  have x1 := HWK.out.cell 1 _ rfl
  have x2 := HWK.out.cell 2 _ rfl
  go_wp2_with fail
  clear x0 x1 x2
  refine (laws_szBoolS d.quiet v2 (left - ((szS szSegment d.segments : Nat) : Int) - ((List.length d.main : Nat) : Int)) _ (Q2.out.below HWB.out) (by omega) (by omega)).mono ?_
  rintro e w2 ⟨rfl, hb2⟩
  replace HWK := Lib.hid (HWK.out.below hb2)
  replace HWB := Lib.hid (HWB.out.trans (hb2.mono HWB.out.size))
  clear hb2
  by_cases hz2 : ((List.length d.quiet : Nat) : Int) ≤ left - ((szS szSegment d.segments : Nat) : Int) - ((List.length d.main : Nat) : Int)
  rotate_left
  · rw [szR_neg hz2]
    go_wp2_with fail
    go_ret
    exact ⟨ret_int (by have h9 := HE.out; rw [szR_neg (by omega)]), by exact HWB.out⟩
  rw [szR_pos hz2]
  have x0 := HWK.out.cell 0 _ rfl
  have x1 := HWK.out.cell 1 _ rfl
  have x2 := HWK.out.cell 2 _ rfl
  go_wp2_with fail
  go_ret
  exact ⟨ret_int (by have h9 := HE.out; rw [szR_pos (by omega)]; omega), by exact HWB.out⟩

def RetBytecode (w : World) (d : CodeD) (e : Ending) (w' : World) : Prop := ∃ cs, e = .returned (.agg cs.toArray) ∧ BytecodeO (Rng w.heap.size w'.heap.size) w' cs d ∧ Below w.heap.size w w'
set_option maxHeartbeats 4000000 in
theorem laws_toBytecode (d : CodeD) (cs : List Value) (w : World) (h : BytecodeR w cs d) (hz : szBytecode d ≤ 1048576) :
    Calls Tryz.prog 8 #[.agg cs.toArray] w (RetBytecode w d) := by
  obtain ⟨v0, v1, v2, rfl, q0, q1, q2⟩ := h
  have QQ := Lib.hid trivial
  have Q0 := Lib.hid q0
  clear q0
  have Q1 := Lib.hid q1
  clear q1
  have Q2 := Lib.hid q2
  clear q2
  unfold szBytecode at hz
  go_enter Tryz.func8, Tryz.ntmps8
  go_wp2_with fail
  refine abs_w (fun W => Blk W w.heap.size 26 [v0, v1, v2] ∧ Blk W (w.heap.size + 1) 31 [.slice none 0 0, .slice none 0 0, .slice none 0 0] ∧ Blk W (w.heap.size + 1 + 1) 31 [.slice none 0 0, .slice none 0 0, .slice none 0 0] ∧ w.heap.size + 3 ≤ W.heap.size ∧ Below w.heap.size w W) ⟨by exact ((Blk.new _ _ _).alloc _).alloc _, by exact (Blk.new_at _ _ _ _ (by simp)).alloc _, by exact Blk.new_at _ _ _ _ (by simp), by simp, by exact (((Below.refl _ _).alloc (Nat.le_refl _) _).alloc (by simp) _).alloc (by simp; omega) _⟩ ?_
  rintro W0 ⟨hS1, hR1, hO1, hN0, hB1⟩
  refine (laws_toSegmentS d.segments v0 _ (Q0.out.below hB1) (by omega)).mono ?_
  rintro e w0 ⟨A0, c0, rfl, o1, hb1⟩
  have HS := Lib.hid (hS1.below hb1)
  have HR := Lib.hid (hR1.below hb1)
  have HO := Lib.hid (hO1.below hb1)
  have HB := Lib.hid (hB1.trans (hb1.mono hB1.size))
  have hM0 : W0.heap.size ≤ w0.heap.size := hb1.size
  have O0 := Lib.hid o1
  clear hS1 hR1 hO1 hB1 hb1 o1 
  have s0 := HS.out.cell 0 _ rfl
  have s1 := HS.out.cell 1 _ rfl
  have s2 := HS.out.cell 2 _ rfl
  have o0 := HO.out.cell 0 _ rfl
  have o1 := HO.out.cell 1 _ rfl
  have o2 := HO.out.cell 2 _ rfl
  have fz := HO.out.frozen
  go_wp2_with fail
  clear s0 s1 s2 o0 o1 o2 fz
  refine abs_w (fun W => Blk W w.heap.size 26 [v0, v1, v2] ∧ Blk W (w.heap.size + 1) 31 [.slice none 0 0, .slice none 0 0, .slice none 0 0] ∧ Blk W (w.heap.size + 1 + 1) 31 [.slice A0 d.segments.length c0, .slice none 0 0, .slice none 0 0] ∧ w0.heap.size ≤ W.heap.size ∧ Below w.heap.size w W ∧ SegmentsO (Rng W0.heap.size w0.heap.size) W (.slice A0 d.segments.length c0) d.segments) ⟨by exact (HS.out.far _ (by simp; omega) _), by exact (HR.out.far _ (by simp) _), by exact (HO.out.set_ 0 _), by simp [World.setCell], by exact (below_sc HB.out (by omega) _), by exact O0.out.keeps ((Keeps.refl _ _).sc (fun h => by have := h.1; omega) _)⟩ ?_
  clear HS HR HO HB O0
  rintro W1 ⟨hS1, hR1, hO1, hN1, hB1, hP0⟩
  refine (laws_toIntS_own d.main v1 _ (Q1.out.below hB1) (by omega)).mono ?_
  rintro e w1 ⟨A1, c1, rfl, o1, hb1⟩
  have HS := Lib.hid (hS1.below hb1)
  have HR := Lib.hid (hR1.below hb1)
  have HO := Lib.hid (hO1.below hb1)
  have HB := Lib.hid (hB1.trans (hb1.mono hB1.size))
  have hM1 : W1.heap.size ≤ w1.heap.size := hb1.size
  have O1 := Lib.hid o1
  have O0 := Lib.hid (hP0.keeps (Keeps.of_below _ hb1))
  clear hS1 hR1 hO1 hB1 hb1 o1 hP0
  have s0 := HS.out.cell 0 _ rfl
  have s1 := HS.out.cell 1 _ rfl
  have s2 := HS.out.cell 2 _ rfl
  have o0 := HO.out.cell 0 _ rfl
  have o1 := HO.out.cell 1 _ rfl
  have o2 := HO.out.cell 2 _ rfl
  have fz := HO.out.frozen
  go_wp2_with fail
  clear s0 s1 s2 o0 o1 o2 fz
  refine abs_w (fun W => Blk W w.heap.size 26 [v0, v1, v2] ∧ Blk W (w.heap.size + 1) 31 [.slice none 0 0, .slice none 0 0, .slice none 0 0] ∧ Blk W (w.heap.size + 1 + 1) 31 [.slice A0 d.segments.length c0, .slice A1 d.main.length c1, .slice none 0 0] ∧ w1.heap.size ≤ W.heap.size ∧ Below w.heap.size w W ∧ SegmentsO (Rng W0.heap.size w0.heap.size) W (.slice A0 d.segments.length c0) d.segments ∧ IntO (Rng W1.heap.size w1.heap.size) W (.slice A1 d.main.length c1) d.main) ⟨by exact (HS.out.far _ (by simp; omega) _), by exact (HR.out.far _ (by simp) _), by exact (HO.out.set_ 1 _), by simp [World.setCell], by exact (below_sc HB.out (by omega) _), by exact O0.out.keeps ((Keeps.refl _ _).sc (fun h => by have := h.1; omega) _), by exact O1.out.keeps ((Keeps.refl _ _).sc (fun h => by have := h.1; omega) _)⟩ ?_
  clear HS HR HO HB O0 O1
  rintro W2 ⟨hS1, hR1, hO1, hN2, hB1, hP0, hP1⟩
  refine (laws_toBoolS_own d.quiet v2 _ (Q2.out.below hB1) (by omega)).mono ?_
  rintro e w2 ⟨A2, c2, rfl, o1, hb1⟩
  have HS := Lib.hid (hS1.below hb1)
  have HR := Lib.hid (hR1.below hb1)
  have HO := Lib.hid (hO1.below hb1)
  have HB := Lib.hid (hB1.trans (hb1.mono hB1.size))
  have hM2 : W2.heap.size ≤ w2.heap.size := hb1.size
  have O2 := Lib.hid o1
  have O0 := Lib.hid (hP0.keeps (Keeps.of_below _ hb1))
  have O1 := Lib.hid (hP1.keeps (Keeps.of_below _ hb1))
  clear hS1 hR1 hO1 hB1 hb1 o1 hP0 hP1
  have s0 := HS.out.cell 0 _ rfl
  have s1 := HS.out.cell 1 _ rfl
  have s2 := HS.out.cell 2 _ rfl
  have o0 := HO.out.cell 0 _ rfl
  have o1 := HO.out.cell 1 _ rfl
  have o2 := HO.out.cell 2 _ rfl
  have fz := HO.out.frozen
  have r0 := HR.out.cell 0 _ rfl
  have r1 := HR.out.cell 1 _ rfl
  have r2 := HR.out.cell 2 _ rfl
  have fr := HR.out.frozen
  go_wp2_with fail
  refine bodyPost_ret (v := .agg #[.slice A0 d.segments.length c0, .slice A1 d.main.length c1, .slice A2 d.quiet.length c2]) (by simp [results, Tryz.results8, go_sem, r0, r1, r2]) rfl ?_
  clear s0 s1 s2 o0 o1 o2 r0 r1 r2 fz fr
  have bm1 : w.heap.size ≤ w.heap.size + 1 := by omega
  have bm2 : w.heap.size ≤ w.heap.size + 1 + 1 := by omega
  refine ⟨_, rfl, ⟨A0, c0, A1, c1, A2, c2, fun b => if b < w0.heap.size then 0 else if b < w1.heap.size then 1 else 2, rfl, ?_, ?_, ?_⟩, (below_sc (below_sc (below_sc (below_sc HB.out bm2 _) bm1 _) bm1 _) bm1 _)⟩
  · have m1x : ¬ Rng W0.heap.size w0.heap.size (w.heap.size + 1) := fun h => by have := h.1; omega
    have m2x : ¬ Rng W0.heap.size w0.heap.size (w.heap.size + 1 + 1) := fun h => by have := h.1; omega
    refine (O0.out.keeps (((((Keeps.refl _ _).sc m2x _).sc m1x _).sc m1x _).sc m1x _)).mono (fun b hb => ?_)
    obtain ⟨x1, x2⟩ := hb
    refine ⟨⟨by omega, by simp only [size_sc]; omega⟩, ?_⟩
    dsimp only
    repeat (first | rfl | rw [if_pos (by omega)] | rw [if_neg (by omega)])
  · have m1x : ¬ Rng W1.heap.size w1.heap.size (w.heap.size + 1) := fun h => by have := h.1; omega
    have m2x : ¬ Rng W1.heap.size w1.heap.size (w.heap.size + 1 + 1) := fun h => by have := h.1; omega
    refine (O1.out.keeps (((((Keeps.refl _ _).sc m2x _).sc m1x _).sc m1x _).sc m1x _)).mono (fun b hb => ?_)
    obtain ⟨x1, x2⟩ := hb
    refine ⟨⟨by omega, by simp only [size_sc]; omega⟩, ?_⟩
    dsimp only
    repeat (first | rfl | rw [if_pos (by omega)] | rw [if_neg (by omega)])
  · have m1x : ¬ Rng W2.heap.size w2.heap.size (w.heap.size + 1) := fun h => by have := h.1; omega
    have m2x : ¬ Rng W2.heap.size w2.heap.size (w.heap.size + 1 + 1) := fun h => by have := h.1; omega
    refine (O2.out.keeps (((((Keeps.refl _ _).sc m2x _).sc m1x _).sc m1x _).sc m1x _)).mono (fun b hb => ?_)
    obtain ⟨x1, x2⟩ := hb
    refine ⟨⟨by omega, by simp only [size_sc]; omega⟩, ?_⟩
    dsimp only
    repeat (first | rfl | rw [if_pos (by omega)] | rw [if_neg (by omega)])

set_option maxHeartbeats 1000000 in
theorem laws_eqBytecode_same (d : CodeD) (cs cs' : List Value) (w : World) (h : BytecodeR w cs d) (h' : BytecodeR w cs' d) :
    Calls Tryz.prog 10 #[.agg cs.toArray, .agg cs'.toArray] w fun e w' => e = .returned (.bool true) ∧ Below w.heap.size w w' := by
  obtain ⟨v0, v1, v2, rfl, q0, q1, q2⟩ := h
  obtain ⟨u0, u1, u2, rfl, p0, p1, p2⟩ := h'
  have Q0 := Lib.hid q0
  have P0 := Lib.hid p0
  clear q0 p0
  have Q1 := Lib.hid q1
  have P1 := Lib.hid p1
  clear q1 p1
  have Q2 := Lib.hid q2
  have P2 := Lib.hid p2
  clear q2 p2
  go_enter Tryz.func10, Tryz.ntmps10
  go_wp2_with fail
  refine abs_w (fun W => Blk W w.heap.size 31 [v0, v1, v2] ∧ Blk W (w.heap.size + 1) 31 [u0, u1, u2] ∧ Below w.heap.size w W) ⟨by exact (Blk.new _ _ _).alloc _, by exact Blk.new_at _ _ _ _ (by simp), by exact ((Below.refl _ _).alloc (Nat.le_refl _) _).alloc (by simp) _⟩ ?_
  rintro W0 ⟨hK0, hL0, hB0⟩
  have HK := Lib.hid hK0
  have HL := Lib.hid hL0
  have HB := Lib.hid hB0
  clear hK0 hL0 hB0
  refine (laws_eqSegmentS_same d.segments v0 u0 _ (Q0.out.below HB.out) (P0.out.below HB.out)).mono ?_
  rintro e w0 ⟨rfl, hb0⟩
  replace HK := Lib.hid (HK.out.below hb0)
  replace HL := Lib.hid (HL.out.below hb0)
  replace HB := Lib.hid (HB.out.trans (hb0.mono HB.out.size))
  clear hb0
  have s0 := HK.out.cell 0 _ rfl
  have s1 := HK.out.cell 1 _ rfl
  have s2 := HK.out.cell 2 _ rfl
  have o0 := HL.out.cell 0 _ rfl
  have o1 := HL.out.cell 1 _ rfl
  have o2 := HL.out.cell 2 _ rfl
  go_wp2_with fail
  clear s0 s1 s2 o0 o1 o2
  refine (laws_eqIntS_same d.main v1 u1 _ (Q1.out.below HB.out) (P1.out.below HB.out)).mono ?_
  rintro e w1 ⟨rfl, hb1⟩
  replace HK := Lib.hid (HK.out.below hb1)
  replace HL := Lib.hid (HL.out.below hb1)
  replace HB := Lib.hid (HB.out.trans (hb1.mono HB.out.size))
  clear hb1
  have s0 := HK.out.cell 0 _ rfl
  have s1 := HK.out.cell 1 _ rfl
  have s2 := HK.out.cell 2 _ rfl
  have o0 := HL.out.cell 0 _ rfl
  have o1 := HL.out.cell 1 _ rfl
  have o2 := HL.out.cell 2 _ rfl
  go_wp2_with fail
  clear s0 s1 s2 o0 o1 o2
  refine (laws_eqBoolS_same d.quiet v2 u2 _ (Q2.out.below HB.out) (P2.out.below HB.out)).mono ?_
  rintro e w2 ⟨rfl, hb2⟩
  replace HK := Lib.hid (HK.out.below hb2)
  replace HL := Lib.hid (HL.out.below hb2)
  replace HB := Lib.hid (HB.out.trans (hb2.mono HB.out.size))
  clear hb2
  have s0 := HK.out.cell 0 _ rfl
  have s1 := HK.out.cell 1 _ rfl
  have s2 := HK.out.cell 2 _ rfl
  have o0 := HL.out.cell 0 _ rfl
  have o1 := HL.out.cell 1 _ rfl
  have o2 := HL.out.cell 2 _ rfl
  go_wp2_with fail
  clear s0 s1 s2 o0 o1 o2
  go_ret
  exact ⟨rfl, HB.out⟩

theorem open_BytecodeR {H : Type} {enc : TypeId × Value → H} {w : World} {base : Nat} {spare : Nat → Bool} {held : Bool} {n : Nat} {cs : List Value} {x : DataW H × List MemPlace} (h : DataW.trod enc Tryz.prog w base spare held n 26 cs = some x) : ∃ d, BytecodeR w cs d := by
  obtain ⟨hlen, n', hn, hg⟩ := open_field Tryz.underlying26 h
  match cs, hlen.trans (show Tryz.prog.cellsOf 26 = 3 by kernel_rfl) with
  | [c0, c1, c2], _ =>
    obtain ⟨y0, g0⟩ := hg 0 _ rfl
    rw [show List.take (Tryz.prog.cellsOf _) (List.drop _ [c0, c1, c2]) = [c0] by simp [cells_slice_Segment]] at g0
    obtain ⟨a0, d0, e0, r0⟩ := open_slr Tryz.underlying22 (show Tryz.prog.cellsOf 73 = 3 by kernel_rfl) (by decide) (SegmentR w) (fun _ _ _ _ _ h => open_SegmentR h) g0
    obtain ⟨y1, g1⟩ := hg 1 _ rfl
    rw [show List.take (Tryz.prog.cellsOf _) (List.drop _ [c0, c1, c2]) = [c1] by simp [cells_slice_int]] at g1
    obtain ⟨a1, d1, e1, r1⟩ := open_slr Tryz.underlying23 cells_int (by decide) IntR (fun _ _ _ _ _ h => open_i64 Tryz.underlying3 h) g1
    obtain ⟨y2, g2⟩ := hg 2 _ rfl
    rw [show List.take (Tryz.prog.cellsOf _) (List.drop _ [c0, c1, c2]) = [c2] by simp [cells_slice_bool]] at g2
    obtain ⟨a2, d2, e2, r2⟩ := open_slr Tryz.underlying24 cells_bool (by decide) BoolR (fun _ _ _ _ _ h => open_boo Tryz.underlying4 h) g2
    simp only [List.cons.injEq, and_true] at e0
    subst e0
    simp only [List.cons.injEq, and_true] at e1
    subst e1
    simp only [List.cons.injEq, and_true] at e2
    subst e2
    exact ⟨⟨d0, d1, d2⟩, _, _, _, rfl, r0, r1, r2⟩

theorem open_bytecode {H : Type} {enc : TypeId × Value → H} {w : World} {base : Nat} {spare : Nat → Bool} {held : Bool} {v : Value} {d : DataW H} {p : List MemPlace} {r : Reach} {b0 : Nat} (hv : Value.okWide Tryz.prog w r b0 26 v) (h : DataW.Trod enc Tryz.prog w base spare held 26 v d p) : ∃ x : List Value × CodeD, v = .agg x.1.toArray ∧ BytecodeR w x.1 x.2 := by
  obtain ⟨cs, rfl, _⟩ := okWide_struct Tryz.underlying26 hv
  obtain ⟨fuel, hf⟩ := h
  obtain ⟨d, hd⟩ := open_BytecodeR hf
  exact ⟨(cs.toList, d), by simp, by simpa [Value.cells] using hd⟩

end Go.Proofs.YtjdfancbmjnjfaaGreat
