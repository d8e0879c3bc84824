/-
  Segment: what values of this type read as; contracts of the laws' helpers on them (written by wip/gen/gen3.py).
-/
import Derived.Test.YtjdfancbmjnjfaaGreatGInstr
namespace Go.Proofs.YtjdfancbmjnjfaaGreat
set_option maxRecDepth 100000
open Go.ChangeShapes Go.WideShapes Go.ChangeAt Go.RowKit Go.Deep

structure SegD where
  labels : List (List UInt8)
  defaults : List Int
  instrs : List InstrD

/-- the cells of a Segment -/
def SegmentR (w : World) (cs : List Value) (d : SegD) : Prop :=
  ∃ v0 v1 v2, cs = [v0, v1, v2] ∧ Txts w v0 d.labels ∧ Ints w v1 d.defaults ∧ Instrs w v2 d.instrs
theorem SegmentR.below {w w' : World} {cs : List Value} {d : SegD} (h : SegmentR w cs d) (hb : Below w.heap.size w w') : SegmentR w' cs d := by
  obtain ⟨v0, v1, v2, rfl, h0, h1, h2⟩ := h
  exact ⟨v0, v1, v2, rfl, h0.below hb, h1.below hb, h2.below hb⟩
theorem SegmentR.shape {w : World} {cs : List Value} {d : SegD} (h : SegmentR w cs d) : ∃ v0 v1 v2, cs = [v0, v1, v2] := by
  obtain ⟨v0, v1, v2, rfl, _⟩ := h
  exact ⟨v0, v1, v2, rfl⟩
theorem SegmentR.length {w : World} {cs : List Value} {d : SegD} (h : SegmentR w cs d) : cs.length = 3 := by
  obtain ⟨v0, v1, v2, rfl, _⟩ := h
  rfl
/-- the cells of a Segment whose slices lie in blocks of its own, in S -/
def SegmentO (S : Nat → Prop) (w : World) (cs : List Value) (d : SegD) : Prop :=
  ∃ (A0 : Option Addr) (c0 : Nat) (A1 : Option Addr) (c1 : Nat) (A2 : Option Addr) (c2 : Nat), ∃ f : Nat → Nat, cs = [.slice A0 d.labels.length c0, .slice A1 d.defaults.length c1, .slice A2 d.instrs.length c2] ∧ TxtO (fun b => S b ∧ f b = 0) w (.slice A0 d.labels.length c0) d.labels ∧ IntO (fun b => S b ∧ f b = 1) w (.slice A1 d.defaults.length c1) d.defaults ∧ InstrsO (fun b => S b ∧ f b = 2) w (.slice A2 d.instrs.length c2) d.instrs
theorem SegmentO.read {S : Nat → Prop} {w : World} {cs : List Value} {d : SegD} (h : SegmentO S w cs d) : SegmentR w cs d := by
  obtain ⟨A0, c0, A1, c1, A2, c2, f, rfl, h0, h1, h2⟩ := h
  exact ⟨_, _, _, rfl, h0.read, h1.read, h2.read⟩
theorem SegmentO.keeps {S : Nat → Prop} {w w' : World} {cs : List Value} {d : SegD} (h : SegmentO S w cs d) (hk : Keeps S w w') : SegmentO S w' cs d := by
  obtain ⟨A0, c0, A1, c1, A2, c2, f, rfl, h0, h1, h2⟩ := h
  exact ⟨A0, c0, A1, c1, A2, c2, f, rfl, h0.keeps (hk.mono fun _ h => h.1), h1.keeps (hk.mono fun _ h => h.1), h2.keeps (hk.mono fun _ h => h.1)⟩
theorem SegmentO.mono {S S' : Nat → Prop} {w : World} {cs : List Value} {d : SegD} (h : SegmentO S w cs d) (hs : ∀ b, S b → S' b) : SegmentO S' w cs d := by
  obtain ⟨A0, c0, A1, c1, A2, c2, f, rfl, h0, h1, h2⟩ := h
  exact ⟨A0, c0, A1, c1, A2, c2, f, rfl, h0.mono (fun b h => ⟨hs b h.1, h.2⟩), h1.mono (fun b h => ⟨hs b h.1, h.2⟩), h2.mono (fun b h => ⟨hs b h.1, h.2⟩)⟩
theorem SegmentO.shape {S : Nat → Prop} {w : World} {cs : List Value} {d : SegD} (h : SegmentO S w cs d) : ∃ (A0 : Option Addr) (c0 : Nat) (A1 : Option Addr) (c1 : Nat) (A2 : Option Addr) (c2 : Nat), cs = [.slice A0 d.labels.length c0, .slice A1 d.defaults.length c1, .slice A2 d.instrs.length c2] := by
  obtain ⟨A0, c0, A1, c1, A2, c2, f, rfl, _⟩ := h
  exact ⟨A0, c0, A1, c1, A2, c2, rfl⟩
theorem SegmentO.length {S : Nat → Prop} {w : World} {cs : List Value} {d : SegD} (h : SegmentO S w cs d) : cs.length = 3 := by
  obtain ⟨A0, c0, A1, c1, A2, c2, f, rfl, _⟩ := h
  rfl

def szSegment (d : SegD) : Nat := szL d.labels + List.length d.defaults + szS szInstr d.instrs

set_option maxHeartbeats 1000000 in
theorem laws_szSegment (d : SegD) (cs : List Value) (left : Int) (w : World) (h : SegmentR w cs d) (h0 : 0 ≤ left) (h1 : left ≤ 1048576) :
    Calls Tryz.prog 48 #[.agg cs.toArray, .int .i64 left] w fun e w' => e = .returned (.int .i64 (szR left (szSegment d))) ∧ Below w.heap.size w w' := by
  obtain ⟨v0, v1, v2, rfl, q0, q1, q2⟩ := h
  have Q0 := Lib.hid q0
  clear q0
  have Q1 := Lib.hid q1
  clear q1
  have Q2 := Lib.hid q2
  clear q2
  have hE : szSegment d = szL d.labels + List.length d.defaults + szS szInstr d.instrs := rfl
  have HE := Lib.hid hE
  clear hE
  have HWB := Lib.hid (show Below w.heap.size w (w.alloc (.cells #[v0, v1, v2] 73)) from (Below.refl _ _).alloc (Nat.le_refl _) _)
  have HWK := Lib.hid (Blk.new w 73 [v0, v1, v2])
  go_enter Tryz.func48, Tryz.ntmps48
  go_wp2_with fail
  refine abs_w (fun W => Blk W w.heap.size 73 [v0, v1, v2] ∧ Below w.heap.size w W) ⟨by exact HWK.out, by exact HWB.out⟩ ?_
  clear HWK HWB
  rintro W0 ⟨hK0, hB0⟩
  have HWK := Lib.hid hK0
  have HWB := Lib.hid hB0
  clear hK0 hB0
  refine (laws_szStringS_b d.labels v0 (left) _ (Q0.out.below HWB.out) (by omega) (by omega)).mono ?_
  rintro e w0 ⟨rfl, hb0⟩
  replace HWK := Lib.hid (HWK.out.below hb0)
  replace HWB := Lib.hid (HWB.out.trans (hb0.mono HWB.out.size))
  clear hb0
  by_cases hz0 : ((szL d.labels : Nat) : Int) ≤ left
  rotate_left
  · rw [szR_neg hz0]
    go_wp2_with fail
    go_ret
    exact ⟨ret_int (by have h9 := HE.out; rw [szR_neg (by omega)]), by exact HWB.out⟩
  rw [szR_pos hz0]
  have x0 := HWK.out.cell 0 _ rfl
  have x1 := HWK.out.cell 1 _ rfl
  have x2 := HWK.out.cell 2 _ rfl
  go_wp2_with fail
  clear x0 x1 x2
  refine (laws_szIntS d.defaults v1 (left - ((szL d.labels : Nat) : Int)) _ (Q1.out.below HWB.out) (by omega) (by omega)).mono ?_
  rintro e w1 ⟨rfl, hb1⟩
  replace HWK := Lib.hid (HWK.out.below hb1)
  replace HWB := Lib.hid (HWB.out.trans (hb1.mono HWB.out.size))
  clear hb1
  by_cases hz1 : ((List.length d.defaults : Nat) : Int) ≤ left - ((szL d.labels : Nat) : Int)
  rotate_left
  · rw [szR_neg hz1]
    go_wp2_with fail
    go_ret
    exact ⟨ret_int (by have h9 := HE.out; rw [szR_neg (by omega)]), by exact HWB.out⟩
  rw [szR_pos hz1]
  have x0 := HWK.out.cell 0 _ rfl
  have x1 := HWK.out.cell 1 _ rfl
  have x2 := HWK.out.cell 2 _ rfl
  go_wp2_with fail
  clear x0 x1 x2
  refine (laws_szInstrS d.instrs v2 (left - ((szL d.labels : Nat) : Int) - ((List.length d.defaults : Nat) : Int)) _ (Q2.out.below HWB.out) (by omega) (by omega)).mono ?_
  rintro e w2 ⟨rfl, hb2⟩
  replace HWK := Lib.hid (HWK.out.below hb2)
  replace HWB := Lib.hid (HWB.out.trans (hb2.mono HWB.out.size))
  clear hb2
  by_cases hz2 : ((szS szInstr d.instrs : Nat) : Int) ≤ left - ((szL d.labels : Nat) : Int) - ((List.length d.defaults : Nat) : Int)
  rotate_left
  · rw [szR_neg hz2]
    go_wp2_with fail
    go_ret
    exact ⟨ret_int (by have h9 := HE.out; rw [szR_neg (by omega)]), by exact HWB.out⟩
  rw [szR_pos hz2]
  have x0 := HWK.out.cell 0 _ rfl
  have x1 := HWK.out.cell 1 _ rfl
  have x2 := HWK.out.cell 2 _ rfl
  go_wp2_with fail
  go_ret
  exact ⟨ret_int (by have h9 := HE.out; rw [szR_pos (by omega)]; omega), by exact HWB.out⟩

def RetSegment (w : World) (d : SegD) (e : Ending) (w' : World) : Prop := ∃ cs, e = .returned (.agg cs.toArray) ∧ SegmentO (Rng w.heap.size w'.heap.size) w' cs d ∧ Below w.heap.size w w'
set_option maxHeartbeats 4000000 in
theorem laws_toSegment (d : SegD) (cs : List Value) (w : World) (h : SegmentR w cs d) (hz : szSegment d ≤ 1048576) :
    Calls Tryz.prog 54 #[.agg cs.toArray] w (RetSegment w d) := by
  obtain ⟨v0, v1, v2, rfl, q0, q1, q2⟩ := h
  have QQ := Lib.hid trivial
  have Q0 := Lib.hid q0
  clear q0
  have Q1 := Lib.hid q1
  clear q1
  have Q2 := Lib.hid q2
  clear q2
  unfold szSegment at hz
  go_enter Tryz.func54, Tryz.ntmps54
  go_wp2_with fail
  refine abs_w (fun W => Blk W w.heap.size 73 [v0, v1, v2] ∧ Blk W (w.heap.size + 1) 49 [.slice none 0 0, .slice none 0 0, .slice none 0 0] ∧ Blk W (w.heap.size + 1 + 1) 49 [.slice none 0 0, .slice none 0 0, .slice none 0 0] ∧ w.heap.size + 3 ≤ W.heap.size ∧ Below w.heap.size w W) ⟨by exact ((Blk.new _ _ _).alloc _).alloc _, by exact (Blk.new_at _ _ _ _ (by simp)).alloc _, by exact Blk.new_at _ _ _ _ (by simp), by simp, by exact (((Below.refl _ _).alloc (Nat.le_refl _) _).alloc (by simp) _).alloc (by simp; omega) _⟩ ?_
  rintro W0 ⟨hS1, hR1, hO1, hN0, hB1⟩
  refine (laws_toStringS_own d.labels v0 _ (Q0.out.below hB1) (by omega)).mono ?_
  rintro e w0 ⟨A0, c0, rfl, o1, hb1⟩
  have HS := Lib.hid (hS1.below hb1)
  have HR := Lib.hid (hR1.below hb1)
  have HO := Lib.hid (hO1.below hb1)
  have HB := Lib.hid (hB1.trans (hb1.mono hB1.size))
  have hM0 : W0.heap.size ≤ w0.heap.size := hb1.size
  have O0 := Lib.hid o1
  clear hS1 hR1 hO1 hB1 hb1 o1 
  have s0 := HS.out.cell 0 _ rfl
  have s1 := HS.out.cell 1 _ rfl
  have s2 := HS.out.cell 2 _ rfl
  have o0 := HO.out.cell 0 _ rfl
  have o1 := HO.out.cell 1 _ rfl
  have o2 := HO.out.cell 2 _ rfl
  have fz := HO.out.frozen
  go_wp2_with fail
  clear s0 s1 s2 o0 o1 o2 fz
  refine abs_w (fun W => Blk W w.heap.size 73 [v0, v1, v2] ∧ Blk W (w.heap.size + 1) 49 [.slice none 0 0, .slice none 0 0, .slice none 0 0] ∧ Blk W (w.heap.size + 1 + 1) 49 [.slice A0 d.labels.length c0, .slice none 0 0, .slice none 0 0] ∧ w0.heap.size ≤ W.heap.size ∧ Below w.heap.size w W ∧ TxtO (Rng W0.heap.size w0.heap.size) W (.slice A0 d.labels.length c0) d.labels) ⟨by exact (HS.out.far _ (by simp; omega) _), by exact (HR.out.far _ (by simp) _), by exact (HO.out.set_ 0 _), by simp [World.setCell], by exact (below_sc HB.out (by omega) _), by exact O0.out.keeps ((Keeps.refl _ _).sc (fun h => by have := h.1; omega) _)⟩ ?_
  clear HS HR HO HB O0
  rintro W1 ⟨hS1, hR1, hO1, hN1, hB1, hP0⟩
  refine (laws_toIntS_own d.defaults v1 _ (Q1.out.below hB1) (by omega)).mono ?_
  rintro e w1 ⟨A1, c1, rfl, o1, hb1⟩
  have HS := Lib.hid (hS1.below hb1)
  have HR := Lib.hid (hR1.below hb1)
  have HO := Lib.hid (hO1.below hb1)
  have HB := Lib.hid (hB1.trans (hb1.mono hB1.size))
  have hM1 : W1.heap.size ≤ w1.heap.size := hb1.size
  have O1 := Lib.hid o1
  have O0 := Lib.hid (hP0.keeps (Keeps.of_below _ hb1))
  clear hS1 hR1 hO1 hB1 hb1 o1 hP0
  have s0 := HS.out.cell 0 _ rfl
  have s1 := HS.out.cell 1 _ rfl
  have s2 := HS.out.cell 2 _ rfl
  have o0 := HO.out.cell 0 _ rfl
  have o1 := HO.out.cell 1 _ rfl
  have o2 := HO.out.cell 2 _ rfl
  have fz := HO.out.frozen
  go_wp2_with fail
  clear s0 s1 s2 o0 o1 o2 fz
  refine abs_w (fun W => Blk W w.heap.size 73 [v0, v1, v2] ∧ Blk W (w.heap.size + 1) 49 [.slice none 0 0, .slice none 0 0, .slice none 0 0] ∧ Blk W (w.heap.size + 1 + 1) 49 [.slice A0 d.labels.length c0, .slice A1 d.defaults.length c1, .slice none 0 0] ∧ w1.heap.size ≤ W.heap.size ∧ Below w.heap.size w W ∧ TxtO (Rng W0.heap.size w0.heap.size) W (.slice A0 d.labels.length c0) d.labels ∧ IntO (Rng W1.heap.size w1.heap.size) W (.slice A1 d.defaults.length c1) d.defaults) ⟨by exact (HS.out.far _ (by simp; omega) _), by exact (HR.out.far _ (by simp) _), by exact (HO.out.set_ 1 _), by simp [World.setCell], by exact (below_sc HB.out (by omega) _), by exact O0.out.keeps ((Keeps.refl _ _).sc (fun h => by have := h.1; omega) _), by exact O1.out.keeps ((Keeps.refl _ _).sc (fun h => by have := h.1; omega) _)⟩ ?_
  clear HS HR HO HB O0 O1
  rintro W2 ⟨hS1, hR1, hO1, hN2, hB1, hP0, hP1⟩
  refine (laws_toInstrS d.instrs v2 _ (Q2.out.below hB1) (by omega)).mono ?_
  rintro e w2 ⟨A2, c2, rfl, o1, hb1⟩
  have HS := Lib.hid (hS1.below hb1)
  have HR := Lib.hid (hR1.below hb1)
  have HO := Lib.hid (hO1.below hb1)
  have HB := Lib.hid (hB1.trans (hb1.mono hB1.size))
  have hM2 : W2.heap.size ≤ w2.heap.size := hb1.size
  have O2 := Lib.hid o1
  have O0 := Lib.hid (hP0.keeps (Keeps.of_below _ hb1))
  have O1 := Lib.hid (hP1.keeps (Keeps.of_below _ hb1))
  clear hS1 hR1 hO1 hB1 hb1 o1 hP0 hP1
  have s0 := HS.out.cell 0 _ rfl
  have s1 := HS.out.cell 1 _ rfl
  have s2 := HS.out.cell 2 _ rfl
  have o0 := HO.out.cell 0 _ rfl
  have o1 := HO.out.cell 1 _ rfl
  have o2 := HO.out.cell 2 _ rfl
  have fz := HO.out.frozen
  have r0 := HR.out.cell 0 _ rfl
  have r1 := HR.out.cell 1 _ rfl
  have r2 := HR.out.cell 2 _ rfl
  have fr := HR.out.frozen
  go_wp2_with fail
  refine bodyPost_ret (v := .agg #[.slice A0 d.labels.length c0, .slice A1 d.defaults.length c1, .slice A2 d.instrs.length c2]) (by simp [results, Tryz.results54, go_sem, r0, r1, r2]) rfl ?_
  clear s0 s1 s2 o0 o1 o2 r0 r1 r2 fz fr
  have bm1 : w.heap.size ≤ w.heap.size + 1 := by omega
  have bm2 : w.heap.size ≤ w.heap.size + 1 + 1 := by omega
  refine ⟨_, rfl, ⟨A0, c0, A1, c1, A2, c2, fun b => if b < w0.heap.size then 0 else if b < w1.heap.size then 1 else 2, rfl, ?_, ?_, ?_⟩, (below_sc (below_sc (below_sc (below_sc HB.out bm2 _) bm1 _) bm1 _) bm1 _)⟩
  · have m1x : ¬ Rng W0.heap.size w0.heap.size (w.heap.size + 1) := fun h => by have := h.1; omega
    have m2x : ¬ Rng W0.heap.size w0.heap.size (w.heap.size + 1 + 1) := fun h => by have := h.1; omega
    refine (O0.out.keeps (((((Keeps.refl _ _).sc m2x _).sc m1x _).sc m1x _).sc m1x _)).mono (fun b hb => ?_)
    obtain ⟨x1, x2⟩ := hb
    refine ⟨⟨by omega, by simp only [size_sc]; omega⟩, ?_⟩
    dsimp only
    repeat (first | rfl | rw [if_pos (by omega)] | rw [if_neg (by omega)])
  · have m1x : ¬ Rng W1.heap.size w1.heap.size (w.heap.size + 1) := fun h => by have := h.1; omega
    have m2x : ¬ Rng W1.heap.size w1.heap.size (w.heap.size + 1 + 1) := fun h => by have := h.1; omega
    refine (O1.out.keeps (((((Keeps.refl _ _).sc m2x _).sc m1x _).sc m1x _).sc m1x _)).mono (fun b hb => ?_)
    obtain ⟨x1, x2⟩ := hb
    refine ⟨⟨by omega, by simp only [size_sc]; omega⟩, ?_⟩
    dsimp only
    repeat (first | rfl | rw [if_pos (by omega)] | rw [if_neg (by omega)])
  · have m1x : ¬ Rng W2.heap.size w2.heap.size (w.heap.size + 1) := fun h => by have := h.1; omega
    have m2x : ¬ Rng W2.heap.size w2.heap.size (w.heap.size + 1 + 1) := fun h => by have := h.1; omega
    refine (O2.out.keeps (((((Keeps.refl _ _).sc m2x _).sc m1x _).sc m1x _).sc m1x _)).mono (fun b hb => ?_)
    obtain ⟨x1, x2⟩ := hb
    refine ⟨⟨by omega, by simp only [size_sc]; omega⟩, ?_⟩
    dsimp only
    repeat (first | rfl | rw [if_pos (by omega)] | rw [if_neg (by omega)])

set_option maxHeartbeats 1000000 in
theorem laws_eqSegment_same (d : SegD) (cs cs' : List Value) (w : World) (h : SegmentR w cs d) (h' : SegmentR w cs' d) :
    Calls Tryz.prog 63 #[.agg cs.toArray, .agg cs'.toArray] w fun e w' => e = .returned (.bool true) ∧ Below w.heap.size w w' := by
  obtain ⟨v0, v1, v2, rfl, q0, q1, q2⟩ := h
  obtain ⟨u0, u1, u2, rfl, p0, p1, p2⟩ := h'
  have Q0 := Lib.hid q0
  have P0 := Lib.hid p0
  clear q0 p0
  have Q1 := Lib.hid q1
  have P1 := Lib.hid p1
  clear q1 p1
  have Q2 := Lib.hid q2
  have P2 := Lib.hid p2
  clear q2 p2
  go_enter Tryz.func63, Tryz.ntmps63
  go_wp2_with fail
  refine abs_w (fun W => Blk W w.heap.size 49 [v0, v1, v2] ∧ Blk W (w.heap.size + 1) 49 [u0, u1, u2] ∧ Below w.heap.size w W) ⟨by exact (Blk.new _ _ _).alloc _, by exact Blk.new_at _ _ _ _ (by simp), by exact ((Below.refl _ _).alloc (Nat.le_refl _) _).alloc (by simp) _⟩ ?_
  rintro W0 ⟨hK0, hL0, hB0⟩
  have HK := Lib.hid hK0
  have HL := Lib.hid hL0
  have HB := Lib.hid hB0
  clear hK0 hL0 hB0
  refine (laws_eqStringS_same d.labels v0 u0 _ (Q0.out.below HB.out) (P0.out.below HB.out)).mono ?_
  rintro e w0 ⟨rfl, hb0⟩
  replace HK := Lib.hid (HK.out.below hb0)
  replace HL := Lib.hid (HL.out.below hb0)
  replace HB := Lib.hid (HB.out.trans (hb0.mono HB.out.size))
  clear hb0
  have s0 := HK.out.cell 0 _ rfl
  have s1 := HK.out.cell 1 _ rfl
  have s2 := HK.out.cell 2 _ rfl
  have o0 := HL.out.cell 0 _ rfl
  have o1 := HL.out.cell 1 _ rfl
  have o2 := HL.out.cell 2 _ rfl
  go_wp2_with fail
  clear s0 s1 s2 o0 o1 o2
  refine (laws_eqIntS_same d.defaults v1 u1 _ (Q1.out.below HB.out) (P1.out.below HB.out)).mono ?_
  rintro e w1 ⟨rfl, hb1⟩
  replace HK := Lib.hid (HK.out.below hb1)
  replace HL := Lib.hid (HL.out.below hb1)
  replace HB := Lib.hid (HB.out.trans (hb1.mono HB.out.size))
  clear hb1
  have s0 := HK.out.cell 0 _ rfl
  have s1 := HK.out.cell 1 _ rfl
  have s2 := HK.out.cell 2 _ rfl
  have o0 := HL.out.cell 0 _ rfl
  have o1 := HL.out.cell 1 _ rfl
  have o2 := HL.out.cell 2 _ rfl
  go_wp2_with fail
  clear s0 s1 s2 o0 o1 o2
  refine (laws_eqInstrS_same d.instrs v2 u2 _ (Q2.out.below HB.out) (P2.out.below HB.out)).mono ?_
  rintro e w2 ⟨rfl, hb2⟩
  replace HK := Lib.hid (HK.out.below hb2)
  replace HL := Lib.hid (HL.out.below hb2)
  replace HB := Lib.hid (HB.out.trans (hb2.mono HB.out.size))
  clear hb2
  have s0 := HK.out.cell 0 _ rfl
  have s1 := HK.out.cell 1 _ rfl
  have s2 := HK.out.cell 2 _ rfl
  have o0 := HL.out.cell 0 _ rfl
  have o1 := HL.out.cell 1 _ rfl
  have o2 := HL.out.cell 2 _ rfl
  go_wp2_with fail
  clear s0 s1 s2 o0 o1 o2
  go_ret
  exact ⟨rfl, HB.out⟩

theorem open_SegmentR {H : Type} {enc : TypeId × Value → H} {w : World} {base : Nat} {spare : Nat → Bool} {held : Bool} {n : Nat} {cs : List Value} {x : DataW H × List MemPlace} (h : DataW.trod enc Tryz.prog w base spare held n 73 cs = some x) : ∃ d, SegmentR w cs d := by
  obtain ⟨hlen, n', hn, hg⟩ := open_field Tryz.underlying73 h
  match cs, hlen.trans (show Tryz.prog.cellsOf 73 = 3 by kernel_rfl) with
  | [c0, c1, c2], _ =>
    obtain ⟨y0, g0⟩ := hg 0 _ rfl
    rw [show List.take (Tryz.prog.cellsOf _) (List.drop _ [c0, c1, c2]) = [c0] by simp [cells_slice_string]] at g0
    obtain ⟨a0, d0, e0, r0⟩ := open_slr Tryz.underlying46 cells_string (by decide) StrR (fun _ _ _ _ _ h => open_str Tryz.underlying9 h) g0
    obtain ⟨y1, g1⟩ := hg 1 _ rfl
    rw [show List.take (Tryz.prog.cellsOf _) (List.drop _ [c0, c1, c2]) = [c1] by simp [cells_slice_int]] at g1
    obtain ⟨a1, d1, e1, r1⟩ := open_slr Tryz.underlying23 cells_int (by decide) IntR (fun _ _ _ _ _ h => open_i64 Tryz.underlying3 h) g1
    obtain ⟨y2, g2⟩ := hg 2 _ rfl
    rw [show List.take (Tryz.prog.cellsOf _) (List.drop _ [c0, c1, c2]) = [c2] by simp [cells_slice_Instr]] at g2
    obtain ⟨a2, d2, e2, r2⟩ := open_slr Tryz.underlying71 (show Tryz.prog.cellsOf 113 = 13 by kernel_rfl) (by decide) (InstrR w) (fun _ _ _ _ _ h => open_InstrR h) g2
    simp only [List.cons.injEq, and_true] at e0
    subst e0
    simp only [List.cons.injEq, and_true] at e1
    subst e1
    simp only [List.cons.injEq, and_true] at e2
    subst e2
    exact ⟨⟨d0, d1, d2⟩, _, _, _, rfl, r0, r1, r2⟩

theorem open_segment {H : Type} {enc : TypeId × Value → H} {w : World} {base : Nat} {spare : Nat → Bool} {held : Bool} {v : Value} {d : DataW H} {p : List MemPlace} {r : Reach} {b0 : Nat} (hv : Value.okWide Tryz.prog w r b0 73 v) (h : DataW.Trod enc Tryz.prog w base spare held 73 v d p) : ∃ x : List Value × SegD, v = .agg x.1.toArray ∧ SegmentR w x.1 x.2 := by
  obtain ⟨cs, rfl, _⟩ := okWide_struct Tryz.underlying73 hv
  obtain ⟨fuel, hf⟩ := h
  obtain ⟨d, hd⟩ := open_SegmentR hf
  exact ⟨(cs.toList, d), by simp, by simpa [Value.cells] using hd⟩

def Segments (w : World) (v : Value) (l : List SegD) : Prop := SlR w 3 (SegmentR w) v l
theorem Segments.below {w w' : World} {v : Value} {l : List SegD} (h : Segments w v l) (hb : Below w.heap.size w w') : Segments w' v l := SlR.below h hb (fun _ _ h => h.below hb)
def SegmentsO (S : Nat → Prop) (w : World) (v : Value) (l : List SegD) : Prop := SlO S w 49 3 SegmentO v l
theorem SegmentsO.read {S : Nat → Prop} {w : World} {v : Value} {l : List SegD} (h : SegmentsO S w v l) : Segments w v l := SlO.read (fun _ h => h.read) h
theorem SegmentsO.keeps {S : Nat → Prop} {w w' : World} {v : Value} {l : List SegD} (h : SegmentsO S w v l) (hk : Keeps S w w') : SegmentsO S w' v l := SlO.keeps (fun _ h k => h.keeps k) h hk
theorem SegmentsO.mono {S S' : Nat → Prop} {w : World} {v : Value} {l : List SegD} (h : SegmentsO S w v l) (hs : ∀ b, S b → S' b) : SegmentsO S' w v l := SlO.mono (fun _ h k => h.mono k) h hs
theorem cells_slice_Segment : Tryz.prog.cellsOf 22 = 1 := by kernel_rfl
theorem info_Segment : (Tryz.prog.info? 49).map (fun i => (i.zero, i.size, i.bytes)) = some (some (.agg #[.slice none 0 0, .slice none 0 0, .slice none 0 0]), 3, 72) := by kernel_rfl
set_option maxHeartbeats 1000000 in
theorem laws_szSegmentS (l : List SegD) (v : Value) (left : Int) (w : World) (h : Segments w v l) (h0 : 0 ≤ left) (h1 : left ≤ 1048576) :
    Calls Tryz.prog 17 #[v, .int .i64 left] w fun e w' => e = .returned (.int .i64 (szR left (szS szSegment l))) ∧ Below w.heap.size w w' := by
  obtain ⟨A, c, rfl, hlc, hm, HC⟩ := SlR.open_ h
  clear h
  unfold maxLen at hm
  by_cases hle : (l.length : Int) ≤ left
  · go_enter Tryz.func17, Tryz.ntmps17
    go_wp2_with fail
    go_loopw [1, 5] (fun x i wr => ∃ k : Nat, k ≤ l.length ∧ i = .int .i64 k ∧ ∃ y : Int, x = .int .i64 y ∧ 0 ≤ y ∧ y ≤ 1048576 ∧ Hid (y = left - l.length - (szS szSegment (l.take k) - k : Int)) ∧ Below w.heap.size w wr) (fun _ i _ => l.length - (intOf i).toNat)
    case atStart => exact ⟨0, Nat.zero_le _, rfl, _, rfl, by omega, by omega, by show _ = _; rw [szS_zero]; simp, Below.refl _ _⟩
    case round =>
      obtain ⟨k, hk, rfl, y, rfl, hy0, hy1, hy, hb⟩ := hrel
      by_cases hlt : k < l.length
      · obtain ⟨b, off, cs, rfl, hbl, _, hat, hr⟩ := HC.out k hlt
        have HRK := Lib.hid (hr.below hb)
        obtain ⟨v0, v1, v2, rfl⟩ := hr.shape
        have x0 := (hb.cell (p := ⟨b, off + k * 3, none⟩) hbl).trans (by simpa using hat 0 _ rfl)
        have x1 := (hb.cell (p := ⟨b, off + k * 3 + 1, none⟩) hbl).trans (hat 1 _ rfl)
        have x2 := (hb.cell (p := ⟨b, off + k * 3 + 2, none⟩) hbl).trans (hat 2 _ rfl)
        have HS := Lib.hid (szS_take_succ szSegment l k hlt)
        clear hat hr
        go_wp2_with fail
        refine (laws_szSegment l[k] _ y _ HRK.out hy0 hy1).mono ?_
        rintro e w1 ⟨rfl, hb1⟩
        have HB1 := Lib.hid (hb.trans (hb1.mono hb.size))
        clear hb1 x0 x1 x2
        by_cases hle2 : (szSegment l[k] : Int) ≤ y
        · rw [szR_pos hle2]
          go_wp2_with fail
          go_roundw
          case rel => exact ⟨k + 1, by omega, by go_num, _, rfl, by omega, by omega, by have := hy.out; have := HS.out; show _ = _; omega, HB1.out⟩
          case measure => simp [intOf]; omega
        · rw [szR_neg hle2]
          go_wp2_with fail
          go_ret
          refine ⟨ret_int ?_, HB1.out⟩
          have h9 := szS_take_le szSegment l (k + 1)
          rw [List.length_drop] at h9
          have := hy.out
          have := HS.out
          rw [szR_neg (by omega)]
      · obtain rfl : k = l.length := by omega
        rw [List.take_length] at hy
        go_wp2_with fail
        go_ret
        refine ⟨ret_int ?_, hb⟩
        have := hy.out
        rw [szR_pos (by omega)]
        omega
  · have h9 := szS_length szSegment l
    have HR := Lib.hid (szR_neg (left := left) (n := szS szSegment l) (by omega))
    go_enter Tryz.func17, Tryz.ntmps17
    go_wp2
    go_ret
    exact ⟨ret_int HR.out.symm, Below.refl _ _⟩

set_option maxHeartbeats 2000000 in
theorem laws_toSegmentS (l : List SegD) (v : Value) (w : World) (h : Segments w v l) (hz : szS szSegment l ≤ 1048576) :
    Calls Tryz.prog 24 #[v] w fun e w' => ∃ A c, e = .returned (.slice A l.length c) ∧ SegmentsO (Rng w.heap.size w'.heap.size) w' (.slice A l.length c) l ∧ Below w.heap.size w w' := by
  have hl := szS_length szSegment l
  obtain ⟨A, c, rfl, hlc, hm, HC⟩ := SlR.open_ h
  clear h
  unfold maxLen at hm
  have hmk := run_mk (P := Tryz.prog) w 29 49 _ 3 72 Tryz.underlying29 info_Segment l.length (by omega) (by omega)
  go_enter Tryz.func24, Tryz.ntmps24
  go_wp2
  clear hmk
  go_loopw [4] (fun i wr => ∃ k : Nat, k ≤ l.length ∧ i = .int .i64 k ∧ CopyO wr w.heap.size 49 3 l.length k (SegmentO) l ∧ Below w.heap.size w wr ∧ w.heap.size < wr.heap.size) (fun i _ => l.length - (intOf i).toNat)
  case atStart => exact ⟨0, Nat.zero_le _, rfl, CopyO.start _ _ _ _ _ _ _ (by simp [size_madeCells]), (Below.refl _ _).alloc (Nat.le_refl _) _, by simp⟩
  case round =>
    obtain ⟨k, hk, rfl, hf, hb, hgt⟩ := hrel
    by_cases hlt : k < l.length
    · obtain ⟨b, off, cs, rfl, hbl, _, hat, hr⟩ := HC.out k hlt
      have HRK := Lib.hid (hr.below hb)
      obtain ⟨v0, v1, v2, rfl⟩ := hr.shape
      have x0 := (hb.cell (p := ⟨b, off + k * 3, none⟩) hbl).trans (by simpa using hat 0 _ rfl)
      have x1 := (hb.cell (p := ⟨b, off + k * 3 + 1, none⟩) hbl).trans (hat 1 _ rfl)
      have x2 := (hb.cell (p := ⟨b, off + k * 3 + 2, none⟩) hbl).trans (hat 2 _ rfl)
      clear hat hr
      have hsk := szS_at szSegment l k hlt
      go_wp2_with fail
      refine (laws_toSegment l[k] _ _ HRK.out (by omega)).mono ?_
      rintro e w1 ⟨cs1, rfl, ho1, hb1⟩
      have HST := Lib.hid (CopyO.step (fun _ h k => h.keeps k) (fun _ h k => h.mono k) hf hb1 hlt hlt cs1 ho1.length ho1)
      have HB1 := Lib.hid (hb.trans (hb1.mono hb.size))
      have hg1 : w.heap.size < w1.heap.size := Nat.lt_of_lt_of_le hgt hb1.size
      obtain ⟨_, _, _, hfl, _⟩ := hf
      have hf1 := hfl.keep (hb1.block _ hfl.lt)
      obtain ⟨A0, c0, A1, c1, A2, c2, rfl⟩ := ho1.shape
      clear hb1 x0 x1 x2 hfl ho1
      obtain ⟨t0, ht0⟩ := hf1.cell (k * 3) (by omega)
      have hz0 := hf1.frozen (k * 3)
      obtain ⟨t1, ht1⟩ := hf1.cell (k * 3 + 1) (by omega)
      have hz1 := hf1.frozen (k * 3 + 1)
      obtain ⟨t2, ht2⟩ := hf1.cell (k * 3 + 2) (by omega)
      have hz2 := hf1.frozen (k * 3 + 2)
      have HF1 := Lib.hid hf1
      clear hf1
      go_wp2_with fail
      go_roundw
      case rel => exact ⟨k + 1, by omega, by go_num, by exact HST.out, by exact (below_sc (below_sc (below_sc HB1.out (Nat.le_refl _) _) (Nat.le_refl _) _) (Nat.le_refl _) _), by simp only [size_sc]; exact hg1⟩
      case measure => simp [intOf]; omega
    · obtain rfl : k = l.length := by omega
      have ho := Lib.hid (CopyO.own (fun _ h k => h.mono k) hf (by unfold maxLen; omega))
      clear hf
      go_wp2_with fail
      go_ret
      exact ⟨_, _, rfl, ho.out, hb⟩

set_option maxHeartbeats 1000000 in
theorem laws_eqSegmentS_same (l : List SegD) (v u : Value) (w : World) (h : Segments w v l) (h' : Segments w u l) :
    Calls Tryz.prog 30 #[v, u] w fun e w' => e = .returned (.bool true) ∧ Below w.heap.size w w' := by
  obtain ⟨A, c, rfl, hlc, hm, HC⟩ := SlR.open_ h
  obtain ⟨A', c', rfl, hlc', hm', HC'⟩ := SlR.open_ h'
  clear h h'
  unfold maxLen at hm hm'
  go_enter Tryz.func30, Tryz.ntmps30
  go_wp2
  go_loopw [5] (fun i wr => ∃ k : Nat, k ≤ l.length ∧ i = .int .i64 k ∧ Below w.heap.size w wr) (fun i _ => l.length - (intOf i).toNat)
  case atStart => exact ⟨0, Nat.zero_le _, rfl, Below.refl _ _⟩
  case round =>
    obtain ⟨k, hk, rfl, hb⟩ := hrel
    by_cases hlt : k < l.length
    · obtain ⟨b, off, cs, rfl, hbl, _, hat, hr⟩ := HC.out k hlt
      have HRK := Lib.hid (hr.below hb)
      obtain ⟨v0, v1, v2, rfl⟩ := hr.shape
      have x0 := (hb.cell (p := ⟨b, off + k * 3, none⟩) hbl).trans (by simpa using hat 0 _ rfl)
      have x1 := (hb.cell (p := ⟨b, off + k * 3 + 1, none⟩) hbl).trans (hat 1 _ rfl)
      have x2 := (hb.cell (p := ⟨b, off + k * 3 + 2, none⟩) hbl).trans (hat 2 _ rfl)
      clear hat hr
      obtain ⟨b', off', cs', rfl, hbl', _, hat, hr⟩ := HC'.out k hlt
      have HRL := Lib.hid (hr.below hb)
      obtain ⟨u0, u1, u2, rfl⟩ := hr.shape
      have y0 := (hb.cell (p := ⟨b', off' + k * 3, none⟩) hbl').trans (by simpa using hat 0 _ rfl)
      have y1 := (hb.cell (p := ⟨b', off' + k * 3 + 1, none⟩) hbl').trans (hat 1 _ rfl)
      have y2 := (hb.cell (p := ⟨b', off' + k * 3 + 2, none⟩) hbl').trans (hat 2 _ rfl)
      clear hat hr
      go_wp2_with fail
      go_still_tail 8, (by kernel_rfl)
      change wpList _ _ _ _ _ wr.drew
      have hb2 : Below w.heap.size w wr.drew := hb.drew
      replace HRK := Lib.hid (show SegmentR wr.drew _ _ from HRK.out.below (Below.drew (Below.refl _ _)))
      replace HRL := Lib.hid (show SegmentR wr.drew _ _ from HRL.out.below (Below.drew (Below.refl _ _)))
      generalize wr.drew = w2 at *
      go_wp2_with fail
      refine (laws_eqSegment_same l[k] _ _ _ HRK.out HRL.out).mono ?_
      rintro e w3 ⟨rfl, hb3⟩
      have HB3 := Lib.hid (hb2.trans (hb3.mono hb2.size))
      clear hb3
      go_wp2_with fail
      go_roundw
      case rel => exact ⟨k + 1, by omega, by go_num, HB3.out⟩
      case measure => simp [intOf]; omega
    · go_wp2_with fail
      go_ret
      exact ⟨rfl, hb⟩

end Go.Proofs.YtjdfancbmjnjfaaGreat
