/-
  The law FnExactEqualTranscripts returns true for every two transcripts.
-/
import Derived.Test.YtclcljibdhkkoaaTranscripts
import Derived.Deep.RegionHeld3
namespace Go.Proofs.Ytclcljibdhkkoaa
open Go.ChangeShapes Go.WideShapes Go.ChangeAt Go.RowKit Go.Deep
open Go.ChangeMaps (open_string shut_string)
set_option linter.unusedVariables false

namespace fnExactEqualTranscripts
set_option maxHeartbeats 4000000 in
theorem walk (v : Value) (x : List Value × TranD) {w : World} (h : v = .agg x.1.toArray ∧ TranscriptR w x.1 x.2) (u : Value) (y : List Value × TranD) (h2 : u = .agg y.1.toArray ∧ TranscriptR w y.1 y.2) :
    Calls Try.prog 8 #[v, u] w fun e w' => e = .returned (.bool true) ∧ Below w.heap.size w w' := by
  obtain ⟨cs, d⟩ := x
  obtain ⟨rfl, h⟩ := h
  obtain ⟨es, g⟩ := y
  obtain ⟨rfl, h2⟩ := h2
  dsimp only at h h2 ⊢
  obtain ⟨c0, c1, c2, c3, c4, rfl⟩ : ∃ c0 c1 c2 c3 c4, cs = [c0, c1, c2, c3, c4] := by
    have hl := h.length
    match cs, hl with
    | [c0, c1, c2, c3, c4], _ => exact ⟨_, _, _, _, _, rfl⟩
  obtain ⟨e0, e1, e2, e3, e4, rfl⟩ : ∃ e0 e1 e2 e3 e4, es = [e0, e1, e2, e3, e4] := by
    have hl := h2.length
    match es, hl with
    | [e0, e1, e2, e3, e4], _ => exact ⟨_, _, _, _, _, rfl⟩
  have HT := Lib.hid h
  have HU := Lib.hid h2
  clear h h2
  have HX0 := Lib.hid (show ExL w w.heap.size [(w.heap.size + 1, 44, [e0, e1, e2, e3, e4]), (w.heap.size, 44, [c0, c1, c2, c3, c4])] ((w.alloc (.cells #[c0, c1, c2, c3, c4] 44)).alloc (.cells #[e0, e1, e2, e3, e4] 44)) by
    have h9 := ((ExL.start w).push 44 [c0, c1, c2, c3, c4]).push 44 [e0, e1, e2, e3, e4]
    simpa using h9)
  by_cases hz : (szTranscript d : Int) ≤ 1048576
  rotate_left
  · have HZ := Lib.hid (szR_neg hz)
    go_enter Try.func8, Try.ntmps8
    go_wp2_with fail
    refine abs_w (fun W => ExL w w.heap.size [(w.heap.size + 1, 44, [e0, e1, e2, e3, e4]), (w.heap.size, 44, [c0, c1, c2, c3, c4])] W) (by exact HX0.out) ?_
    clear HX0
    rintro W0 hX
    have HX := Lib.hid hX
    clear hX
    refine (laws_szTranscript d _ 1048576 _ (HT.out.below HX.out.2.1) (by omega) (by omega)).mono ?_
    rintro e w1 ⟨rfl, hb⟩
    rw [HZ.out]
    replace HX := Lib.hid (HX.out.below hb)
    clear hb
    go_wp2_with fail
    go_ret
    exact ⟨rfl, HX.out.2.1⟩
  have HZ := Lib.hid (szR_pos hz)
  by_cases hz2 : (szTranscript g : Int) ≤ 1048576 - (szTranscript d : Int)
  rotate_left
  · have HZ2 := Lib.hid (szR_neg hz2)
    go_enter Try.func8, Try.ntmps8
    go_wp2_with fail
    refine abs_w (fun W => ExL w w.heap.size [(w.heap.size + 1, 44, [e0, e1, e2, e3, e4]), (w.heap.size, 44, [c0, c1, c2, c3, c4])] W) (by exact HX0.out) ?_
    clear HX0
    rintro W0 hX
    have HX := Lib.hid hX
    clear hX
    refine (laws_szTranscript d _ 1048576 _ (HT.out.below HX.out.2.1) (by omega) (by omega)).mono ?_
    rintro e w1 ⟨rfl, hb⟩
    rw [HZ.out]
    replace HX := Lib.hid (HX.out.below hb)
    clear hb
    have s0 := HX.out.tail.b0.cell 0 _ rfl
    have r0 := HX.out.b0.cell 0 _ rfl
    have s1 := HX.out.tail.b0.cell 1 _ rfl
    have r1 := HX.out.b0.cell 1 _ rfl
    have s2 := HX.out.tail.b0.cell 2 _ rfl
    have r2 := HX.out.b0.cell 2 _ rfl
    have s3 := HX.out.tail.b0.cell 3 _ rfl
    have r3 := HX.out.b0.cell 3 _ rfl
    have s4 := HX.out.tail.b0.cell 4 _ rfl
    have r4 := HX.out.b0.cell 4 _ rfl
    go_wp2_with fail
    clear s0 r0 s1 r1 s2 r2 s3 r3 s4 r4
    refine (laws_szTranscript g _ (1048576 - (szTranscript d : Int)) _ (HU.out.below HX.out.2.1) (by omega) (by omega)).mono ?_
    rintro e w1b ⟨rfl, hb⟩
    rw [HZ2.out]
    replace HX := Lib.hid (HX.out.below hb)
    clear hb
    go_wp2_with fail
    go_ret
    exact ⟨rfl, HX.out.2.1⟩
  have HZ2 := Lib.hid (szR_pos hz2)
  go_enter Try.func8, Try.ntmps8
  go_wp2_with fail
  refine abs_w (fun W => ExL w w.heap.size [(w.heap.size + 1, 44, [e0, e1, e2, e3, e4]), (w.heap.size, 44, [c0, c1, c2, c3, c4])] W) (by exact HX0.out) ?_
  clear HX0
  rintro W0 hX
  have HX := Lib.hid hX
  clear hX
  refine (laws_szTranscript d _ 1048576 _ (HT.out.below HX.out.2.1) (by omega) (by omega)).mono ?_
  rintro e w1 ⟨rfl, hb⟩
  rw [HZ.out]
  replace HX := Lib.hid (HX.out.below hb)
  clear hb
  have s0 := HX.out.tail.b0.cell 0 _ rfl
  have r0 := HX.out.b0.cell 0 _ rfl
  have s1 := HX.out.tail.b0.cell 1 _ rfl
  have r1 := HX.out.b0.cell 1 _ rfl
  have s2 := HX.out.tail.b0.cell 2 _ rfl
  have r2 := HX.out.b0.cell 2 _ rfl
  have s3 := HX.out.tail.b0.cell 3 _ rfl
  have r3 := HX.out.b0.cell 3 _ rfl
  have s4 := HX.out.tail.b0.cell 4 _ rfl
  have r4 := HX.out.b0.cell 4 _ rfl
  go_wp2_with fail
  clear s0 r0 s1 r1 s2 r2 s3 r3 s4 r4
  refine (laws_szTranscript g _ (1048576 - (szTranscript d : Int)) _ (HU.out.below HX.out.2.1) (by omega) (by omega)).mono ?_
  rintro e w1b ⟨rfl, hb⟩
  rw [HZ2.out]
  replace HX := Lib.hid (HX.out.below hb)
  clear hb
  go_wp2_with fail
  have s0 := HX.out.tail.b0.cell 0 _ rfl
  have r0 := HX.out.b0.cell 0 _ rfl
  have s1 := HX.out.tail.b0.cell 1 _ rfl
  have r1 := HX.out.b0.cell 1 _ rfl
  have s2 := HX.out.tail.b0.cell 2 _ rfl
  have r2 := HX.out.b0.cell 2 _ rfl
  have s3 := HX.out.tail.b0.cell 3 _ rfl
  have r3 := HX.out.b0.cell 3 _ rfl
  have s4 := HX.out.tail.b0.cell 4 _ rfl
  have r4 := HX.out.b0.cell 4 _ rfl
  have tok1 : True := trivial
  go_region_held3 (fun W => (W.cell? ⟨w.heap.size, 0, none⟩ = some c0 ∧ W.cell? ⟨w.heap.size, 1, none⟩ = some c1 ∧ W.cell? ⟨w.heap.size, 2, none⟩ = some c2 ∧ W.cell? ⟨w.heap.size, 3, none⟩ = some c3 ∧ W.cell? ⟨w.heap.size, 4, none⟩ = some c4 ∧ W.cell? ⟨w.heap.size + 1, 0, none⟩ = some e0 ∧ W.cell? ⟨w.heap.size + 1, 1, none⟩ = some e1 ∧ W.cell? ⟨w.heap.size + 1, 2, none⟩ = some e2 ∧ W.cell? ⟨w.heap.size + 1, 3, none⟩ = some e3 ∧ W.cell? ⟨w.heap.size + 1, 4, none⟩ = some e4))
    (first | exact ⟨s0, s1, s2, s3, s4, r0, r1, r2, r3, r4⟩ | exact ⟨HX2.out.tail.b0.cell 0 _ rfl, HX2.out.tail.b0.cell 1 _ rfl, HX2.out.tail.b0.cell 2 _ rfl, HX2.out.tail.b0.cell 3 _ rfl, HX2.out.tail.b0.cell 4 _ rfl, HX2.out.b0.cell 0 _ rfl, HX2.out.b0.cell 1 _ rfl, HX2.out.b0.cell 2 _ rfl, HX2.out.b0.cell 3 _ rfl, HX2.out.b0.cell 4 _ rfl⟩ | exact ⟨HX3.out.tail.b0.cell 0 _ rfl, HX3.out.tail.b0.cell 1 _ rfl, HX3.out.tail.b0.cell 2 _ rfl, HX3.out.tail.b0.cell 3 _ rfl, HX3.out.tail.b0.cell 4 _ rfl, HX3.out.b0.cell 0 _ rfl, HX3.out.b0.cell 1 _ rfl, HX3.out.b0.cell 2 _ rfl, HX3.out.b0.cell 3 _ rfl, HX3.out.b0.cell 4 _ rfl⟩ | exact ⟨HX4.out.tail.b0.cell 0 _ rfl, HX4.out.tail.b0.cell 1 _ rfl, HX4.out.tail.b0.cell 2 _ rfl, HX4.out.tail.b0.cell 3 _ rfl, HX4.out.tail.b0.cell 4 _ rfl, HX4.out.b0.cell 0 _ rfl, HX4.out.b0.cell 1 _ rfl, HX4.out.b0.cell 2 _ rfl, HX4.out.b0.cell 3 _ rfl, HX4.out.b0.cell 4 _ rfl⟩)
    (first | (go_at_call 31; have _t := tok1; refine (laws_toTranscript d _ _ (by exact HT.out.below HX.out.2.1.drew) (by omega)).mono ?_; rintro e w2 ⟨ca, rfl, oa, hb⟩; have HX2 := Lib.hid (HX.out.drew.below hb); have RA := Lib.hid oa.read; obtain ⟨aA1, ak1, aA2, ak2, f, rfl, _⟩ := oa; clear hb tok1) | (go_at_call 31; refine (laws_toTranscript g _ _ (by exact HU.out.below HX2.out.2.1) (by omega)).mono ?_; rintro e w3 ⟨cb, rfl, ob, hb⟩; have HX3 := Lib.hid (HX2.out.below hb); replace RA := Lib.hid (RA.out.below hb); have RB := Lib.hid ob.read; obtain ⟨bA1, bk1, bA2, bk2, fy, rfl, _⟩ := ob; clear hb) | (go_at_call 34; refine (spec_EqualTranscripts d g _ _ _ RA.out RB.out).mono ?_; rintro e w4 ⟨rfl, hb⟩; have HX4 := Lib.hid (HX3.out.below hb); clear hb))
  clear s0 r0 s1 r1 s2 r2 s3 r3 s4 r4
  clear HX HX2 HX3 RA RB
  have HX := HX4
  clear HX4
  have s0 := HX.out.tail.b0.cell 0 _ rfl
  have r0 := HX.out.b0.cell 0 _ rfl
  have s1 := HX.out.tail.b0.cell 1 _ rfl
  have r1 := HX.out.b0.cell 1 _ rfl
  have s2 := HX.out.tail.b0.cell 2 _ rfl
  have r2 := HX.out.b0.cell 2 _ rfl
  have s3 := HX.out.tail.b0.cell 3 _ rfl
  have r3 := HX.out.b0.cell 3 _ rfl
  have s4 := HX.out.tail.b0.cell 4 _ rfl
  have r4 := HX.out.b0.cell 4 _ rfl
  go_wp2_with fail
  clear s0 r0 s1 r1 s2 r2 s3 r3 s4 r4
  refine (laws_toTranscript d _ _ (HT.out.below HX.out.2.1) (by omega)).mono ?_
  rintro e w5 ⟨c, rfl, ox, hb⟩
  replace HX := Lib.hid (HX.out.below hb)
  clear hb
  have RX := Lib.hid ox.read
  obtain ⟨aA1, ak1, aA2, ak2, f, rfl, _⟩ := ox
  replace HX := Lib.hid (HX.out.push 47 [.int .i64 d.code, .slice aA1 d.lines.length ak1, .slice aA2 d.forced.length ak2, .int .i64 d.events, .int .i64 d.live])
  replace RX := Lib.hid (RX.out.below ((Below.refl _ _).alloc (Nat.le_refl _) (.cells #[.int .i64 d.code, .slice aA1 d.lines.length ak1, .slice aA2 d.forced.length ak2, .int .i64 d.events, .int .i64 d.live] 47)))
  have s0 := HX.out.tail.tail.b0.cell 0 _ rfl
  have r0 := HX.out.tail.b0.cell 0 _ rfl
  have s1 := HX.out.tail.tail.b0.cell 1 _ rfl
  have r1 := HX.out.tail.b0.cell 1 _ rfl
  have s2 := HX.out.tail.tail.b0.cell 2 _ rfl
  have r2 := HX.out.tail.b0.cell 2 _ rfl
  have s3 := HX.out.tail.tail.b0.cell 3 _ rfl
  have r3 := HX.out.tail.b0.cell 3 _ rfl
  have s4 := HX.out.tail.tail.b0.cell 4 _ rfl
  have r4 := HX.out.tail.b0.cell 4 _ rfl
  go_wp2_with fail
  clear s0 r0 s1 r1 s2 r2 s3 r3 s4 r4
  refine abs_w (fun W => ExL w w.heap.size [(w5.heap.size, 47, [.int .i64 d.code, .slice aA1 d.lines.length ak1, .slice aA2 d.forced.length ak2, .int .i64 d.events, .int .i64 d.live]), (w.heap.size + 1, 44, [e0, e1, e2, e3, e4]), (w.heap.size, 44, [c0, c1, c2, c3, c4])] W ∧ TranscriptR W [.int .i64 d.code, .slice aA1 d.lines.length ak1, .slice aA2 d.forced.length ak2, .int .i64 d.events, .int .i64 d.live] d) ⟨by exact HX.out, by exact RX.out⟩ ?_
  clear HX RX
  rintro WX ⟨hX, hR⟩
  have HX := Lib.hid hX
  have RX := Lib.hid hR
  clear hX hR
  refine (laws_toTranscript g _ _ (HU.out.below HX.out.2.1) (by omega)).mono ?_
  rintro e w6 ⟨c, rfl, ox, hb⟩
  replace HX := Lib.hid (HX.out.below hb)
  replace RX := Lib.hid (RX.out.below hb)
  clear hb
  have RY := Lib.hid ox.read
  obtain ⟨bA1, bk1, bA2, bk2, f, rfl, _⟩ := ox
  replace HX := Lib.hid (HX.out.push 47 [.int .i64 g.code, .slice bA1 g.lines.length bk1, .slice bA2 g.forced.length bk2, .int .i64 g.events, .int .i64 g.live])
  replace RY := Lib.hid (RY.out.below ((Below.refl _ _).alloc (Nat.le_refl _) (.cells #[.int .i64 g.code, .slice bA1 g.lines.length bk1, .slice bA2 g.forced.length bk2, .int .i64 g.events, .int .i64 g.live] 47)))
  replace RX := Lib.hid (RX.out.below ((Below.refl _ _).alloc (Nat.le_refl _) (.cells #[.int .i64 g.code, .slice bA1 g.lines.length bk1, .slice bA2 g.forced.length bk2, .int .i64 g.events, .int .i64 g.live] 47)))
  have x0 := HX.out.tail.b0
  have o0 := HX.out.tail.b0.cell 0 _ rfl
  have o1 := HX.out.tail.b0.cell 1 _ rfl
  have o2 := HX.out.tail.b0.cell 2 _ rfl
  have o3 := HX.out.tail.b0.cell 3 _ rfl
  have o4 := HX.out.tail.b0.cell 4 _ rfl
  clear x0
  go_wp2_with fail
  clear o0 o1 o2 o3 o4
  refine abs_w (fun W => ExL w w.heap.size [(w6.heap.size, 47, [.int .i64 g.code, .slice bA1 g.lines.length bk1, .slice bA2 g.forced.length bk2, .int .i64 g.events, .int .i64 g.live]), (w5.heap.size, 47, [.int .i64 d.code, .slice aA1 d.lines.length ak1, .slice aA2 d.forced.length ak2, .int .i64 d.events, .int .i64 d.live]), (w.heap.size + 1, 44, [e0, e1, e2, e3, e4]), (w.heap.size, 44, [c0, c1, c2, c3, c4])] W ∧ TranscriptR W [.int .i64 d.code, .slice aA1 d.lines.length ak1, .slice aA2 d.forced.length ak2, .int .i64 d.events, .int .i64 d.live] d ∧ TranscriptR W [.int .i64 g.code, .slice bA1 g.lines.length bk1, .slice bA2 g.forced.length bk2, .int .i64 g.events, .int .i64 g.live] g) ⟨by exact HX.out, by exact RX.out, by exact RY.out⟩ ?_
  clear HX RX RY
  rintro WY ⟨hX, hR, hR2⟩
  have HX := Lib.hid hX
  have RX := Lib.hid hR
  have RY := Lib.hid hR2
  clear hX hR hR2
  refine (impl_EqualTranscripts d g _ _ _ RX.out RY.out).mono ?_
  rintro e w7 ⟨rfl, hb⟩
  replace HX := Lib.hid (HX.out.below hb)
  replace RX := Lib.hid (RX.out.below hb)
  replace RY := Lib.hid (RY.out.below hb)
  clear hb
  go_wp2_with fail
  have s0 := HX.out.tail.tail.tail.b0.cell 0 _ rfl
  have o0 := HX.out.tail.b0.cell 0 _ rfl
  have s1 := HX.out.tail.tail.tail.b0.cell 1 _ rfl
  have o1 := HX.out.tail.b0.cell 1 _ rfl
  have s2 := HX.out.tail.tail.tail.b0.cell 2 _ rfl
  have o2 := HX.out.tail.b0.cell 2 _ rfl
  have s3 := HX.out.tail.tail.tail.b0.cell 3 _ rfl
  have o3 := HX.out.tail.b0.cell 3 _ rfl
  have s4 := HX.out.tail.tail.tail.b0.cell 4 _ rfl
  have o4 := HX.out.tail.b0.cell 4 _ rfl
  go_region_held3 (fun W => (W.cell? ⟨w.heap.size, 0, none⟩ = some (c0) ∧ W.cell? ⟨w.heap.size, 1, none⟩ = some (c1) ∧ W.cell? ⟨w.heap.size, 2, none⟩ = some (c2) ∧ W.cell? ⟨w.heap.size, 3, none⟩ = some (c3) ∧ W.cell? ⟨w.heap.size, 4, none⟩ = some (c4) ∧ W.cell? ⟨w5.heap.size, 0, none⟩ = some (.int .i64 d.code) ∧ W.cell? ⟨w5.heap.size, 1, none⟩ = some (.slice aA1 d.lines.length ak1) ∧ W.cell? ⟨w5.heap.size, 2, none⟩ = some (.slice aA2 d.forced.length ak2) ∧ W.cell? ⟨w5.heap.size, 3, none⟩ = some (.int .i64 d.events) ∧ W.cell? ⟨w5.heap.size, 4, none⟩ = some (.int .i64 d.live)))
    (first | exact ⟨s0, s1, s2, s3, s4, o0, o1, o2, o3, o4⟩ | exact ⟨HP8.out.tail.tail.tail.b0.cell 0 _ rfl, HP8.out.tail.tail.tail.b0.cell 1 _ rfl, HP8.out.tail.tail.tail.b0.cell 2 _ rfl, HP8.out.tail.tail.tail.b0.cell 3 _ rfl, HP8.out.tail.tail.tail.b0.cell 4 _ rfl, HP8.out.tail.b0.cell 0 _ rfl, HP8.out.tail.b0.cell 1 _ rfl, HP8.out.tail.b0.cell 2 _ rfl, HP8.out.tail.b0.cell 3 _ rfl, HP8.out.tail.b0.cell 4 _ rfl⟩ | exact ⟨HQ8.out.tail.tail.tail.b0.cell 0 _ rfl, HQ8.out.tail.tail.tail.b0.cell 1 _ rfl, HQ8.out.tail.tail.tail.b0.cell 2 _ rfl, HQ8.out.tail.tail.tail.b0.cell 3 _ rfl, HQ8.out.tail.tail.tail.b0.cell 4 _ rfl, HQ8.out.tail.b0.cell 0 _ rfl, HQ8.out.tail.b0.cell 1 _ rfl, HQ8.out.tail.b0.cell 2 _ rfl, HQ8.out.tail.b0.cell 3 _ rfl, HQ8.out.tail.b0.cell 4 _ rfl⟩)
    (first | (go_at_call 31; refine (laws_toTranscript d _ _ (by exact HT.out.below HX.out.2.1.drew) (by omega)).mono ?_; rintro e wp8 ⟨cq, rfl, oq, hb⟩; have HP8 := Lib.hid (HX.out.drew.below hb); have RP := Lib.hid ((RX.out.below (Below.drew (Below.refl _ _))).below hb); have RQ := Lib.hid oq.read; replace RY := Lib.hid ((RY.out.below (Below.drew (Below.refl _ _))).below hb); obtain ⟨q8A1, q8k1, q8A2, q8k2, fq, rfl, _⟩ := oq; clear hb) | (go_at_call 33; refine (laws_eqTranscript_same d _ _ _ RP.out RQ.out).mono ?_; rintro e wq8 ⟨rfl, hb⟩; have HQ8 := Lib.hid (HP8.out.below hb); replace RY := Lib.hid (RY.out.below hb); clear hb))
  clear s0 o0 s1 o1 s2 o2 s3 o3 s4 o4 RP RQ HX HP8
  have HX := HQ8
  clear HQ8
  go_wp2_with fail
  have s0 := HX.out.tail.tail.b0.cell 0 _ rfl
  have o0 := HX.out.b0.cell 0 _ rfl
  have s1 := HX.out.tail.tail.b0.cell 1 _ rfl
  have o1 := HX.out.b0.cell 1 _ rfl
  have s2 := HX.out.tail.tail.b0.cell 2 _ rfl
  have o2 := HX.out.b0.cell 2 _ rfl
  have s3 := HX.out.tail.tail.b0.cell 3 _ rfl
  have o3 := HX.out.b0.cell 3 _ rfl
  have s4 := HX.out.tail.tail.b0.cell 4 _ rfl
  have o4 := HX.out.b0.cell 4 _ rfl
  go_region_held3 (fun W => (W.cell? ⟨w.heap.size + 1, 0, none⟩ = some (e0) ∧ W.cell? ⟨w.heap.size + 1, 1, none⟩ = some (e1) ∧ W.cell? ⟨w.heap.size + 1, 2, none⟩ = some (e2) ∧ W.cell? ⟨w.heap.size + 1, 3, none⟩ = some (e3) ∧ W.cell? ⟨w.heap.size + 1, 4, none⟩ = some (e4) ∧ W.cell? ⟨w6.heap.size, 0, none⟩ = some (.int .i64 g.code) ∧ W.cell? ⟨w6.heap.size, 1, none⟩ = some (.slice bA1 g.lines.length bk1) ∧ W.cell? ⟨w6.heap.size, 2, none⟩ = some (.slice bA2 g.forced.length bk2) ∧ W.cell? ⟨w6.heap.size, 3, none⟩ = some (.int .i64 g.events) ∧ W.cell? ⟨w6.heap.size, 4, none⟩ = some (.int .i64 g.live)))
    (first | exact ⟨s0, s1, s2, s3, s4, o0, o1, o2, o3, o4⟩ | exact ⟨HP9.out.tail.tail.b0.cell 0 _ rfl, HP9.out.tail.tail.b0.cell 1 _ rfl, HP9.out.tail.tail.b0.cell 2 _ rfl, HP9.out.tail.tail.b0.cell 3 _ rfl, HP9.out.tail.tail.b0.cell 4 _ rfl, HP9.out.b0.cell 0 _ rfl, HP9.out.b0.cell 1 _ rfl, HP9.out.b0.cell 2 _ rfl, HP9.out.b0.cell 3 _ rfl, HP9.out.b0.cell 4 _ rfl⟩ | exact ⟨HQ9.out.tail.tail.b0.cell 0 _ rfl, HQ9.out.tail.tail.b0.cell 1 _ rfl, HQ9.out.tail.tail.b0.cell 2 _ rfl, HQ9.out.tail.tail.b0.cell 3 _ rfl, HQ9.out.tail.tail.b0.cell 4 _ rfl, HQ9.out.b0.cell 0 _ rfl, HQ9.out.b0.cell 1 _ rfl, HQ9.out.b0.cell 2 _ rfl, HQ9.out.b0.cell 3 _ rfl, HQ9.out.b0.cell 4 _ rfl⟩)
    (first | (go_at_call 31; refine (laws_toTranscript g _ _ (by exact HU.out.below HX.out.2.1.drew) (by omega)).mono ?_; rintro e wp9 ⟨cq, rfl, oq, hb⟩; have HP9 := Lib.hid (HX.out.drew.below hb); have RP := Lib.hid ((RY.out.below (Below.drew (Below.refl _ _))).below hb); have RQ := Lib.hid oq.read; replace RY := Lib.hid ((RY.out.below (Below.drew (Below.refl _ _))).below hb); obtain ⟨q9A1, q9k1, q9A2, q9k2, fq, rfl, _⟩ := oq; clear hb) | (go_at_call 33; refine (laws_eqTranscript_same g _ _ _ RP.out RQ.out).mono ?_; rintro e wq9 ⟨rfl, hb⟩; have HQ9 := Lib.hid (HP9.out.below hb); replace RY := Lib.hid (RY.out.below hb); clear hb))
  clear s0 o0 s1 o1 s2 o2 s3 o3 s4 o4 RP RQ HX HP9
  have HX := HQ9
  clear HQ9
  go_wp2_with fail
  go_ret
  exact ⟨rfl, HX.out.2.1⟩
set_option maxRecDepth 100000 in
theorem lifted (os : Os) (started : os.Started) (H : Type) (enc : TypeId × Value → H) :
    ReturnsInHanded {} Try.checked os 8 .any (Rows.fnExactEqualTranscriptsSpec.pre6 enc Try.prog Try.f8 Rows.fnExactEqualTranscriptsRow.domain false) (Rows.fnExactEqualTranscriptsSpec.post enc Try.prog Try.f8 false true false false) := by
  refine returnsInHanded_of_change (C := Try.checked) own started (by kernel_rfl) Try.func8
    (ChangeSpec.witness6 (enc := enc) (C := Try.checked) false ⟨#[], #[.agg #[.int .i64 0, .slice none 0 0, .slice none 0 0, .int .i64 0, .int .i64 0], .agg #[.int .i64 0, .slice none 0 0, .slice none 0 0, .int .i64 0, .int .i64 0]], []⟩ 8 (by kernel_rfl) (by kernel_rfl) (by kernel_rfl) (by kernel_rfl)) ?_
  intro W base args ds gs before hval0 hW hcnd _
  have hval : ∀ (j : Nat) t v, Try.f8.params[j]? = some t → args[j]? = some v → Value.okWide Try.prog W .any base t v := hval0
  have hW' := hW
  obtain ⟨p, q, hA0, hV, rfl, hfz, hnd⟩ := hW
  have hA : DataW.TrodAll enc Try.prog W 0 (fun _ => true) true Try.f8.params.toList args.toList ds p := hA0
  rw [Try.params8] at hA hval
  obtain ⟨v0, vs0, d0, ds0, p0, q0, hargs, rfl, rfl, h0, r0⟩ := trodAll_cons hA
  obtain ⟨v1, vs1, d1, ds1, p1, q1, rfl, rfl, rfl, h1, r1⟩ := trodAll_cons r0
  obtain ⟨rfl, rfl, rfl⟩ := trodAll_nil r1
  obtain rfl : args = #[v0, v1] := by cases args; simp_all
  obtain ⟨rfl, rfl⟩ := trodVars_none hV
  obtain ⟨x0, u0⟩ := open_transcript (hval 0 44 v0 rfl rfl) h0
  obtain ⟨x1, u1⟩ := open_transcript (hval 1 44 v1 rfl rfl) h1
  clear hA0 hval0
  refine (walk v0 x0 u0 v1 x1 u1).mono fun e W' ⟨he, hg⟩ => ?_
  subst he
  exact ⟨_, rfl, law_post laidOut hW' rfl rfl Try.underlying4 rfl rfl rfl (by intro t ht; rw [Try.params8] at ht; have ht2 : t ∈ [44, 44] := ht; simp only [List.mem_cons, List.not_mem_nil, or_false] at ht2; rcases ht2 with rfl | rfl <;> exact ⟨by kernel_rfl, of_decide_eq_true (by kernel_rfl)⟩) hg⟩

theorem over : Rows.fnExactEqualTranscriptsRow.holds Try.pinned (OpenSpec.ofChange Rows.fnExactEqualTranscriptsSpec) :=
  OpenClaim.holds_of_wide 8 Try.f8 rfl rfl rfl rfl rfl rfl rfl ⟨rfl, rfl, rfl, rfl, rfl⟩ rfl rfl rfl rfl rfl (by kernel_rfl) Try.func8 (by kernel_rfl)
    (of_decide_eq_true (by kernel_rfl)) (by unfold Func.isWrapper; first | (rw [if_pos (by decide +kernel)]; kernel_rfl) | (rw [if_neg (by decide +kernel)]; exact ⟨rfl, rfl⟩))
    (fun os started H enc _ => lifted os started H enc)

/-- THE STATEMENT -/
theorem proved : Rows.FnExactEqualTranscriptsSaid :=
  over
#print axioms proved
end fnExactEqualTranscripts
end Go.Proofs.Ytclcljibdhkkoaa
