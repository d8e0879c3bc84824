/-
  The law FnExactEqualCodes returns true for every two bytecodes.
-/
import Derived.Test.YtjdfancbmjnjfaaGreatRows
import Derived.Test.YtjdfancbmjnjfaaGreatJoin
import Derived.Test.YtjdfancbmjnjfaaGreatEqCode
import Derived.Deep.RegionHeld3
namespace Go.Proofs.YtjdfancbmjnjfaaGreat
set_option maxRecDepth 100000
open Go.ChangeShapes Go.WideShapes Go.ChangeAt Go.RowKit Go.Deep
open Go.ChangeMaps (open_string shut_string)
set_option linter.unusedVariables false

namespace fnExactEqualCodes
set_option maxHeartbeats 4000000 in
theorem walk (v : Value) (x : List Value × CodeD) {w : World} (h : v = .agg x.1.toArray ∧ BytecodeR w x.1 x.2) (u : Value) (y : List Value × CodeD) (h2 : u = .agg y.1.toArray ∧ BytecodeR w y.1 y.2) :
    Calls Tryz.prog 4 #[v, u] w fun e w' => e = .returned (.bool true) ∧ Below w.heap.size w w' := by
  obtain ⟨cs, d⟩ := x
  obtain ⟨rfl, h⟩ := h
  obtain ⟨es, g⟩ := y
  obtain ⟨rfl, h2⟩ := h2
  dsimp only at h h2 ⊢
  obtain ⟨c0, c1, c2, rfl⟩ : ∃ c0 c1 c2, cs = [c0, c1, c2] := by
    have hl := h.length
    match cs, hl with
    | [c0, c1, c2], _ => exact ⟨_, _, _, rfl⟩
  obtain ⟨e0, e1, e2, rfl⟩ : ∃ e0 e1 e2, es = [e0, e1, e2] := by
    have hl := h2.length
    match es, hl with
    | [e0, e1, e2], _ => exact ⟨_, _, _, rfl⟩
  have HT := Lib.hid h
  have HU := Lib.hid h2
  clear h h2
  have HX0 := Lib.hid (show ExL w w.heap.size [(w.heap.size + 1, 26, [e0, e1, e2]), (w.heap.size, 26, [c0, c1, c2])] ((w.alloc (.cells #[c0, c1, c2] 26)).alloc (.cells #[e0, e1, e2] 26)) by
    have h9 := ((ExL.start w).push 26 [c0, c1, c2]).push 26 [e0, e1, e2]
    simpa using h9)
  by_cases hz : (szBytecode d : Int) ≤ 1048576
  rotate_left
  · have HZ := Lib.hid (szR_neg hz)
    go_enter Tryz.func4, Tryz.ntmps4
    go_wp2_with fail
    refine abs_w (fun W => ExL w w.heap.size [(w.heap.size + 1, 26, [e0, e1, e2]), (w.heap.size, 26, [c0, c1, c2])] W) (by exact HX0.out) ?_
    clear HX0
    rintro W0 hX
    have HX := Lib.hid hX
    clear hX
    refine (laws_szBytecode d _ 1048576 _ (HT.out.below HX.out.2.1) (by omega) (by omega)).mono ?_
    rintro e w1 ⟨rfl, hb⟩
    rw [HZ.out]
    replace HX := Lib.hid (HX.out.below hb)
    clear hb
    go_wp2_with fail
    go_ret
    exact ⟨rfl, HX.out.2.1⟩
  have HZ := Lib.hid (szR_pos hz)
  by_cases hz2 : (szBytecode g : Int) ≤ 1048576 - (szBytecode d : Int)
  rotate_left
  · have HZ2 := Lib.hid (szR_neg hz2)
    go_enter Tryz.func4, Tryz.ntmps4
    go_wp2_with fail
    refine abs_w (fun W => ExL w w.heap.size [(w.heap.size + 1, 26, [e0, e1, e2]), (w.heap.size, 26, [c0, c1, c2])] W) (by exact HX0.out) ?_
    clear HX0
    rintro W0 hX
    have HX := Lib.hid hX
    clear hX
    refine (laws_szBytecode d _ 1048576 _ (HT.out.below HX.out.2.1) (by omega) (by omega)).mono ?_
    rintro e w1 ⟨rfl, hb⟩
    rw [HZ.out]
    replace HX := Lib.hid (HX.out.below hb)
    clear hb
    have s0 := HX.out.tail.b0.cell 0 _ rfl
    have r0 := HX.out.b0.cell 0 _ rfl
    have s1 := HX.out.tail.b0.cell 1 _ rfl
    have r1 := HX.out.b0.cell 1 _ rfl
    have s2 := HX.out.tail.b0.cell 2 _ rfl
    have r2 := HX.out.b0.cell 2 _ rfl
    go_wp2_with fail
    clear s0 r0 s1 r1 s2 r2
    refine (laws_szBytecode g _ (1048576 - (szBytecode d : Int)) _ (HU.out.below HX.out.2.1) (by omega) (by omega)).mono ?_
    rintro e w1b ⟨rfl, hb⟩
    rw [HZ2.out]
    replace HX := Lib.hid (HX.out.below hb)
    clear hb
    go_wp2_with fail
    go_ret
    exact ⟨rfl, HX.out.2.1⟩
  have HZ2 := Lib.hid (szR_pos hz2)
  go_enter Tryz.func4, Tryz.ntmps4
  go_wp2_with fail
  refine abs_w (fun W => ExL w w.heap.size [(w.heap.size + 1, 26, [e0, e1, e2]), (w.heap.size, 26, [c0, c1, c2])] W) (by exact HX0.out) ?_
  clear HX0
  rintro W0 hX
  have HX := Lib.hid hX
  clear hX
  refine (laws_szBytecode d _ 1048576 _ (HT.out.below HX.out.2.1) (by omega) (by omega)).mono ?_
  rintro e w1 ⟨rfl, hb⟩
  rw [HZ.out]
  replace HX := Lib.hid (HX.out.below hb)
  clear hb
  have s0 := HX.out.tail.b0.cell 0 _ rfl
  have r0 := HX.out.b0.cell 0 _ rfl
  have s1 := HX.out.tail.b0.cell 1 _ rfl
  have r1 := HX.out.b0.cell 1 _ rfl
  have s2 := HX.out.tail.b0.cell 2 _ rfl
  have r2 := HX.out.b0.cell 2 _ rfl
  go_wp2_with fail
  clear s0 r0 s1 r1 s2 r2
  refine (laws_szBytecode g _ (1048576 - (szBytecode d : Int)) _ (HU.out.below HX.out.2.1) (by omega) (by omega)).mono ?_
  rintro e w1b ⟨rfl, hb⟩
  rw [HZ2.out]
  replace HX := Lib.hid (HX.out.below hb)
  clear hb
  go_wp2_with fail
  have s0 := HX.out.tail.b0.cell 0 _ rfl
  have r0 := HX.out.b0.cell 0 _ rfl
  have s1 := HX.out.tail.b0.cell 1 _ rfl
  have r1 := HX.out.b0.cell 1 _ rfl
  have s2 := HX.out.tail.b0.cell 2 _ rfl
  have r2 := HX.out.b0.cell 2 _ rfl
  have tok1 : True := trivial
  go_region_held3 (fun W => (W.cell? ⟨w.heap.size, 0, none⟩ = some c0 ∧ W.cell? ⟨w.heap.size, 1, none⟩ = some c1 ∧ W.cell? ⟨w.heap.size, 2, none⟩ = some c2 ∧ W.cell? ⟨w.heap.size + 1, 0, none⟩ = some e0 ∧ W.cell? ⟨w.heap.size + 1, 1, none⟩ = some e1 ∧ W.cell? ⟨w.heap.size + 1, 2, none⟩ = some e2))
    (first | exact ⟨s0, s1, s2, r0, r1, r2⟩ | exact ⟨HX2.out.tail.b0.cell 0 _ rfl, HX2.out.tail.b0.cell 1 _ rfl, HX2.out.tail.b0.cell 2 _ rfl, HX2.out.b0.cell 0 _ rfl, HX2.out.b0.cell 1 _ rfl, HX2.out.b0.cell 2 _ rfl⟩ | exact ⟨HX3.out.tail.b0.cell 0 _ rfl, HX3.out.tail.b0.cell 1 _ rfl, HX3.out.tail.b0.cell 2 _ rfl, HX3.out.b0.cell 0 _ rfl, HX3.out.b0.cell 1 _ rfl, HX3.out.b0.cell 2 _ rfl⟩ | exact ⟨HX4.out.tail.b0.cell 0 _ rfl, HX4.out.tail.b0.cell 1 _ rfl, HX4.out.tail.b0.cell 2 _ rfl, HX4.out.b0.cell 0 _ rfl, HX4.out.b0.cell 1 _ rfl, HX4.out.b0.cell 2 _ rfl⟩)
    (first | (go_at_call 8; have _t := tok1; refine (laws_toBytecode d _ _ (by exact HT.out.below HX.out.2.1.drew) (by omega)).mono ?_; rintro e w2 ⟨ca, rfl, oa, hb⟩; have HX2 := Lib.hid (HX.out.drew.below hb); have RA := Lib.hid oa.read; obtain ⟨aA0, ak0, aA1, ak1, aA2, ak2, f, rfl, _⟩ := oa; clear hb tok1) | (go_at_call 8; refine (laws_toBytecode g _ _ (by exact HU.out.below HX2.out.2.1) (by omega)).mono ?_; rintro e w3 ⟨cb, rfl, ob, hb⟩; have HX3 := Lib.hid (HX2.out.below hb); replace RA := Lib.hid (RA.out.below hb); have RB := Lib.hid ob.read; obtain ⟨bA0, bk0, bA1, bk1, bA2, bk2, fy, rfl, _⟩ := ob; clear hb) | (go_at_call 11; refine (spec_EqualCodes d g _ _ _ RA.out RB.out (by omega) (by omega)).mono ?_; rintro e w4 ⟨rfl, hb⟩; have HX4 := Lib.hid (HX3.out.below hb); clear hb))
  clear s0 r0 s1 r1 s2 r2
  clear HX HX2 HX3 RA RB
  have HX := HX4
  clear HX4
  have s0 := HX.out.tail.b0.cell 0 _ rfl
  have r0 := HX.out.b0.cell 0 _ rfl
  have s1 := HX.out.tail.b0.cell 1 _ rfl
  have r1 := HX.out.b0.cell 1 _ rfl
  have s2 := HX.out.tail.b0.cell 2 _ rfl
  have r2 := HX.out.b0.cell 2 _ rfl
  go_wp2_with fail
  clear s0 r0 s1 r1 s2 r2
  refine (laws_toBytecode d _ _ (HT.out.below HX.out.2.1) (by omega)).mono ?_
  rintro e w5 ⟨c, rfl, ox, hb⟩
  replace HX := Lib.hid (HX.out.below hb)
  clear hb
  have RX := Lib.hid ox.read
  obtain ⟨aA0, ak0, aA1, ak1, aA2, ak2, f, rfl, _⟩ := ox
  replace HX := Lib.hid (HX.out.push 31 [.slice aA0 d.segments.length ak0, .slice aA1 d.main.length ak1, .slice aA2 d.quiet.length ak2])
  replace RX := Lib.hid (RX.out.below ((Below.refl _ _).alloc (Nat.le_refl _) (.cells #[.slice aA0 d.segments.length ak0, .slice aA1 d.main.length ak1, .slice aA2 d.quiet.length ak2] 31)))
  have s0 := HX.out.tail.tail.b0.cell 0 _ rfl
  have r0 := HX.out.tail.b0.cell 0 _ rfl
  have s1 := HX.out.tail.tail.b0.cell 1 _ rfl
  have r1 := HX.out.tail.b0.cell 1 _ rfl
  have s2 := HX.out.tail.tail.b0.cell 2 _ rfl
  have r2 := HX.out.tail.b0.cell 2 _ rfl
  go_wp2_with fail
  clear s0 r0 s1 r1 s2 r2
  refine abs_w (fun W => ExL w w.heap.size [(w5.heap.size, 31, [.slice aA0 d.segments.length ak0, .slice aA1 d.main.length ak1, .slice aA2 d.quiet.length ak2]), (w.heap.size + 1, 26, [e0, e1, e2]), (w.heap.size, 26, [c0, c1, c2])] W ∧ BytecodeR W [.slice aA0 d.segments.length ak0, .slice aA1 d.main.length ak1, .slice aA2 d.quiet.length ak2] d) ⟨by exact HX.out, by exact RX.out⟩ ?_
  clear HX RX
  rintro WX ⟨hX, hR⟩
  have HX := Lib.hid hX
  have RX := Lib.hid hR
  clear hX hR
  refine (laws_toBytecode g _ _ (HU.out.below HX.out.2.1) (by omega)).mono ?_
  rintro e w6 ⟨c, rfl, ox, hb⟩
  replace HX := Lib.hid (HX.out.below hb)
  replace RX := Lib.hid (RX.out.below hb)
  clear hb
  have RY := Lib.hid ox.read
  obtain ⟨bA0, bk0, bA1, bk1, bA2, bk2, f, rfl, _⟩ := ox
  replace HX := Lib.hid (HX.out.push 31 [.slice bA0 g.segments.length bk0, .slice bA1 g.main.length bk1, .slice bA2 g.quiet.length bk2])
  replace RY := Lib.hid (RY.out.below ((Below.refl _ _).alloc (Nat.le_refl _) (.cells #[.slice bA0 g.segments.length bk0, .slice bA1 g.main.length bk1, .slice bA2 g.quiet.length bk2] 31)))
  replace RX := Lib.hid (RX.out.below ((Below.refl _ _).alloc (Nat.le_refl _) (.cells #[.slice bA0 g.segments.length bk0, .slice bA1 g.main.length bk1, .slice bA2 g.quiet.length bk2] 31)))
  have x0 := HX.out.tail.b0
  have o0 := HX.out.tail.b0.cell 0 _ rfl
  have o1 := HX.out.tail.b0.cell 1 _ rfl
  have o2 := HX.out.tail.b0.cell 2 _ rfl
  clear x0
  go_wp2_with fail
  clear o0 o1 o2
  refine abs_w (fun W => ExL w w.heap.size [(w6.heap.size, 31, [.slice bA0 g.segments.length bk0, .slice bA1 g.main.length bk1, .slice bA2 g.quiet.length bk2]), (w5.heap.size, 31, [.slice aA0 d.segments.length ak0, .slice aA1 d.main.length ak1, .slice aA2 d.quiet.length ak2]), (w.heap.size + 1, 26, [e0, e1, e2]), (w.heap.size, 26, [c0, c1, c2])] W ∧ BytecodeR W [.slice aA0 d.segments.length ak0, .slice aA1 d.main.length ak1, .slice aA2 d.quiet.length ak2] d ∧ BytecodeR W [.slice bA0 g.segments.length bk0, .slice bA1 g.main.length bk1, .slice bA2 g.quiet.length bk2] g) ⟨by exact HX.out, by exact RX.out, by exact RY.out⟩ ?_
  clear HX RX RY
  rintro WY ⟨hX, hR, hR2⟩
  have HX := Lib.hid hX
  have RX := Lib.hid hR
  have RY := Lib.hid hR2
  clear hX hR hR2
  refine (impl_EqualCodes d g _ _ _ RX.out RY.out (by omega) (by omega)).mono ?_
  rintro e w7 ⟨rfl, hb⟩
  replace HX := Lib.hid (HX.out.below hb)
  replace RX := Lib.hid (RX.out.below hb)
  replace RY := Lib.hid (RY.out.below hb)
  clear hb
  go_wp2_with fail
  have s0 := HX.out.tail.tail.tail.b0.cell 0 _ rfl
  have o0 := HX.out.tail.b0.cell 0 _ rfl
  have s1 := HX.out.tail.tail.tail.b0.cell 1 _ rfl
  have o1 := HX.out.tail.b0.cell 1 _ rfl
  have s2 := HX.out.tail.tail.tail.b0.cell 2 _ rfl
  have o2 := HX.out.tail.b0.cell 2 _ rfl
  go_region_held3 (fun W => (W.cell? ⟨w.heap.size, 0, none⟩ = some (c0) ∧ W.cell? ⟨w.heap.size, 1, none⟩ = some (c1) ∧ W.cell? ⟨w.heap.size, 2, none⟩ = some (c2) ∧ W.cell? ⟨w5.heap.size, 0, none⟩ = some (.slice aA0 d.segments.length ak0) ∧ W.cell? ⟨w5.heap.size, 1, none⟩ = some (.slice aA1 d.main.length ak1) ∧ W.cell? ⟨w5.heap.size, 2, none⟩ = some (.slice aA2 d.quiet.length ak2)))
    (first | exact ⟨s0, s1, s2, o0, o1, o2⟩ | exact ⟨HP8.out.tail.tail.tail.b0.cell 0 _ rfl, HP8.out.tail.tail.tail.b0.cell 1 _ rfl, HP8.out.tail.tail.tail.b0.cell 2 _ rfl, HP8.out.tail.b0.cell 0 _ rfl, HP8.out.tail.b0.cell 1 _ rfl, HP8.out.tail.b0.cell 2 _ rfl⟩ | exact ⟨HQ8.out.tail.tail.tail.b0.cell 0 _ rfl, HQ8.out.tail.tail.tail.b0.cell 1 _ rfl, HQ8.out.tail.tail.tail.b0.cell 2 _ rfl, HQ8.out.tail.b0.cell 0 _ rfl, HQ8.out.tail.b0.cell 1 _ rfl, HQ8.out.tail.b0.cell 2 _ rfl⟩)
    (first | (go_at_call 8; refine (laws_toBytecode d _ _ (by exact HT.out.below HX.out.2.1.drew) (by omega)).mono ?_; rintro e wp8 ⟨cq, rfl, oq, hb⟩; have HP8 := Lib.hid (HX.out.drew.below hb); have RP := Lib.hid ((RX.out.below (Below.drew (Below.refl _ _))).below hb); have RQ := Lib.hid oq.read; replace RY := Lib.hid ((RY.out.below (Below.drew (Below.refl _ _))).below hb); obtain ⟨q8A0, q8k0, q8A1, q8k1, q8A2, q8k2, fq, rfl, _⟩ := oq; clear hb) | (go_at_call 10; refine (laws_eqBytecode_same d _ _ _ RP.out RQ.out).mono ?_; rintro e wq8 ⟨rfl, hb⟩; have HQ8 := Lib.hid (HP8.out.below hb); replace RY := Lib.hid (RY.out.below hb); clear hb))
  clear s0 o0 s1 o1 s2 o2 RP RQ HX HP8
  have HX := HQ8
  clear HQ8
  go_wp2_with fail
  have s0 := HX.out.tail.tail.b0.cell 0 _ rfl
  have o0 := HX.out.b0.cell 0 _ rfl
  have s1 := HX.out.tail.tail.b0.cell 1 _ rfl
  have o1 := HX.out.b0.cell 1 _ rfl
  have s2 := HX.out.tail.tail.b0.cell 2 _ rfl
  have o2 := HX.out.b0.cell 2 _ rfl
  go_region_held3 (fun W => (W.cell? ⟨w.heap.size + 1, 0, none⟩ = some (e0) ∧ W.cell? ⟨w.heap.size + 1, 1, none⟩ = some (e1) ∧ W.cell? ⟨w.heap.size + 1, 2, none⟩ = some (e2) ∧ W.cell? ⟨w6.heap.size, 0, none⟩ = some (.slice bA0 g.segments.length bk0) ∧ W.cell? ⟨w6.heap.size, 1, none⟩ = some (.slice bA1 g.main.length bk1) ∧ W.cell? ⟨w6.heap.size, 2, none⟩ = some (.slice bA2 g.quiet.length bk2)))
    (first | exact ⟨s0, s1, s2, o0, o1, o2⟩ | exact ⟨HP9.out.tail.tail.b0.cell 0 _ rfl, HP9.out.tail.tail.b0.cell 1 _ rfl, HP9.out.tail.tail.b0.cell 2 _ rfl, HP9.out.b0.cell 0 _ rfl, HP9.out.b0.cell 1 _ rfl, HP9.out.b0.cell 2 _ rfl⟩ | exact ⟨HQ9.out.tail.tail.b0.cell 0 _ rfl, HQ9.out.tail.tail.b0.cell 1 _ rfl, HQ9.out.tail.tail.b0.cell 2 _ rfl, HQ9.out.b0.cell 0 _ rfl, HQ9.out.b0.cell 1 _ rfl, HQ9.out.b0.cell 2 _ rfl⟩)
    (first | (go_at_call 8; refine (laws_toBytecode g _ _ (by exact HU.out.below HX.out.2.1.drew) (by omega)).mono ?_; rintro e wp9 ⟨cq, rfl, oq, hb⟩; have HP9 := Lib.hid (HX.out.drew.below hb); have RP := Lib.hid ((RY.out.below (Below.drew (Below.refl _ _))).below hb); have RQ := Lib.hid oq.read; replace RY := Lib.hid ((RY.out.below (Below.drew (Below.refl _ _))).below hb); obtain ⟨q9A0, q9k0, q9A1, q9k1, q9A2, q9k2, fq, rfl, _⟩ := oq; clear hb) | (go_at_call 10; refine (laws_eqBytecode_same g _ _ _ RP.out RQ.out).mono ?_; rintro e wq9 ⟨rfl, hb⟩; have HQ9 := Lib.hid (HP9.out.below hb); replace RY := Lib.hid (RY.out.below hb); clear hb))
  clear s0 o0 s1 o1 s2 o2 RP RQ HX HP9
  have HX := HQ9
  clear HQ9
  go_wp2_with fail
  go_ret
  exact ⟨rfl, HX.out.2.1⟩
set_option maxRecDepth 100000 in
theorem lifted (os : Os) (started : os.Started) (H : Type) (enc : TypeId × Value → H) :
    ReturnsInHanded {} Tryz.checked os 4 .any (Rows.fnExactEqualCodesSpec.pre6 enc Tryz.prog Tryz.f4 Rows.fnExactEqualCodesRow.domain false) (Rows.fnExactEqualCodesSpec.post enc Tryz.prog Tryz.f4 false true false false) := by
  refine returnsInHanded_of_change (C := Tryz.checked) own started (by kernel_rfl) Tryz.func4
    (ChangeSpec.witness6 (enc := enc) (C := Tryz.checked) false ⟨#[], #[.agg #[.slice none 0 0, .slice none 0 0, .slice none 0 0], .agg #[.slice none 0 0, .slice none 0 0, .slice none 0 0]], []⟩ 8 (by kernel_rfl) (by kernel_rfl) (by kernel_rfl) (by kernel_rfl)) ?_
  intro W base args ds gs before hval0 hW hcnd _
  have hval : ∀ (j : Nat) t v, Tryz.f4.params[j]? = some t → args[j]? = some v → Value.okWide Tryz.prog W .any base t v := hval0
  have hW' := hW
  obtain ⟨p, q, hA0, hV, rfl, hfz, hnd⟩ := hW
  have hA : DataW.TrodAll enc Tryz.prog W 0 (fun _ => true) true Tryz.f4.params.toList args.toList ds p := hA0
  rw [Tryz.params4] at hA hval
  obtain ⟨v0, vs0, d0, ds0, p0, q0, hargs, rfl, rfl, h0, r0⟩ := trodAll_cons hA
  obtain ⟨v1, vs1, d1, ds1, p1, q1, rfl, rfl, rfl, h1, r1⟩ := trodAll_cons r0
  obtain ⟨rfl, rfl, rfl⟩ := trodAll_nil r1
  obtain rfl : args = #[v0, v1] := by cases args; simp_all
  obtain ⟨rfl, rfl⟩ := trodVars_none hV
  obtain ⟨x0, u0⟩ := open_bytecode (hval 0 26 v0 rfl rfl) h0
  obtain ⟨x1, u1⟩ := open_bytecode (hval 1 26 v1 rfl rfl) h1
  clear hA0 hval0
  refine (walk v0 x0 u0 v1 x1 u1).mono fun e W' ⟨he, hg⟩ => ?_
  subst he
  exact ⟨_, rfl, law_post laidOut hW' rfl rfl Tryz.underlying4 rfl rfl rfl (by intro t ht; rw [Tryz.params4] at ht; have ht2 : t ∈ [26, 26] := ht; simp only [List.mem_cons, List.not_mem_nil, or_false] at ht2; rcases ht2 with rfl | rfl <;> exact ⟨by kernel_rfl, of_decide_eq_true (by kernel_rfl)⟩) hg⟩

theorem fact0 : jf0 Tryz.prog 4 Tryz.f4 Rows.fnExactEqualCodesSpec Rows.fnExactEqualCodesRow = true := by kernel_rfl
theorem fact1 : jf1 Tryz.prog 4 Tryz.f4 Rows.fnExactEqualCodesSpec Rows.fnExactEqualCodesRow = true := by kernel_rfl
theorem fact2 : jf2 Tryz.prog 4 Tryz.f4 Rows.fnExactEqualCodesSpec Rows.fnExactEqualCodesRow = true := by kernel_rfl
theorem fact3 : jf3 Tryz.prog 4 Tryz.f4 Rows.fnExactEqualCodesSpec Rows.fnExactEqualCodesRow = true := by kernel_rfl
theorem fact4 : jf4 Tryz.prog 4 Tryz.f4 Rows.fnExactEqualCodesSpec Rows.fnExactEqualCodesRow = true := by kernel_rfl
theorem fact5 : jf5 Tryz.prog 4 Tryz.f4 Rows.fnExactEqualCodesSpec Rows.fnExactEqualCodesRow = true := by kernel_rfl
theorem fact6 : jf6 Tryz.prog 4 Tryz.f4 Rows.fnExactEqualCodesSpec Rows.fnExactEqualCodesRow = true := by kernel_rfl
theorem fact7 : jf7 Tryz.prog 4 Tryz.f4 Rows.fnExactEqualCodesSpec Rows.fnExactEqualCodesRow = true := by kernel_rfl
theorem fact8 : jf8 Tryz.prog 4 Tryz.f4 Rows.fnExactEqualCodesSpec Rows.fnExactEqualCodesRow = true := by kernel_rfl
theorem fact9 : jf9 Tryz.prog 4 Tryz.f4 Rows.fnExactEqualCodesSpec Rows.fnExactEqualCodesRow = true := by kernel_rfl
theorem fact10 : jf10 Tryz.prog 4 Tryz.f4 Rows.fnExactEqualCodesSpec Rows.fnExactEqualCodesRow = true := by kernel_rfl
theorem fact11 : jf11 Tryz.prog 4 Tryz.f4 Rows.fnExactEqualCodesSpec Rows.fnExactEqualCodesRow = true := by kernel_rfl
theorem fact12 : jf12 Tryz.prog 4 Tryz.f4 Rows.fnExactEqualCodesSpec Rows.fnExactEqualCodesRow = true := by kernel_rfl
theorem fact13 : jf13 Tryz.prog 4 Tryz.f4 Rows.fnExactEqualCodesSpec Rows.fnExactEqualCodesRow = true := by kernel_rfl
theorem fact14 : jf14 Tryz.prog 4 Tryz.f4 Rows.fnExactEqualCodesSpec Rows.fnExactEqualCodesRow = true := by kernel_rfl
theorem fact15 : jf15 Tryz.prog 4 Tryz.f4 Rows.fnExactEqualCodesSpec Rows.fnExactEqualCodesRow = true := by kernel_rfl
theorem fact16 : jf16 Tryz.prog 4 Tryz.f4 Rows.fnExactEqualCodesSpec Rows.fnExactEqualCodesRow = true := by kernel_rfl
theorem fact17 : jf17 Tryz.prog 4 Tryz.f4 Rows.fnExactEqualCodesSpec Rows.fnExactEqualCodesRow = true := by kernel_rfl
theorem fact18 : jf18 Tryz.prog 4 Tryz.f4 Rows.fnExactEqualCodesSpec Rows.fnExactEqualCodesRow = true := by kernel_rfl
theorem fact19 : jf19 Tryz.prog 4 Tryz.f4 Rows.fnExactEqualCodesSpec Rows.fnExactEqualCodesRow = true := by kernel_rfl
theorem fact20 : jf20 Tryz.prog 4 Tryz.f4 Rows.fnExactEqualCodesSpec Rows.fnExactEqualCodesRow = true := by kernel_rfl
theorem fact21 : jf21 Tryz.prog 4 Tryz.f4 Rows.fnExactEqualCodesSpec Rows.fnExactEqualCodesRow = true := by kernel_rfl
theorem fact22 : jf22 Tryz.prog 4 Tryz.f4 Rows.fnExactEqualCodesSpec Rows.fnExactEqualCodesRow = true := by kernel_rfl
theorem fact23 : jf23 Tryz.prog 4 Tryz.f4 Rows.fnExactEqualCodesSpec Rows.fnExactEqualCodesRow = true := by kernel_rfl
theorem fact24 : jf24 Tryz.prog 4 Tryz.f4 Rows.fnExactEqualCodesSpec Rows.fnExactEqualCodesRow = true := by kernel_rfl
theorem fact25 : jf25 Tryz.prog 4 Tryz.f4 Rows.fnExactEqualCodesSpec Rows.fnExactEqualCodesRow = true := by kernel_rfl
theorem fact26 : jf26 Tryz.prog 4 Tryz.f4 Rows.fnExactEqualCodesSpec Rows.fnExactEqualCodesRow = true := by kernel_rfl
theorem fact27 : jf27 Tryz.prog 4 Tryz.f4 Rows.fnExactEqualCodesSpec Rows.fnExactEqualCodesRow = true := by kernel_rfl
theorem fact28 : jf28 Tryz.prog 4 Tryz.f4 Rows.fnExactEqualCodesSpec Rows.fnExactEqualCodesRow = true := by kernel_rfl
theorem fact29 : jf29 Tryz.prog 4 Tryz.f4 Rows.fnExactEqualCodesSpec Rows.fnExactEqualCodesRow = true := by kernel_rfl
theorem fact30 : jf30 Tryz.prog 4 Tryz.f4 Rows.fnExactEqualCodesSpec Rows.fnExactEqualCodesRow = true := by kernel_rfl
theorem fact31 : jf31 Tryz.prog 4 Tryz.f4 Rows.fnExactEqualCodesSpec Rows.fnExactEqualCodesRow = true := by kernel_rfl
theorem over : Rows.fnExactEqualCodesRow.holds Tryz.pinned (OpenSpec.ofChange Rows.fnExactEqualCodesSpec) :=
  OpenClaim.holds_of_wide 4 Tryz.f4 rfl rfl rfl rfl rfl rfl rfl ⟨rfl, rfl, rfl, rfl, rfl⟩ rfl rfl rfl rfl rfl (by kernel_rfl) Tryz.func4 (joined fact0 fact1 fact2 fact3 fact4 fact5 fact6 fact7 fact8 fact9 fact10 fact11 fact12 fact13 fact14 fact15 fact16 fact17 fact18 fact19 fact20 fact21 fact22 fact23 fact24 fact25 fact26 fact27 fact28 fact29 fact30 fact31)
    (of_decide_eq_true (by kernel_rfl)) (by unfold Func.isWrapper; first | (rw [if_pos (by decide +kernel)]; kernel_rfl) | (rw [if_neg (by decide +kernel)]; exact ⟨rfl, rfl⟩))
    (fun os started H enc _ => lifted os started H enc)

/-- THE STATEMENT -/
theorem proved : Rows.FnExactEqualCodesSaid :=
  over
#print axioms proved
end fnExactEqualCodes
end Go.Proofs.YtjdfancbmjnjfaaGreat
