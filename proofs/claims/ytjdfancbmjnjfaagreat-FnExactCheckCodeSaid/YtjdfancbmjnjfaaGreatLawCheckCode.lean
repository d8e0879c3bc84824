/-
  The law FnExactCheckCode returns true for every bytecode.
-/
import Derived.Test.YtjdfancbmjnjfaaGreatRows
import Derived.Test.YtjdfancbmjnjfaaGreatJoin
import Derived.Test.YtjdfancbmjnjfaaGreatChk15
import Derived.Deep.RegionHeld3
namespace Go.Proofs.YtjdfancbmjnjfaaGreat
set_option maxRecDepth 100000
open Go.ChangeShapes Go.WideShapes Go.ChangeAt Go.RowKit Go.Deep
open Go.ChangeMaps (open_string shut_string)
set_option linter.unusedVariables false

namespace fnExactCheckCode
set_option maxHeartbeats 2000000 in
theorem walk (v : Value) (x : List Value × CodeD) {w : World} (h : v = .agg x.1.toArray ∧ BytecodeR w x.1 x.2) :
    Calls Tryz.prog 3 #[v] w fun e w' => e = .returned (.bool true) ∧ Below w.heap.size w w' := by
  obtain ⟨cs, d⟩ := x
  obtain ⟨rfl, h⟩ := h
  dsimp only at h ⊢
  obtain ⟨c0, c1, c2, rfl⟩ : ∃ c0 c1 c2, cs = [c0, c1, c2] := by
    have hl := h.length
    match cs, hl with
    | [c0, c1, c2], _ => exact ⟨_, _, _, rfl⟩
  have HT := Lib.hid h
  clear h
  have HBX := Lib.hid (fun o => (Below.refl w.heap.size w).alloc (Nat.le_refl _) o)
  by_cases hz : (szBytecode d : Int) ≤ 1048576
  rotate_left
  · have HZ := Lib.hid (szR_neg hz)
    go_enter Tryz.func3, Tryz.ntmps3
    go_wp2_with fail
    refine abs_w (fun W => Blk W w.heap.size 26 [c0, c1, c2] ∧ Below w.heap.size w W) ⟨by exact Blk.new _ _ _, by exact HBX.out _⟩ ?_
    rintro W0 ⟨hK, hB⟩
    have HK := Lib.hid hK
    have HB := Lib.hid hB
    clear hK hB
    refine (laws_szBytecode d _ 1048576 _ (HT.out.below HB.out) (by omega) (by omega)).mono ?_
    rintro e w1 ⟨rfl, hb⟩
    rw [HZ.out]
    replace HK := Lib.hid (HK.out.below hb)
    replace HB := Lib.hid (HB.out.trans (hb.mono HB.out.size))
    clear hb
    go_wp2_with fail
    go_ret
    exact ⟨rfl, HB.out⟩
  have HZ := Lib.hid (szR_pos hz)
  go_enter Tryz.func3, Tryz.ntmps3
  go_wp2_with fail
  refine abs_w (fun W => Blk W w.heap.size 26 [c0, c1, c2] ∧ Below w.heap.size w W) ⟨by exact Blk.new _ _ _, by exact HBX.out _⟩ ?_
  rintro W0 ⟨hK, hB⟩
  have HK := Lib.hid hK
  have HB := Lib.hid hB
  clear hK hB
  refine (laws_szBytecode d _ 1048576 _ (HT.out.below HB.out) (by omega) (by omega)).mono ?_
  rintro e w1 ⟨rfl, hb⟩
  rw [HZ.out]
  replace HK := Lib.hid (HK.out.below hb)
  replace HB := Lib.hid (HB.out.trans (hb.mono HB.out.size))
  clear hb
  have s0 := HK.out.cell 0 _ rfl
  have s1 := HK.out.cell 1 _ rfl
  have s2 := HK.out.cell 2 _ rfl
  go_wp2_with fail
  clear s0 s1 s2
  refine (laws_toBytecode d _ _ (HT.out.below HB.out) (by omega)).mono ?_
  rintro e w2 ⟨ca, rfl, oa, hb⟩
  replace HK := Lib.hid (HK.out.below hb)
  replace HB := Lib.hid (HB.out.trans (hb.mono HB.out.size))
  clear hb
  have RA := Lib.hid oa.read
  obtain ⟨aA0, ak0, aA1, ak1, aA2, ak2, f, rfl, _⟩ := oa
  go_wp2_with fail
  refine (spec_CheckCode d _ _ RA.out (by omega)).mono ?_
  rintro e w3 ⟨rfl, hb⟩
  replace HK := Lib.hid (HK.out.below hb)
  replace HB := Lib.hid (HB.out.trans (hb.mono HB.out.size))
  clear hb RA
  have s0 := HK.out.cell 0 _ rfl
  have s1 := HK.out.cell 1 _ rfl
  have s2 := HK.out.cell 2 _ rfl
  go_wp2_with fail
  clear s0 s1 s2
  refine (laws_toBytecode d _ _ (HT.out.below HB.out) (by omega)).mono ?_
  rintro e w4 ⟨cx, rfl, ox, hb⟩
  replace HK := Lib.hid (HK.out.below hb)
  replace HB := Lib.hid (HB.out.trans (hb.mono HB.out.size))
  clear hb
  have RX := Lib.hid ox.read
  obtain ⟨aA0, ak0, aA1, ak1, aA2, ak2, f, rfl, _⟩ := ox
  go_wp2_with fail
  refine abs_w (fun W => Ex2 w w.heap.size w.heap.size 26 [c0, c1, c2] w4.heap.size 31 [.slice aA0 d.segments.length ak0, .slice aA1 d.main.length ak1, .slice aA2 d.quiet.length ak2] W ∧ BytecodeR W [.slice aA0 d.segments.length ak0, .slice aA1 d.main.length ak1, .slice aA2 d.quiet.length ak2] d) ⟨⟨by exact HK.out.alloc _, by exact Blk.new _ _ _, by exact HB.out.alloc HB.out.size _, by simp; have := HB.out.size; omega⟩, by exact RX.out.below ((Below.refl _ _).alloc (Nat.le_refl _) _)⟩ ?_
  clear HK HB RX
  rintro W5 ⟨hX, hR⟩
  refine (impl_CheckCode d _ _ hR (by omega)).mono ?_
  rintro e w5 ⟨rfl, hb⟩
  have HX := Lib.hid (hX.below hb)
  have RX := Lib.hid (hR.below hb)
  clear hb hX hR
  go_wp2_with fail
  have s0 := HX.out.1.cell 0 _ rfl
  have o0 := HX.out.2.1.cell 0 _ rfl
  have s1 := HX.out.1.cell 1 _ rfl
  have o1 := HX.out.2.1.cell 1 _ rfl
  have s2 := HX.out.1.cell 2 _ rfl
  have o2 := HX.out.2.1.cell 2 _ rfl
  go_region_held3 (fun W => (W.cell? ⟨w.heap.size, 0, none⟩ = some c0 ∧ W.cell? ⟨w.heap.size, 1, none⟩ = some c1 ∧ W.cell? ⟨w.heap.size, 2, none⟩ = some c2 ∧ W.cell? ⟨w4.heap.size, 0, none⟩ = some (.slice aA0 d.segments.length ak0) ∧ W.cell? ⟨w4.heap.size, 1, none⟩ = some (.slice aA1 d.main.length ak1) ∧ W.cell? ⟨w4.heap.size, 2, none⟩ = some (.slice aA2 d.quiet.length ak2)))
    (first | exact ⟨s0, s1, s2, o0, o1, o2⟩ | exact ⟨HX6.out.1.cell 0 _ rfl, HX6.out.1.cell 1 _ rfl, HX6.out.1.cell 2 _ rfl, HX6.out.2.1.cell 0 _ rfl, HX6.out.2.1.cell 1 _ rfl, HX6.out.2.1.cell 2 _ rfl⟩ | exact ⟨HX7.out.1.cell 0 _ rfl, HX7.out.1.cell 1 _ rfl, HX7.out.1.cell 2 _ rfl, HX7.out.2.1.cell 0 _ rfl, HX7.out.2.1.cell 1 _ rfl, HX7.out.2.1.cell 2 _ rfl⟩)
    (first | (go_at_call 8; refine (laws_toBytecode d _ _ (by exact HT.out.below HX.out.2.2.1.drew) (by omega)).mono ?_; rintro e w6 ⟨cy, rfl, oy, hb6⟩; have HX6 := Lib.hid (Ex2.below HX.out.drew hb6); have RX6 := Lib.hid ((RX.out.below (Below.drew (Below.refl _ _))).below hb6); have RY := Lib.hid oy.read; obtain ⟨bA0, bk0, bA1, bk1, bA2, bk2, fy, rfl, _⟩ := oy; clear hb6) | (go_at_call 10; refine (laws_eqBytecode_same d _ _ _ RX6.out RY.out).mono ?_; rintro e w7 ⟨rfl, hb7⟩; have HX7 := Lib.hid (HX6.out.below hb7); clear hb7))
  go_wp2_with fail
  go_ret
  exact ⟨rfl, HX7.out.2.2.1⟩
set_option maxRecDepth 100000 in
theorem lifted (os : Os) (started : os.Started) (H : Type) (enc : TypeId × Value → H) :
    ReturnsInHanded {} Tryz.checked os 3 .any (Rows.fnExactCheckCodeSpec.pre6 enc Tryz.prog Tryz.f3 Rows.fnExactCheckCodeRow.domain false) (Rows.fnExactCheckCodeSpec.post enc Tryz.prog Tryz.f3 false true false false) := by
  refine returnsInHanded_of_change (C := Tryz.checked) own started (by kernel_rfl) Tryz.func3
    (ChangeSpec.witness6 (enc := enc) (C := Tryz.checked) false ⟨#[], #[.agg #[.slice none 0 0, .slice none 0 0, .slice none 0 0]], []⟩ 8 (by kernel_rfl) (by kernel_rfl) (by kernel_rfl) (by kernel_rfl)) ?_
  intro W base args ds gs before hval0 hW hcnd _
  have hval : ∀ (j : Nat) t v, Tryz.f3.params[j]? = some t → args[j]? = some v → Value.okWide Tryz.prog W .any base t v := hval0
  have hW' := hW
  obtain ⟨p, q, hA0, hV, rfl, hfz, hnd⟩ := hW
  have hA : DataW.TrodAll enc Tryz.prog W 0 (fun _ => true) true Tryz.f3.params.toList args.toList ds p := hA0
  rw [Tryz.params3] at hA hval
  obtain ⟨v0, vs0, d0, ds0, p0, q0, hargs, rfl, rfl, h0, r0⟩ := trodAll_cons hA
  obtain ⟨rfl, rfl, rfl⟩ := trodAll_nil r0
  obtain rfl : args = #[v0] := by cases args; simp_all
  obtain ⟨rfl, rfl⟩ := trodVars_none hV
  obtain ⟨x0, u0⟩ := open_bytecode (hval 0 26 v0 rfl rfl) h0
  clear hA0 hval0
  refine (walk v0 x0 u0).mono fun e W' ⟨he, hg⟩ => ?_
  subst he
  exact ⟨_, rfl, law_post laidOut hW' rfl rfl Tryz.underlying4 rfl rfl rfl (by intro t ht; rw [Tryz.params3] at ht; have ht2 : t ∈ [26] := ht; simp only [List.mem_cons, List.not_mem_nil, or_false] at ht2; rcases ht2 with rfl <;> exact ⟨by kernel_rfl, of_decide_eq_true (by kernel_rfl)⟩) hg⟩

theorem fact0 : jf0 Tryz.prog 3 Tryz.f3 Rows.fnExactCheckCodeSpec Rows.fnExactCheckCodeRow = true := by kernel_rfl
theorem fact1 : jf1 Tryz.prog 3 Tryz.f3 Rows.fnExactCheckCodeSpec Rows.fnExactCheckCodeRow = true := by kernel_rfl
theorem fact2 : jf2 Tryz.prog 3 Tryz.f3 Rows.fnExactCheckCodeSpec Rows.fnExactCheckCodeRow = true := by kernel_rfl
theorem fact3 : jf3 Tryz.prog 3 Tryz.f3 Rows.fnExactCheckCodeSpec Rows.fnExactCheckCodeRow = true := by kernel_rfl
theorem fact4 : jf4 Tryz.prog 3 Tryz.f3 Rows.fnExactCheckCodeSpec Rows.fnExactCheckCodeRow = true := by kernel_rfl
theorem fact5 : jf5 Tryz.prog 3 Tryz.f3 Rows.fnExactCheckCodeSpec Rows.fnExactCheckCodeRow = true := by kernel_rfl
theorem fact6 : jf6 Tryz.prog 3 Tryz.f3 Rows.fnExactCheckCodeSpec Rows.fnExactCheckCodeRow = true := by kernel_rfl
theorem fact7 : jf7 Tryz.prog 3 Tryz.f3 Rows.fnExactCheckCodeSpec Rows.fnExactCheckCodeRow = true := by kernel_rfl
theorem fact8 : jf8 Tryz.prog 3 Tryz.f3 Rows.fnExactCheckCodeSpec Rows.fnExactCheckCodeRow = true := by kernel_rfl
theorem fact9 : jf9 Tryz.prog 3 Tryz.f3 Rows.fnExactCheckCodeSpec Rows.fnExactCheckCodeRow = true := by kernel_rfl
theorem fact10 : jf10 Tryz.prog 3 Tryz.f3 Rows.fnExactCheckCodeSpec Rows.fnExactCheckCodeRow = true := by kernel_rfl
theorem fact11 : jf11 Tryz.prog 3 Tryz.f3 Rows.fnExactCheckCodeSpec Rows.fnExactCheckCodeRow = true := by kernel_rfl
theorem fact12 : jf12 Tryz.prog 3 Tryz.f3 Rows.fnExactCheckCodeSpec Rows.fnExactCheckCodeRow = true := by kernel_rfl
theorem fact13 : jf13 Tryz.prog 3 Tryz.f3 Rows.fnExactCheckCodeSpec Rows.fnExactCheckCodeRow = true := by kernel_rfl
theorem fact14 : jf14 Tryz.prog 3 Tryz.f3 Rows.fnExactCheckCodeSpec Rows.fnExactCheckCodeRow = true := by kernel_rfl
theorem fact15 : jf15 Tryz.prog 3 Tryz.f3 Rows.fnExactCheckCodeSpec Rows.fnExactCheckCodeRow = true := by kernel_rfl
theorem fact16 : jf16 Tryz.prog 3 Tryz.f3 Rows.fnExactCheckCodeSpec Rows.fnExactCheckCodeRow = true := by kernel_rfl
theorem fact17 : jf17 Tryz.prog 3 Tryz.f3 Rows.fnExactCheckCodeSpec Rows.fnExactCheckCodeRow = true := by kernel_rfl
theorem fact18 : jf18 Tryz.prog 3 Tryz.f3 Rows.fnExactCheckCodeSpec Rows.fnExactCheckCodeRow = true := by kernel_rfl
theorem fact19 : jf19 Tryz.prog 3 Tryz.f3 Rows.fnExactCheckCodeSpec Rows.fnExactCheckCodeRow = true := by kernel_rfl
theorem fact20 : jf20 Tryz.prog 3 Tryz.f3 Rows.fnExactCheckCodeSpec Rows.fnExactCheckCodeRow = true := by kernel_rfl
theorem fact21 : jf21 Tryz.prog 3 Tryz.f3 Rows.fnExactCheckCodeSpec Rows.fnExactCheckCodeRow = true := by kernel_rfl
theorem fact22 : jf22 Tryz.prog 3 Tryz.f3 Rows.fnExactCheckCodeSpec Rows.fnExactCheckCodeRow = true := by kernel_rfl
theorem fact23 : jf23 Tryz.prog 3 Tryz.f3 Rows.fnExactCheckCodeSpec Rows.fnExactCheckCodeRow = true := by kernel_rfl
theorem fact24 : jf24 Tryz.prog 3 Tryz.f3 Rows.fnExactCheckCodeSpec Rows.fnExactCheckCodeRow = true := by kernel_rfl
theorem fact25 : jf25 Tryz.prog 3 Tryz.f3 Rows.fnExactCheckCodeSpec Rows.fnExactCheckCodeRow = true := by kernel_rfl
theorem fact26 : jf26 Tryz.prog 3 Tryz.f3 Rows.fnExactCheckCodeSpec Rows.fnExactCheckCodeRow = true := by kernel_rfl
theorem fact27 : jf27 Tryz.prog 3 Tryz.f3 Rows.fnExactCheckCodeSpec Rows.fnExactCheckCodeRow = true := by kernel_rfl
theorem fact28 : jf28 Tryz.prog 3 Tryz.f3 Rows.fnExactCheckCodeSpec Rows.fnExactCheckCodeRow = true := by kernel_rfl
theorem fact29 : jf29 Tryz.prog 3 Tryz.f3 Rows.fnExactCheckCodeSpec Rows.fnExactCheckCodeRow = true := by kernel_rfl
theorem fact30 : jf30 Tryz.prog 3 Tryz.f3 Rows.fnExactCheckCodeSpec Rows.fnExactCheckCodeRow = true := by kernel_rfl
theorem fact31 : jf31 Tryz.prog 3 Tryz.f3 Rows.fnExactCheckCodeSpec Rows.fnExactCheckCodeRow = true := by kernel_rfl
theorem over : Rows.fnExactCheckCodeRow.holds Tryz.pinned (OpenSpec.ofChange Rows.fnExactCheckCodeSpec) :=
  OpenClaim.holds_of_wide 3 Tryz.f3 rfl rfl rfl rfl rfl rfl rfl ⟨rfl, rfl, rfl, rfl, rfl⟩ rfl rfl rfl rfl rfl (by kernel_rfl) Tryz.func3 (joined fact0 fact1 fact2 fact3 fact4 fact5 fact6 fact7 fact8 fact9 fact10 fact11 fact12 fact13 fact14 fact15 fact16 fact17 fact18 fact19 fact20 fact21 fact22 fact23 fact24 fact25 fact26 fact27 fact28 fact29 fact30 fact31)
    (of_decide_eq_true (by kernel_rfl)) (by unfold Func.isWrapper; first | (rw [if_pos (by decide +kernel)]; kernel_rfl) | (rw [if_neg (by decide +kernel)]; exact ⟨rfl, rfl⟩))
    (fun os started H enc _ => lifted os started H enc)

/-- THE STATEMENT -/
theorem proved : Rows.FnExactCheckCodeSaid :=
  over
#print axioms proved
end fnExactCheckCode
end Go.Proofs.YtjdfancbmjnjfaaGreat
