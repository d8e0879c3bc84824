/-
  The law FnExactMessageOf returns true for every vector.
-/
import Derived.Test.YtdkjfilcdcbidaaRows
import Derived.Test.YtdkjfilcdcbidaaMessage
import Derived.Deep.RegionHeld3
namespace Go.Proofs.Ytdkjfilcdcbidaa
set_option maxRecDepth 100000
open Go.ChangeShapes Go.WideShapes Go.ChangeAt Go.RowKit Go.Deep
open Go.ChangeMaps (open_string shut_string)
set_option linter.unusedVariables false

namespace fnExactMessageOf
set_option maxHeartbeats 2000000 in
theorem walk (v : Value) (x : List Value × VecD) {w : World} (h : v = .agg x.1.toArray ∧ VecR w x.1 x.2) :
    Calls Try.prog 4 #[v] w fun e w' => e = .returned (.bool true) ∧ Below w.heap.size w w' := by
  obtain ⟨cs, d⟩ := x
  obtain ⟨rfl, h⟩ := h
  dsimp only at h ⊢
  obtain ⟨c0, c1, c2, c3, c4, c5, c6, c7, rfl⟩ : ∃ c0 c1 c2 c3 c4 c5 c6 c7, cs = [c0, c1, c2, c3, c4, c5, c6, c7] := by
    have hl := h.length
    match cs, hl with
    | [c0, c1, c2, c3, c4, c5, c6, c7], _ => exact ⟨_, _, _, _, _, _, _, _, rfl⟩
  have HT := Lib.hid h
  clear h
  have HBX := Lib.hid (fun o => (Below.refl w.heap.size w).alloc (Nat.le_refl _) o)
  by_cases hz : (szVector d : Int) ≤ 1048576
  rotate_left
  · have HZ := Lib.hid (szR_neg hz)
    go_enter Try.func4, Try.ntmps4
    go_wp2_with fail
    refine abs_w (fun W => Blk W w.heap.size 26 [c0, c1, c2, c3, c4, c5, c6, c7] ∧ Below w.heap.size w W) ⟨by exact Blk.new _ _ _, by exact HBX.out _⟩ ?_
    rintro W0 ⟨hK, hB⟩
    have HK := Lib.hid hK
    have HB := Lib.hid hB
    clear hK hB
    refine (laws_szVec d _ 1048576 _ (HT.out.below HB.out) (by omega) (by omega)).mono ?_
    rintro e w1 ⟨rfl, hb⟩
    rw [HZ.out]
    replace HK := Lib.hid (HK.out.below hb)
    replace HB := Lib.hid (HB.out.trans (hb.mono HB.out.size))
    clear hb
    go_wp2_with fail
    go_ret
    exact ⟨rfl, HB.out⟩
  have HZ := Lib.hid (szR_pos hz)
  go_enter Try.func4, Try.ntmps4
  go_wp2_with fail
  refine abs_w (fun W => Blk W w.heap.size 26 [c0, c1, c2, c3, c4, c5, c6, c7] ∧ Below w.heap.size w W) ⟨by exact Blk.new _ _ _, by exact HBX.out _⟩ ?_
  rintro W0 ⟨hK, hB⟩
  have HK := Lib.hid hK
  have HB := Lib.hid hB
  clear hK hB
  refine (laws_szVec d _ 1048576 _ (HT.out.below HB.out) (by omega) (by omega)).mono ?_
  rintro e w1 ⟨rfl, hb⟩
  rw [HZ.out]
  replace HK := Lib.hid (HK.out.below hb)
  replace HB := Lib.hid (HB.out.trans (hb.mono HB.out.size))
  clear hb
  have s0 := HK.out.cell 0 _ rfl
  have s1 := HK.out.cell 1 _ rfl
  have s2 := HK.out.cell 2 _ rfl
  have s3 := HK.out.cell 3 _ rfl
  have s4 := HK.out.cell 4 _ rfl
  have s5 := HK.out.cell 5 _ rfl
  have s6 := HK.out.cell 6 _ rfl
  have s7 := HK.out.cell 7 _ rfl
  go_wp2_with fail
  clear s0 s1 s2 s3 s4 s5 s6 s7
  refine (laws_toVec d _ _ (HT.out.below HB.out) (by omega)).mono ?_
  rintro e w2 ⟨ca, rfl, oa, hb⟩
  replace HK := Lib.hid (HK.out.below hb)
  replace HB := Lib.hid (HB.out.trans (hb.mono HB.out.size))
  clear hb
  have RA := Lib.hid oa.read
  obtain ⟨aA1, ak1, aA2, ak2, aA3, ak3, aA4, ak4, aA5, ak5, rfl⟩ := oa.shape
  go_wp2_with fail
  refine (spec_MessageOf d _ _ RA.out (by omega)).mono ?_
  rintro e w3 ⟨rfl, hb⟩
  replace HK := Lib.hid (HK.out.below hb)
  replace HB := Lib.hid (HB.out.trans (hb.mono HB.out.size))
  clear hb RA
  have s0 := HK.out.cell 0 _ rfl
  have s1 := HK.out.cell 1 _ rfl
  have s2 := HK.out.cell 2 _ rfl
  have s3 := HK.out.cell 3 _ rfl
  have s4 := HK.out.cell 4 _ rfl
  have s5 := HK.out.cell 5 _ rfl
  have s6 := HK.out.cell 6 _ rfl
  have s7 := HK.out.cell 7 _ rfl
  go_wp2_with fail
  clear s0 s1 s2 s3 s4 s5 s6 s7
  refine (laws_toVec d _ _ (HT.out.below HB.out) (by omega)).mono ?_
  rintro e w4 ⟨cx, rfl, ox, hb⟩
  replace HK := Lib.hid (HK.out.below hb)
  replace HB := Lib.hid (HB.out.trans (hb.mono HB.out.size))
  clear hb
  have RX := Lib.hid ox.read
  obtain ⟨aA1, ak1, aA2, ak2, aA3, ak3, aA4, ak4, aA5, ak5, rfl⟩ := ox.shape
  go_wp2_with fail
  refine abs_w (fun W => Ex2 w w.heap.size w.heap.size 26 [c0, c1, c2, c3, c4, c5, c6, c7] w4.heap.size 32 [.int .i64 d.kind, .slice aA1 d.items.length ak1, .slice aA2 d.parts.length ak2, .slice aA3 d.names.length ak3, .slice aA4 d.cls.length ak4, .slice aA5 d.levels.length ak5, .int .i64 d.code, .int .i64 d.env] W ∧ VecR W [.int .i64 d.kind, .slice aA1 d.items.length ak1, .slice aA2 d.parts.length ak2, .slice aA3 d.names.length ak3, .slice aA4 d.cls.length ak4, .slice aA5 d.levels.length ak5, .int .i64 d.code, .int .i64 d.env] d) ⟨⟨by exact HK.out.alloc _, by exact Blk.new _ _ _, by exact HB.out.alloc HB.out.size _, by simp; have := HB.out.size; omega⟩, by exact RX.out.below ((Below.refl _ _).alloc (Nat.le_refl _) _)⟩ ?_
  clear HK HB RX
  rintro W5 ⟨hX, hR⟩
  refine (impl_MessageOf d _ _ hR (by omega)).mono ?_
  rintro e w5 ⟨rfl, hb⟩
  have HX := Lib.hid (hX.below hb)
  have RX := Lib.hid (hR.below hb)
  clear hb hX hR
  go_wp2_with fail
  have s0 := HX.out.1.cell 0 _ rfl
  have o0 := HX.out.2.1.cell 0 _ rfl
  have s1 := HX.out.1.cell 1 _ rfl
  have o1 := HX.out.2.1.cell 1 _ rfl
  have s2 := HX.out.1.cell 2 _ rfl
  have o2 := HX.out.2.1.cell 2 _ rfl
  have s3 := HX.out.1.cell 3 _ rfl
  have o3 := HX.out.2.1.cell 3 _ rfl
  have s4 := HX.out.1.cell 4 _ rfl
  have o4 := HX.out.2.1.cell 4 _ rfl
  have s5 := HX.out.1.cell 5 _ rfl
  have o5 := HX.out.2.1.cell 5 _ rfl
  have s6 := HX.out.1.cell 6 _ rfl
  have o6 := HX.out.2.1.cell 6 _ rfl
  have s7 := HX.out.1.cell 7 _ rfl
  have o7 := HX.out.2.1.cell 7 _ rfl
  go_region_held3 (fun W => (W.cell? ⟨w.heap.size, 0, none⟩ = some c0 ∧ W.cell? ⟨w.heap.size, 1, none⟩ = some c1 ∧ W.cell? ⟨w.heap.size, 2, none⟩ = some c2 ∧ W.cell? ⟨w.heap.size, 3, none⟩ = some c3 ∧ W.cell? ⟨w.heap.size, 4, none⟩ = some c4 ∧ W.cell? ⟨w.heap.size, 5, none⟩ = some c5 ∧ W.cell? ⟨w.heap.size, 6, none⟩ = some c6 ∧ W.cell? ⟨w.heap.size, 7, none⟩ = some c7 ∧ W.cell? ⟨w4.heap.size, 0, none⟩ = some (.int .i64 d.kind) ∧ W.cell? ⟨w4.heap.size, 1, none⟩ = some (.slice aA1 d.items.length ak1) ∧ W.cell? ⟨w4.heap.size, 2, none⟩ = some (.slice aA2 d.parts.length ak2) ∧ W.cell? ⟨w4.heap.size, 3, none⟩ = some (.slice aA3 d.names.length ak3) ∧ W.cell? ⟨w4.heap.size, 4, none⟩ = some (.slice aA4 d.cls.length ak4) ∧ W.cell? ⟨w4.heap.size, 5, none⟩ = some (.slice aA5 d.levels.length ak5) ∧ W.cell? ⟨w4.heap.size, 6, none⟩ = some (.int .i64 d.code) ∧ W.cell? ⟨w4.heap.size, 7, none⟩ = some (.int .i64 d.env)))
    (first | exact ⟨s0, s1, s2, s3, s4, s5, s6, s7, o0, o1, o2, o3, o4, o5, o6, o7⟩ | exact ⟨HX6.out.1.cell 0 _ rfl, HX6.out.1.cell 1 _ rfl, HX6.out.1.cell 2 _ rfl, HX6.out.1.cell 3 _ rfl, HX6.out.1.cell 4 _ rfl, HX6.out.1.cell 5 _ rfl, HX6.out.1.cell 6 _ rfl, HX6.out.1.cell 7 _ rfl, HX6.out.2.1.cell 0 _ rfl, HX6.out.2.1.cell 1 _ rfl, HX6.out.2.1.cell 2 _ rfl, HX6.out.2.1.cell 3 _ rfl, HX6.out.2.1.cell 4 _ rfl, HX6.out.2.1.cell 5 _ rfl, HX6.out.2.1.cell 6 _ rfl, HX6.out.2.1.cell 7 _ rfl⟩ | exact ⟨HX7.out.1.cell 0 _ rfl, HX7.out.1.cell 1 _ rfl, HX7.out.1.cell 2 _ rfl, HX7.out.1.cell 3 _ rfl, HX7.out.1.cell 4 _ rfl, HX7.out.1.cell 5 _ rfl, HX7.out.1.cell 6 _ rfl, HX7.out.1.cell 7 _ rfl, HX7.out.2.1.cell 0 _ rfl, HX7.out.2.1.cell 1 _ rfl, HX7.out.2.1.cell 2 _ rfl, HX7.out.2.1.cell 3 _ rfl, HX7.out.2.1.cell 4 _ rfl, HX7.out.2.1.cell 5 _ rfl, HX7.out.2.1.cell 6 _ rfl, HX7.out.2.1.cell 7 _ rfl⟩)
    (first | (go_at_call 8; refine (laws_toVec d _ _ (by exact HT.out.below HX.out.2.2.1.drew) (by omega)).mono ?_; rintro e w6 ⟨cy, rfl, oy, hb6⟩; have HX6 := Lib.hid (Ex2.below HX.out.drew hb6); have RX6 := Lib.hid ((RX.out.below (Below.drew (Below.refl _ _))).below hb6); have RY := Lib.hid oy.read; obtain ⟨bA1, bk1, bA2, bk2, bA3, bk3, bA4, bk4, bA5, bk5, rfl⟩ := oy.shape; clear hb6) | (go_at_call 10; refine (laws_eqVec_same d _ _ _ RX6.out RY.out).mono ?_; rintro e w7 ⟨rfl, hb7⟩; have HX7 := Lib.hid (HX6.out.below hb7); clear hb7))
  go_wp2_with fail
  go_ret
  exact ⟨rfl, HX7.out.2.2.1⟩
set_option maxRecDepth 100000 in
theorem lifted (os : Os) (started : os.Started) (H : Type) (enc : TypeId × Value → H) :
    ReturnsInHanded {} Try.checked os 4 .any (Rows.fnExactMessageOfSpec.pre6 enc Try.prog Try.f4 Rows.fnExactMessageOfRow.domain false) (Rows.fnExactMessageOfSpec.post enc Try.prog Try.f4 false true false false) := by
  refine returnsInHanded_of_change (C := Try.checked) own started (by kernel_rfl) Try.func4
    (ChangeSpec.witness6 (enc := enc) (C := Try.checked) false ⟨#[], #[.agg #[.int .i64 0, .slice none 0 0, .slice none 0 0, .slice none 0 0, .slice none 0 0, .slice none 0 0, .int .i64 0, .int .i64 0]], []⟩ 8 (by kernel_rfl) (by kernel_rfl) (by kernel_rfl) (by kernel_rfl)) ?_
  intro W base args ds gs before hval0 hW hcnd _
  have hval : ∀ (j : Nat) t v, Try.f4.params[j]? = some t → args[j]? = some v → Value.okWide Try.prog W .any base t v := hval0
  have hW' := hW
  obtain ⟨p, q, hA0, hV, rfl, hfz, hnd⟩ := hW
  have hA : DataW.TrodAll enc Try.prog W 0 (fun _ => true) true Try.f4.params.toList args.toList ds p := hA0
  rw [Try.params4] at hA hval
  obtain ⟨v0, vs0, d0, ds0, p0, q0, hargs, rfl, rfl, h0, r0⟩ := trodAll_cons hA
  obtain ⟨rfl, rfl, rfl⟩ := trodAll_nil r0
  obtain rfl : args = #[v0] := by cases args; simp_all
  obtain ⟨rfl, rfl⟩ := trodVars_none hV
  obtain ⟨x0, u0⟩ := open_vector (hval 0 26 v0 rfl rfl) h0
  clear hA0 hval0
  refine (walk v0 x0 u0).mono fun e W' ⟨he, hg⟩ => ?_
  subst he
  exact ⟨_, rfl, law_post laidOut hW' rfl rfl Try.underlying4 rfl rfl rfl (by intro t ht; rw [Try.params4] at ht; have ht2 : t ∈ [26] := ht; simp only [List.mem_cons, List.not_mem_nil, or_false] at ht2; rcases ht2 with rfl <;> exact ⟨by kernel_rfl, of_decide_eq_true (by kernel_rfl)⟩) hg⟩

theorem over : Rows.fnExactMessageOfRow.holds Try.pinned (OpenSpec.ofChange Rows.fnExactMessageOfSpec) :=
  OpenClaim.holds_of_wide 4 Try.f4 rfl rfl rfl rfl rfl rfl rfl ⟨rfl, rfl, rfl, rfl, rfl⟩ rfl rfl rfl rfl rfl (by kernel_rfl) Try.func4 (by kernel_rfl)
    (of_decide_eq_true (by kernel_rfl)) (by unfold Func.isWrapper; first | (rw [if_pos (by decide +kernel)]; kernel_rfl) | (rw [if_neg (by decide +kernel)]; exact ⟨rfl, rfl⟩))
    (fun os started H enc _ => lifted os started H enc)

/-- THE STATEMENT -/
theorem proved : Rows.FnExactMessageOfSaid :=
  over
#print axioms proved
end fnExactMessageOf
end Go.Proofs.Ytdkjfilcdcbidaa
