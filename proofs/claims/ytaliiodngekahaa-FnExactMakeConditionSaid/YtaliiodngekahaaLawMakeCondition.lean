/-
  The law FnExactMakeCondition returns true for every class and message.
-/
import Derived.Test.YtaliiodngekahaaRows
import Derived.Test.YtaliiodngekahaaJoin
import Derived.Test.YtaliiodngekahaaCondMake
import Derived.Test.YtaliiodngekahaaMarkV1
namespace Go.Proofs.Ytaliiodngekahaa
set_option maxRecDepth 100000
open Go.ChangeShapes Go.WideShapes Go.ChangeAt Go.RowKit Go.Deep
open Go.ChangeMaps (open_string shut_string)
set_option linter.unusedVariables false

namespace fnExactMakeCondition
theorem cV1_cond (c m : List UInt8) : cV1 (condV c m) ≤ 100 := by
  unfold condV
  split
  · unfold cV1 condD
    simp [VecD.items, VecD.parts, VecD.names, VecD.cls, VecD.levels, cntL, cVec_eq, textV1, cItem, tItem]
  · simp [cV1, zeroD, VecD.items, VecD.parts, VecD.names, VecD.cls, VecD.levels, cntL]
/-- outside S, and below B, nothing has changed -/
theorem below_of {S : Nat → Prop} {B : Nat} {w w' : World} (hk : Keeps (fun b => ¬ S b) w w') (h0 : Below 0 w w') (hs : ∀ b, S b → B ≤ b) (hB : B ≤ w.heap.size) : Below B w w' :=
  ⟨h0.os, h0.tape, h0.output, hk.1, fun i hi => hk.2 i (by omega) (fun h => by have := hs i h; omega)⟩

/-- what the law keeps: the reference's value and the program's, each in a box -/
structure LS (w : World) (p q : Nat) (cw cg : List Value) (d dg : VecD) (W : World) : Prop where
  bw : Blk W p 39 cw
  bg : Blk W q 39 cg
  ow : VecO (Rng w.heap.size p) W cw d
  og : VecO (Rng (p + 1) q) W cg dg
  below : Below w.heap.size w W
  hp : w.heap.size ≤ p
  hq : p + 1 ≤ q
theorem LS.step {w : World} {p q : Nat} {cw cg : List Value} {d dg : VecD} {W W' : World} (h : LS w p q cw cg d dg W) (hb : Below W.heap.size W W') : LS w p q cw cg d dg W' :=
  ⟨h.bw.below hb, h.bg.below hb, h.ow.keeps (Keeps.of_below _ hb), h.og.keeps (Keeps.of_below _ hb), h.below.trans (hb.mono h.below.size), h.hp, h.hq⟩
theorem LS.mark {w : World} {p q : Nat} {cw cg : List Value} {d dg dg' : VecD} {W W' : World} (h : LS w p q cw cg d dg W) (ho : VecO (Rng (p + 1) q) W' cg dg') (hk : Keeps (fun b => ¬ Rng (p + 1) q b) W W') (h0 : Below 0 W W') : LS w p q cw cg d dg' W' :=
  have hp := h.hp
  have hq := h.hq
  ⟨h.bw.keeps hk (fun hb => by have := hb.1; omega), h.bg.keeps hk (fun hb => by have := hb.2; omega), h.ow.keeps (hk.mono fun b hb hq' => by have := hb.2; have := hq'.1; omega), ho, h.below.trans (below_of hk h0 (fun b hb => by have := hb.1; omega) h.below.size), hp, hq⟩

set_option maxHeartbeats 2000000 in
theorem walk (c : List UInt8) (hc0 : c.length ≤ maxLen) (m : List UInt8) (hm0 : m.length ≤ maxLen) {w : World} :
    Calls Try.prog 5 #[.string (str c), .string (str m)] w fun e w' => e = .returned (.bool true) ∧ Below w.heap.size w w' := by
  unfold maxLen at hc0 hm0
  by_cases hc : c.length ≤ 1048576
  rotate_left
  · go_enter Try.func5, Try.ntmps5
    go_wp2_with fail
    go_ret
    exact ⟨rfl, Below.refl _ _⟩
  by_cases hm : m.length ≤ 1048576
  rotate_left
  · go_enter Try.func5, Try.ntmps5
    go_wp2_with fail
    go_ret
    exact ⟨rfl, Below.refl _ _⟩
  have hS1 := fun w => spec_MakeCondition c m hc hm w
  have hI1 := fun w => impl_MakeCondition c m hc hm w
  have hcv := cV1_cond c m
  generalize condV c m = d at hS1 hI1 hcv
  have HS1 := Lib.hid hS1
  have HI1 := Lib.hid hI1
  clear hS1 hI1
  go_enter Try.func5, Try.ntmps5
  go_wp2_with fail
  refine Calls.mono (HS1.out _) ?_
  rintro e w1 ⟨cw, rfl, ow, hb1⟩
  obtain ⟨A1, a1, A2, a2, A3, a3, A4, a4, A5, a5, rfl⟩ := ow.shape
  have HOW := Lib.hid ow
  have HB1 := Lib.hid hb1
  have hz1 := hb1.size
  clear ow hb1
  go_wp2_with fail
  refine Calls.mono (HI1.out _) ?_
  rintro e w2 ⟨cg, rfl, og, hb2⟩
  obtain ⟨D1, d1, D2, d2, D3, d3, D4, d4, D5, d5, rfl⟩ := og.shape
  have hz2 : w1.heap.size + 1 ≤ w2.heap.size := by have := hb2.size; simpa using this
  have BW := Lib.hid ((Blk.new w1 39 _).below hb2)
  have OW := Lib.hid ((HOW.out.keeps (Keeps.of_below _ ((Below.refl w1.heap.size w1).alloc (Nat.le_refl _) _))).keeps (Keeps.of_below _ hb2))
  have OG := Lib.hid (og.mono (S' := Rng (w1.heap.size + 1) w2.heap.size) fun b hb => by simpa [Rng] using hb)
  have HB2 := Lib.hid (HB1.out.trans ((((Below.refl w1.heap.size w1).alloc (Nat.le_refl _) _).trans (hb2.mono (by simp))).mono hz1))
  clear og hb2 HOW HB1
  have HL2 := Lib.hid (show LS w w1.heap.size w2.heap.size [.int .i64 d.kind, .slice A1 d.items.length a1, .slice A2 d.parts.length a2, .slice A3 d.names.length a3, .slice A4 d.cls.length a4, .slice A5 d.levels.length a5, .int .i64 d.code, .int .i64 d.env] [.int .i64 d.kind, .slice D1 d.items.length d1, .slice D2 d.parts.length d2, .slice D3 d.names.length d3, .slice D4 d.cls.length d4, .slice D5 d.levels.length d5, .int .i64 d.code, .int .i64 d.env] d d (w2.alloc (.cells [.int .i64 d.kind, .slice D1 d.items.length d1, .slice D2 d.parts.length d2, .slice D3 d.names.length d3, .slice D4 d.cls.length d4, .slice D5 d.levels.length d5, .int .i64 d.code, .int .i64 d.env].toArray 39)) from
    have b := (Below.refl w2.heap.size w2).alloc (Nat.le_refl _) (.cells [.int .i64 d.kind, .slice D1 d.items.length d1, .slice D2 d.parts.length d2, .slice D3 d.names.length d3, .slice D4 d.cls.length d4, .slice D5 d.levels.length d5, .int .i64 d.code, .int .i64 d.env].toArray 39)
    ⟨BW.out.below b, Blk.new w2 _ _, OW.out.keeps (Keeps.of_below _ b), OG.out.keeps (Keeps.of_below _ b), HB2.out.trans (b.mono HB2.out.size), hz1, hz2⟩)
  have y0 := HL2.out.bw.cell 0 _ rfl
  have y1 := HL2.out.bw.cell 1 _ rfl
  have y2 := HL2.out.bw.cell 2 _ rfl
  have y3 := HL2.out.bw.cell 3 _ rfl
  have y4 := HL2.out.bw.cell 4 _ rfl
  have y5 := HL2.out.bw.cell 5 _ rfl
  have y6 := HL2.out.bw.cell 6 _ rfl
  have y7 := HL2.out.bw.cell 7 _ rfl
  go_wp2_with fail
  clear y0 y1 y2 y3 y4 y5 y6 y7
  refine Calls.mono (laws_eqVec_same d _ _ _ HL2.out.og.read HL2.out.ow.read) ?_
  rintro e w4 ⟨rfl, hb⟩
  have HL4 := Lib.hid (HL2.out.step hb)
  clear hb HL2 BW OW OG HB2
  have y0 := HL4.out.bg.cell 0 _ rfl
  have y1 := HL4.out.bg.cell 1 _ rfl
  have y2 := HL4.out.bg.cell 2 _ rfl
  have y3 := HL4.out.bg.cell 3 _ rfl
  have y4 := HL4.out.bg.cell 4 _ rfl
  have y5 := HL4.out.bg.cell 5 _ rfl
  have y6 := HL4.out.bg.cell 6 _ rfl
  have y7 := HL4.out.bg.cell 7 _ rfl
  go_wp2_with fail
  clear y0 y1 y2 y3 y4 y5 y6 y7
  refine Calls.mono (laws_markVector (Rng (w1.heap.size + 1) w2.heap.size) d _ 1 _ HL4.out.og (fun hb => by have := hb.2; have := HL4.out.bg.lt; omega) (by decide) (by omega)) ?_
  rintro e w5 ⟨rfl, ho, hk, h0⟩
  have HL5 := Lib.hid (HL4.out.mark ho hk h0)
  clear ho hk h0 HL4
  have y0 := HL5.out.bg.cell 0 _ rfl
  have y1 := HL5.out.bg.cell 1 _ rfl
  have y2 := HL5.out.bg.cell 2 _ rfl
  have y3 := HL5.out.bg.cell 3 _ rfl
  have y4 := HL5.out.bg.cell 4 _ rfl
  have y5 := HL5.out.bg.cell 5 _ rfl
  have y6 := HL5.out.bg.cell 6 _ rfl
  have y7 := HL5.out.bg.cell 7 _ rfl
  go_wp2_with fail
  clear y0 y1 y2 y3 y4 y5 y6 y7
  refine Calls.mono (laws_heldVector d _ 1 _ HL5.out.og.read (by decide) (by omega)) ?_
  rintro e w6 ⟨rfl, hb⟩
  have HL6 := Lib.hid (HL5.out.step hb)
  clear hb HL5
  go_wp2_with fail
  refine Calls.mono (HI1.out _) ?_
  rintro e w7 ⟨ch, rfl, oh, hb⟩
  obtain ⟨E1, e1, E2, e2, E3, e3, E4, e4, E5, e5, rfl⟩ := oh.shape
  have HL7 := Lib.hid (HL6.out.step hb)
  have b7 := (Below.refl w7.heap.size w7).alloc (Nat.le_refl _) (.cells [.int .i64 d.kind, .slice E1 d.items.length e1, .slice E2 d.parts.length e2, .slice E3 d.names.length e3, .slice E4 d.cls.length e4, .slice E5 d.levels.length e5, .int .i64 d.code, .int .i64 d.env].toArray 39)
  have OH := Lib.hid (oh.keeps (Keeps.of_below _ b7))
  have HL7b := Lib.hid (HL7.out.step b7)
  clear hb oh HL6 b7
  have y0 := HL7b.out.bw.cell 0 _ rfl
  have y1 := HL7b.out.bw.cell 1 _ rfl
  have y2 := HL7b.out.bw.cell 2 _ rfl
  have y3 := HL7b.out.bw.cell 3 _ rfl
  have y4 := HL7b.out.bw.cell 4 _ rfl
  have y5 := HL7b.out.bw.cell 5 _ rfl
  have y6 := HL7b.out.bw.cell 6 _ rfl
  have y7 := HL7b.out.bw.cell 7 _ rfl
  go_wp2_with fail
  clear y0 y1 y2 y3 y4 y5 y6 y7
  refine Calls.mono (laws_eqVec_same d _ _ _ OH.out.read HL7b.out.ow.read) ?_
  rintro e w8 ⟨rfl, hb⟩
  have HL8 := Lib.hid (HL7b.out.step hb)
  clear hb HL7 HL7b OH
  have y0 := HL8.out.bg.cell 0 _ rfl
  have y1 := HL8.out.bg.cell 1 _ rfl
  have y2 := HL8.out.bg.cell 2 _ rfl
  have y3 := HL8.out.bg.cell 3 _ rfl
  have y4 := HL8.out.bg.cell 4 _ rfl
  have y5 := HL8.out.bg.cell 5 _ rfl
  have y6 := HL8.out.bg.cell 6 _ rfl
  have y7 := HL8.out.bg.cell 7 _ rfl
  go_wp2_with fail
  clear y0 y1 y2 y3 y4 y5 y6 y7
  refine Calls.mono (laws_heldVector d _ 1 _ HL8.out.og.read (by decide) (by omega)) ?_
  rintro e w9 ⟨rfl, hb⟩
  have HL9 := Lib.hid (HL8.out.step hb)
  clear hb HL8
  go_wp2_with fail
  go_ret
  exact ⟨rfl, HL9.out.below⟩
set_option maxRecDepth 100000 in
theorem lifted (os : Os) (started : os.Started) (H : Type) (enc : TypeId × Value → H) :
    ReturnsInHanded {} Try.checked os 5 .any (Rows.fnExactMakeConditionSpec.pre6 enc Try.prog Try.f5 Rows.fnExactMakeConditionRow.domain false) (Rows.fnExactMakeConditionSpec.post enc Try.prog Try.f5 false true false false) := by
  refine returnsInHanded_of_change (C := Try.checked) own started (by kernel_rfl) Try.func5
    (ChangeSpec.witness6 (enc := enc) (C := Try.checked) false ⟨#[], #[.string ByteArray.empty, .string ByteArray.empty], []⟩ 8 (by kernel_rfl) (by kernel_rfl) (by kernel_rfl) (by kernel_rfl)) ?_
  intro W base args ds gs before hval0 hW hcnd _
  have hval : ∀ (j : Nat) t v, Try.f5.params[j]? = some t → args[j]? = some v → Value.okWide Try.prog W .any base t v := hval0
  have hW' := hW
  obtain ⟨p, q, hA0, hV, rfl, hfz, hnd⟩ := hW
  have hA : DataW.TrodAll enc Try.prog W 0 (fun _ => true) true Try.f5.params.toList args.toList ds p := hA0
  rw [Try.params5] at hA hval
  obtain ⟨v0, vs0, d0, ds0, p0, q0, hargs, rfl, rfl, h0, r0⟩ := trodAll_cons hA
  obtain ⟨v1, vs1, d1, ds1, p1, q1, rfl, rfl, rfl, h1, r1⟩ := trodAll_cons r0
  obtain ⟨rfl, rfl, rfl⟩ := trodAll_nil r1
  obtain rfl : args = #[v0, v1] := by cases args; simp_all
  obtain ⟨rfl, rfl⟩ := trodVars_none hV
  obtain ⟨s0, rfl, rfl, rfl, u0⟩ := open_string Try.underlying9 (hval 0 9 v0 rfl rfl) h0
  obtain ⟨x0, rfl⟩ := exists_str s0
  rw [str_size] at u0
  obtain ⟨s1, rfl, rfl, rfl, u1⟩ := open_string Try.underlying9 (hval 1 9 v1 rfl rfl) h1
  obtain ⟨x1, rfl⟩ := exists_str s1
  rw [str_size] at u1
  clear hA0 hval0
  refine (walk x0 u0 x1 u1).mono fun e W' ⟨he, hg⟩ => ?_
  subst he
  exact ⟨_, rfl, law_post laidOut hW' rfl rfl Try.underlying4 rfl rfl rfl (by intro t ht; rw [Try.params5] at ht; have ht2 : t ∈ [9, 9] := ht; simp only [List.mem_cons, List.not_mem_nil, or_false] at ht2; rcases ht2 with rfl | rfl <;> exact ⟨by kernel_rfl, of_decide_eq_true (by kernel_rfl)⟩) hg⟩

theorem fact0 : jf0 Try.prog 5 Try.f5 Rows.fnExactMakeConditionSpec Rows.fnExactMakeConditionRow = true := by kernel_rfl
theorem fact1 : jf1 Try.prog 5 Try.f5 Rows.fnExactMakeConditionSpec Rows.fnExactMakeConditionRow = true := by kernel_rfl
theorem fact2 : jf2 Try.prog 5 Try.f5 Rows.fnExactMakeConditionSpec Rows.fnExactMakeConditionRow = true := by kernel_rfl
theorem fact3 : jf3 Try.prog 5 Try.f5 Rows.fnExactMakeConditionSpec Rows.fnExactMakeConditionRow = true := by kernel_rfl
theorem fact4 : jf4 Try.prog 5 Try.f5 Rows.fnExactMakeConditionSpec Rows.fnExactMakeConditionRow = true := by kernel_rfl
theorem fact5 : jf5 Try.prog 5 Try.f5 Rows.fnExactMakeConditionSpec Rows.fnExactMakeConditionRow = true := by kernel_rfl
theorem fact6 : jf6 Try.prog 5 Try.f5 Rows.fnExactMakeConditionSpec Rows.fnExactMakeConditionRow = true := by kernel_rfl
theorem fact7 : jf7 Try.prog 5 Try.f5 Rows.fnExactMakeConditionSpec Rows.fnExactMakeConditionRow = true := by kernel_rfl
theorem fact8 : jf8 Try.prog 5 Try.f5 Rows.fnExactMakeConditionSpec Rows.fnExactMakeConditionRow = true := by kernel_rfl
theorem fact9 : jf9 Try.prog 5 Try.f5 Rows.fnExactMakeConditionSpec Rows.fnExactMakeConditionRow = true := by kernel_rfl
theorem fact10 : jf10 Try.prog 5 Try.f5 Rows.fnExactMakeConditionSpec Rows.fnExactMakeConditionRow = true := by kernel_rfl
theorem fact11 : jf11 Try.prog 5 Try.f5 Rows.fnExactMakeConditionSpec Rows.fnExactMakeConditionRow = true := by kernel_rfl
theorem fact12 : jf12 Try.prog 5 Try.f5 Rows.fnExactMakeConditionSpec Rows.fnExactMakeConditionRow = true := by kernel_rfl
theorem fact13 : jf13 Try.prog 5 Try.f5 Rows.fnExactMakeConditionSpec Rows.fnExactMakeConditionRow = true := by kernel_rfl
theorem fact14 : jf14 Try.prog 5 Try.f5 Rows.fnExactMakeConditionSpec Rows.fnExactMakeConditionRow = true := by kernel_rfl
theorem fact15 : jf15 Try.prog 5 Try.f5 Rows.fnExactMakeConditionSpec Rows.fnExactMakeConditionRow = true := by kernel_rfl
theorem fact16 : jf16 Try.prog 5 Try.f5 Rows.fnExactMakeConditionSpec Rows.fnExactMakeConditionRow = true := by kernel_rfl
theorem fact17 : jf17 Try.prog 5 Try.f5 Rows.fnExactMakeConditionSpec Rows.fnExactMakeConditionRow = true := by kernel_rfl
theorem fact18 : jf18 Try.prog 5 Try.f5 Rows.fnExactMakeConditionSpec Rows.fnExactMakeConditionRow = true := by kernel_rfl
theorem fact19 : jf19 Try.prog 5 Try.f5 Rows.fnExactMakeConditionSpec Rows.fnExactMakeConditionRow = true := by kernel_rfl
theorem fact20 : jf20 Try.prog 5 Try.f5 Rows.fnExactMakeConditionSpec Rows.fnExactMakeConditionRow = true := by kernel_rfl
theorem fact21 : jf21 Try.prog 5 Try.f5 Rows.fnExactMakeConditionSpec Rows.fnExactMakeConditionRow = true := by kernel_rfl
theorem fact22 : jf22 Try.prog 5 Try.f5 Rows.fnExactMakeConditionSpec Rows.fnExactMakeConditionRow = true := by kernel_rfl
theorem fact23 : jf23 Try.prog 5 Try.f5 Rows.fnExactMakeConditionSpec Rows.fnExactMakeConditionRow = true := by kernel_rfl
theorem fact24 : jf24 Try.prog 5 Try.f5 Rows.fnExactMakeConditionSpec Rows.fnExactMakeConditionRow = true := by kernel_rfl
theorem fact25 : jf25 Try.prog 5 Try.f5 Rows.fnExactMakeConditionSpec Rows.fnExactMakeConditionRow = true := by kernel_rfl
theorem fact26 : jf26 Try.prog 5 Try.f5 Rows.fnExactMakeConditionSpec Rows.fnExactMakeConditionRow = true := by kernel_rfl
theorem fact27 : jf27 Try.prog 5 Try.f5 Rows.fnExactMakeConditionSpec Rows.fnExactMakeConditionRow = true := by kernel_rfl
theorem fact28 : jf28 Try.prog 5 Try.f5 Rows.fnExactMakeConditionSpec Rows.fnExactMakeConditionRow = true := by kernel_rfl
theorem fact29 : jf29 Try.prog 5 Try.f5 Rows.fnExactMakeConditionSpec Rows.fnExactMakeConditionRow = true := by kernel_rfl
theorem fact30 : jf30 Try.prog 5 Try.f5 Rows.fnExactMakeConditionSpec Rows.fnExactMakeConditionRow = true := by kernel_rfl
theorem fact31 : jf31 Try.prog 5 Try.f5 Rows.fnExactMakeConditionSpec Rows.fnExactMakeConditionRow = true := by kernel_rfl
theorem over : Rows.fnExactMakeConditionRow.holds Try.pinned (OpenSpec.ofChange Rows.fnExactMakeConditionSpec) :=
  OpenClaim.holds_of_wide 5 Try.f5 rfl rfl rfl rfl rfl rfl rfl ⟨rfl, rfl, rfl, rfl, rfl⟩ rfl rfl rfl rfl rfl (by kernel_rfl) Try.func5 (joined fact0 fact1 fact2 fact3 fact4 fact5 fact6 fact7 fact8 fact9 fact10 fact11 fact12 fact13 fact14 fact15 fact16 fact17 fact18 fact19 fact20 fact21 fact22 fact23 fact24 fact25 fact26 fact27 fact28 fact29 fact30 fact31)
    (of_decide_eq_true (by kernel_rfl)) (by unfold Func.isWrapper; first | (rw [if_pos (by decide +kernel)]; kernel_rfl) | (rw [if_neg (by decide +kernel)]; exact ⟨rfl, rfl⟩))
    (fun os started H enc _ => lifted os started H enc)

/-- THE STATEMENT -/
theorem proved : Rows.FnExactMakeConditionSaid :=
  over
#print axioms proved
end fnExactMakeCondition
end Go.Proofs.Ytaliiodngekahaa
