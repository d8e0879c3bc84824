/-
  The law FnExactJumpTargets returns true for every segment.
-/
import Derived.Test.YtaliiodngekahaaRows
import Derived.Test.YtaliiodngekahaaJoin
import Derived.Test.YtaliiodngekahaaJumps2
import Derived.Test.YtaliiodngekahaaMarkLe
import Derived.Deep.RegionHeld3
namespace Go.Proofs.Ytaliiodngekahaa
set_option maxRecDepth 100000
open Go.ChangeShapes Go.WideShapes Go.ChangeAt Go.RowKit Go.Deep
open Go.ChangeMaps (open_string shut_string)
set_option linter.unusedVariables false

namespace fnExactJumpTargets
theorem jtD_len (d : SegD) : (jtD d).length ≤ d.instrs.length + 1 := by
  unfold jtD
  split
  · exact jtF_len _ _
  · simp
theorem jtD_small (d : SegD) (h : d.instrs.length ≤ 1048576) : ∀ x ∈ jtD d, I64 x := by
  intro x hx
  unfold jtD at hx
  split at hx
  · have := jtF_small _ _ x hx
    exact ⟨by omega, by omega⟩
  · simp at hx
/-- outside S, and below B, nothing has changed -/
theorem below_of {S : Nat → Prop} {B : Nat} {w w' : World} (hk : Keeps (fun b => ¬ S b) w w') (h0 : Below 0 w w') (hs : ∀ b, S b → B ≤ b) (hB : B ≤ w.heap.size) : Below B w w' :=
  ⟨h0.os, h0.tape, h0.output, hk.1, fun i hi => hk.2 i (by omega) (fun h => by have := hs i h; omega)⟩

structure L0 (w : World) (cs : List Value) (W : World) : Prop where
  bA : Blk W w.heap.size 46 cs
  below : Below w.heap.size w W
theorem L0.step {w : World} {cs : List Value} {W W' : World} (h : L0 w cs W) (hb : Below W.heap.size W W') : L0 w cs W' :=
  ⟨h.bA.below hb, h.below.trans (hb.mono h.below.size)⟩
structure L1 (w : World) (cs : List Value) (M : List Int) (p : Nat) (vw : Value) (W : World) : Prop where
  l0 : L0 w cs W
  ow : IntO (Rng (w.heap.size + 1) p) W vw M
  hp : w.heap.size + 1 ≤ p
theorem L1.step {w : World} {cs : List Value} {M : List Int} {p : Nat} {vw : Value} {W W' : World} (h : L1 w cs M p vw W) (hb : Below W.heap.size W W') : L1 w cs M p vw W' :=
  ⟨h.l0.step hb, h.ow.keeps (Keeps.of_below _ hb), h.hp⟩
structure L2 (w : World) (cs : List Value) (M : List Int) (p : Nat) (vw : Value) (q : Nat) (cx : List Value) (W : World) : Prop where
  l1 : L1 w cs M p vw W
  bx : Blk W q 51 cx
  hq : p ≤ q
theorem L2.step {w : World} {cs : List Value} {M : List Int} {p : Nat} {vw : Value} {q : Nat} {cx : List Value} {W W' : World} (h : L2 w cs M p vw q cx W) (hb : Below W.heap.size W W') : L2 w cs M p vw q cx W' :=
  ⟨h.l1.step hb, h.bx.below hb, h.hq⟩
structure L3 (w : World) (cs : List Value) (M : List Int) (p : Nat) (vw : Value) (q : Nat) (cx : List Value) (r : Nat) (vg : Value) (l : List Int) (W : World) : Prop where
  l2 : L2 w cs M p vw q cx W
  og : IntO (Rng (q + 1) r) W vg l
  hr : q + 1 ≤ r
theorem L3.step {w : World} {cs : List Value} {M : List Int} {p : Nat} {vw : Value} {q : Nat} {cx : List Value} {r : Nat} {vg : Value} {l : List Int} {W W' : World} (h : L3 w cs M p vw q cx r vg l W) (hb : Below W.heap.size W W') : L3 w cs M p vw q cx r vg l W' :=
  ⟨h.l2.step hb, h.og.keeps (Keeps.of_below _ hb), h.hr⟩
theorem L3.markX {w : World} {cs : List Value} {M : List Int} {p : Nat} {vw : Value} {q : Nat} {cx : List Value} {r : Nat} {vg : Value} {l : List Int} {W W' : World} (h : L3 w cs M p vw q cx r vg l W) (hk : Keeps (fun b => ¬ Rng p q b) W W') (h0 : Below 0 W W') : L3 w cs M p vw q cx r vg l W' :=
  have hp := h.l2.l1.hp
  have hq := h.l2.hq
  ⟨⟨⟨⟨h.l2.l1.l0.bA.keeps hk (fun hb => by have := hb.1; omega), h.l2.l1.l0.below.trans (below_of hk h0 (fun b hb => by have := hb.1; omega) h.l2.l1.l0.below.size)⟩, h.l2.l1.ow.keeps (hk.mono fun b hb hq' => by have := hb.2; have := hq'.1; omega), hp⟩, h.l2.bx.keeps hk (fun hb => by have := hb.2; omega), hq⟩, h.og.keeps (hk.mono fun b hb hq' => by have := hb.1; have := hq'.2; omega), h.hr⟩
theorem L3.markG {w : World} {cs : List Value} {M : List Int} {p : Nat} {vw : Value} {q : Nat} {cx : List Value} {r : Nat} {vg : Value} {l l' : List Int} {W W' : World} (h : L3 w cs M p vw q cx r vg l W) (ho : IntO (Rng (q + 1) r) W' vg l') (hk : Keeps (fun b => ¬ Rng (q + 1) r b) W W') (h0 : Below 0 W W') : L3 w cs M p vw q cx r vg l' W' :=
  have hp := h.l2.l1.hp
  have hq := h.l2.hq
  ⟨⟨⟨⟨h.l2.l1.l0.bA.keeps hk (fun hb => by have := hb.1; omega), h.l2.l1.l0.below.trans (below_of hk h0 (fun b hb => by have := hb.1; omega) h.l2.l1.l0.below.size)⟩, h.l2.l1.ow.keeps (hk.mono fun b hb hq' => by have := hb.2; have := hq'.1; omega), hp⟩, h.l2.bx.keeps hk (fun hb => by have := hb.1; omega), hq⟩, ho, h.hr⟩

set_option maxHeartbeats 4000000 in
theorem walk (v : Value) (x : List Value × SegD) {w : World} (h : v = .agg x.1.toArray ∧ SegmentR w x.1 x.2) :
    Calls Try.prog 4 #[v] w fun e w' => e = .returned (.bool true) ∧ Below w.heap.size w w' := by
  obtain ⟨cs, d⟩ := x
  obtain ⟨rfl, h⟩ := h
  dsimp only at h ⊢
  obtain ⟨c0, c1, c2, rfl⟩ : ∃ c0 c1 c2, cs = [c0, c1, c2] := by
    have hl := h.length
    match cs, hl with
    | [c0, c1, c2], _ => exact ⟨_, _, _, rfl⟩
  have HT := Lib.hid h
  clear h
  have HL := Lib.hid (show L0 w [c0, c1, c2] (w.alloc (.cells [c0, c1, c2].toArray 46)) from ⟨Blk.new _ _ _, (Below.refl w.heap.size w).alloc (Nat.le_refl _) _⟩)
  by_cases hz : (szSegment d : Int) ≤ 1048576
  rotate_left
  · have HZ := Lib.hid (szR_neg hz)
    go_enter Try.func4, Try.ntmps4
    go_upto_region 1 with fail
    refine gen_w (G := L0 w [c0, c1, c2]) (show Ok _ _ from HL.out) ?_
    intro W0 g0
    have y0 := g0.bA.cell 0 _ rfl
    have y1 := g0.bA.cell 1 _ rfl
    have y2 := g0.bA.cell 2 _ rfl
    go_wp2_with fail
    refine Calls.mono (laws_szSegment d _ 1048576 _ (HT.out.below g0.below) (by omega) (by omega)) ?_
    rintro e w1 ⟨rfl, hb⟩
    rw [HZ.out]
    have HB := Lib.hid (g0.step hb).below
    clear hb g0 y0 y1 y2
    go_wp2_with fail
    go_ret
    exact ⟨rfl, HB.out⟩
  have HZ := Lib.hid (szR_pos hz)
  have hin : d.instrs.length ≤ 1048576 := by have := szS_length szInstr d.instrs; unfold szSegment at hz; omega
  have hML := jtD_len d
  have HSM := Lib.hid (jtD_small d hin)
  have hS1 := fun cs w h => spec_JumpTargets d cs w h (by omega)
  have hI1 := fun cs w h => impl_JumpTargets d cs w h (by omega)
  generalize jtD d = M at hS1 hI1 hML HSM
  have HS1 := Lib.hid hS1
  have HI1 := Lib.hid hI1
  have hML1 : M.length ≤ 1048577 := by omega
  clear hS1 hI1 hML
  go_enter Try.func4, Try.ntmps4
  go_upto_region 1 with fail
  refine gen_w (G := L0 w [c0, c1, c2]) (show Ok _ _ from HL.out) ?_
  clear HL
  intro W0 g0
  have y0 := g0.bA.cell 0 _ rfl
  have y1 := g0.bA.cell 1 _ rfl
  have y2 := g0.bA.cell 2 _ rfl
  go_wp2_with fail
  refine Calls.mono (laws_szSegment d _ 1048576 _ (HT.out.below g0.below) (by omega) (by omega)) ?_
  rintro e w1 ⟨rfl, hb⟩
  rw [HZ.out]
  have HL1 := Lib.hid (g0.step hb)
  clear hb g0 y0 y1 y2
  have y0 := HL1.out.bA.cell 0 _ rfl
  have y1 := HL1.out.bA.cell 1 _ rfl
  have y2 := HL1.out.bA.cell 2 _ rfl
  go_wp2_with fail
  clear y0 y1 y2
  refine Calls.mono (laws_toSegment d _ _ (HT.out.below HL1.out.below) (by omega)) ?_
  rintro e w2 ⟨ca, rfl, oa, hb⟩
  have HL2 := Lib.hid (HL1.out.step hb)
  have RA := Lib.hid oa.read
  have hs2 : w.heap.size + 1 ≤ w2.heap.size := by have := HL2.out.bA.lt; omega
  obtain ⟨a0, b0, a1, b1, a2, b2, rfl⟩ := oa.shape
  clear hb HL1 oa
  go_wp2_with fail
  refine Calls.mono (HS1.out _ _ RA.out) ?_
  rintro e w3 ⟨A3, k3, rfl, ow, hb⟩
  have hs3 : w.heap.size + 1 ≤ w3.heap.size := by have := hb.size; omega
  have HL3 := Lib.hid (show L1 w [c0, c1, c2] M w3.heap.size (.slice A3 M.length k3) w3 from ⟨HL2.out.step hb, ⟨(FlO.of_own ow).mono fun b h => ⟨by have := h.1; omega, h.2⟩, HSM.out⟩, hs3⟩)
  clear hb HL2 RA ow
  have y0 := HL3.out.l0.bA.cell 0 _ rfl
  have y1 := HL3.out.l0.bA.cell 1 _ rfl
  have y2 := HL3.out.l0.bA.cell 2 _ rfl
  go_wp2_with fail
  clear y0 y1 y2
  refine Calls.mono (laws_toSegment d _ _ (HT.out.below HL3.out.l0.below) (by omega)) ?_
  rintro e w4 ⟨cx, rfl, ox, hb⟩
  have HL4 := Lib.hid (HL3.out.step hb)
  have hs4 := hb.size
  obtain ⟨X0, x0, X1, x1, X2, x2, rfl⟩ := ox.shape
  have OX := Lib.hid ox
  clear hb HL3 ox
  go_upto_region 7 with fail
  refine gen_w (G := fun W => L2 w [c0, c1, c2] M w3.heap.size (.slice A3 M.length k3) w4.heap.size [.slice X0 d.labels.length x0, .slice X1 d.defaults.length x1, .slice X2 d.instrs.length x2] W ∧ SegmentO (Rng w3.heap.size w4.heap.size) W [.slice X0 d.labels.length x0, .slice X1 d.defaults.length x1, .slice X2 d.instrs.length x2] d) (show Ok _ _ from
    have b := (Below.refl w4.heap.size w4).alloc (Nat.le_refl _) (.cells [.slice X0 d.labels.length x0, .slice X1 d.defaults.length x1, .slice X2 d.instrs.length x2].toArray 51)
    ⟨⟨HL4.out.step b, Blk.new w4 _ _, hs4⟩, OX.out.keeps (Keeps.of_below _ b)⟩) ?_
  clear HL4 OX
  rintro W5 ⟨g5, o5⟩
  have HL5 := Lib.hid g5
  have OX5 := Lib.hid o5
  clear g5 o5
  have hs5 : w4.heap.size + 1 ≤ W5.heap.size := by have := HL5.out.bx.lt; omega
  have y0 := HL5.out.bx.cell 0 _ rfl
  have y1 := HL5.out.bx.cell 1 _ rfl
  have y2 := HL5.out.bx.cell 2 _ rfl
  go_wp2_with fail
  clear y0 y1 y2
  refine Calls.mono (HI1.out _ _ OX5.out.read) ?_
  rintro e w6 ⟨A6, k6, rfl, og, hb⟩
  have hs6 : w4.heap.size + 1 ≤ w6.heap.size := by have := hb.size; omega
  have HL6 := Lib.hid (show L3 w [c0, c1, c2] M w3.heap.size (.slice A3 M.length k3) w4.heap.size _ w6.heap.size (.slice A6 M.length k6) M w6 from ⟨HL5.out.step hb, ⟨(FlO.of_own og).mono fun b h => ⟨by have := h.1; omega, h.2⟩, HSM.out⟩, hs6⟩)
  have OX6 := Lib.hid (OX5.out.keeps (Keeps.of_below _ hb))
  clear hb HL5 OX5 og
  go_wp2_with fail
  refine Calls.mono (laws_eqIntS_same M _ _ _ HL6.out.og.read HL6.out.l2.l1.ow.read) ?_
  rintro e w7 ⟨rfl, hb⟩
  have HL7 := Lib.hid (HL6.out.step hb)
  have OX7 := Lib.hid (OX6.out.keeps (Keeps.of_below _ hb))
  clear hb HL6 OX6
  go_wp2_with fail
  have s0 := HL7.out.l2.l1.l0.bA.cell 0 _ rfl
  have s1 := HL7.out.l2.l1.l0.bA.cell 1 _ rfl
  have s2 := HL7.out.l2.l1.l0.bA.cell 2 _ rfl
  have o0 := HL7.out.l2.bx.cell 0 _ rfl
  have o1 := HL7.out.l2.bx.cell 1 _ rfl
  have o2 := HL7.out.l2.bx.cell 2 _ rfl
  have HD7 := Lib.hid (HL7.out.step (Below.drew (Below.refl _ _)))
  have OD7 := Lib.hid (OX7.out.keeps (Keeps.of_below _ (Below.drew (Below.refl _ _))))
  clear HL7 OX7
  go_region_held3 (fun W => (W.cell? ⟨w.heap.size, 0, none⟩ = some c0 ∧ W.cell? ⟨w.heap.size, 1, none⟩ = some c1 ∧ W.cell? ⟨w.heap.size, 2, none⟩ = some c2 ∧ W.cell? ⟨w4.heap.size, 0, none⟩ = some (.slice X0 d.labels.length x0) ∧ W.cell? ⟨w4.heap.size, 1, none⟩ = some (.slice X1 d.defaults.length x1) ∧ W.cell? ⟨w4.heap.size, 2, none⟩ = some (.slice X2 d.instrs.length x2)))
    (first | exact ⟨s0, s1, s2, o0, o1, o2⟩ | exact ⟨HL8.out.l2.l1.l0.bA.cell 0 _ rfl, HL8.out.l2.l1.l0.bA.cell 1 _ rfl, HL8.out.l2.l1.l0.bA.cell 2 _ rfl, HL8.out.l2.bx.cell 0 _ rfl, HL8.out.l2.bx.cell 1 _ rfl, HL8.out.l2.bx.cell 2 _ rfl⟩ | exact ⟨HL9.out.l2.l1.l0.bA.cell 0 _ rfl, HL9.out.l2.l1.l0.bA.cell 1 _ rfl, HL9.out.l2.l1.l0.bA.cell 2 _ rfl, HL9.out.l2.bx.cell 0 _ rfl, HL9.out.l2.bx.cell 1 _ rfl, HL9.out.l2.bx.cell 2 _ rfl⟩)
    (first | (go_at_call 19; refine Calls.mono (laws_toSegment d _ _ (by exact HT.out.below HD7.out.l2.l1.l0.below) (by omega)) ?_; rintro e w8 ⟨cy, rfl, oy, hb⟩; have HL8 := Lib.hid (HD7.out.step hb); have OX8 := Lib.hid (OD7.out.keeps (Keeps.of_below _ hb)); have RY := Lib.hid oy.read; obtain ⟨Y0, y0, Y1, y1, Y2, y2, rfl⟩ := oy.shape; clear hb oy) | (go_at_call 22; refine Calls.mono (laws_eqSegment_same d _ _ _ OX8.out.read RY.out) ?_; rintro e w9 ⟨rfl, hb⟩; have HL9 := Lib.hid (HL8.out.step hb); have OX9 := Lib.hid (OX8.out.keeps (Keeps.of_below _ hb)); clear hb))
  clear s0 s1 s2 o0 o1 o2 HD7 OD7 HL8 OX8 RY
  have y0 := HL9.out.l2.bx.cell 0 _ rfl
  have y1 := HL9.out.l2.bx.cell 1 _ rfl
  have y2 := HL9.out.l2.bx.cell 2 _ rfl
  have hcs := cSeg_le d
  go_wp2_with fail
  clear y0 y1 y2
  refine Calls.mono (laws_markSegment (Rng w3.heap.size w4.heap.size) d _ 1 _ OX9.out (fun hb => by have := hb.2; have := HL9.out.l2.bx.lt; omega) (by decide) (by omega)) ?_
  rintro e w10 ⟨rfl, _, hk, h0⟩
  have HL10 := Lib.hid (HL9.out.markX hk h0)
  clear hk h0 HL9 OX9
  go_wp2_with fail
  refine Calls.mono (laws_eqIntS_same M _ _ _ HL10.out.og.read HL10.out.l2.l1.ow.read) ?_
  rintro e w11 ⟨rfl, hb⟩
  have HL11 := Lib.hid (HL10.out.step hb)
  clear hb HL10
  go_wp2_with fail
  refine Calls.mono (laws_markInts (Rng (w4.heap.size + 1) w6.heap.size) M _ 1 _ HL11.out.og (by decide) (by omega)) ?_
  rintro e w12 ⟨rfl, ho, hk, h0⟩
  have HL12 := Lib.hid (HL11.out.markG ho hk h0)
  clear ho hk h0 HL11
  go_wp2_with fail
  refine Calls.mono (laws_heldIntS M.length _ 1 _ (by decide) (by omega) HL12.out.og.read) ?_
  rintro e w13 ⟨rfl, rfl⟩
  have y0 := HL12.out.l2.l1.l0.bA.cell 0 _ rfl
  have y1 := HL12.out.l2.l1.l0.bA.cell 1 _ rfl
  have y2 := HL12.out.l2.l1.l0.bA.cell 2 _ rfl
  go_wp2_with fail
  clear y0 y1 y2
  refine Calls.mono (laws_toSegment d _ _ (HT.out.below HL12.out.l2.l1.l0.below) (by omega)) ?_
  rintro e w14 ⟨cz, rfl, oz, hb⟩
  have HL14 := Lib.hid (HL12.out.step hb)
  have RZ := Lib.hid oz.read
  obtain ⟨Z0, z0, Z1, z1, Z2, z2, rfl⟩ := oz.shape
  clear hb HL12 oz
  go_wp2_with fail
  refine Calls.mono (HI1.out _ _ RZ.out) ?_
  rintro e w15 ⟨A15, k15, rfl, oh, hb⟩
  have HL15 := Lib.hid (HL14.out.step hb)
  have OH := Lib.hid (Ints.of_own oh HSM.out)
  clear hb HL14 RZ oh
  go_wp2_with fail
  refine Calls.mono (laws_eqIntS_same M _ _ _ OH.out HL15.out.l2.l1.ow.read) ?_
  rintro e w16 ⟨rfl, hb⟩
  have HL16 := Lib.hid (HL15.out.step hb)
  clear hb HL15 OH
  go_wp2_with fail
  refine Calls.mono (laws_heldIntS M.length _ 1 _ (by decide) (by omega) HL16.out.og.read) ?_
  rintro e w17 ⟨rfl, rfl⟩
  go_wp2_with fail
  go_ret
  exact ⟨rfl, HL16.out.l2.l1.l0.below⟩
set_option maxRecDepth 100000 in
theorem lifted (os : Os) (started : os.Started) (H : Type) (enc : TypeId × Value → H) :
    ReturnsInHanded {} Try.checked os 4 .any (Rows.fnExactJumpTargetsSpec.pre6 enc Try.prog Try.f4 Rows.fnExactJumpTargetsRow.domain false) (Rows.fnExactJumpTargetsSpec.post enc Try.prog Try.f4 false true false false) := by
  refine returnsInHanded_of_change (C := Try.checked) own started (by kernel_rfl) Try.func4
    (ChangeSpec.witness6 (enc := enc) (C := Try.checked) false ⟨#[], #[.agg #[.slice none 0 0, .slice none 0 0, .slice none 0 0]], []⟩ 8 (by kernel_rfl) (by kernel_rfl) (by kernel_rfl) (by kernel_rfl)) ?_
  intro W base args ds gs before hval0 hW hcnd _
  have hval : ∀ (j : Nat) t v, Try.f4.params[j]? = some t → args[j]? = some v → Value.okWide Try.prog W .any base t v := hval0
  have hW' := hW
  obtain ⟨p, q, hA0, hV, rfl, hfz, hnd⟩ := hW
  have hA : DataW.TrodAll enc Try.prog W 0 (fun _ => true) true Try.f4.params.toList args.toList ds p := hA0
  rw [Try.params4] at hA hval
  obtain ⟨v0, vs0, d0, ds0, p0, q0, hargs, rfl, rfl, h0, r0⟩ := trodAll_cons hA
  obtain ⟨rfl, rfl, rfl⟩ := trodAll_nil r0
  obtain rfl : args = #[v0] := by cases args; simp_all
  obtain ⟨rfl, rfl⟩ := trodVars_none hV
  obtain ⟨x0, u0⟩ := open_segment (hval 0 46 v0 rfl rfl) h0
  clear hA0 hval0
  refine (walk v0 x0 u0).mono fun e W' ⟨he, hg⟩ => ?_
  subst he
  exact ⟨_, rfl, law_post laidOut hW' rfl rfl Try.underlying4 rfl rfl rfl (by intro t ht; rw [Try.params4] at ht; have ht2 : t ∈ [46] := ht; simp only [List.mem_cons, List.not_mem_nil, or_false] at ht2; rcases ht2 with rfl <;> exact ⟨by kernel_rfl, of_decide_eq_true (by kernel_rfl)⟩) hg⟩

theorem fact0 : jf0 Try.prog 4 Try.f4 Rows.fnExactJumpTargetsSpec Rows.fnExactJumpTargetsRow = true := by kernel_rfl
theorem fact1 : jf1 Try.prog 4 Try.f4 Rows.fnExactJumpTargetsSpec Rows.fnExactJumpTargetsRow = true := by kernel_rfl
theorem fact2 : jf2 Try.prog 4 Try.f4 Rows.fnExactJumpTargetsSpec Rows.fnExactJumpTargetsRow = true := by kernel_rfl
theorem fact3 : jf3 Try.prog 4 Try.f4 Rows.fnExactJumpTargetsSpec Rows.fnExactJumpTargetsRow = true := by kernel_rfl
theorem fact4 : jf4 Try.prog 4 Try.f4 Rows.fnExactJumpTargetsSpec Rows.fnExactJumpTargetsRow = true := by kernel_rfl
theorem fact5 : jf5 Try.prog 4 Try.f4 Rows.fnExactJumpTargetsSpec Rows.fnExactJumpTargetsRow = true := by kernel_rfl
theorem fact6 : jf6 Try.prog 4 Try.f4 Rows.fnExactJumpTargetsSpec Rows.fnExactJumpTargetsRow = true := by kernel_rfl
theorem fact7 : jf7 Try.prog 4 Try.f4 Rows.fnExactJumpTargetsSpec Rows.fnExactJumpTargetsRow = true := by kernel_rfl
theorem fact8 : jf8 Try.prog 4 Try.f4 Rows.fnExactJumpTargetsSpec Rows.fnExactJumpTargetsRow = true := by kernel_rfl
theorem fact9 : jf9 Try.prog 4 Try.f4 Rows.fnExactJumpTargetsSpec Rows.fnExactJumpTargetsRow = true := by kernel_rfl
theorem fact10 : jf10 Try.prog 4 Try.f4 Rows.fnExactJumpTargetsSpec Rows.fnExactJumpTargetsRow = true := by kernel_rfl
theorem fact11 : jf11 Try.prog 4 Try.f4 Rows.fnExactJumpTargetsSpec Rows.fnExactJumpTargetsRow = true := by kernel_rfl
theorem fact12 : jf12 Try.prog 4 Try.f4 Rows.fnExactJumpTargetsSpec Rows.fnExactJumpTargetsRow = true := by kernel_rfl
theorem fact13 : jf13 Try.prog 4 Try.f4 Rows.fnExactJumpTargetsSpec Rows.fnExactJumpTargetsRow = true := by kernel_rfl
theorem fact14 : jf14 Try.prog 4 Try.f4 Rows.fnExactJumpTargetsSpec Rows.fnExactJumpTargetsRow = true := by kernel_rfl
theorem fact15 : jf15 Try.prog 4 Try.f4 Rows.fnExactJumpTargetsSpec Rows.fnExactJumpTargetsRow = true := by kernel_rfl
theorem fact16 : jf16 Try.prog 4 Try.f4 Rows.fnExactJumpTargetsSpec Rows.fnExactJumpTargetsRow = true := by kernel_rfl
theorem fact17 : jf17 Try.prog 4 Try.f4 Rows.fnExactJumpTargetsSpec Rows.fnExactJumpTargetsRow = true := by kernel_rfl
theorem fact18 : jf18 Try.prog 4 Try.f4 Rows.fnExactJumpTargetsSpec Rows.fnExactJumpTargetsRow = true := by kernel_rfl
theorem fact19 : jf19 Try.prog 4 Try.f4 Rows.fnExactJumpTargetsSpec Rows.fnExactJumpTargetsRow = true := by kernel_rfl
theorem fact20 : jf20 Try.prog 4 Try.f4 Rows.fnExactJumpTargetsSpec Rows.fnExactJumpTargetsRow = true := by kernel_rfl
theorem fact21 : jf21 Try.prog 4 Try.f4 Rows.fnExactJumpTargetsSpec Rows.fnExactJumpTargetsRow = true := by kernel_rfl
theorem fact22 : jf22 Try.prog 4 Try.f4 Rows.fnExactJumpTargetsSpec Rows.fnExactJumpTargetsRow = true := by kernel_rfl
theorem fact23 : jf23 Try.prog 4 Try.f4 Rows.fnExactJumpTargetsSpec Rows.fnExactJumpTargetsRow = true := by kernel_rfl
theorem fact24 : jf24 Try.prog 4 Try.f4 Rows.fnExactJumpTargetsSpec Rows.fnExactJumpTargetsRow = true := by kernel_rfl
theorem fact25 : jf25 Try.prog 4 Try.f4 Rows.fnExactJumpTargetsSpec Rows.fnExactJumpTargetsRow = true := by kernel_rfl
theorem fact26 : jf26 Try.prog 4 Try.f4 Rows.fnExactJumpTargetsSpec Rows.fnExactJumpTargetsRow = true := by kernel_rfl
theorem fact27 : jf27 Try.prog 4 Try.f4 Rows.fnExactJumpTargetsSpec Rows.fnExactJumpTargetsRow = true := by kernel_rfl
theorem fact28 : jf28 Try.prog 4 Try.f4 Rows.fnExactJumpTargetsSpec Rows.fnExactJumpTargetsRow = true := by kernel_rfl
theorem fact29 : jf29 Try.prog 4 Try.f4 Rows.fnExactJumpTargetsSpec Rows.fnExactJumpTargetsRow = true := by kernel_rfl
theorem fact30 : jf30 Try.prog 4 Try.f4 Rows.fnExactJumpTargetsSpec Rows.fnExactJumpTargetsRow = true := by kernel_rfl
theorem fact31 : jf31 Try.prog 4 Try.f4 Rows.fnExactJumpTargetsSpec Rows.fnExactJumpTargetsRow = true := by kernel_rfl
theorem over : Rows.fnExactJumpTargetsRow.holds Try.pinned (OpenSpec.ofChange Rows.fnExactJumpTargetsSpec) :=
  OpenClaim.holds_of_wide 4 Try.f4 rfl rfl rfl rfl rfl rfl rfl ⟨rfl, rfl, rfl, rfl, rfl⟩ rfl rfl rfl rfl rfl (by kernel_rfl) Try.func4 (joined fact0 fact1 fact2 fact3 fact4 fact5 fact6 fact7 fact8 fact9 fact10 fact11 fact12 fact13 fact14 fact15 fact16 fact17 fact18 fact19 fact20 fact21 fact22 fact23 fact24 fact25 fact26 fact27 fact28 fact29 fact30 fact31)
    (of_decide_eq_true (by kernel_rfl)) (by unfold Func.isWrapper; first | (rw [if_pos (by decide +kernel)]; kernel_rfl) | (rw [if_neg (by decide +kernel)]; exact ⟨rfl, rfl⟩))
    (fun os started H enc _ => lifted os started H enc)

/-- THE STATEMENT -/
theorem proved : Rows.FnExactJumpTargetsSaid :=
  over
#print axioms proved
end fnExactJumpTargets
end Go.Proofs.Ytaliiodngekahaa
