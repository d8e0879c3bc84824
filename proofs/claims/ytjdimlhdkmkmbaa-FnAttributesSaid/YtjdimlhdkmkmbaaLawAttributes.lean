/-
  The law FnAttributes: names and classes that were assigned are there, and removing them brings back what was before.
  Conditions: none (the code's length bounds what is drawn).
-/
import Derived.Test.YtjdimlhdkmkmbaaRows
import Derived.Test.YtjdimlhdkmkmbaaJoin
import Derived.Test.YtjdimlhdkmkmbaaDrawTwo
import Derived.Test.YtjdimlhdkmkmbaaAttrC
import Derived.Test.YtjdimlhdkmkmbaaKInh
import Derived.Deep.CutBlock
namespace Go.Proofs.Ytjdimlhdkmkmbaa
set_option maxRecDepth 100000
open Go.ChangeShapes Go.WideShapes Go.ChangeAt Go.RowKit Go.Deep
set_option linter.unusedVariables false
namespace fnAttributes

structure VB (b : Nat) (cs : List Value) (d : VecD) (W : World) : Prop where
  bx : Blk W b 28 cs
  rd : VecR W cs d
def BW (w0 W : World) : Prop := Below w0.heap.size w0 W
theorem VB.step {b : Nat} {cs : List Value} {d : VecD} {W W' : World} (h : VB b cs d W) (hb : Below W.heap.size W W') : VB b cs d W' := ⟨h.bx.below hb, h.rd.below hb⟩
theorem sz_asgN {v u : VecD} {B : Nat} (h : szVector v ≤ B) : szVector (asgN v u).1 ≤ B + 2440 := by
  have h0 : szVector nulV = 0 := by rw [szVector_eq]; rfl
  unfold asgN
  split
  · rename_i h1
    split
    · split
      · rename_i h3
        have e := sz_setN v (tidyN (padN (lenV v) u.items))
        have e1 := szL_tidy (padN (lenV v) u.items)
        have hk : u.kind = 0 ∨ u.kind = 3 := by
          simp only [nmsOk, Bool.and_eq_true, Bool.or_eq_true, beq_iff_eq] at h3
          exact h3.1
        have e2 := szL_le 60 (padN (lenV v) u.items) (pad_small fun x hx => text_len h1.2 hk hx)
        have e3 := vecOk_len h1.1
        rw [pad_len] at e2
        have e4 : lenV v * 61 ≤ 40 * 61 := Nat.mul_le_mul_right _ e3
        show szVector (setN v _) ≤ _
        omega
      · show szVector nulV ≤ _; omega
    · show szVector nulV ≤ _; omega
  · show szVector nulV ≤ _; omega
theorem sz_asgC (v u : VecD) : szVector (asgC v u).1 ≤ szVector v + szVector u := by
  have h0 : szVector nulV = 0 := by rw [szVector_eq]; rfl
  unfold asgC
  split
  · split
    · have e := sz_setC v (txtsOf u)
      have e1 := sz_txts u
      show szVector (setC v _) ≤ _
      omega
    · show szVector nulV ≤ _; omega
  · show szVector nulV ≤ _; omega

set_option maxHeartbeats 32000000 in
theorem walk (v0 : Value) (l : List Nat) {w : World} (h : Bytes w v0 l) :
    Calls Try.prog 3 #[v0] w fun e w' => e = .returned (.bool true) ∧ Below w.heap.size w w' := by
  have HH := Lib.hid h
  clear h
  by_cases hl : l.length ≤ 1048576
  rotate_left
  · go_enter Try.func3, Try.ntmps3
    go_wp2_with fail
    refine (laws_big v0 l _ HH.out).mono ?_
    rw [show decide (1048576 < l.length) = true by simp; omega]
    rintro e w1 ⟨rfl, rfl⟩
    go_wp2_with fail
    go_ret
    exact ⟨rfl, Below.refl _ _⟩
  go_enter Try.func3, Try.ntmps3
  go_wp2_with fail
  refine (laws_big v0 l _ HH.out).mono ?_
  rw [show decide (1048576 < l.length) = false by simp; omega]
  rintro e w1 ⟨rfl, rfl⟩
  obtain ⟨a, c, rfl⟩ := SlR.shape HH.out
  go_wp2_with fail
  refine Calls.mono (spec_DrawAssignNames _ l _ (by exact HH.out) hl) ?_
  rintro e wa ⟨cs, fs, v, u, rfl, hV, hU, hzv, hzu, hb⟩
  obtain ⟨A1, p1, A2, p2, A3, p3, A4, p4, A5, p5, rfl⟩ := hV.shape
  obtain ⟨B1, q1, B2, q2, B3, q3, B4, q4, B5, q5, rfl⟩ := hU.shape
  have HY := HH
  have HBL := Lib.hid (Below.refl w.heap.size w)
  have HZv := Lib.hid hzv
  have HZu := Lib.hid hzu
  have HY := Lib.hid (SlR.below HY.out hb (fun _ _ h => h))
  have HBL := Lib.hid (HBL.out.trans (hb.mono HBL.out.size))
  have hbx := ((Below.refl wa.heap.size wa).alloc (Nat.le_refl _) (.cells [.int .i64 v.kind, .slice A1 v.items.length p1, .slice A2 v.parts.length p2, .slice A3 v.names.length p3, .slice A4 v.cls.length p4, .slice A5 v.levels.length p5, .int .i64 v.code, .int .i64 v.env].toArray 28)).alloc (by simp) (.cells [.int .i64 u.kind, .slice B1 u.items.length q1, .slice B2 u.parts.length q2, .slice B3 u.names.length q3, .slice B4 u.cls.length q4, .slice B5 u.levels.length q5, .int .i64 u.code, .int .i64 u.env].toArray 28)
  have HX := Lib.hid (show Ok (fun W => Bytes W (.slice a l.length c) l ∧ Below w.heap.size w W ∧ VB wa.heap.size [.int .i64 v.kind, .slice A1 v.items.length p1, .slice A2 v.parts.length p2, .slice A3 v.names.length p3, .slice A4 v.cls.length p4, .slice A5 v.levels.length p5, .int .i64 v.code, .int .i64 v.env] v W ∧ VB (wa.heap.size + 1) [.int .i64 u.kind, .slice B1 u.items.length q1, .slice B2 u.parts.length q2, .slice B3 u.names.length q3, .slice B4 u.cls.length q4, .slice B5 u.levels.length q5, .int .i64 u.code, .int .i64 u.env] u W) ((wa.alloc (.cells [.int .i64 v.kind, .slice A1 v.items.length p1, .slice A2 v.parts.length p2, .slice A3 v.names.length p3, .slice A4 v.cls.length p4, .slice A5 v.levels.length p5, .int .i64 v.code, .int .i64 v.env].toArray 28)).alloc (.cells [.int .i64 u.kind, .slice B1 u.items.length q1, .slice B2 u.parts.length q2, .slice B3 u.names.length q3, .slice B4 u.cls.length q4, .slice B5 u.levels.length q5, .int .i64 u.code, .int .i64 u.env].toArray 28)) from ⟨SlR.below HY.out hbx (fun _ _ h => h), HBL.out.trans (hbx.mono HBL.out.size), ⟨(Blk.new wa _ [.int .i64 v.kind, .slice A1 v.items.length p1, .slice A2 v.parts.length p2, .slice A3 v.names.length p3, .slice A4 v.cls.length p4, .slice A5 v.levels.length p5, .int .i64 v.code, .int .i64 v.env]).alloc _, hV.read.below hbx⟩, ⟨Blk.new_at _ 28 [.int .i64 u.kind, .slice B1 u.items.length q1, .slice B2 u.parts.length q2, .slice B3 u.names.length q3, .slice B4 u.cls.length q4, .slice B5 u.levels.length q5, .int .i64 u.code, .int .i64 u.env] _ (by simp), hU.read.below hbx⟩⟩)
  clear hV hU hzv hzu hb hbx HY HBL
  go_upto_region 4 with fail
  generalize hq : wa.heap.size = b3 at HX ⊢
  generalize hq2 : b3 + 1 = b4 at HX ⊢
  clear hq hq2
  refine gen_w (G := fun W => Bytes W (.slice a l.length c) l ∧ Below w.heap.size w W ∧ VB b3 [.int .i64 v.kind, .slice A1 v.items.length p1, .slice A2 v.parts.length p2, .slice A3 v.names.length p3, .slice A4 v.cls.length p4, .slice A5 v.levels.length p5, .int .i64 v.code, .int .i64 v.env] v W ∧ VB b4 [.int .i64 u.kind, .slice B1 u.items.length q1, .slice B2 u.parts.length q2, .slice B3 u.names.length q3, .slice B4 u.cls.length q4, .slice B5 u.levels.length q5, .int .i64 u.code, .int .i64 u.env] u W) HX.out ?_
  clear HX
  rintro wb1 ⟨h1, h2, h3, h4⟩
  have HY := Lib.hid h1
  have HBL := Lib.hid h2
  have HVb3 := Lib.hid h3
  have HVb4 := Lib.hid h4
  clear h1 h2 h3 h4
  have hC1 := fun vs us W h k => impl_AssignNames v u vs us W h k (by have := HZv.out; omega) (by have := HZu.out; omega)
  have hC2 := fun vs us W h k => spec_AssignNames v u vs us W h k (by have := HZv.out; omega) (by have := HZu.out; omega)
  have hC3 := asgN_vec v u
  have hC4 := fun h => @asgN_ok v u h
  have hC5 := sz_asgN (v := v) (u := u) HZv.out
  generalize asgN v u = P at hC1 hC2 hC3 hC4 hC5
  obtain ⟨P1, pm⟩ := P
  have HC1 := Lib.hid hC1
  have HC2 := Lib.hid hC2
  have HC3 := Lib.hid hC3
  have HC4 := Lib.hid hC4
  have HC5 := Lib.hid hC5
  clear hC1 hC2 hC3 hC4 hC5
  have x0_0 := HVb3.out.bx.cell 0 _ rfl
  have x0_1 := HVb3.out.bx.cell 1 _ rfl
  have x0_2 := HVb3.out.bx.cell 2 _ rfl
  have x0_3 := HVb3.out.bx.cell 3 _ rfl
  have x0_4 := HVb3.out.bx.cell 4 _ rfl
  have x0_5 := HVb3.out.bx.cell 5 _ rfl
  have x0_6 := HVb3.out.bx.cell 6 _ rfl
  have x0_7 := HVb3.out.bx.cell 7 _ rfl
  have x1_0 := HVb4.out.bx.cell 0 _ rfl
  have x1_1 := HVb4.out.bx.cell 1 _ rfl
  have x1_2 := HVb4.out.bx.cell 2 _ rfl
  have x1_3 := HVb4.out.bx.cell 3 _ rfl
  have x1_4 := HVb4.out.bx.cell 4 _ rfl
  have x1_5 := HVb4.out.bx.cell 5 _ rfl
  have x1_6 := HVb4.out.bx.cell 6 _ rfl
  have x1_7 := HVb4.out.bx.cell 7 _ rfl
  go_wp2_with fail
  refine Calls.mono (HC1.out _ _ _ HVb3.out.rd HVb4.out.rd) ?_
  rintro e wa ⟨cs, rfl, hV, hb⟩
  obtain ⟨C1, r1, C2, r2, C3, r3, C4, r4, C5, r5, rfl⟩ := hV.shape
  clear x0_0 x0_1 x0_2 x0_3 x0_4 x0_5 x0_6 x0_7 x1_0 x1_1 x1_2 x1_3 x1_4 x1_5 x1_6 x1_7
  have HY := Lib.hid (SlR.below HY.out hb (fun _ _ h => h))
  have HBL := Lib.hid (HBL.out.trans (hb.mono HBL.out.size))
  have HVb3 := Lib.hid (HVb3.out.step hb)
  have HVb4 := Lib.hid (HVb4.out.step hb)
  have hbx := (Below.refl wa.heap.size wa).alloc (Nat.le_refl _) (.cells [.int .i64 P1.kind, .slice C1 P1.items.length r1, .slice C2 P1.parts.length r2, .slice C3 P1.names.length r3, .slice C4 P1.cls.length r4, .slice C5 P1.levels.length r5, .int .i64 P1.code, .int .i64 P1.env].toArray 28)
  have HX := Lib.hid (show Ok (fun W => Bytes W (.slice a l.length c) l ∧ Below w.heap.size w W ∧ VB b3 [.int .i64 v.kind, .slice A1 v.items.length p1, .slice A2 v.parts.length p2, .slice A3 v.names.length p3, .slice A4 v.cls.length p4, .slice A5 v.levels.length p5, .int .i64 v.code, .int .i64 v.env] v W ∧ VB b4 [.int .i64 u.kind, .slice B1 u.items.length q1, .slice B2 u.parts.length q2, .slice B3 u.names.length q3, .slice B4 u.cls.length q4, .slice B5 u.levels.length q5, .int .i64 u.code, .int .i64 u.env] u W ∧ VB wa.heap.size [.int .i64 P1.kind, .slice C1 P1.items.length r1, .slice C2 P1.parts.length r2, .slice C3 P1.names.length r3, .slice C4 P1.cls.length r4, .slice C5 P1.levels.length r5, .int .i64 P1.code, .int .i64 P1.env] P1 W) (wa.alloc (.cells [.int .i64 P1.kind, .slice C1 P1.items.length r1, .slice C2 P1.parts.length r2, .slice C3 P1.names.length r3, .slice C4 P1.cls.length r4, .slice C5 P1.levels.length r5, .int .i64 P1.code, .int .i64 P1.env].toArray 28)) from ⟨SlR.below HY.out hbx (fun _ _ h => h), HBL.out.trans (hbx.mono HBL.out.size), HVb3.out.step hbx, HVb4.out.step hbx, ⟨Blk.new wa _ [.int .i64 P1.kind, .slice C1 P1.items.length r1, .slice C2 P1.parts.length r2, .slice C3 P1.names.length r3, .slice C4 P1.cls.length r4, .slice C5 P1.levels.length r5, .int .i64 P1.code, .int .i64 P1.env], hV.read.below hbx⟩⟩)
  clear hV hb hbx HY HBL HVb3 HVb4
  go_upto_region 5 with fail
  generalize hq : wa.heap.size = b5 at HX ⊢
  clear hq
  refine gen_w (G := fun W => Bytes W (.slice a l.length c) l ∧ Below w.heap.size w W ∧ VB b3 [.int .i64 v.kind, .slice A1 v.items.length p1, .slice A2 v.parts.length p2, .slice A3 v.names.length p3, .slice A4 v.cls.length p4, .slice A5 v.levels.length p5, .int .i64 v.code, .int .i64 v.env] v W ∧ VB b4 [.int .i64 u.kind, .slice B1 u.items.length q1, .slice B2 u.parts.length q2, .slice B3 u.names.length q3, .slice B4 u.cls.length q4, .slice B5 u.levels.length q5, .int .i64 u.code, .int .i64 u.env] u W ∧ VB b5 [.int .i64 P1.kind, .slice C1 P1.items.length r1, .slice C2 P1.parts.length r2, .slice C3 P1.names.length r3, .slice C4 P1.cls.length r4, .slice C5 P1.levels.length r5, .int .i64 P1.code, .int .i64 P1.env] P1 W) HX.out ?_
  clear HX
  rintro wb2 ⟨h1, h2, h3, h4, h5⟩
  have HY := Lib.hid h1
  have HBL := Lib.hid h2
  have HVb3 := Lib.hid h3
  have HVb4 := Lib.hid h4
  have HVb5 := Lib.hid h5
  clear h1 h2 h3 h4 h5
  have x0_0 := HVb3.out.bx.cell 0 _ rfl
  have x0_1 := HVb3.out.bx.cell 1 _ rfl
  have x0_2 := HVb3.out.bx.cell 2 _ rfl
  have x0_3 := HVb3.out.bx.cell 3 _ rfl
  have x0_4 := HVb3.out.bx.cell 4 _ rfl
  have x0_5 := HVb3.out.bx.cell 5 _ rfl
  have x0_6 := HVb3.out.bx.cell 6 _ rfl
  have x0_7 := HVb3.out.bx.cell 7 _ rfl
  have x1_0 := HVb4.out.bx.cell 0 _ rfl
  have x1_1 := HVb4.out.bx.cell 1 _ rfl
  have x1_2 := HVb4.out.bx.cell 2 _ rfl
  have x1_3 := HVb4.out.bx.cell 3 _ rfl
  have x1_4 := HVb4.out.bx.cell 4 _ rfl
  have x1_5 := HVb4.out.bx.cell 5 _ rfl
  have x1_6 := HVb4.out.bx.cell 6 _ rfl
  have x1_7 := HVb4.out.bx.cell 7 _ rfl
  go_wp2_with fail
  refine Calls.mono (HC2.out _ _ _ HVb3.out.rd HVb4.out.rd) ?_
  rintro e wa ⟨cs, rfl, hV, hb⟩
  obtain ⟨D1, s1, D2, s2, D3, s3, D4, s4, D5, s5, rfl⟩ := hV.shape
  clear x0_0 x0_1 x0_2 x0_3 x0_4 x0_5 x0_6 x0_7 x1_0 x1_1 x1_2 x1_3 x1_4 x1_5 x1_6 x1_7
  have HY := Lib.hid (SlR.below HY.out hb (fun _ _ h => h))
  have HBL := Lib.hid (HBL.out.trans (hb.mono HBL.out.size))
  have HVb3 := Lib.hid (HVb3.out.step hb)
  have HVb4 := Lib.hid (HVb4.out.step hb)
  have HVb5 := Lib.hid (HVb5.out.step hb)
  have hbx := (Below.refl wa.heap.size wa).alloc (Nat.le_refl _) (.cells [.int .i64 P1.kind, .slice D1 P1.items.length s1, .slice D2 P1.parts.length s2, .slice D3 P1.names.length s3, .slice D4 P1.cls.length s4, .slice D5 P1.levels.length s5, .int .i64 P1.code, .int .i64 P1.env].toArray 28)
  have HX := Lib.hid (show Ok (fun W => Bytes W (.slice a l.length c) l ∧ Below w.heap.size w W ∧ VB b3 [.int .i64 v.kind, .slice A1 v.items.length p1, .slice A2 v.parts.length p2, .slice A3 v.names.length p3, .slice A4 v.cls.length p4, .slice A5 v.levels.length p5, .int .i64 v.code, .int .i64 v.env] v W ∧ VB b4 [.int .i64 u.kind, .slice B1 u.items.length q1, .slice B2 u.parts.length q2, .slice B3 u.names.length q3, .slice B4 u.cls.length q4, .slice B5 u.levels.length q5, .int .i64 u.code, .int .i64 u.env] u W ∧ VB b5 [.int .i64 P1.kind, .slice C1 P1.items.length r1, .slice C2 P1.parts.length r2, .slice C3 P1.names.length r3, .slice C4 P1.cls.length r4, .slice C5 P1.levels.length r5, .int .i64 P1.code, .int .i64 P1.env] P1 W ∧ VB wa.heap.size [.int .i64 P1.kind, .slice D1 P1.items.length s1, .slice D2 P1.parts.length s2, .slice D3 P1.names.length s3, .slice D4 P1.cls.length s4, .slice D5 P1.levels.length s5, .int .i64 P1.code, .int .i64 P1.env] P1 W) (wa.alloc (.cells [.int .i64 P1.kind, .slice D1 P1.items.length s1, .slice D2 P1.parts.length s2, .slice D3 P1.names.length s3, .slice D4 P1.cls.length s4, .slice D5 P1.levels.length s5, .int .i64 P1.code, .int .i64 P1.env].toArray 28)) from ⟨SlR.below HY.out hbx (fun _ _ h => h), HBL.out.trans (hbx.mono HBL.out.size), HVb3.out.step hbx, HVb4.out.step hbx, HVb5.out.step hbx, ⟨Blk.new wa _ [.int .i64 P1.kind, .slice D1 P1.items.length s1, .slice D2 P1.parts.length s2, .slice D3 P1.names.length s3, .slice D4 P1.cls.length s4, .slice D5 P1.levels.length s5, .int .i64 P1.code, .int .i64 P1.env], hV.read.below hbx⟩⟩)
  clear hV hb hbx HY HBL HVb3 HVb4 HVb5
  go_upto_region 6 with fail
  generalize hq : wa.heap.size = b7 at HX ⊢
  clear hq
  refine gen_w (G := fun W => Bytes W (.slice a l.length c) l ∧ Below w.heap.size w W ∧ VB b3 [.int .i64 v.kind, .slice A1 v.items.length p1, .slice A2 v.parts.length p2, .slice A3 v.names.length p3, .slice A4 v.cls.length p4, .slice A5 v.levels.length p5, .int .i64 v.code, .int .i64 v.env] v W ∧ VB b4 [.int .i64 u.kind, .slice B1 u.items.length q1, .slice B2 u.parts.length q2, .slice B3 u.names.length q3, .slice B4 u.cls.length q4, .slice B5 u.levels.length q5, .int .i64 u.code, .int .i64 u.env] u W ∧ VB b5 [.int .i64 P1.kind, .slice C1 P1.items.length r1, .slice C2 P1.parts.length r2, .slice C3 P1.names.length r3, .slice C4 P1.cls.length r4, .slice C5 P1.levels.length r5, .int .i64 P1.code, .int .i64 P1.env] P1 W ∧ VB b7 [.int .i64 P1.kind, .slice D1 P1.items.length s1, .slice D2 P1.parts.length s2, .slice D3 P1.names.length s3, .slice D4 P1.cls.length s4, .slice D5 P1.levels.length s5, .int .i64 P1.code, .int .i64 P1.env] P1 W) HX.out ?_
  clear HX
  rintro wb3 ⟨h1, h2, h3, h4, h5, h6⟩
  have HY := Lib.hid h1
  have HBL := Lib.hid h2
  have HVb3 := Lib.hid h3
  have HVb4 := Lib.hid h4
  have HVb5 := Lib.hid h5
  have HVb7 := Lib.hid h6
  clear h1 h2 h3 h4 h5 h6
  go_wp2_with fail
  refine Calls.mono (spec_DrawAssignClass _ l _ (by exact HY.out) hl) ?_
  rintro e wa ⟨cs, fs, f, k, rfl, hV, hU, hzf, hzk, hb⟩
  obtain ⟨E1, t1, E2, t2, E3, t3, E4, t4, E5, t5, rfl⟩ := hV.shape
  obtain ⟨F1, y1, F2, y2, F3, y3, F4, y4, F5, y5, rfl⟩ := hU.shape
  have HZf := Lib.hid hzf
  have HZk := Lib.hid hzk
  have HY := Lib.hid (SlR.below HY.out hb (fun _ _ h => h))
  have HBL := Lib.hid (HBL.out.trans (hb.mono HBL.out.size))
  have HVb3 := Lib.hid (HVb3.out.step hb)
  have HVb4 := Lib.hid (HVb4.out.step hb)
  have HVb5 := Lib.hid (HVb5.out.step hb)
  have HVb7 := Lib.hid (HVb7.out.step hb)
  have hbx := ((Below.refl wa.heap.size wa).alloc (Nat.le_refl _) (.cells [.int .i64 f.kind, .slice E1 f.items.length t1, .slice E2 f.parts.length t2, .slice E3 f.names.length t3, .slice E4 f.cls.length t4, .slice E5 f.levels.length t5, .int .i64 f.code, .int .i64 f.env].toArray 28)).alloc (by simp) (.cells [.int .i64 k.kind, .slice F1 k.items.length y1, .slice F2 k.parts.length y2, .slice F3 k.names.length y3, .slice F4 k.cls.length y4, .slice F5 k.levels.length y5, .int .i64 k.code, .int .i64 k.env].toArray 28)
  have HX := Lib.hid (show Ok (fun W => Bytes W (.slice a l.length c) l ∧ Below w.heap.size w W ∧ VB b3 [.int .i64 v.kind, .slice A1 v.items.length p1, .slice A2 v.parts.length p2, .slice A3 v.names.length p3, .slice A4 v.cls.length p4, .slice A5 v.levels.length p5, .int .i64 v.code, .int .i64 v.env] v W ∧ VB b4 [.int .i64 u.kind, .slice B1 u.items.length q1, .slice B2 u.parts.length q2, .slice B3 u.names.length q3, .slice B4 u.cls.length q4, .slice B5 u.levels.length q5, .int .i64 u.code, .int .i64 u.env] u W ∧ VB b5 [.int .i64 P1.kind, .slice C1 P1.items.length r1, .slice C2 P1.parts.length r2, .slice C3 P1.names.length r3, .slice C4 P1.cls.length r4, .slice C5 P1.levels.length r5, .int .i64 P1.code, .int .i64 P1.env] P1 W ∧ VB b7 [.int .i64 P1.kind, .slice D1 P1.items.length s1, .slice D2 P1.parts.length s2, .slice D3 P1.names.length s3, .slice D4 P1.cls.length s4, .slice D5 P1.levels.length s5, .int .i64 P1.code, .int .i64 P1.env] P1 W ∧ VB wa.heap.size [.int .i64 f.kind, .slice E1 f.items.length t1, .slice E2 f.parts.length t2, .slice E3 f.names.length t3, .slice E4 f.cls.length t4, .slice E5 f.levels.length t5, .int .i64 f.code, .int .i64 f.env] f W ∧ VB (wa.heap.size + 1) [.int .i64 k.kind, .slice F1 k.items.length y1, .slice F2 k.parts.length y2, .slice F3 k.names.length y3, .slice F4 k.cls.length y4, .slice F5 k.levels.length y5, .int .i64 k.code, .int .i64 k.env] k W) ((wa.alloc (.cells [.int .i64 f.kind, .slice E1 f.items.length t1, .slice E2 f.parts.length t2, .slice E3 f.names.length t3, .slice E4 f.cls.length t4, .slice E5 f.levels.length t5, .int .i64 f.code, .int .i64 f.env].toArray 28)).alloc (.cells [.int .i64 k.kind, .slice F1 k.items.length y1, .slice F2 k.parts.length y2, .slice F3 k.names.length y3, .slice F4 k.cls.length y4, .slice F5 k.levels.length y5, .int .i64 k.code, .int .i64 k.env].toArray 28)) from ⟨SlR.below HY.out hbx (fun _ _ h => h), HBL.out.trans (hbx.mono HBL.out.size), HVb3.out.step hbx, HVb4.out.step hbx, HVb5.out.step hbx, HVb7.out.step hbx, ⟨(Blk.new wa _ [.int .i64 f.kind, .slice E1 f.items.length t1, .slice E2 f.parts.length t2, .slice E3 f.names.length t3, .slice E4 f.cls.length t4, .slice E5 f.levels.length t5, .int .i64 f.code, .int .i64 f.env]).alloc _, hV.read.below hbx⟩, ⟨Blk.new_at _ 28 [.int .i64 k.kind, .slice F1 k.items.length y1, .slice F2 k.parts.length y2, .slice F3 k.names.length y3, .slice F4 k.cls.length y4, .slice F5 k.levels.length y5, .int .i64 k.code, .int .i64 k.env] _ (by simp), hU.read.below hbx⟩⟩)
  clear hV hU hzf hzk hb hbx HY HBL HVb3 HVb4 HVb5 HVb7
  go_upto_region 7 with fail
  generalize hq : wa.heap.size = b9 at HX ⊢
  generalize hq2 : b9 + 1 = b10 at HX ⊢
  clear hq hq2
  refine gen_w (G := fun W => Bytes W (.slice a l.length c) l ∧ Below w.heap.size w W ∧ VB b3 [.int .i64 v.kind, .slice A1 v.items.length p1, .slice A2 v.parts.length p2, .slice A3 v.names.length p3, .slice A4 v.cls.length p4, .slice A5 v.levels.length p5, .int .i64 v.code, .int .i64 v.env] v W ∧ VB b4 [.int .i64 u.kind, .slice B1 u.items.length q1, .slice B2 u.parts.length q2, .slice B3 u.names.length q3, .slice B4 u.cls.length q4, .slice B5 u.levels.length q5, .int .i64 u.code, .int .i64 u.env] u W ∧ VB b5 [.int .i64 P1.kind, .slice C1 P1.items.length r1, .slice C2 P1.parts.length r2, .slice C3 P1.names.length r3, .slice C4 P1.cls.length r4, .slice C5 P1.levels.length r5, .int .i64 P1.code, .int .i64 P1.env] P1 W ∧ VB b7 [.int .i64 P1.kind, .slice D1 P1.items.length s1, .slice D2 P1.parts.length s2, .slice D3 P1.names.length s3, .slice D4 P1.cls.length s4, .slice D5 P1.levels.length s5, .int .i64 P1.code, .int .i64 P1.env] P1 W ∧ VB b9 [.int .i64 f.kind, .slice E1 f.items.length t1, .slice E2 f.parts.length t2, .slice E3 f.names.length t3, .slice E4 f.cls.length t4, .slice E5 f.levels.length t5, .int .i64 f.code, .int .i64 f.env] f W ∧ VB b10 [.int .i64 k.kind, .slice F1 k.items.length y1, .slice F2 k.parts.length y2, .slice F3 k.names.length y3, .slice F4 k.cls.length y4, .slice F5 k.levels.length y5, .int .i64 k.code, .int .i64 k.env] k W) HX.out ?_
  clear HX
  rintro wb4 ⟨h1, h2, h3, h4, h5, h6, h7, h8⟩
  have HY := Lib.hid h1
  have HBL := Lib.hid h2
  have HVb3 := Lib.hid h3
  have HVb4 := Lib.hid h4
  have HVb5 := Lib.hid h5
  have HVb7 := Lib.hid h6
  have HVb9 := Lib.hid h7
  have HVb10 := Lib.hid h8
  clear h1 h2 h3 h4 h5 h6 h7 h8
  have hC1 := fun vs us W h kk => impl_AssignClass f k vs us W h kk (by have := HZf.out; omega) (by have := HZk.out; omega)
  have hC2 := fun vs us W h kk => spec_AssignClass f k vs us W h kk (by have := HZf.out; omega) (by have := HZk.out; omega)
  have hC3 := asgC_vec f k
  have hC4 := fun h => @asgC_ok f k h
  have hC5 := sz_asgC f k
  generalize asgC f k = Q at hC1 hC2 hC3 hC4 hC5
  obtain ⟨Q1, qm⟩ := Q
  have HD1 := Lib.hid hC1
  have HD2 := Lib.hid hC2
  have HD3 := Lib.hid hC3
  have HD4 := Lib.hid hC4
  have HD5 := Lib.hid hC5
  clear hC1 hC2 hC3 hC4 hC5
  have x0_0 := HVb9.out.bx.cell 0 _ rfl
  have x0_1 := HVb9.out.bx.cell 1 _ rfl
  have x0_2 := HVb9.out.bx.cell 2 _ rfl
  have x0_3 := HVb9.out.bx.cell 3 _ rfl
  have x0_4 := HVb9.out.bx.cell 4 _ rfl
  have x0_5 := HVb9.out.bx.cell 5 _ rfl
  have x0_6 := HVb9.out.bx.cell 6 _ rfl
  have x0_7 := HVb9.out.bx.cell 7 _ rfl
  have x1_0 := HVb10.out.bx.cell 0 _ rfl
  have x1_1 := HVb10.out.bx.cell 1 _ rfl
  have x1_2 := HVb10.out.bx.cell 2 _ rfl
  have x1_3 := HVb10.out.bx.cell 3 _ rfl
  have x1_4 := HVb10.out.bx.cell 4 _ rfl
  have x1_5 := HVb10.out.bx.cell 5 _ rfl
  have x1_6 := HVb10.out.bx.cell 6 _ rfl
  have x1_7 := HVb10.out.bx.cell 7 _ rfl
  go_wp2_with fail
  refine Calls.mono (HD1.out _ _ _ HVb9.out.rd HVb10.out.rd) ?_
  rintro e wa ⟨cs, rfl, hV, hb⟩
  obtain ⟨G1, z1, G2, z2, G3, z3, G4, z4, G5, z5, rfl⟩ := hV.shape
  clear x0_0 x0_1 x0_2 x0_3 x0_4 x0_5 x0_6 x0_7 x1_0 x1_1 x1_2 x1_3 x1_4 x1_5 x1_6 x1_7
  have HY := Lib.hid (SlR.below HY.out hb (fun _ _ h => h))
  have HBL := Lib.hid (HBL.out.trans (hb.mono HBL.out.size))
  have HVb3 := Lib.hid (HVb3.out.step hb)
  have HVb4 := Lib.hid (HVb4.out.step hb)
  have HVb5 := Lib.hid (HVb5.out.step hb)
  have HVb7 := Lib.hid (HVb7.out.step hb)
  have HVb9 := Lib.hid (HVb9.out.step hb)
  have HVb10 := Lib.hid (HVb10.out.step hb)
  have hbx := (Below.refl wa.heap.size wa).alloc (Nat.le_refl _) (.cells [.int .i64 Q1.kind, .slice G1 Q1.items.length z1, .slice G2 Q1.parts.length z2, .slice G3 Q1.names.length z3, .slice G4 Q1.cls.length z4, .slice G5 Q1.levels.length z5, .int .i64 Q1.code, .int .i64 Q1.env].toArray 28)
  have HX := Lib.hid (show Ok (fun W => Bytes W (.slice a l.length c) l ∧ Below w.heap.size w W ∧ VB b3 [.int .i64 v.kind, .slice A1 v.items.length p1, .slice A2 v.parts.length p2, .slice A3 v.names.length p3, .slice A4 v.cls.length p4, .slice A5 v.levels.length p5, .int .i64 v.code, .int .i64 v.env] v W ∧ VB b4 [.int .i64 u.kind, .slice B1 u.items.length q1, .slice B2 u.parts.length q2, .slice B3 u.names.length q3, .slice B4 u.cls.length q4, .slice B5 u.levels.length q5, .int .i64 u.code, .int .i64 u.env] u W ∧ VB b5 [.int .i64 P1.kind, .slice C1 P1.items.length r1, .slice C2 P1.parts.length r2, .slice C3 P1.names.length r3, .slice C4 P1.cls.length r4, .slice C5 P1.levels.length r5, .int .i64 P1.code, .int .i64 P1.env] P1 W ∧ VB b7 [.int .i64 P1.kind, .slice D1 P1.items.length s1, .slice D2 P1.parts.length s2, .slice D3 P1.names.length s3, .slice D4 P1.cls.length s4, .slice D5 P1.levels.length s5, .int .i64 P1.code, .int .i64 P1.env] P1 W ∧ VB b9 [.int .i64 f.kind, .slice E1 f.items.length t1, .slice E2 f.parts.length t2, .slice E3 f.names.length t3, .slice E4 f.cls.length t4, .slice E5 f.levels.length t5, .int .i64 f.code, .int .i64 f.env] f W ∧ VB b10 [.int .i64 k.kind, .slice F1 k.items.length y1, .slice F2 k.parts.length y2, .slice F3 k.names.length y3, .slice F4 k.cls.length y4, .slice F5 k.levels.length y5, .int .i64 k.code, .int .i64 k.env] k W ∧ VB wa.heap.size [.int .i64 Q1.kind, .slice G1 Q1.items.length z1, .slice G2 Q1.parts.length z2, .slice G3 Q1.names.length z3, .slice G4 Q1.cls.length z4, .slice G5 Q1.levels.length z5, .int .i64 Q1.code, .int .i64 Q1.env] Q1 W) (wa.alloc (.cells [.int .i64 Q1.kind, .slice G1 Q1.items.length z1, .slice G2 Q1.parts.length z2, .slice G3 Q1.names.length z3, .slice G4 Q1.cls.length z4, .slice G5 Q1.levels.length z5, .int .i64 Q1.code, .int .i64 Q1.env].toArray 28)) from ⟨SlR.below HY.out hbx (fun _ _ h => h), HBL.out.trans (hbx.mono HBL.out.size), HVb3.out.step hbx, HVb4.out.step hbx, HVb5.out.step hbx, HVb7.out.step hbx, HVb9.out.step hbx, HVb10.out.step hbx, ⟨Blk.new wa _ [.int .i64 Q1.kind, .slice G1 Q1.items.length z1, .slice G2 Q1.parts.length z2, .slice G3 Q1.names.length z3, .slice G4 Q1.cls.length z4, .slice G5 Q1.levels.length z5, .int .i64 Q1.code, .int .i64 Q1.env], hV.read.below hbx⟩⟩)
  clear hV hb hbx HY HBL HVb3 HVb4 HVb5 HVb7 HVb9 HVb10
  go_upto_region 8 with fail
  generalize hq : wa.heap.size = b11 at HX ⊢
  clear hq
  refine gen_w (G := fun W => Bytes W (.slice a l.length c) l ∧ Below w.heap.size w W ∧ VB b3 [.int .i64 v.kind, .slice A1 v.items.length p1, .slice A2 v.parts.length p2, .slice A3 v.names.length p3, .slice A4 v.cls.length p4, .slice A5 v.levels.length p5, .int .i64 v.code, .int .i64 v.env] v W ∧ VB b4 [.int .i64 u.kind, .slice B1 u.items.length q1, .slice B2 u.parts.length q2, .slice B3 u.names.length q3, .slice B4 u.cls.length q4, .slice B5 u.levels.length q5, .int .i64 u.code, .int .i64 u.env] u W ∧ VB b5 [.int .i64 P1.kind, .slice C1 P1.items.length r1, .slice C2 P1.parts.length r2, .slice C3 P1.names.length r3, .slice C4 P1.cls.length r4, .slice C5 P1.levels.length r5, .int .i64 P1.code, .int .i64 P1.env] P1 W ∧ VB b7 [.int .i64 P1.kind, .slice D1 P1.items.length s1, .slice D2 P1.parts.length s2, .slice D3 P1.names.length s3, .slice D4 P1.cls.length s4, .slice D5 P1.levels.length s5, .int .i64 P1.code, .int .i64 P1.env] P1 W ∧ VB b9 [.int .i64 f.kind, .slice E1 f.items.length t1, .slice E2 f.parts.length t2, .slice E3 f.names.length t3, .slice E4 f.cls.length t4, .slice E5 f.levels.length t5, .int .i64 f.code, .int .i64 f.env] f W ∧ VB b10 [.int .i64 k.kind, .slice F1 k.items.length y1, .slice F2 k.parts.length y2, .slice F3 k.names.length y3, .slice F4 k.cls.length y4, .slice F5 k.levels.length y5, .int .i64 k.code, .int .i64 k.env] k W ∧ VB b11 [.int .i64 Q1.kind, .slice G1 Q1.items.length z1, .slice G2 Q1.parts.length z2, .slice G3 Q1.names.length z3, .slice G4 Q1.cls.length z4, .slice G5 Q1.levels.length z5, .int .i64 Q1.code, .int .i64 Q1.env] Q1 W) HX.out ?_
  clear HX
  rintro wb5 ⟨h1, h2, h3, h4, h5, h6, h7, h8, h9⟩
  have HY := Lib.hid h1
  have HBL := Lib.hid h2
  have HVb3 := Lib.hid h3
  have HVb4 := Lib.hid h4
  have HVb5 := Lib.hid h5
  have HVb7 := Lib.hid h6
  have HVb9 := Lib.hid h7
  have HVb10 := Lib.hid h8
  have HVb11 := Lib.hid h9
  clear h1 h2 h3 h4 h5 h6 h7 h8 h9
  have x0_0 := HVb9.out.bx.cell 0 _ rfl
  have x0_1 := HVb9.out.bx.cell 1 _ rfl
  have x0_2 := HVb9.out.bx.cell 2 _ rfl
  have x0_3 := HVb9.out.bx.cell 3 _ rfl
  have x0_4 := HVb9.out.bx.cell 4 _ rfl
  have x0_5 := HVb9.out.bx.cell 5 _ rfl
  have x0_6 := HVb9.out.bx.cell 6 _ rfl
  have x0_7 := HVb9.out.bx.cell 7 _ rfl
  have x1_0 := HVb10.out.bx.cell 0 _ rfl
  have x1_1 := HVb10.out.bx.cell 1 _ rfl
  have x1_2 := HVb10.out.bx.cell 2 _ rfl
  have x1_3 := HVb10.out.bx.cell 3 _ rfl
  have x1_4 := HVb10.out.bx.cell 4 _ rfl
  have x1_5 := HVb10.out.bx.cell 5 _ rfl
  have x1_6 := HVb10.out.bx.cell 6 _ rfl
  have x1_7 := HVb10.out.bx.cell 7 _ rfl
  go_wp2_with fail
  refine Calls.mono (HD2.out _ _ _ HVb9.out.rd HVb10.out.rd) ?_
  rintro e wa ⟨cs, rfl, hV, hb⟩
  obtain ⟨H1, n1, H2, n2, H3, n3, H4, n4, H5, n5, rfl⟩ := hV.shape
  clear x0_0 x0_1 x0_2 x0_3 x0_4 x0_5 x0_6 x0_7 x1_0 x1_1 x1_2 x1_3 x1_4 x1_5 x1_6 x1_7
  have HY := Lib.hid (SlR.below HY.out hb (fun _ _ h => h))
  have HBL := Lib.hid (HBL.out.trans (hb.mono HBL.out.size))
  have HVb3 := Lib.hid (HVb3.out.step hb)
  have HVb4 := Lib.hid (HVb4.out.step hb)
  have HVb5 := Lib.hid (HVb5.out.step hb)
  have HVb7 := Lib.hid (HVb7.out.step hb)
  have HVb9 := Lib.hid (HVb9.out.step hb)
  have HVb10 := Lib.hid (HVb10.out.step hb)
  have HVb11 := Lib.hid (HVb11.out.step hb)
  have hbx := (Below.refl wa.heap.size wa).alloc (Nat.le_refl _) (.cells [.int .i64 Q1.kind, .slice H1 Q1.items.length n1, .slice H2 Q1.parts.length n2, .slice H3 Q1.names.length n3, .slice H4 Q1.cls.length n4, .slice H5 Q1.levels.length n5, .int .i64 Q1.code, .int .i64 Q1.env].toArray 28)
  have HX := Lib.hid (show Ok (fun W => Bytes W (.slice a l.length c) l ∧ Below w.heap.size w W ∧ VB b3 [.int .i64 v.kind, .slice A1 v.items.length p1, .slice A2 v.parts.length p2, .slice A3 v.names.length p3, .slice A4 v.cls.length p4, .slice A5 v.levels.length p5, .int .i64 v.code, .int .i64 v.env] v W ∧ VB b4 [.int .i64 u.kind, .slice B1 u.items.length q1, .slice B2 u.parts.length q2, .slice B3 u.names.length q3, .slice B4 u.cls.length q4, .slice B5 u.levels.length q5, .int .i64 u.code, .int .i64 u.env] u W ∧ VB b5 [.int .i64 P1.kind, .slice C1 P1.items.length r1, .slice C2 P1.parts.length r2, .slice C3 P1.names.length r3, .slice C4 P1.cls.length r4, .slice C5 P1.levels.length r5, .int .i64 P1.code, .int .i64 P1.env] P1 W ∧ VB b7 [.int .i64 P1.kind, .slice D1 P1.items.length s1, .slice D2 P1.parts.length s2, .slice D3 P1.names.length s3, .slice D4 P1.cls.length s4, .slice D5 P1.levels.length s5, .int .i64 P1.code, .int .i64 P1.env] P1 W ∧ VB b9 [.int .i64 f.kind, .slice E1 f.items.length t1, .slice E2 f.parts.length t2, .slice E3 f.names.length t3, .slice E4 f.cls.length t4, .slice E5 f.levels.length t5, .int .i64 f.code, .int .i64 f.env] f W ∧ VB b10 [.int .i64 k.kind, .slice F1 k.items.length y1, .slice F2 k.parts.length y2, .slice F3 k.names.length y3, .slice F4 k.cls.length y4, .slice F5 k.levels.length y5, .int .i64 k.code, .int .i64 k.env] k W ∧ VB b11 [.int .i64 Q1.kind, .slice G1 Q1.items.length z1, .slice G2 Q1.parts.length z2, .slice G3 Q1.names.length z3, .slice G4 Q1.cls.length z4, .slice G5 Q1.levels.length z5, .int .i64 Q1.code, .int .i64 Q1.env] Q1 W ∧ VB wa.heap.size [.int .i64 Q1.kind, .slice H1 Q1.items.length n1, .slice H2 Q1.parts.length n2, .slice H3 Q1.names.length n3, .slice H4 Q1.cls.length n4, .slice H5 Q1.levels.length n5, .int .i64 Q1.code, .int .i64 Q1.env] Q1 W) (wa.alloc (.cells [.int .i64 Q1.kind, .slice H1 Q1.items.length n1, .slice H2 Q1.parts.length n2, .slice H3 Q1.names.length n3, .slice H4 Q1.cls.length n4, .slice H5 Q1.levels.length n5, .int .i64 Q1.code, .int .i64 Q1.env].toArray 28)) from ⟨SlR.below HY.out hbx (fun _ _ h => h), HBL.out.trans (hbx.mono HBL.out.size), HVb3.out.step hbx, HVb4.out.step hbx, HVb5.out.step hbx, HVb7.out.step hbx, HVb9.out.step hbx, HVb10.out.step hbx, HVb11.out.step hbx, ⟨Blk.new wa _ [.int .i64 Q1.kind, .slice H1 Q1.items.length n1, .slice H2 Q1.parts.length n2, .slice H3 Q1.names.length n3, .slice H4 Q1.cls.length n4, .slice H5 Q1.levels.length n5, .int .i64 Q1.code, .int .i64 Q1.env], hV.read.below hbx⟩⟩)
  clear hV hb hbx HY HBL HVb3 HVb4 HVb5 HVb7 HVb9 HVb10 HVb11
  go_upto_region 9 with fail
  generalize hq : wa.heap.size = b13 at HX ⊢
  clear hq
  refine gen_w (G := fun W => Bytes W (.slice a l.length c) l ∧ Below w.heap.size w W ∧ VB b3 [.int .i64 v.kind, .slice A1 v.items.length p1, .slice A2 v.parts.length p2, .slice A3 v.names.length p3, .slice A4 v.cls.length p4, .slice A5 v.levels.length p5, .int .i64 v.code, .int .i64 v.env] v W ∧ VB b4 [.int .i64 u.kind, .slice B1 u.items.length q1, .slice B2 u.parts.length q2, .slice B3 u.names.length q3, .slice B4 u.cls.length q4, .slice B5 u.levels.length q5, .int .i64 u.code, .int .i64 u.env] u W ∧ VB b5 [.int .i64 P1.kind, .slice C1 P1.items.length r1, .slice C2 P1.parts.length r2, .slice C3 P1.names.length r3, .slice C4 P1.cls.length r4, .slice C5 P1.levels.length r5, .int .i64 P1.code, .int .i64 P1.env] P1 W ∧ VB b7 [.int .i64 P1.kind, .slice D1 P1.items.length s1, .slice D2 P1.parts.length s2, .slice D3 P1.names.length s3, .slice D4 P1.cls.length s4, .slice D5 P1.levels.length s5, .int .i64 P1.code, .int .i64 P1.env] P1 W ∧ VB b9 [.int .i64 f.kind, .slice E1 f.items.length t1, .slice E2 f.parts.length t2, .slice E3 f.names.length t3, .slice E4 f.cls.length t4, .slice E5 f.levels.length t5, .int .i64 f.code, .int .i64 f.env] f W ∧ VB b10 [.int .i64 k.kind, .slice F1 k.items.length y1, .slice F2 k.parts.length y2, .slice F3 k.names.length y3, .slice F4 k.cls.length y4, .slice F5 k.levels.length y5, .int .i64 k.code, .int .i64 k.env] k W ∧ VB b11 [.int .i64 Q1.kind, .slice G1 Q1.items.length z1, .slice G2 Q1.parts.length z2, .slice G3 Q1.names.length z3, .slice G4 Q1.cls.length z4, .slice G5 Q1.levels.length z5, .int .i64 Q1.code, .int .i64 Q1.env] Q1 W ∧ VB b13 [.int .i64 Q1.kind, .slice H1 Q1.items.length n1, .slice H2 Q1.parts.length n2, .slice H3 Q1.names.length n3, .slice H4 Q1.cls.length n4, .slice H5 Q1.levels.length n5, .int .i64 Q1.code, .int .i64 Q1.env] Q1 W) HX.out ?_
  clear HX
  rintro wb6 ⟨h1, h2, h3, h4, h5, h6, h7, h8, h9, h10⟩
  have HY := Lib.hid h1
  have HBL := Lib.hid h2
  have HVb3 := Lib.hid h3
  have HVb4 := Lib.hid h4
  have HVb5 := Lib.hid h5
  have HVb7 := Lib.hid h6
  have HVb9 := Lib.hid h7
  have HVb10 := Lib.hid h8
  have HVb11 := Lib.hid h9
  have HVb13 := Lib.hid h10
  clear h1 h2 h3 h4 h5 h6 h7 h8 h9 h10
  have x0_0 := HVb5.out.bx.cell 0 _ rfl
  have x0_1 := HVb5.out.bx.cell 1 _ rfl
  have x0_2 := HVb5.out.bx.cell 2 _ rfl
  have x0_3 := HVb5.out.bx.cell 3 _ rfl
  have x0_4 := HVb5.out.bx.cell 4 _ rfl
  have x0_5 := HVb5.out.bx.cell 5 _ rfl
  have x0_6 := HVb5.out.bx.cell 6 _ rfl
  have x0_7 := HVb5.out.bx.cell 7 _ rfl
  have x1_0 := HVb7.out.bx.cell 0 _ rfl
  have x1_1 := HVb7.out.bx.cell 1 _ rfl
  have x1_2 := HVb7.out.bx.cell 2 _ rfl
  have x1_3 := HVb7.out.bx.cell 3 _ rfl
  have x1_4 := HVb7.out.bx.cell 4 _ rfl
  have x1_5 := HVb7.out.bx.cell 5 _ rfl
  have x1_6 := HVb7.out.bx.cell 6 _ rfl
  have x1_7 := HVb7.out.bx.cell 7 _ rfl
  go_wp2_with fail
  refine Calls.mono (spec_EqualVectors_same P1 _ _ _ HVb5.out.rd HVb7.out.rd (HC3.out) (by have := HC5.out; omega)) ?_
  rintro e wc1 ⟨rfl, hb⟩
  clear x0_0 x0_1 x0_2 x0_3 x0_4 x0_5 x0_6 x0_7 x1_0 x1_1 x1_2 x1_3 x1_4 x1_5 x1_6 x1_7
  have HY := Lib.hid (SlR.below HY.out hb (fun _ _ h => h))
  have HBL := Lib.hid (HBL.out.trans (hb.mono HBL.out.size))
  have HVb3 := Lib.hid (HVb3.out.step hb)
  have HVb4 := Lib.hid (HVb4.out.step hb)
  have HVb5 := Lib.hid (HVb5.out.step hb)
  have HVb7 := Lib.hid (HVb7.out.step hb)
  have HVb9 := Lib.hid (HVb9.out.step hb)
  have HVb10 := Lib.hid (HVb10.out.step hb)
  have HVb11 := Lib.hid (HVb11.out.step hb)
  have HVb13 := Lib.hid (HVb13.out.step hb)
  clear hb
  have x0_0 := HVb11.out.bx.cell 0 _ rfl
  have x0_1 := HVb11.out.bx.cell 1 _ rfl
  have x0_2 := HVb11.out.bx.cell 2 _ rfl
  have x0_3 := HVb11.out.bx.cell 3 _ rfl
  have x0_4 := HVb11.out.bx.cell 4 _ rfl
  have x0_5 := HVb11.out.bx.cell 5 _ rfl
  have x0_6 := HVb11.out.bx.cell 6 _ rfl
  have x0_7 := HVb11.out.bx.cell 7 _ rfl
  have x1_0 := HVb13.out.bx.cell 0 _ rfl
  have x1_1 := HVb13.out.bx.cell 1 _ rfl
  have x1_2 := HVb13.out.bx.cell 2 _ rfl
  have x1_3 := HVb13.out.bx.cell 3 _ rfl
  have x1_4 := HVb13.out.bx.cell 4 _ rfl
  have x1_5 := HVb13.out.bx.cell 5 _ rfl
  have x1_6 := HVb13.out.bx.cell 6 _ rfl
  have x1_7 := HVb13.out.bx.cell 7 _ rfl
  go_wp2_with fail
  refine Calls.mono (spec_EqualVectors_same Q1 _ _ _ HVb11.out.rd HVb13.out.rd (HD3.out) (by have := HD5.out; have := HZf.out; have := HZk.out; omega)) ?_
  rintro e wc2 ⟨rfl, hb⟩
  clear x0_0 x0_1 x0_2 x0_3 x0_4 x0_5 x0_6 x0_7 x1_0 x1_1 x1_2 x1_3 x1_4 x1_5 x1_6 x1_7
  have HY := Lib.hid (SlR.below HY.out hb (fun _ _ h => h))
  have HBL := Lib.hid (HBL.out.trans (hb.mono HBL.out.size))
  have HVb3 := Lib.hid (HVb3.out.step hb)
  have HVb4 := Lib.hid (HVb4.out.step hb)
  have HVb5 := Lib.hid (HVb5.out.step hb)
  have HVb7 := Lib.hid (HVb7.out.step hb)
  have HVb9 := Lib.hid (HVb9.out.step hb)
  have HVb10 := Lib.hid (HVb10.out.step hb)
  have HVb11 := Lib.hid (HVb11.out.step hb)
  have HVb13 := Lib.hid (HVb13.out.step hb)
  clear hb
  have w4 := HVb9.out.bx.cell 4 _ rfl
  go_upto_region 11 with fail
  go_cut [83] from 76 to 84 (fun s wx => s = .bool (decide (qm = [] ∧ f.cls = [])) ∧ wc2 = wx)
  case first =>
    by_cases hq : qm = []
    · have hb1 : (!qm.isEmpty) = false := by simp [hq]
      have hb2 : qm.isEmpty = true := by simp [hq]
      by_cases hcl : f.cls = []
      · have b0 : (((f.cls).length : Int) == 0) = true := by rw [hcl]; rfl
        have HR := Lib.hid (show decide (qm = [] ∧ f.cls = []) = true from decide_eq_true ⟨hq, hcl⟩)
        clear hq hcl
        go_wp2_with fail
        go_meet
        case rel => exact ⟨by rw [HR.out], rfl⟩
      · have b0 : (((f.cls).length : Int) == 0) = false := by simpa using hcl
        have HR := Lib.hid (show decide (qm = [] ∧ f.cls = []) = false from decide_eq_false fun h => hcl h.2)
        clear hq hcl
        go_wp2_with fail
        go_meet
        case rel => exact ⟨by rw [HR.out], rfl⟩
    · have hb1 : (!qm.isEmpty) = true := by simp [hq]
      have hb2 : qm.isEmpty = false := by simp [hq]
      have HR := Lib.hid (show decide (qm = [] ∧ f.cls = []) = false from decide_eq_false fun h => hq h.1)
      clear hq
      go_wp2_with fail
      go_meet
      case rel => exact ⟨by rw [HR.out], rfl⟩
  obtain ⟨rfl, rfl⟩ := hcut
  clear w4
  obtain ⟨tb, htb⟩ : ∃ tb, tb = decide (qm = [] ∧ f.cls = []) := ⟨_, rfl⟩
  rw [← htb]
  have HTB := Lib.hid htb
  clear htb
  go_upto_if 83 with fail
  go_cut [] from 15 to 98 (fun W => Hid (Bytes W (.slice a l.length c) l ∧ Below w.heap.size w W ∧ VB b3 [.int .i64 v.kind, .slice A1 v.items.length p1, .slice A2 v.parts.length p2, .slice A3 v.names.length p3, .slice A4 v.cls.length p4, .slice A5 v.levels.length p5, .int .i64 v.code, .int .i64 v.env] v W ∧ VB b4 [.int .i64 u.kind, .slice B1 u.items.length q1, .slice B2 u.parts.length q2, .slice B3 u.names.length q3, .slice B4 u.cls.length q4, .slice B5 u.levels.length q5, .int .i64 u.code, .int .i64 u.env] u W ∧ VB b5 [.int .i64 P1.kind, .slice C1 P1.items.length r1, .slice C2 P1.parts.length r2, .slice C3 P1.names.length r3, .slice C4 P1.cls.length r4, .slice C5 P1.levels.length r5, .int .i64 P1.code, .int .i64 P1.env] P1 W ∧ VB b7 [.int .i64 P1.kind, .slice D1 P1.items.length s1, .slice D2 P1.parts.length s2, .slice D3 P1.names.length s3, .slice D4 P1.cls.length s4, .slice D5 P1.levels.length s5, .int .i64 P1.code, .int .i64 P1.env] P1 W ∧ VB b9 [.int .i64 f.kind, .slice E1 f.items.length t1, .slice E2 f.parts.length t2, .slice E3 f.names.length t3, .slice E4 f.cls.length t4, .slice E5 f.levels.length t5, .int .i64 f.code, .int .i64 f.env] f W ∧ VB b10 [.int .i64 k.kind, .slice F1 k.items.length y1, .slice F2 k.parts.length y2, .slice F3 k.names.length y3, .slice F4 k.cls.length y4, .slice F5 k.levels.length y5, .int .i64 k.code, .int .i64 k.env] k W ∧ VB b11 [.int .i64 Q1.kind, .slice G1 Q1.items.length z1, .slice G2 Q1.parts.length z2, .slice G3 Q1.names.length z3, .slice G4 Q1.cls.length z4, .slice G5 Q1.levels.length z5, .int .i64 Q1.code, .int .i64 Q1.env] Q1 W ∧ VB b13 [.int .i64 Q1.kind, .slice H1 Q1.items.length n1, .slice H2 Q1.parts.length n2, .slice H3 Q1.names.length n3, .slice H4 Q1.cls.length n4, .slice H5 Q1.levels.length n5, .int .i64 Q1.code, .int .i64 Q1.env] Q1 W))
  case first =>
    cases tb
    rotate_left
    · obtain ⟨hq, hcl⟩ := of_decide_eq_true HTB.out.symm
      · have HQ := Lib.hid ((HD4.out hq).2.2.1 hcl)
        have HVC := Lib.hid ((HD4.out hq).1)
        have HQM := Lib.hid hq
        clear hq hcl
        have x0_0 := HVb13.out.bx.cell 0 _ rfl
        have x0_1 := HVb13.out.bx.cell 1 _ rfl
        have x0_2 := HVb13.out.bx.cell 2 _ rfl
        have x0_3 := HVb13.out.bx.cell 3 _ rfl
        have x0_4 := HVb13.out.bx.cell 4 _ rfl
        have x0_5 := HVb13.out.bx.cell 5 _ rfl
        have x0_6 := HVb13.out.bx.cell 6 _ rfl
        have x0_7 := HVb13.out.bx.cell 7 _ rfl
        have w4 := HVb9.out.bx.cell 4 _ rfl
        go_wp2_with fail
        have hh := impl_AssignClass Q1 nulV _ _ _ HVb13.out.rd (zeroOD (fun _ => True) _).read (by have := HD5.out; have := HZf.out; have := HZk.out; omega) (by rw [show szVector nulV = 0 by rw [szVector_eq]; rfl]; omega)
        rw [HQ.out] at hh
        refine Calls.mono hh ?_
        clear hh
        rintro e wa ⟨cs, rfl, hV, hb⟩
        obtain ⟨K1, m1, K2, m2, K3, m3, K4, m4, K5, m5, rfl⟩ := hV.shape
        clear x0_0 x0_1 x0_2 x0_3 x0_4 x0_5 x0_6 x0_7
        clear w4
        have HY := Lib.hid (SlR.below HY.out hb (fun _ _ h => h))
        have HBL := Lib.hid (HBL.out.trans (hb.mono HBL.out.size))
        have HVb3 := Lib.hid (HVb3.out.step hb)
        have HVb4 := Lib.hid (HVb4.out.step hb)
        have HVb5 := Lib.hid (HVb5.out.step hb)
        have HVb7 := Lib.hid (HVb7.out.step hb)
        have HVb9 := Lib.hid (HVb9.out.step hb)
        have HVb10 := Lib.hid (HVb10.out.step hb)
        have HVb11 := Lib.hid (HVb11.out.step hb)
        have HVb13 := Lib.hid (HVb13.out.step hb)
        have hbx := (Below.refl wa.heap.size wa).alloc (Nat.le_refl _) (.cells [.int .i64 f.kind, .slice K1 f.items.length m1, .slice K2 f.parts.length m2, .slice K3 f.names.length m3, .slice K4 f.cls.length m4, .slice K5 f.levels.length m5, .int .i64 f.code, .int .i64 f.env].toArray 28)
        have HX := Lib.hid (show Ok (fun W => Bytes W (.slice a l.length c) l ∧ Below w.heap.size w W ∧ VB b3 [.int .i64 v.kind, .slice A1 v.items.length p1, .slice A2 v.parts.length p2, .slice A3 v.names.length p3, .slice A4 v.cls.length p4, .slice A5 v.levels.length p5, .int .i64 v.code, .int .i64 v.env] v W ∧ VB b4 [.int .i64 u.kind, .slice B1 u.items.length q1, .slice B2 u.parts.length q2, .slice B3 u.names.length q3, .slice B4 u.cls.length q4, .slice B5 u.levels.length q5, .int .i64 u.code, .int .i64 u.env] u W ∧ VB b5 [.int .i64 P1.kind, .slice C1 P1.items.length r1, .slice C2 P1.parts.length r2, .slice C3 P1.names.length r3, .slice C4 P1.cls.length r4, .slice C5 P1.levels.length r5, .int .i64 P1.code, .int .i64 P1.env] P1 W ∧ VB b7 [.int .i64 P1.kind, .slice D1 P1.items.length s1, .slice D2 P1.parts.length s2, .slice D3 P1.names.length s3, .slice D4 P1.cls.length s4, .slice D5 P1.levels.length s5, .int .i64 P1.code, .int .i64 P1.env] P1 W ∧ VB b9 [.int .i64 f.kind, .slice E1 f.items.length t1, .slice E2 f.parts.length t2, .slice E3 f.names.length t3, .slice E4 f.cls.length t4, .slice E5 f.levels.length t5, .int .i64 f.code, .int .i64 f.env] f W ∧ VB b10 [.int .i64 k.kind, .slice F1 k.items.length y1, .slice F2 k.parts.length y2, .slice F3 k.names.length y3, .slice F4 k.cls.length y4, .slice F5 k.levels.length y5, .int .i64 k.code, .int .i64 k.env] k W ∧ VB b11 [.int .i64 Q1.kind, .slice G1 Q1.items.length z1, .slice G2 Q1.parts.length z2, .slice G3 Q1.names.length z3, .slice G4 Q1.cls.length z4, .slice G5 Q1.levels.length z5, .int .i64 Q1.code, .int .i64 Q1.env] Q1 W ∧ VB b13 [.int .i64 Q1.kind, .slice H1 Q1.items.length n1, .slice H2 Q1.parts.length n2, .slice H3 Q1.names.length n3, .slice H4 Q1.cls.length n4, .slice H5 Q1.levels.length n5, .int .i64 Q1.code, .int .i64 Q1.env] Q1 W ∧ VB wa.heap.size [.int .i64 f.kind, .slice K1 f.items.length m1, .slice K2 f.parts.length m2, .slice K3 f.names.length m3, .slice K4 f.cls.length m4, .slice K5 f.levels.length m5, .int .i64 f.code, .int .i64 f.env] f W) (wa.alloc (.cells [.int .i64 f.kind, .slice K1 f.items.length m1, .slice K2 f.parts.length m2, .slice K3 f.names.length m3, .slice K4 f.cls.length m4, .slice K5 f.levels.length m5, .int .i64 f.code, .int .i64 f.env].toArray 28)) from ⟨SlR.below HY.out hbx (fun _ _ h => h), HBL.out.trans (hbx.mono HBL.out.size), HVb3.out.step hbx, HVb4.out.step hbx, HVb5.out.step hbx, HVb7.out.step hbx, HVb9.out.step hbx, HVb10.out.step hbx, HVb11.out.step hbx, HVb13.out.step hbx, ⟨Blk.new wa _ [.int .i64 f.kind, .slice K1 f.items.length m1, .slice K2 f.parts.length m2, .slice K3 f.names.length m3, .slice K4 f.cls.length m4, .slice K5 f.levels.length m5, .int .i64 f.code, .int .i64 f.env], hV.read.below hbx⟩⟩)
        clear hV hb hbx HY HBL HVb3 HVb4 HVb5 HVb7 HVb9 HVb10 HVb11 HVb13
        go_upto_region 13 with fail
        generalize hqq : wa.heap.size = b99 at HX ⊢
        clear hqq
        refine gen_w (G := fun W => Bytes W (.slice a l.length c) l ∧ Below w.heap.size w W ∧ VB b3 [.int .i64 v.kind, .slice A1 v.items.length p1, .slice A2 v.parts.length p2, .slice A3 v.names.length p3, .slice A4 v.cls.length p4, .slice A5 v.levels.length p5, .int .i64 v.code, .int .i64 v.env] v W ∧ VB b4 [.int .i64 u.kind, .slice B1 u.items.length q1, .slice B2 u.parts.length q2, .slice B3 u.names.length q3, .slice B4 u.cls.length q4, .slice B5 u.levels.length q5, .int .i64 u.code, .int .i64 u.env] u W ∧ VB b5 [.int .i64 P1.kind, .slice C1 P1.items.length r1, .slice C2 P1.parts.length r2, .slice C3 P1.names.length r3, .slice C4 P1.cls.length r4, .slice C5 P1.levels.length r5, .int .i64 P1.code, .int .i64 P1.env] P1 W ∧ VB b7 [.int .i64 P1.kind, .slice D1 P1.items.length s1, .slice D2 P1.parts.length s2, .slice D3 P1.names.length s3, .slice D4 P1.cls.length s4, .slice D5 P1.levels.length s5, .int .i64 P1.code, .int .i64 P1.env] P1 W ∧ VB b9 [.int .i64 f.kind, .slice E1 f.items.length t1, .slice E2 f.parts.length t2, .slice E3 f.names.length t3, .slice E4 f.cls.length t4, .slice E5 f.levels.length t5, .int .i64 f.code, .int .i64 f.env] f W ∧ VB b10 [.int .i64 k.kind, .slice F1 k.items.length y1, .slice F2 k.parts.length y2, .slice F3 k.names.length y3, .slice F4 k.cls.length y4, .slice F5 k.levels.length y5, .int .i64 k.code, .int .i64 k.env] k W ∧ VB b11 [.int .i64 Q1.kind, .slice G1 Q1.items.length z1, .slice G2 Q1.parts.length z2, .slice G3 Q1.names.length z3, .slice G4 Q1.cls.length z4, .slice G5 Q1.levels.length z5, .int .i64 Q1.code, .int .i64 Q1.env] Q1 W ∧ VB b13 [.int .i64 Q1.kind, .slice H1 Q1.items.length n1, .slice H2 Q1.parts.length n2, .slice H3 Q1.names.length n3, .slice H4 Q1.cls.length n4, .slice H5 Q1.levels.length n5, .int .i64 Q1.code, .int .i64 Q1.env] Q1 W ∧ VB b99 [.int .i64 f.kind, .slice K1 f.items.length m1, .slice K2 f.parts.length m2, .slice K3 f.names.length m3, .slice K4 f.cls.length m4, .slice K5 f.levels.length m5, .int .i64 f.code, .int .i64 f.env] f W) HX.out ?_
        clear HX
        rintro wb ⟨h1, h2, h3, h4, h5, h6, h7, h8, h9, h10, h11⟩
        have HY := Lib.hid h1
        have HBL := Lib.hid h2
        have HVb3 := Lib.hid h3
        have HVb4 := Lib.hid h4
        have HVb5 := Lib.hid h5
        have HVb7 := Lib.hid h6
        have HVb9 := Lib.hid h7
        have HVb10 := Lib.hid h8
        have HVb11 := Lib.hid h9
        have HVb13 := Lib.hid h10
        have HVb99 := Lib.hid h11
        clear h1 h2 h3 h4 h5 h6 h7 h8 h9 h10 h11
        have x0_0 := HVb99.out.bx.cell 0 _ rfl
        have x0_1 := HVb99.out.bx.cell 1 _ rfl
        have x0_2 := HVb99.out.bx.cell 2 _ rfl
        have x0_3 := HVb99.out.bx.cell 3 _ rfl
        have x0_4 := HVb99.out.bx.cell 4 _ rfl
        have x0_5 := HVb99.out.bx.cell 5 _ rfl
        have x0_6 := HVb99.out.bx.cell 6 _ rfl
        have x0_7 := HVb99.out.bx.cell 7 _ rfl
        have x1_0 := HVb9.out.bx.cell 0 _ rfl
        have x1_1 := HVb9.out.bx.cell 1 _ rfl
        have x1_2 := HVb9.out.bx.cell 2 _ rfl
        have x1_3 := HVb9.out.bx.cell 3 _ rfl
        have x1_4 := HVb9.out.bx.cell 4 _ rfl
        have x1_5 := HVb9.out.bx.cell 5 _ rfl
        have x1_6 := HVb9.out.bx.cell 6 _ rfl
        have x1_7 := HVb9.out.bx.cell 7 _ rfl
        go_wp2_with fail
        refine Calls.mono (spec_EqualVectors_same f _ _ _ HVb99.out.rd HVb9.out.rd HVC.out (by have := HZf.out; omega)) ?_
        rintro e wc ⟨rfl, hb⟩
        clear x0_0 x0_1 x0_2 x0_3 x0_4 x0_5 x0_6 x0_7 x1_0 x1_1 x1_2 x1_3 x1_4 x1_5 x1_6 x1_7
        have HY := Lib.hid (SlR.below HY.out hb (fun _ _ h => h))
        have HBL := Lib.hid (HBL.out.trans (hb.mono HBL.out.size))
        have HVb3 := Lib.hid (HVb3.out.step hb)
        have HVb4 := Lib.hid (HVb4.out.step hb)
        have HVb5 := Lib.hid (HVb5.out.step hb)
        have HVb7 := Lib.hid (HVb7.out.step hb)
        have HVb9 := Lib.hid (HVb9.out.step hb)
        have HVb10 := Lib.hid (HVb10.out.step hb)
        have HVb11 := Lib.hid (HVb11.out.step hb)
        have HVb13 := Lib.hid (HVb13.out.step hb)
        have HVb99 := Lib.hid (HVb99.out.step hb)
        clear hb
        go_wp2_with fail
        go_meet
        case rel => first | exact ⟨HY.out, HBL.out, HVb3.out, HVb4.out, HVb5.out, HVb7.out, HVb9.out, HVb10.out, HVb11.out, HVb13.out⟩ | ((repeat apply Exists.intro); exact ⟨⟨HY.out, HBL.out, HVb3.out, HVb4.out, HVb5.out, HVb7.out, HVb9.out, HVb10.out, HVb11.out, HVb13.out⟩, rfl⟩)
    · go_wp2_with fail
      go_meet
      case rel => first | exact ⟨HY.out, HBL.out, HVb3.out, HVb4.out, HVb5.out, HVb7.out, HVb9.out, HVb10.out, HVb11.out, HVb13.out⟩ | ((repeat apply Exists.intro); exact ⟨⟨HY.out, HBL.out, HVb3.out, HVb4.out, HVb5.out, HVb7.out, HVb9.out, HVb10.out, HVb11.out, HVb13.out⟩, rfl⟩)
  obtain ⟨w9, hw9⟩ : ∃ w9, w9 = wc := ⟨_, rfl⟩
  rw [← hw9] at hcut ⊢
  clear hw9 HY HBL HVb3 HVb4 HVb5 HVb7 HVb9 HVb10 HVb11 HVb13
  obtain ⟨h1, h2, h3, h4, h5, h6, h7, h8, h9, h10⟩ := hcut.out
  have HY := Lib.hid h1
  have HBL := Lib.hid h2
  have HVb3 := Lib.hid h3
  have HVb4 := Lib.hid h4
  have HVb5 := Lib.hid h5
  have HVb7 := Lib.hid h6
  have HVb9 := Lib.hid h7
  have HVb10 := Lib.hid h8
  have HVb11 := Lib.hid h9
  have HVb13 := Lib.hid h10
  clear h1 h2 h3 h4 h5 h6 h7 h8 h9 h10
  clear hcut
  have w4 := HVb3.out.bx.cell 3 _ rfl
  go_upto_region 15 with fail
  go_cut [105] from 98 to 106 (fun s wx => s = .bool (decide (pm = [] ∧ v.names = [])) ∧ w9 = wx)
  case first =>
    by_cases hq : pm = []
    · have hb1 : (!pm.isEmpty) = false := by simp [hq]
      have hb2 : pm.isEmpty = true := by simp [hq]
      by_cases hcl : v.names = []
      · have b0 : (((v.names).length : Int) == 0) = true := by rw [hcl]; rfl
        have HR := Lib.hid (show decide (pm = [] ∧ v.names = []) = true from decide_eq_true ⟨hq, hcl⟩)
        clear hq hcl
        go_wp2_with fail
        go_meet
        case rel => exact ⟨by rw [HR.out], rfl⟩
      · have b0 : (((v.names).length : Int) == 0) = false := by simpa using hcl
        have HR := Lib.hid (show decide (pm = [] ∧ v.names = []) = false from decide_eq_false fun h => hcl h.2)
        clear hq hcl
        go_wp2_with fail
        go_meet
        case rel => exact ⟨by rw [HR.out], rfl⟩
    · have hb1 : (!pm.isEmpty) = true := by simp [hq]
      have hb2 : pm.isEmpty = false := by simp [hq]
      have HR := Lib.hid (show decide (pm = [] ∧ v.names = []) = false from decide_eq_false fun h => hq h.1)
      clear hq
      go_wp2_with fail
      go_meet
      case rel => exact ⟨by rw [HR.out], rfl⟩
  obtain ⟨rfl, rfl⟩ := hcut
  clear w4
  obtain ⟨tb, htb⟩ : ∃ tb, tb = decide (pm = [] ∧ v.names = []) := ⟨_, rfl⟩
  rw [← htb]
  have HTB := Lib.hid htb
  clear htb
  go_upto_if 105 with fail
  go_cut [] from 17 to 120 (fun W => Hid (Bytes W (.slice a l.length c) l ∧ Below w.heap.size w W ∧ VB b3 [.int .i64 v.kind, .slice A1 v.items.length p1, .slice A2 v.parts.length p2, .slice A3 v.names.length p3, .slice A4 v.cls.length p4, .slice A5 v.levels.length p5, .int .i64 v.code, .int .i64 v.env] v W ∧ VB b4 [.int .i64 u.kind, .slice B1 u.items.length q1, .slice B2 u.parts.length q2, .slice B3 u.names.length q3, .slice B4 u.cls.length q4, .slice B5 u.levels.length q5, .int .i64 u.code, .int .i64 u.env] u W ∧ VB b5 [.int .i64 P1.kind, .slice C1 P1.items.length r1, .slice C2 P1.parts.length r2, .slice C3 P1.names.length r3, .slice C4 P1.cls.length r4, .slice C5 P1.levels.length r5, .int .i64 P1.code, .int .i64 P1.env] P1 W ∧ VB b7 [.int .i64 P1.kind, .slice D1 P1.items.length s1, .slice D2 P1.parts.length s2, .slice D3 P1.names.length s3, .slice D4 P1.cls.length s4, .slice D5 P1.levels.length s5, .int .i64 P1.code, .int .i64 P1.env] P1 W ∧ VB b9 [.int .i64 f.kind, .slice E1 f.items.length t1, .slice E2 f.parts.length t2, .slice E3 f.names.length t3, .slice E4 f.cls.length t4, .slice E5 f.levels.length t5, .int .i64 f.code, .int .i64 f.env] f W ∧ VB b10 [.int .i64 k.kind, .slice F1 k.items.length y1, .slice F2 k.parts.length y2, .slice F3 k.names.length y3, .slice F4 k.cls.length y4, .slice F5 k.levels.length y5, .int .i64 k.code, .int .i64 k.env] k W ∧ VB b11 [.int .i64 Q1.kind, .slice G1 Q1.items.length z1, .slice G2 Q1.parts.length z2, .slice G3 Q1.names.length z3, .slice G4 Q1.cls.length z4, .slice G5 Q1.levels.length z5, .int .i64 Q1.code, .int .i64 Q1.env] Q1 W ∧ VB b13 [.int .i64 Q1.kind, .slice H1 Q1.items.length n1, .slice H2 Q1.parts.length n2, .slice H3 Q1.names.length n3, .slice H4 Q1.cls.length n4, .slice H5 Q1.levels.length n5, .int .i64 Q1.code, .int .i64 Q1.env] Q1 W))
  case first =>
    cases tb
    rotate_left
    · obtain ⟨hq, hcl⟩ := of_decide_eq_true HTB.out.symm
      · have HQ := Lib.hid ((HC4.out hq).2.2 hcl)
        have HVC := Lib.hid ((HC4.out hq).1)
        have HQM := Lib.hid hq
        clear hq hcl
        have x0_0 := HVb7.out.bx.cell 0 _ rfl
        have x0_1 := HVb7.out.bx.cell 1 _ rfl
        have x0_2 := HVb7.out.bx.cell 2 _ rfl
        have x0_3 := HVb7.out.bx.cell 3 _ rfl
        have x0_4 := HVb7.out.bx.cell 4 _ rfl
        have x0_5 := HVb7.out.bx.cell 5 _ rfl
        have x0_6 := HVb7.out.bx.cell 6 _ rfl
        have x0_7 := HVb7.out.bx.cell 7 _ rfl
        have w4 := HVb3.out.bx.cell 3 _ rfl
        go_wp2_with fail
        have hh := impl_AssignNames P1 nulV _ _ _ HVb7.out.rd (zeroOD (fun _ => True) _).read (by have := HC5.out; omega) (by rw [show szVector nulV = 0 by rw [szVector_eq]; rfl]; omega)
        rw [HQ.out] at hh
        refine Calls.mono hh ?_
        clear hh
        rintro e wa ⟨cs, rfl, hV, hb⟩
        obtain ⟨K1, m1, K2, m2, K3, m3, K4, m4, K5, m5, rfl⟩ := hV.shape
        clear x0_0 x0_1 x0_2 x0_3 x0_4 x0_5 x0_6 x0_7
        clear w4
        have HY := Lib.hid (SlR.below HY.out hb (fun _ _ h => h))
        have HBL := Lib.hid (HBL.out.trans (hb.mono HBL.out.size))
        have HVb3 := Lib.hid (HVb3.out.step hb)
        have HVb4 := Lib.hid (HVb4.out.step hb)
        have HVb5 := Lib.hid (HVb5.out.step hb)
        have HVb7 := Lib.hid (HVb7.out.step hb)
        have HVb9 := Lib.hid (HVb9.out.step hb)
        have HVb10 := Lib.hid (HVb10.out.step hb)
        have HVb11 := Lib.hid (HVb11.out.step hb)
        have HVb13 := Lib.hid (HVb13.out.step hb)
        have hbx := (Below.refl wa.heap.size wa).alloc (Nat.le_refl _) (.cells [.int .i64 v.kind, .slice K1 v.items.length m1, .slice K2 v.parts.length m2, .slice K3 v.names.length m3, .slice K4 v.cls.length m4, .slice K5 v.levels.length m5, .int .i64 v.code, .int .i64 v.env].toArray 28)
        have HX := Lib.hid (show Ok (fun W => Bytes W (.slice a l.length c) l ∧ Below w.heap.size w W ∧ VB b3 [.int .i64 v.kind, .slice A1 v.items.length p1, .slice A2 v.parts.length p2, .slice A3 v.names.length p3, .slice A4 v.cls.length p4, .slice A5 v.levels.length p5, .int .i64 v.code, .int .i64 v.env] v W ∧ VB b4 [.int .i64 u.kind, .slice B1 u.items.length q1, .slice B2 u.parts.length q2, .slice B3 u.names.length q3, .slice B4 u.cls.length q4, .slice B5 u.levels.length q5, .int .i64 u.code, .int .i64 u.env] u W ∧ VB b5 [.int .i64 P1.kind, .slice C1 P1.items.length r1, .slice C2 P1.parts.length r2, .slice C3 P1.names.length r3, .slice C4 P1.cls.length r4, .slice C5 P1.levels.length r5, .int .i64 P1.code, .int .i64 P1.env] P1 W ∧ VB b7 [.int .i64 P1.kind, .slice D1 P1.items.length s1, .slice D2 P1.parts.length s2, .slice D3 P1.names.length s3, .slice D4 P1.cls.length s4, .slice D5 P1.levels.length s5, .int .i64 P1.code, .int .i64 P1.env] P1 W ∧ VB b9 [.int .i64 f.kind, .slice E1 f.items.length t1, .slice E2 f.parts.length t2, .slice E3 f.names.length t3, .slice E4 f.cls.length t4, .slice E5 f.levels.length t5, .int .i64 f.code, .int .i64 f.env] f W ∧ VB b10 [.int .i64 k.kind, .slice F1 k.items.length y1, .slice F2 k.parts.length y2, .slice F3 k.names.length y3, .slice F4 k.cls.length y4, .slice F5 k.levels.length y5, .int .i64 k.code, .int .i64 k.env] k W ∧ VB b11 [.int .i64 Q1.kind, .slice G1 Q1.items.length z1, .slice G2 Q1.parts.length z2, .slice G3 Q1.names.length z3, .slice G4 Q1.cls.length z4, .slice G5 Q1.levels.length z5, .int .i64 Q1.code, .int .i64 Q1.env] Q1 W ∧ VB b13 [.int .i64 Q1.kind, .slice H1 Q1.items.length n1, .slice H2 Q1.parts.length n2, .slice H3 Q1.names.length n3, .slice H4 Q1.cls.length n4, .slice H5 Q1.levels.length n5, .int .i64 Q1.code, .int .i64 Q1.env] Q1 W ∧ VB wa.heap.size [.int .i64 v.kind, .slice K1 v.items.length m1, .slice K2 v.parts.length m2, .slice K3 v.names.length m3, .slice K4 v.cls.length m4, .slice K5 v.levels.length m5, .int .i64 v.code, .int .i64 v.env] v W) (wa.alloc (.cells [.int .i64 v.kind, .slice K1 v.items.length m1, .slice K2 v.parts.length m2, .slice K3 v.names.length m3, .slice K4 v.cls.length m4, .slice K5 v.levels.length m5, .int .i64 v.code, .int .i64 v.env].toArray 28)) from ⟨SlR.below HY.out hbx (fun _ _ h => h), HBL.out.trans (hbx.mono HBL.out.size), HVb3.out.step hbx, HVb4.out.step hbx, HVb5.out.step hbx, HVb7.out.step hbx, HVb9.out.step hbx, HVb10.out.step hbx, HVb11.out.step hbx, HVb13.out.step hbx, ⟨Blk.new wa _ [.int .i64 v.kind, .slice K1 v.items.length m1, .slice K2 v.parts.length m2, .slice K3 v.names.length m3, .slice K4 v.cls.length m4, .slice K5 v.levels.length m5, .int .i64 v.code, .int .i64 v.env], hV.read.below hbx⟩⟩)
        clear hV hb hbx HY HBL HVb3 HVb4 HVb5 HVb7 HVb9 HVb10 HVb11 HVb13
        go_upto_region 17 with fail
        generalize hqq : wa.heap.size = b99 at HX ⊢
        clear hqq
        refine gen_w (G := fun W => Bytes W (.slice a l.length c) l ∧ Below w.heap.size w W ∧ VB b3 [.int .i64 v.kind, .slice A1 v.items.length p1, .slice A2 v.parts.length p2, .slice A3 v.names.length p3, .slice A4 v.cls.length p4, .slice A5 v.levels.length p5, .int .i64 v.code, .int .i64 v.env] v W ∧ VB b4 [.int .i64 u.kind, .slice B1 u.items.length q1, .slice B2 u.parts.length q2, .slice B3 u.names.length q3, .slice B4 u.cls.length q4, .slice B5 u.levels.length q5, .int .i64 u.code, .int .i64 u.env] u W ∧ VB b5 [.int .i64 P1.kind, .slice C1 P1.items.length r1, .slice C2 P1.parts.length r2, .slice C3 P1.names.length r3, .slice C4 P1.cls.length r4, .slice C5 P1.levels.length r5, .int .i64 P1.code, .int .i64 P1.env] P1 W ∧ VB b7 [.int .i64 P1.kind, .slice D1 P1.items.length s1, .slice D2 P1.parts.length s2, .slice D3 P1.names.length s3, .slice D4 P1.cls.length s4, .slice D5 P1.levels.length s5, .int .i64 P1.code, .int .i64 P1.env] P1 W ∧ VB b9 [.int .i64 f.kind, .slice E1 f.items.length t1, .slice E2 f.parts.length t2, .slice E3 f.names.length t3, .slice E4 f.cls.length t4, .slice E5 f.levels.length t5, .int .i64 f.code, .int .i64 f.env] f W ∧ VB b10 [.int .i64 k.kind, .slice F1 k.items.length y1, .slice F2 k.parts.length y2, .slice F3 k.names.length y3, .slice F4 k.cls.length y4, .slice F5 k.levels.length y5, .int .i64 k.code, .int .i64 k.env] k W ∧ VB b11 [.int .i64 Q1.kind, .slice G1 Q1.items.length z1, .slice G2 Q1.parts.length z2, .slice G3 Q1.names.length z3, .slice G4 Q1.cls.length z4, .slice G5 Q1.levels.length z5, .int .i64 Q1.code, .int .i64 Q1.env] Q1 W ∧ VB b13 [.int .i64 Q1.kind, .slice H1 Q1.items.length n1, .slice H2 Q1.parts.length n2, .slice H3 Q1.names.length n3, .slice H4 Q1.cls.length n4, .slice H5 Q1.levels.length n5, .int .i64 Q1.code, .int .i64 Q1.env] Q1 W ∧ VB b99 [.int .i64 v.kind, .slice K1 v.items.length m1, .slice K2 v.parts.length m2, .slice K3 v.names.length m3, .slice K4 v.cls.length m4, .slice K5 v.levels.length m5, .int .i64 v.code, .int .i64 v.env] v W) HX.out ?_
        clear HX
        rintro wb ⟨h1, h2, h3, h4, h5, h6, h7, h8, h9, h10, h11⟩
        have HY := Lib.hid h1
        have HBL := Lib.hid h2
        have HVb3 := Lib.hid h3
        have HVb4 := Lib.hid h4
        have HVb5 := Lib.hid h5
        have HVb7 := Lib.hid h6
        have HVb9 := Lib.hid h7
        have HVb10 := Lib.hid h8
        have HVb11 := Lib.hid h9
        have HVb13 := Lib.hid h10
        have HVb99 := Lib.hid h11
        clear h1 h2 h3 h4 h5 h6 h7 h8 h9 h10 h11
        have x0_0 := HVb99.out.bx.cell 0 _ rfl
        have x0_1 := HVb99.out.bx.cell 1 _ rfl
        have x0_2 := HVb99.out.bx.cell 2 _ rfl
        have x0_3 := HVb99.out.bx.cell 3 _ rfl
        have x0_4 := HVb99.out.bx.cell 4 _ rfl
        have x0_5 := HVb99.out.bx.cell 5 _ rfl
        have x0_6 := HVb99.out.bx.cell 6 _ rfl
        have x0_7 := HVb99.out.bx.cell 7 _ rfl
        have x1_0 := HVb3.out.bx.cell 0 _ rfl
        have x1_1 := HVb3.out.bx.cell 1 _ rfl
        have x1_2 := HVb3.out.bx.cell 2 _ rfl
        have x1_3 := HVb3.out.bx.cell 3 _ rfl
        have x1_4 := HVb3.out.bx.cell 4 _ rfl
        have x1_5 := HVb3.out.bx.cell 5 _ rfl
        have x1_6 := HVb3.out.bx.cell 6 _ rfl
        have x1_7 := HVb3.out.bx.cell 7 _ rfl
        go_wp2_with fail
        refine Calls.mono (spec_EqualVectors_same v _ _ _ HVb99.out.rd HVb3.out.rd HVC.out (by have := HZv.out; omega)) ?_
        rintro e wc ⟨rfl, hb⟩
        clear x0_0 x0_1 x0_2 x0_3 x0_4 x0_5 x0_6 x0_7 x1_0 x1_1 x1_2 x1_3 x1_4 x1_5 x1_6 x1_7
        have HY := Lib.hid (SlR.below HY.out hb (fun _ _ h => h))
        have HBL := Lib.hid (HBL.out.trans (hb.mono HBL.out.size))
        have HVb3 := Lib.hid (HVb3.out.step hb)
        have HVb4 := Lib.hid (HVb4.out.step hb)
        have HVb5 := Lib.hid (HVb5.out.step hb)
        have HVb7 := Lib.hid (HVb7.out.step hb)
        have HVb9 := Lib.hid (HVb9.out.step hb)
        have HVb10 := Lib.hid (HVb10.out.step hb)
        have HVb11 := Lib.hid (HVb11.out.step hb)
        have HVb13 := Lib.hid (HVb13.out.step hb)
        have HVb99 := Lib.hid (HVb99.out.step hb)
        clear hb
        go_wp2_with fail
        go_meet
        case rel => first | exact ⟨HY.out, HBL.out, HVb3.out, HVb4.out, HVb5.out, HVb7.out, HVb9.out, HVb10.out, HVb11.out, HVb13.out⟩ | ((repeat apply Exists.intro); exact ⟨⟨HY.out, HBL.out, HVb3.out, HVb4.out, HVb5.out, HVb7.out, HVb9.out, HVb10.out, HVb11.out, HVb13.out⟩, rfl⟩)
    · go_wp2_with fail
      go_meet
      case rel => first | exact ⟨HY.out, HBL.out, HVb3.out, HVb4.out, HVb5.out, HVb7.out, HVb9.out, HVb10.out, HVb11.out, HVb13.out⟩ | ((repeat apply Exists.intro); exact ⟨⟨HY.out, HBL.out, HVb3.out, HVb4.out, HVb5.out, HVb7.out, HVb9.out, HVb10.out, HVb11.out, HVb13.out⟩, rfl⟩)
  obtain ⟨w9, hw9⟩ : ∃ w9, w9 = wc := ⟨_, rfl⟩
  rw [← hw9] at hcut ⊢
  clear hw9 HY HBL HVb3 HVb4 HVb5 HVb7 HVb9 HVb10 HVb11 HVb13
  obtain ⟨h1, h2, h3, h4, h5, h6, h7, h8, h9, h10⟩ := hcut.out
  have HY := Lib.hid h1
  have HBL := Lib.hid h2
  have HVb3 := Lib.hid h3
  have HVb4 := Lib.hid h4
  have HVb5 := Lib.hid h5
  have HVb7 := Lib.hid h6
  have HVb9 := Lib.hid h7
  have HVb10 := Lib.hid h8
  have HVb11 := Lib.hid h9
  have HVb13 := Lib.hid h10
  clear h1 h2 h3 h4 h5 h6 h7 h8 h9 h10
  clear hcut
  have hkl : k.items.length ≤ 300000 := by have := sz_len k; have := HZk.out; omega
  have HIN := Lib.hid (fun (hq : qm = []) => (HD4.out hq).2.2.2)
  go_wp2_with fail
  go_loopw [19] (fun i wr => ∃ j : Nat, j ≤ k.items.length ∧ i = .int .i64 j ∧ Hid (Bytes wr (.slice a l.length c) l ∧ Below w.heap.size w wr ∧ VB b3 [.int .i64 v.kind, .slice A1 v.items.length p1, .slice A2 v.parts.length p2, .slice A3 v.names.length p3, .slice A4 v.cls.length p4, .slice A5 v.levels.length p5, .int .i64 v.code, .int .i64 v.env] v wr ∧ VB b4 [.int .i64 u.kind, .slice B1 u.items.length q1, .slice B2 u.parts.length q2, .slice B3 u.names.length q3, .slice B4 u.cls.length q4, .slice B5 u.levels.length q5, .int .i64 u.code, .int .i64 u.env] u wr ∧ VB b5 [.int .i64 P1.kind, .slice C1 P1.items.length r1, .slice C2 P1.parts.length r2, .slice C3 P1.names.length r3, .slice C4 P1.cls.length r4, .slice C5 P1.levels.length r5, .int .i64 P1.code, .int .i64 P1.env] P1 wr ∧ VB b7 [.int .i64 P1.kind, .slice D1 P1.items.length s1, .slice D2 P1.parts.length s2, .slice D3 P1.names.length s3, .slice D4 P1.cls.length s4, .slice D5 P1.levels.length s5, .int .i64 P1.code, .int .i64 P1.env] P1 wr ∧ VB b9 [.int .i64 f.kind, .slice E1 f.items.length t1, .slice E2 f.parts.length t2, .slice E3 f.names.length t3, .slice E4 f.cls.length t4, .slice E5 f.levels.length t5, .int .i64 f.code, .int .i64 f.env] f wr ∧ VB b10 [.int .i64 k.kind, .slice F1 k.items.length y1, .slice F2 k.parts.length y2, .slice F3 k.names.length y3, .slice F4 k.cls.length y4, .slice F5 k.levels.length y5, .int .i64 k.code, .int .i64 k.env] k wr ∧ VB b11 [.int .i64 Q1.kind, .slice G1 Q1.items.length z1, .slice G2 Q1.parts.length z2, .slice G3 Q1.names.length z3, .slice G4 Q1.cls.length z4, .slice G5 Q1.levels.length z5, .int .i64 Q1.code, .int .i64 Q1.env] Q1 wr ∧ VB b13 [.int .i64 Q1.kind, .slice H1 Q1.items.length n1, .slice H2 Q1.parts.length n2, .slice H3 Q1.names.length n3, .slice H4 Q1.cls.length n4, .slice H5 Q1.levels.length n5, .int .i64 Q1.code, .int .i64 Q1.env] Q1 wr)) (fun i _ => k.items.length - (intOf i).toNat)
  case atStart => exact ⟨0, Nat.zero_le _, rfl, ⟨HY.out, HBL.out, HVb3.out, HVb4.out, HVb5.out, HVb7.out, HVb9.out, HVb10.out, HVb11.out, HVb13.out⟩⟩
  case round =>
    clear HY HBL HVb3 HVb4 HVb5 HVb7 HVb9 HVb10 HVb11 HVb13
    obtain ⟨j, hj, rfl, HCJ⟩ := hrel
    obtain ⟨h1, h2, h3, h4, h5, h6, h7, h8, h9, h10⟩ := HCJ.out
    have HY := Lib.hid h1
    have HBL := Lib.hid h2
    have HVb3 := Lib.hid h3
    have HVb4 := Lib.hid h4
    have HVb5 := Lib.hid h5
    have HVb7 := Lib.hid h6
    have HVb9 := Lib.hid h7
    have HVb10 := Lib.hid h8
    have HVb11 := Lib.hid h9
    have HVb13 := Lib.hid h10
    clear h1 h2 h3 h4 h5 h6 h7 h8 h9 h10
    have w1 := HVb10.out.bx.cell 1 _ rfl
    by_cases hq : qm = []
    · have hb1 : (!qm.isEmpty) = false := by simp [hq]
      have hb2 : qm.isEmpty = true := by simp [hq]
      have HQM := Lib.hid hq
      clear hq
      by_cases hlt : j < k.items.length
      · obtain ⟨A, cc, hvv, hlc, hm, HC⟩ := SlR.open_ (vecR_open1 HVb10.out.rd)
        injection hvv with z1 z2 z3
        subst z1 z3
        clear z2
        obtain ⟨b, off, cs, rfl, hbl, _, hat, hr⟩ := HC.out j hlt
        obtain ⟨rfl, hi0, hi1, hi2⟩ := hr
        have HPT := Lib.hid (show wr.cell? ⟨b, off + j * 3 + 2, none⟩ = some (.string (str k.items[j].text)) from hat 2 _ rfl)
        have hb13 := HVb13.out.bx.lt
        have hb10 := HVb10.out.bx.lt
        have e2 := fun W (h : Ok (BW wr) W) => (Below.cell (p := ⟨b, off + j * 3 + 2, none⟩) h hbl).trans HPT.out
        have y1 := fun W (h : Ok (BW wr) W) => (Below.cell (p := ⟨b10, 1, none⟩) h hb10).trans (HVb10.out.bx.cell 1 _ rfl)
        have x0 := fun W (h : Ok (BW wr) W) => (Below.cell (p := ⟨b13, 0, none⟩) h hb13).trans (HVb13.out.bx.cell 0 _ rfl)
        have x1 := fun W (h : Ok (BW wr) W) => (Below.cell (p := ⟨b13, 1, none⟩) h hb13).trans (HVb13.out.bx.cell 1 _ rfl)
        have x2 := fun W (h : Ok (BW wr) W) => (Below.cell (p := ⟨b13, 2, none⟩) h hb13).trans (HVb13.out.bx.cell 2 _ rfl)
        have x3 := fun W (h : Ok (BW wr) W) => (Below.cell (p := ⟨b13, 3, none⟩) h hb13).trans (HVb13.out.bx.cell 3 _ rfl)
        have x4 := fun W (h : Ok (BW wr) W) => (Below.cell (p := ⟨b13, 4, none⟩) h hb13).trans (HVb13.out.bx.cell 4 _ rfl)
        have x5 := fun W (h : Ok (BW wr) W) => (Below.cell (p := ⟨b13, 5, none⟩) h hb13).trans (HVb13.out.bx.cell 5 _ rfl)
        have x6 := fun W (h : Ok (BW wr) W) => (Below.cell (p := ⟨b13, 6, none⟩) h hb13).trans (HVb13.out.bx.cell 6 _ rfl)
        have x7 := fun W (h : Ok (BW wr) W) => (Below.cell (p := ⟨b13, 7, none⟩) h hb13).trans (HVb13.out.bx.cell 7 _ rfl)
        clear hat
        go_wp2_with fail
        have g1 : Ok (BW wr) wr.drew := Below.drew (Below.refl _ _)
        have HRD := Lib.hid (HVb13.out.rd.below (Below.drew (Below.refl wr.heap.size wr)))
        refine wp_region_plan (S := Ok (BW wr)) (by kernel_rfl) [(true, 0), (true, 1), (true, 2), (true, 3), (true, 4), (true, 5), (true, 6), (false, 7), (true, 8)] (by kernel_rfl) g1 ?_
        repeat ((first | (refine dyn_take rfl rfl (fun W g => by go_simp; rfl) ?_) | (refine dyn_skip rfl rfl ?_)); go_simp)
        refine dyn_act rfl rfl (fun K hK => ?_)
        go_wp2_with fail
        refine Calls.mono (impl_InheritsFrom Q1 k.items[j].text _ _ (by exact HRD.out) (by have := HD5.out; have := HZf.out; have := HZk.out; omega)) ?_
        rintro e w8 ⟨rfl, hb⟩
        rw [HIN.out HQM.out _ (List.getElem_mem hlt)]
        have g2 : Below wr.heap.size wr w8 := (Below.drew (Below.refl _ _)).trans (hb.mono (Nat.le_refl _))
        have HG2 := Lib.hid g2
        clear hb g2
        simp only []
        refine hK.out _ _ (by exact HG2.out) ?_
        clear hK
        go_simp
        repeat ((first | (refine dyn_take rfl rfl (fun W g => by go_simp; rfl) ?_) | (refine dyn_skip rfl rfl ?_)); go_simp)
        refine dyn_done ?_
        have hb := HG2.out
        have HY := Lib.hid (SlR.below HY.out hb (fun _ _ h => h))
        have HBL := Lib.hid (HBL.out.trans (hb.mono HBL.out.size))
        have HVb3 := Lib.hid (HVb3.out.step hb)
        have HVb4 := Lib.hid (HVb4.out.step hb)
        have HVb5 := Lib.hid (HVb5.out.step hb)
        have HVb7 := Lib.hid (HVb7.out.step hb)
        have HVb9 := Lib.hid (HVb9.out.step hb)
        have HVb10 := Lib.hid (HVb10.out.step hb)
        have HVb11 := Lib.hid (HVb11.out.step hb)
        have HVb13 := Lib.hid (HVb13.out.step hb)
        clear hb
        go_wp2_with fail
        go_roundw
        case rel => first | exact ⟨j + 1, hlt, by go_num, ⟨HY.out, HBL.out, HVb3.out, HVb4.out, HVb5.out, HVb7.out, HVb9.out, HVb10.out, HVb11.out, HVb13.out⟩⟩ | ((repeat apply Exists.intro); refine ⟨⟨j + 1, hlt, ?n1, ⟨HY.out, HBL.out, HVb3.out, HVb4.out, HVb5.out, HVb7.out, HVb9.out, HVb10.out, HVb11.out, HVb13.out⟩⟩, ?n4⟩; case n4 => rfl; case n1 => go_num)
        case measure => simp [intOf]; omega
      · obtain rfl : j = k.items.length := by omega
        go_wp2_with fail
        go_ret
        exact ⟨rfl, HBL.out⟩
    · have hb1 : (!qm.isEmpty) = true := by simp [hq]
      have hb2 : qm.isEmpty = false := by simp [hq]
      go_wp2_with fail
      go_ret
      exact ⟨rfl, HBL.out⟩
set_option maxRecDepth 100000 in
theorem lifted (os : Os) (started : os.Started) (H : Type) (enc : TypeId × Value → H) :
    ReturnsInHanded {} Try.checked os 3 .any (Rows.fnAttributesSpec.pre6 enc Try.prog Try.f3 Rows.fnAttributesRow.domain false) (Rows.fnAttributesSpec.post enc Try.prog Try.f3 false true false false) := by
  refine returnsInHanded_of_change (C := Try.checked) own started (by kernel_rfl) Try.func3
    (ChangeSpec.witness6 (enc := enc) (C := Try.checked) false ⟨#[], #[.slice none 0 0], []⟩ 8 (by kernel_rfl) (by kernel_rfl) (by kernel_rfl) (by kernel_rfl)) ?_
  intro W base args ds gs before hval0 hW hcnd _
  have hval : ∀ (j : Nat) t v, Try.f3.params[j]? = some t → args[j]? = some v → Value.okWide Try.prog W .any base t v := hval0
  have hW' := hW
  obtain ⟨p, q, hA0, hV, rfl, hfz, hnd⟩ := hW
  have hA : DataW.TrodAll enc Try.prog W 0 (fun _ => true) true Try.f3.params.toList args.toList ds p := hA0
  rw [Try.params3] at hA hval
  obtain ⟨v0, vs0, d0, ds0, p0, q0, hargs, rfl, rfl, h0, r0⟩ := trodAll_cons hA
  obtain ⟨rfl, rfl, rfl⟩ := trodAll_nil r0
  obtain rfl : args = #[v0] := by cases args; simp_all
  obtain ⟨rfl, rfl⟩ := trodVars_none hV
  obtain ⟨x0, u0⟩ := open_bytes Try.underlying22 Try.underlying5 (by kernel_rfl) (hval 0 22 v0 rfl rfl) h0
  clear hA0 hval0
  refine (walk v0 x0 u0).mono fun e W' ⟨he, hg⟩ => ?_
  subst he
  exact ⟨_, rfl, law_post laidOut hW' rfl rfl Try.underlying4 rfl rfl rfl (by intro t ht; rw [Try.params3] at ht; have ht2 : t ∈ [22] := ht; simp only [List.mem_cons, List.not_mem_nil, or_false] at ht2; rcases ht2 with rfl <;> exact ⟨by kernel_rfl, of_decide_eq_true (by kernel_rfl)⟩) hg⟩

theorem fact0 : jf0 Try.prog 3 Try.f3 Rows.fnAttributesSpec Rows.fnAttributesRow = true := by kernel_rfl
theorem fact1 : jf1 Try.prog 3 Try.f3 Rows.fnAttributesSpec Rows.fnAttributesRow = true := by kernel_rfl
theorem fact2 : jf2 Try.prog 3 Try.f3 Rows.fnAttributesSpec Rows.fnAttributesRow = true := by kernel_rfl
theorem fact3 : jf3 Try.prog 3 Try.f3 Rows.fnAttributesSpec Rows.fnAttributesRow = true := by kernel_rfl
theorem fact4 : jf4 Try.prog 3 Try.f3 Rows.fnAttributesSpec Rows.fnAttributesRow = true := by kernel_rfl
theorem fact5 : jf5 Try.prog 3 Try.f3 Rows.fnAttributesSpec Rows.fnAttributesRow = true := by kernel_rfl
theorem fact6 : jf6 Try.prog 3 Try.f3 Rows.fnAttributesSpec Rows.fnAttributesRow = true := by kernel_rfl
theorem fact7 : jf7 Try.prog 3 Try.f3 Rows.fnAttributesSpec Rows.fnAttributesRow = true := by kernel_rfl
theorem fact8 : jf8 Try.prog 3 Try.f3 Rows.fnAttributesSpec Rows.fnAttributesRow = true := by kernel_rfl
theorem fact9 : jf9 Try.prog 3 Try.f3 Rows.fnAttributesSpec Rows.fnAttributesRow = true := by kernel_rfl
theorem fact10 : jf10 Try.prog 3 Try.f3 Rows.fnAttributesSpec Rows.fnAttributesRow = true := by kernel_rfl
theorem fact11 : jf11 Try.prog 3 Try.f3 Rows.fnAttributesSpec Rows.fnAttributesRow = true := by kernel_rfl
theorem fact12 : jf12 Try.prog 3 Try.f3 Rows.fnAttributesSpec Rows.fnAttributesRow = true := by kernel_rfl
theorem fact13 : jf13 Try.prog 3 Try.f3 Rows.fnAttributesSpec Rows.fnAttributesRow = true := by kernel_rfl
theorem fact14 : jf14 Try.prog 3 Try.f3 Rows.fnAttributesSpec Rows.fnAttributesRow = true := by kernel_rfl
theorem fact15 : jf15 Try.prog 3 Try.f3 Rows.fnAttributesSpec Rows.fnAttributesRow = true := by kernel_rfl
theorem fact16 : jf16 Try.prog 3 Try.f3 Rows.fnAttributesSpec Rows.fnAttributesRow = true := by kernel_rfl
theorem fact17 : jf17 Try.prog 3 Try.f3 Rows.fnAttributesSpec Rows.fnAttributesRow = true := by kernel_rfl
theorem fact18 : jf18 Try.prog 3 Try.f3 Rows.fnAttributesSpec Rows.fnAttributesRow = true := by kernel_rfl
theorem fact19 : jf19 Try.prog 3 Try.f3 Rows.fnAttributesSpec Rows.fnAttributesRow = true := by kernel_rfl
theorem fact20 : jf20 Try.prog 3 Try.f3 Rows.fnAttributesSpec Rows.fnAttributesRow = true := by kernel_rfl
theorem fact21 : jf21 Try.prog 3 Try.f3 Rows.fnAttributesSpec Rows.fnAttributesRow = true := by kernel_rfl
theorem fact22 : jf22 Try.prog 3 Try.f3 Rows.fnAttributesSpec Rows.fnAttributesRow = true := by kernel_rfl
theorem fact23 : jf23 Try.prog 3 Try.f3 Rows.fnAttributesSpec Rows.fnAttributesRow = true := by kernel_rfl
theorem fact24 : jf24 Try.prog 3 Try.f3 Rows.fnAttributesSpec Rows.fnAttributesRow = true := by kernel_rfl
theorem fact25 : jf25 Try.prog 3 Try.f3 Rows.fnAttributesSpec Rows.fnAttributesRow = true := by kernel_rfl
theorem fact26 : jf26 Try.prog 3 Try.f3 Rows.fnAttributesSpec Rows.fnAttributesRow = true := by kernel_rfl
theorem fact27 : jf27 Try.prog 3 Try.f3 Rows.fnAttributesSpec Rows.fnAttributesRow = true := by kernel_rfl
theorem fact28 : jf28 Try.prog 3 Try.f3 Rows.fnAttributesSpec Rows.fnAttributesRow = true := by kernel_rfl
theorem fact29 : jf29 Try.prog 3 Try.f3 Rows.fnAttributesSpec Rows.fnAttributesRow = true := by kernel_rfl
theorem fact30 : jf30 Try.prog 3 Try.f3 Rows.fnAttributesSpec Rows.fnAttributesRow = true := by kernel_rfl
theorem fact31 : jf31 Try.prog 3 Try.f3 Rows.fnAttributesSpec Rows.fnAttributesRow = true := by kernel_rfl
theorem over : Rows.fnAttributesRow.holds Try.pinned (OpenSpec.ofChange Rows.fnAttributesSpec) :=
  OpenClaim.holds_of_wide 3 Try.f3 rfl rfl rfl rfl rfl rfl rfl ⟨rfl, rfl, rfl, rfl, rfl⟩ rfl rfl rfl rfl rfl (by kernel_rfl) Try.func3 (joined fact0 fact1 fact2 fact3 fact4 fact5 fact6 fact7 fact8 fact9 fact10 fact11 fact12 fact13 fact14 fact15 fact16 fact17 fact18 fact19 fact20 fact21 fact22 fact23 fact24 fact25 fact26 fact27 fact28 fact29 fact30 fact31)
    (of_decide_eq_true (by kernel_rfl)) (by unfold Func.isWrapper; first | (rw [if_pos (by decide +kernel)]; kernel_rfl) | (rw [if_neg (by decide +kernel)]; exact ⟨rfl, rfl⟩))
    (fun os started H enc _ => lifted os started H enc)

/-- THE STATEMENT -/
theorem proved : Rows.FnAttributesSaid :=
  over
#print axioms proved
end fnAttributes
end Go.Proofs.Ytjdimlhdkmkmbaa
