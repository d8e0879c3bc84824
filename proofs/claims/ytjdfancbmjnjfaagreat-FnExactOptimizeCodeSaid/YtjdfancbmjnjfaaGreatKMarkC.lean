/-
  Merged texts: MarkInstr, MarkSeg, MarkBool, MarkCode.
-/
import Derived.Test.YtjdfancbmjnjfaaGreatKMark
import Derived.Test.YtjdfancbmjnjfaaGreatKCode
import Derived.Test.YtjdfancbmjnjfaaGreatKJump
import Derived.Deep.DeepCutAuto
namespace Go.Proofs.YtjdfancbmjnjfaaGreat
set_option maxRecDepth 100000
set_option maxRecDepth 100000
open Go.ChangeShapes Go.WideShapes Go.ChangeAt Go.RowKit Go.Deep
set_option linter.unusedVariables false

def cInstr (d : InstrD) : Nat := 4 + d.labels.length + cVec d.value
def mkInstr (d : InstrD) (k : Int) : InstrD := ⟨k, k + 1, k + 1 + 1, markT (k + 1 + 1 + 1).toNat, markL (k + 1 + 1 + 1 + 1).toNat d.labels.length, mkVec d.value (k + 1 + 1 + 1 + 1 + ↑d.labels.length)⟩
theorem cInstr_eq (d : InstrD) : cInstr d = 7 + d.labels.length + cntL cItem d.value.items + cntL cVec d.value.parts + d.value.names.length + d.value.cls.length + d.value.levels.length := by
 unfold cInstr
 rw [cVec_eq]
 omega

set_option maxHeartbeats 4000000 in
theorem laws_markInstrS (S : Nat -> Prop) (l : List InstrD) (v : Value) (k : Int) (w : World) (h : SlO S w 63 13 InstrO v l) (h0 : 0 < k) (h1 : k + cntL cInstr l <= 4611686018427387904) :
  Calls Tryz.prog 75 #[v, .int .i64 k] w (RetMark S w (k + cntL cInstr l) fun w' => SlO S w' 63 13 InstrO v (mkL mkInstr cInstr l k)) := by
 rcases SlO.mid h with ⟨rfl, rfl⟩ | ⟨g, cap, f, post, ys, rfl, hn, hc, hp, hM⟩
 ·go_enter Tryz.func75, Tryz.ntmps75
  go_wp2_with fail
  go_loop [1, 5] (fun x i => i = .int .i64 0 /\ x = .int .i64 k) (fun _ i => 0)
  case atStart => exact ⟨rfl, rfl⟩
  case round =>
   obtain ⟨rfl, rfl⟩ := hrel
   go_wp2_with fail
   go_ret
   exact ⟨ret_int (by simp [cntL]), SlO.nil_ _ _ _ _ _, Keeps.refl _ _, Below.refl _ _⟩
 ·have HC := Lib.hid hc
  unfold maxLen at hc
  have HM := Lib.hid hM
  have HP := Lib.hid hp
  clear h hM hp
  go_enter Tryz.func75, Tryz.ntmps75
  go_wp2_with fail
  go_loopw [1, 5] (fun x i wr => ∃ (j : Nat) (y : List (List Value)), j <= l.length /\ i = .int .i64 j /\ x = .int .i64 (k + (cntL cInstr (l.take j) : Int)) /\ Hid (MidO S f wr 63 13 InstrO g post y (part mkInstr cInstr l k j)) /\ Hid (Keeps (fun b => ¬ S b) w wr) /\ Hid (Below 0 w wr)) (fun _ i _ => l.length - (intOf i).toNat)
  case atStart => exact ⟨0, ys, Nat.zero_le _, rfl, by simp [cntL], by rw [part_zero]; exact HM.out, Keeps.refl _ _, Below.refl _ _⟩
  case round =>
   obtain ⟨j, y, hj, rfl, rfl, HMj, HK, HZ⟩ := hrel
   by_cases hlt : j < l.length
   ·have hcn : (cntL cInstr (l.take j) : Int) + cInstr l[j] <= cntL cInstr l := by have := cntL_at cInstr l j hlt; omega
    have HKJ := Lib.hid (show k + (cntL cInstr (l.take (j + 1)) : Int) = k + (cntL cInstr (l.take j) : Int) + cInstr l[j] by rw [cntL_take _ _ _ hlt]; omega)
    have HPS := Lib.hid (part_set mkInstr cInstr l k j hlt)
    have HCT := Lib.hid (cInstr_eq l[j])
    have hkj0 : 0 < k + (cntL cInstr (l.take j) : Int) := by omega
    have hkj1 : k + (cntL cInstr (l.take j) : Int) + cInstr l[j] <= 4611686018427387904 := by omega
    have HK1 := Lib.hid hkj1
    clear hcn hkj1
    generalize k + (cntL cInstr (l.take j) : Int) = kj at *
    obtain ⟨hy, pre, rest, hpre, hb, hset, hro⟩ := HMj.out.at_ j (by rw [part_length]; exact hlt)
    rw [part_at _ _ _ _ _ hlt] at hro
    obtain ⟨A4, c4, A51, c51, A52, c52, A53, c53, A54, c54, A55, c55, f1, hcs, i0, i1, i2, i3, oa, oV⟩ := hro
    obtain ⟨n0, oV⟩ := oV
    obtain ⟨m, rfl⟩ : ∃ m, n0 = m + 1 := by
     cases n0 with
     | zero => exact oV.elim
     | succ m => exact ⟨m, rfl⟩
    obtain ⟨B1, b1, B2, b2, B3, b3, B4, b4, B5, b5, f2, hcs2, v0, ob, oc, od, oe, og, v6, v7⟩ := oV
    simp only [List.cons.injEq, Value.slice.injEq, and_true, true_and] at hcs2
    obtain ⟨⟨r1, r2⟩, ⟨r3, r4⟩, ⟨r5, r6⟩, ⟨r7, r8⟩, r9, r10⟩ := hcs2
    subst B1 b1 B2 b2 B3 b3 B4 b4 B5 b5
    have Oa_0 := Lib.hid oa
    have Ob_0 := Lib.hid ob
    have Oc_0 := Lib.hid (show VectorsO m _ wr _ _ from oc)
    have Od_0 := Lib.hid od
    have Oe_0 := Lib.hid oe
    have Og_0 := Lib.hid og
    clear oa ob oc od oe og
    rw [hcs] at hb
    clear hcs
    have HSET := Lib.hid hset
    have HPRE := Lib.hid hpre
    have hgl : g < wr.heap.size := hb.lt
    have HG0 := Lib.hid HM.out.own
    have HB0 := Lib.hid hb
    have HKW0 := Lib.hid (Keeps.refl (fun b => b ≠ g /\ ¬ (S b /\ f b = j + 1)) wr)
    have HZ0 := Lib.hid (Below.refl 0 wr)
    clear hb hset hpre
    have y0 : wr.cell? ⟨g, j * 13, none⟩ = some (.int .i64 l[j].op) := by simpa using HB0.out.mid HPRE.out 0 _ rfl
    have z0 := HB0.out.frozen (j * 13)
    have y1 := HB0.out.mid HPRE.out 1 _ rfl
    have z1 := HB0.out.frozen (j * 13 + 1)
    have y2 := HB0.out.mid HPRE.out 2 _ rfl
    have z2 := HB0.out.frozen (j * 13 + 2)
    have y3 := HB0.out.mid HPRE.out 3 _ rfl
    have z3 := HB0.out.frozen (j * 13 + 3)
    have hkb : kj + 7 <= 4611686018427387904 := by have := HCT.out; have := HK1.out; omega
    have hkc : 0 < kj := by omega
    go_wp2_with fail
    refine abs_w (fun W => Blk W g 63 (pre ++ [.int .i64 (kj), .int .i64 (kj + 1), .int .i64 (kj + 1 + 1), .string (str l[j].text), .slice A4 l[j].labels.length c4, .int .i64 l[j].value.kind, .slice A51 l[j].value.items.length c51, .slice A52 l[j].value.parts.length c52, .slice A53 l[j].value.names.length c53, .slice A54 l[j].value.cls.length c54, .slice A55 l[j].value.levels.length c55, .int .i64 l[j].value.code, .int .i64 l[j].value.env] ++ rest) /\ Keeps (fun b => b ≠ g /\ ¬ (S b /\ f b = j + 1)) wr W /\ Below 0 wr W /\ TxtO (fun b => (S b /\ f b = j + 1) /\ f1 b = 4) W (.slice A4 l[j].labels.length c4) l[j].labels /\ ItemsO (fun b => ((S b /\ f b = j + 1) /\ f1 b = 5) /\ f2 b = 1) W (.slice A51 l[j].value.items.length c51) l[j].value.items /\ VectorsO m (fun b => ((S b /\ f b = j + 1) /\ f1 b = 5) /\ f2 b = 2) W (.slice A52 l[j].value.parts.length c52) l[j].value.parts /\ TxtO (fun b => ((S b /\ f b = j + 1) /\ f1 b = 5) /\ f2 b = 3) W (.slice A53 l[j].value.names.length c53) l[j].value.names /\ TxtO (fun b => ((S b /\ f b = j + 1) /\ f1 b = 5) /\ f2 b = 4) W (.slice A54 l[j].value.cls.length c54) l[j].value.cls /\ TxtO (fun b => ((S b /\ f b = j + 1) /\ f1 b = 5) /\ f2 b = 5) W (.slice A55 l[j].value.levels.length c55) l[j].value.levels) ⟨?_, ?_, ?_, ?_, ?_, ?_, ?_, ?_, ?_⟩ ?_
    ·simpa using (((HB0.out.mid_set HPRE.out 0 (.int .i64 (kj)) (by simp)).mid_set HPRE.out 1 (.int .i64 (kj + 1)) (by simp)).mid_set HPRE.out 2 (.int .i64 (kj + 1 + 1)) (by simp))
    ·exact Keeps.sc (b := g) (o := j * 13 + 2) (Keeps.sc (b := g) (o := j * 13 + 1) (Keeps.sc (b := g) (o := j * 13) (HKW0.out) (by simp) (.int .i64 (kj))) (by simp) (.int .i64 (kj + 1))) (by simp) (.int .i64 (kj + 1 + 1))
    ·exact below_sc (b := g) (o := j * 13 + 2) (below_sc (b := g) (o := j * 13 + 1) (below_sc (b := g) (o := j * 13) (HZ0.out) (Nat.zero_le _) (.int .i64 (kj))) (Nat.zero_le _) (.int .i64 (kj + 1))) (Nat.zero_le _) (.int .i64 (kj + 1 + 1))
    ·exact TxtO.keeps Oa_0.out (Keeps.sc (b := g) (o := j * 13 + 2) (Keeps.sc (b := g) (o := j * 13 + 1) (Keeps.sc (b := g) (o := j * 13) (Keeps.refl _ wr) (fun hq => by have h5 := HG0.out.2; have h6 := hq.1; omega) (.int .i64 (kj))) (fun hq => by have h5 := HG0.out.2; have h6 := hq.1; omega) (.int .i64 (kj + 1))) (fun hq => by have h5 := HG0.out.2; have h6 := hq.1; omega) (.int .i64 (kj + 1 + 1)))
    ·exact ItemsO.keeps Ob_0.out (Keeps.sc (b := g) (o := j * 13 + 2) (Keeps.sc (b := g) (o := j * 13 + 1) (Keeps.sc (b := g) (o := j * 13) (Keeps.refl _ wr) (fun hq => by have h5 := HG0.out.2; have h6 := hq.1; omega) (.int .i64 (kj))) (fun hq => by have h5 := HG0.out.2; have h6 := hq.1; omega) (.int .i64 (kj + 1))) (fun hq => by have h5 := HG0.out.2; have h6 := hq.1; omega) (.int .i64 (kj + 1 + 1)))
    ·exact VectorsO.keeps Oc_0.out (Keeps.sc (b := g) (o := j * 13 + 2) (Keeps.sc (b := g) (o := j * 13 + 1) (Keeps.sc (b := g) (o := j * 13) (Keeps.refl _ wr) (fun hq => by have h5 := HG0.out.2; have h6 := hq.1; omega) (.int .i64 (kj))) (fun hq => by have h5 := HG0.out.2; have h6 := hq.1; omega) (.int .i64 (kj + 1))) (fun hq => by have h5 := HG0.out.2; have h6 := hq.1; omega) (.int .i64 (kj + 1 + 1)))
    ·exact TxtO.keeps Od_0.out (Keeps.sc (b := g) (o := j * 13 + 2) (Keeps.sc (b := g) (o := j * 13 + 1) (Keeps.sc (b := g) (o := j * 13) (Keeps.refl _ wr) (fun hq => by have h5 := HG0.out.2; have h6 := hq.1; omega) (.int .i64 (kj))) (fun hq => by have h5 := HG0.out.2; have h6 := hq.1; omega) (.int .i64 (kj + 1))) (fun hq => by have h5 := HG0.out.2; have h6 := hq.1; omega) (.int .i64 (kj + 1 + 1)))
    ·exact TxtO.keeps Oe_0.out (Keeps.sc (b := g) (o := j * 13 + 2) (Keeps.sc (b := g) (o := j * 13 + 1) (Keeps.sc (b := g) (o := j * 13) (Keeps.refl _ wr) (fun hq => by have h5 := HG0.out.2; have h6 := hq.1; omega) (.int .i64 (kj))) (fun hq => by have h5 := HG0.out.2; have h6 := hq.1; omega) (.int .i64 (kj + 1))) (fun hq => by have h5 := HG0.out.2; have h6 := hq.1; omega) (.int .i64 (kj + 1 + 1)))
    ·exact TxtO.keeps Og_0.out (Keeps.sc (b := g) (o := j * 13 + 2) (Keeps.sc (b := g) (o := j * 13 + 1) (Keeps.sc (b := g) (o := j * 13) (Keeps.refl _ wr) (fun hq => by have h5 := HG0.out.2; have h6 := hq.1; omega) (.int .i64 (kj))) (fun hq => by have h5 := HG0.out.2; have h6 := hq.1; omega) (.int .i64 (kj + 1))) (fun hq => by have h5 := HG0.out.2; have h6 := hq.1; omega) (.int .i64 (kj + 1 + 1)))
    clear y0 z0 y1 z1 y2 z2 y3 z3 hkb hkc
    rintro W1 ⟨hq0, hq1, hq2, hoa, hob, hoc, hod, hoe, hog⟩
    have HB1 := Lib.hid hq0
    have HKW1 := Lib.hid hq1
    have HZ1 := Lib.hid hq2
    have Oa_1 := Lib.hid hoa
    have Ob_1 := Lib.hid hob
    have Oc_1 := Lib.hid hoc
    have Od_1 := Lib.hid hod
    have Oe_1 := Lib.hid hoe
    have Og_1 := Lib.hid hog
    clear hq0 hq1 hq2 hoa hob hoc hod hoe hog
    refine (laws_markText (kj + 1 + 1 + 1) _ (by omega) (by have := HCT.out; have := HK1.out; omega)).mono ?_
    rintro e w2 ⟨rfl, hb⟩
    have HB2 := Lib.hid (HB1.out.below hb)
    have HKW2 := Lib.hid (HKW1.out.trans (Keeps.of_below _ hb))
    have HZ2 := Lib.hid (HZ1.out.trans (hb.mono (Nat.zero_le _)))
    have Oa_2 := Lib.hid (TxtO.keeps Oa_1.out (Keeps.of_below _ hb))
    have Ob_2 := Lib.hid (ItemsO.keeps Ob_1.out (Keeps.of_below _ hb))
    have Oc_2 := Lib.hid (VectorsO.keeps Oc_1.out (Keeps.of_below _ hb))
    have Od_2 := Lib.hid (TxtO.keeps Od_1.out (Keeps.of_below _ hb))
    have Oe_2 := Lib.hid (TxtO.keeps Oe_1.out (Keeps.of_below _ hb))
    have Og_2 := Lib.hid (TxtO.keeps Og_1.out (Keeps.of_below _ hb))
    clear hb 
    have y3 := HB2.out.mid HPRE.out 3 _ rfl
    have z3 := HB2.out.frozen (j * 13 + 3)
    have y4 := HB2.out.mid HPRE.out 4 _ rfl
    have z4 := HB2.out.frozen (j * 13 + 4)
    have hkb : kj + 1 + 1 + 1 + 1 + 3 <= 4611686018427387904 := by have := HCT.out; have := HK1.out; omega
    have hkc : 0 < kj + 1 + 1 + 1 + 1 := by omega
    go_wp2_with fail
    refine abs_w (fun W => Blk W g 63 (pre ++ [.int .i64 (kj), .int .i64 (kj + 1), .int .i64 (kj + 1 + 1), .string (str (markT (kj + 1 + 1 + 1).toNat)), .slice A4 l[j].labels.length c4, .int .i64 l[j].value.kind, .slice A51 l[j].value.items.length c51, .slice A52 l[j].value.parts.length c52, .slice A53 l[j].value.names.length c53, .slice A54 l[j].value.cls.length c54, .slice A55 l[j].value.levels.length c55, .int .i64 l[j].value.code, .int .i64 l[j].value.env] ++ rest) /\ Keeps (fun b => b ≠ g /\ ¬ (S b /\ f b = j + 1)) wr W /\ Below 0 wr W /\ TxtO (fun b => (S b /\ f b = j + 1) /\ f1 b = 4) W (.slice A4 l[j].labels.length c4) l[j].labels /\ ItemsO (fun b => ((S b /\ f b = j + 1) /\ f1 b = 5) /\ f2 b = 1) W (.slice A51 l[j].value.items.length c51) l[j].value.items /\ VectorsO m (fun b => ((S b /\ f b = j + 1) /\ f1 b = 5) /\ f2 b = 2) W (.slice A52 l[j].value.parts.length c52) l[j].value.parts /\ TxtO (fun b => ((S b /\ f b = j + 1) /\ f1 b = 5) /\ f2 b = 3) W (.slice A53 l[j].value.names.length c53) l[j].value.names /\ TxtO (fun b => ((S b /\ f b = j + 1) /\ f1 b = 5) /\ f2 b = 4) W (.slice A54 l[j].value.cls.length c54) l[j].value.cls /\ TxtO (fun b => ((S b /\ f b = j + 1) /\ f1 b = 5) /\ f2 b = 5) W (.slice A55 l[j].value.levels.length c55) l[j].value.levels) ⟨?_, ?_, ?_, ?_, ?_, ?_, ?_, ?_, ?_⟩ ?_
    ·simpa using (HB2.out.mid_set HPRE.out 3 (.string (str (markT (kj + 1 + 1 + 1).toNat))) (by simp))
    ·exact Keeps.sc (b := g) (o := j * 13 + 3) (HKW2.out) (by simp) (.string (str (markT (kj + 1 + 1 + 1).toNat)))
    ·exact below_sc (b := g) (o := j * 13 + 3) (HZ2.out) (Nat.zero_le _) (.string (str (markT (kj + 1 + 1 + 1).toNat)))
    ·exact TxtO.keeps Oa_2.out (Keeps.sc (b := g) (o := j * 13 + 3) (Keeps.refl _ w2) (fun hq => by have h5 := HG0.out.2; have h6 := hq.1; omega) (.string (str (markT (kj + 1 + 1 + 1).toNat))))
    ·exact ItemsO.keeps Ob_2.out (Keeps.sc (b := g) (o := j * 13 + 3) (Keeps.refl _ w2) (fun hq => by have h5 := HG0.out.2; have h6 := hq.1; omega) (.string (str (markT (kj + 1 + 1 + 1).toNat))))
    ·exact VectorsO.keeps Oc_2.out (Keeps.sc (b := g) (o := j * 13 + 3) (Keeps.refl _ w2) (fun hq => by have h5 := HG0.out.2; have h6 := hq.1; omega) (.string (str (markT (kj + 1 + 1 + 1).toNat))))
    ·exact TxtO.keeps Od_2.out (Keeps.sc (b := g) (o := j * 13 + 3) (Keeps.refl _ w2) (fun hq => by have h5 := HG0.out.2; have h6 := hq.1; omega) (.string (str (markT (kj + 1 + 1 + 1).toNat))))
    ·exact TxtO.keeps Oe_2.out (Keeps.sc (b := g) (o := j * 13 + 3) (Keeps.refl _ w2) (fun hq => by have h5 := HG0.out.2; have h6 := hq.1; omega) (.string (str (markT (kj + 1 + 1 + 1).toNat))))
    ·exact TxtO.keeps Og_2.out (Keeps.sc (b := g) (o := j * 13 + 3) (Keeps.refl _ w2) (fun hq => by have h5 := HG0.out.2; have h6 := hq.1; omega) (.string (str (markT (kj + 1 + 1 + 1).toNat))))
    clear y3 z3 y4 z4 hkb hkc
    rintro W3 ⟨hq0, hq1, hq2, hoa, hob, hoc, hod, hoe, hog⟩
    have HB3 := Lib.hid hq0
    have HKW3 := Lib.hid hq1
    have HZ3 := Lib.hid hq2
    have Oa_3 := Lib.hid hoa
    have Ob_3 := Lib.hid hob
    have Oc_3 := Lib.hid hoc
    have Od_3 := Lib.hid hod
    have Oe_3 := Lib.hid hoe
    have Og_3 := Lib.hid hog
    clear hq0 hq1 hq2 hoa hob hoc hod hoe hog
    have hh := laws_markTxt (fun b => (S b /\ f b = j + 1) /\ f1 b = 4) l[j].labels _ (kj + 1 + 1 + 1 + 1) _ Oa_3.out (by omega) (by have := HCT.out; have := HK1.out; omega)
    refine Calls.mono hh ?_
    clear hh
    rintro e w4 ⟨rfl, ho, hk, hz⟩
    have HB4 := Lib.hid (HB3.out.keeps hk (fun hq => by have h5 := HG0.out.2; have h6 := hq.1; omega))
    have HKW4 := Lib.hid (HKW3.out.trans (hk.mono fun b hb hq => hb.2 hq.1))
    have HZ4 := Lib.hid (HZ3.out.trans hz)
    have Oa_4 := Lib.hid ho
    have Ob_4 := Lib.hid (ItemsO.keeps Ob_3.out (hk.mono fun b hb hq => by have h5 := hb.1; have h6 := hb.2; have h7 := hq.1; have h8 := hq.2; omega))
    have Oc_4 := Lib.hid (VectorsO.keeps Oc_3.out (hk.mono fun b hb hq => by have h5 := hb.1; have h6 := hb.2; have h7 := hq.1; have h8 := hq.2; omega))
    have Od_4 := Lib.hid (TxtO.keeps Od_3.out (hk.mono fun b hb hq => by have h5 := hb.1; have h6 := hb.2; have h7 := hq.1; have h8 := hq.2; omega))
    have Oe_4 := Lib.hid (TxtO.keeps Oe_3.out (hk.mono fun b hb hq => by have h5 := hb.1; have h6 := hb.2; have h7 := hq.1; have h8 := hq.2; omega))
    have Og_4 := Lib.hid (TxtO.keeps Og_3.out (hk.mono fun b hb hq => by have h5 := hb.1; have h6 := hb.2; have h7 := hq.1; have h8 := hq.2; omega))
    clear ho hk hz 
    have y5 := HB4.out.mid HPRE.out 5 _ rfl
    have z5 := HB4.out.frozen (j * 13 + 5)
    have y6 := HB4.out.mid HPRE.out 6 _ rfl
    have z6 := HB4.out.frozen (j * 13 + 6)
    have hkb : kj + 1 + 1 + 1 + 1 + ↑l[j].labels.length + 3 <= 4611686018427387904 := by have := HCT.out; have := HK1.out; omega
    have hkc : 0 < kj + 1 + 1 + 1 + 1 + ↑l[j].labels.length := by omega
    go_wp2_with fail
    refine abs_w (fun W => Blk W g 63 (pre ++ [.int .i64 (kj), .int .i64 (kj + 1), .int .i64 (kj + 1 + 1), .string (str (markT (kj + 1 + 1 + 1).toNat)), .slice A4 l[j].labels.length c4, .int .i64 (kj + 1 + 1 + 1 + 1 + ↑l[j].labels.length), .slice A51 l[j].value.items.length c51, .slice A52 l[j].value.parts.length c52, .slice A53 l[j].value.names.length c53, .slice A54 l[j].value.cls.length c54, .slice A55 l[j].value.levels.length c55, .int .i64 l[j].value.code, .int .i64 l[j].value.env] ++ rest) /\ Keeps (fun b => b ≠ g /\ ¬ (S b /\ f b = j + 1)) wr W /\ Below 0 wr W /\ TxtO (fun b => (S b /\ f b = j + 1) /\ f1 b = 4) W (.slice A4 l[j].labels.length c4) (markL (kj + 1 + 1 + 1 + 1).toNat l[j].labels.length) /\ ItemsO (fun b => ((S b /\ f b = j + 1) /\ f1 b = 5) /\ f2 b = 1) W (.slice A51 l[j].value.items.length c51) l[j].value.items /\ VectorsO m (fun b => ((S b /\ f b = j + 1) /\ f1 b = 5) /\ f2 b = 2) W (.slice A52 l[j].value.parts.length c52) l[j].value.parts /\ TxtO (fun b => ((S b /\ f b = j + 1) /\ f1 b = 5) /\ f2 b = 3) W (.slice A53 l[j].value.names.length c53) l[j].value.names /\ TxtO (fun b => ((S b /\ f b = j + 1) /\ f1 b = 5) /\ f2 b = 4) W (.slice A54 l[j].value.cls.length c54) l[j].value.cls /\ TxtO (fun b => ((S b /\ f b = j + 1) /\ f1 b = 5) /\ f2 b = 5) W (.slice A55 l[j].value.levels.length c55) l[j].value.levels) ⟨?_, ?_, ?_, ?_, ?_, ?_, ?_, ?_, ?_⟩ ?_
    ·simpa using (HB4.out.mid_set HPRE.out 5 (.int .i64 (kj + 1 + 1 + 1 + 1 + ↑l[j].labels.length)) (by simp))
    ·exact Keeps.sc (b := g) (o := j * 13 + 5) (HKW4.out) (by simp) (.int .i64 (kj + 1 + 1 + 1 + 1 + ↑l[j].labels.length))
    ·exact below_sc (b := g) (o := j * 13 + 5) (HZ4.out) (Nat.zero_le _) (.int .i64 (kj + 1 + 1 + 1 + 1 + ↑l[j].labels.length))
    ·exact TxtO.keeps Oa_4.out (Keeps.sc (b := g) (o := j * 13 + 5) (Keeps.refl _ w4) (fun hq => by have h5 := HG0.out.2; have h6 := hq.1; omega) (.int .i64 (kj + 1 + 1 + 1 + 1 + ↑l[j].labels.length)))
    ·exact ItemsO.keeps Ob_4.out (Keeps.sc (b := g) (o := j * 13 + 5) (Keeps.refl _ w4) (fun hq => by have h5 := HG0.out.2; have h6 := hq.1; omega) (.int .i64 (kj + 1 + 1 + 1 + 1 + ↑l[j].labels.length)))
    ·exact VectorsO.keeps Oc_4.out (Keeps.sc (b := g) (o := j * 13 + 5) (Keeps.refl _ w4) (fun hq => by have h5 := HG0.out.2; have h6 := hq.1; omega) (.int .i64 (kj + 1 + 1 + 1 + 1 + ↑l[j].labels.length)))
    ·exact TxtO.keeps Od_4.out (Keeps.sc (b := g) (o := j * 13 + 5) (Keeps.refl _ w4) (fun hq => by have h5 := HG0.out.2; have h6 := hq.1; omega) (.int .i64 (kj + 1 + 1 + 1 + 1 + ↑l[j].labels.length)))
    ·exact TxtO.keeps Oe_4.out (Keeps.sc (b := g) (o := j * 13 + 5) (Keeps.refl _ w4) (fun hq => by have h5 := HG0.out.2; have h6 := hq.1; omega) (.int .i64 (kj + 1 + 1 + 1 + 1 + ↑l[j].labels.length)))
    ·exact TxtO.keeps Og_4.out (Keeps.sc (b := g) (o := j * 13 + 5) (Keeps.refl _ w4) (fun hq => by have h5 := HG0.out.2; have h6 := hq.1; omega) (.int .i64 (kj + 1 + 1 + 1 + 1 + ↑l[j].labels.length)))
    clear y5 z5 y6 z6 hkb hkc
    rintro W5 ⟨hq0, hq1, hq2, hoa, hob, hoc, hod, hoe, hog⟩
    have HB5 := Lib.hid hq0
    have HKW5 := Lib.hid hq1
    have HZ5 := Lib.hid hq2
    have Oa_5 := Lib.hid hoa
    have Ob_5 := Lib.hid hob
    have Oc_5 := Lib.hid hoc
    have Od_5 := Lib.hid hod
    have Oe_5 := Lib.hid hoe
    have Og_5 := Lib.hid hog
    clear hq0 hq1 hq2 hoa hob hoc hod hoe hog
    have hh := laws_markItemS (fun b => ((S b /\ f b = j + 1) /\ f1 b = 5) /\ f2 b = 1) l[j].value.items _ (kj + 1 + 1 + 1 + 1 + ↑l[j].labels.length + 1) _ Ob_5.out (by omega) (by have := HCT.out; have := HK1.out; omega)
    refine Calls.mono hh ?_
    clear hh
    rintro e w6 ⟨rfl, ho, hk, hz⟩
    have HB6 := Lib.hid (HB5.out.keeps hk (fun hq => by have h5 := HG0.out.2; have h6 := hq.1; omega))
    have HKW6 := Lib.hid (HKW5.out.trans (hk.mono fun b hb hq => hb.2 hq.1.1))
    have HZ6 := Lib.hid (HZ5.out.trans hz)
    have Oa_6 := Lib.hid (TxtO.keeps Oa_5.out (hk.mono fun b hb hq => by have h5 := hb.1; have h6 := hb.2; have h7 := hq.1; have h8 := hq.2; omega))
    have Ob_6 := Lib.hid ho
    have Oc_6 := Lib.hid (VectorsO.keeps Oc_5.out (hk.mono fun b hb hq => by have h5 := hb.1; have h6 := hb.2; have h7 := hq.1; have h8 := hq.2; omega))
    have Od_6 := Lib.hid (TxtO.keeps Od_5.out (hk.mono fun b hb hq => by have h5 := hb.1; have h6 := hb.2; have h7 := hq.1; have h8 := hq.2; omega))
    have Oe_6 := Lib.hid (TxtO.keeps Oe_5.out (hk.mono fun b hb hq => by have h5 := hb.1; have h6 := hb.2; have h7 := hq.1; have h8 := hq.2; omega))
    have Og_6 := Lib.hid (TxtO.keeps Og_5.out (hk.mono fun b hb hq => by have h5 := hb.1; have h6 := hb.2; have h7 := hq.1; have h8 := hq.2; omega))
    clear ho hk hz 
    have y7 := HB6.out.mid HPRE.out 7 _ rfl
    have z7 := HB6.out.frozen (j * 13 + 7)
    have hkb : kj + 1 + 1 + 1 + 1 + ↑l[j].labels.length + 1 + ↑(cntL cItem l[j].value.items) + 2 <= 4611686018427387904 := by have := HCT.out; have := HK1.out; omega
    have hkc : 0 < kj + 1 + 1 + 1 + 1 + ↑l[j].labels.length + 1 + ↑(cntL cItem l[j].value.items) := by omega
    go_wp2_with fail
    have hh := markVec_all m (fun b => ((S b /\ f b = j + 1) /\ f1 b = 5) /\ f2 b = 2) l[j].value.parts _ (kj + 1 + 1 + 1 + 1 + ↑l[j].labels.length + 1 + ↑(cntL cItem l[j].value.items)) _ Oc_6.out (by omega) (by have := HCT.out; have := HK1.out; omega)
    refine Calls.mono hh ?_
    clear hh
    rintro e w7 ⟨rfl, ho, hk, hz⟩
    have HB7 := Lib.hid (HB6.out.keeps hk (fun hq => by have h5 := HG0.out.2; have h6 := hq.1; omega))
    have HKW7 := Lib.hid (HKW6.out.trans (hk.mono fun b hb hq => hb.2 hq.1.1))
    have HZ7 := Lib.hid (HZ6.out.trans hz)
    have Oa_7 := Lib.hid (TxtO.keeps Oa_6.out (hk.mono fun b hb hq => by have h5 := hb.1; have h6 := hb.2; have h7 := hq.1; have h8 := hq.2; omega))
    have Ob_7 := Lib.hid (ItemsO.keeps Ob_6.out (hk.mono fun b hb hq => by have h5 := hb.1; have h6 := hb.2; have h7 := hq.1; have h8 := hq.2; omega))
    have Oc_7 := Lib.hid ho
    have Od_7 := Lib.hid (TxtO.keeps Od_6.out (hk.mono fun b hb hq => by have h5 := hb.1; have h6 := hb.2; have h7 := hq.1; have h8 := hq.2; omega))
    have Oe_7 := Lib.hid (TxtO.keeps Oe_6.out (hk.mono fun b hb hq => by have h5 := hb.1; have h6 := hb.2; have h7 := hq.1; have h8 := hq.2; omega))
    have Og_7 := Lib.hid (TxtO.keeps Og_6.out (hk.mono fun b hb hq => by have h5 := hb.1; have h6 := hb.2; have h7 := hq.1; have h8 := hq.2; omega))
    clear ho hk hz y7 z7 hkb hkc
    have y8 := HB7.out.mid HPRE.out 8 _ rfl
    have z8 := HB7.out.frozen (j * 13 + 8)
    have hkb : kj + 1 + 1 + 1 + 1 + ↑l[j].labels.length + 1 + ↑(cntL cItem l[j].value.items) + ↑(cntL cVec l[j].value.parts) + 2 <= 4611686018427387904 := by have := HCT.out; have := HK1.out; omega
    have hkc : 0 < kj + 1 + 1 + 1 + 1 + ↑l[j].labels.length + 1 + ↑(cntL cItem l[j].value.items) + ↑(cntL cVec l[j].value.parts) := by omega
    go_wp2_with fail
    have hh := laws_markTxt (fun b => ((S b /\ f b = j + 1) /\ f1 b = 5) /\ f2 b = 3) l[j].value.names _ (kj + 1 + 1 + 1 + 1 + ↑l[j].labels.length + 1 + ↑(cntL cItem l[j].value.items) + ↑(cntL cVec l[j].value.parts)) _ Od_7.out (by omega) (by have := HCT.out; have := HK1.out; omega)
    refine Calls.mono hh ?_
    clear hh
    rintro e w8 ⟨rfl, ho, hk, hz⟩
    have HB8 := Lib.hid (HB7.out.keeps hk (fun hq => by have h5 := HG0.out.2; have h6 := hq.1; omega))
    have HKW8 := Lib.hid (HKW7.out.trans (hk.mono fun b hb hq => hb.2 hq.1.1))
    have HZ8 := Lib.hid (HZ7.out.trans hz)
    have Oa_8 := Lib.hid (TxtO.keeps Oa_7.out (hk.mono fun b hb hq => by have h5 := hb.1; have h6 := hb.2; have h7 := hq.1; have h8 := hq.2; omega))
    have Ob_8 := Lib.hid (ItemsO.keeps Ob_7.out (hk.mono fun b hb hq => by have h5 := hb.1; have h6 := hb.2; have h7 := hq.1; have h8 := hq.2; omega))
    have Oc_8 := Lib.hid (VectorsO.keeps Oc_7.out (hk.mono fun b hb hq => by have h5 := hb.1; have h6 := hb.2; have h7 := hq.1; have h8 := hq.2; omega))
    have Od_8 := Lib.hid ho
    have Oe_8 := Lib.hid (TxtO.keeps Oe_7.out (hk.mono fun b hb hq => by have h5 := hb.1; have h6 := hb.2; have h7 := hq.1; have h8 := hq.2; omega))
    have Og_8 := Lib.hid (TxtO.keeps Og_7.out (hk.mono fun b hb hq => by have h5 := hb.1; have h6 := hb.2; have h7 := hq.1; have h8 := hq.2; omega))
    clear ho hk hz y8 z8 hkb hkc
    have y9 := HB8.out.mid HPRE.out 9 _ rfl
    have z9 := HB8.out.frozen (j * 13 + 9)
    have hkb : kj + 1 + 1 + 1 + 1 + ↑l[j].labels.length + 1 + ↑(cntL cItem l[j].value.items) + ↑(cntL cVec l[j].value.parts) + ↑l[j].value.names.length + 2 <= 4611686018427387904 := by have := HCT.out; have := HK1.out; omega
    have hkc : 0 < kj + 1 + 1 + 1 + 1 + ↑l[j].labels.length + 1 + ↑(cntL cItem l[j].value.items) + ↑(cntL cVec l[j].value.parts) + ↑l[j].value.names.length := by omega
    go_wp2_with fail
    have hh := laws_markTxt (fun b => ((S b /\ f b = j + 1) /\ f1 b = 5) /\ f2 b = 4) l[j].value.cls _ (kj + 1 + 1 + 1 + 1 + ↑l[j].labels.length + 1 + ↑(cntL cItem l[j].value.items) + ↑(cntL cVec l[j].value.parts) + ↑l[j].value.names.length) _ Oe_8.out (by omega) (by have := HCT.out; have := HK1.out; omega)
    refine Calls.mono hh ?_
    clear hh
    rintro e w9 ⟨rfl, ho, hk, hz⟩
    have HB9 := Lib.hid (HB8.out.keeps hk (fun hq => by have h5 := HG0.out.2; have h6 := hq.1; omega))
    have HKW9 := Lib.hid (HKW8.out.trans (hk.mono fun b hb hq => hb.2 hq.1.1))
    have HZ9 := Lib.hid (HZ8.out.trans hz)
    have Oa_9 := Lib.hid (TxtO.keeps Oa_8.out (hk.mono fun b hb hq => by have h5 := hb.1; have h6 := hb.2; have h7 := hq.1; have h8 := hq.2; omega))
    have Ob_9 := Lib.hid (ItemsO.keeps Ob_8.out (hk.mono fun b hb hq => by have h5 := hb.1; have h6 := hb.2; have h7 := hq.1; have h8 := hq.2; omega))
    have Oc_9 := Lib.hid (VectorsO.keeps Oc_8.out (hk.mono fun b hb hq => by have h5 := hb.1; have h6 := hb.2; have h7 := hq.1; have h8 := hq.2; omega))
    have Od_9 := Lib.hid (TxtO.keeps Od_8.out (hk.mono fun b hb hq => by have h5 := hb.1; have h6 := hb.2; have h7 := hq.1; have h8 := hq.2; omega))
    have Oe_9 := Lib.hid ho
    have Og_9 := Lib.hid (TxtO.keeps Og_8.out (hk.mono fun b hb hq => by have h5 := hb.1; have h6 := hb.2; have h7 := hq.1; have h8 := hq.2; omega))
    clear ho hk hz y9 z9 hkb hkc
    have y10 := HB9.out.mid HPRE.out 10 _ rfl
    have z10 := HB9.out.frozen (j * 13 + 10)
    have hkb : kj + 1 + 1 + 1 + 1 + ↑l[j].labels.length + 1 + ↑(cntL cItem l[j].value.items) + ↑(cntL cVec l[j].value.parts) + ↑l[j].value.names.length + ↑l[j].value.cls.length + 2 <= 4611686018427387904 := by have := HCT.out; have := HK1.out; omega
    have hkc : 0 < kj + 1 + 1 + 1 + 1 + ↑l[j].labels.length + 1 + ↑(cntL cItem l[j].value.items) + ↑(cntL cVec l[j].value.parts) + ↑l[j].value.names.length + ↑l[j].value.cls.length := by omega
    go_wp2_with fail
    have hh := laws_markTxt (fun b => ((S b /\ f b = j + 1) /\ f1 b = 5) /\ f2 b = 5) l[j].value.levels _ (kj + 1 + 1 + 1 + 1 + ↑l[j].labels.length + 1 + ↑(cntL cItem l[j].value.items) + ↑(cntL cVec l[j].value.parts) + ↑l[j].value.names.length + ↑l[j].value.cls.length) _ Og_9.out (by omega) (by have := HCT.out; have := HK1.out; omega)
    refine Calls.mono hh ?_
    clear hh
    rintro e w10 ⟨rfl, ho, hk, hz⟩
    have HB10 := Lib.hid (HB9.out.keeps hk (fun hq => by have h5 := HG0.out.2; have h6 := hq.1; omega))
    have HKW10 := Lib.hid (HKW9.out.trans (hk.mono fun b hb hq => hb.2 hq.1.1))
    have HZ10 := Lib.hid (HZ9.out.trans hz)
    have Oa_10 := Lib.hid (TxtO.keeps Oa_9.out (hk.mono fun b hb hq => by have h5 := hb.1; have h6 := hb.2; have h7 := hq.1; have h8 := hq.2; omega))
    have Ob_10 := Lib.hid (ItemsO.keeps Ob_9.out (hk.mono fun b hb hq => by have h5 := hb.1; have h6 := hb.2; have h7 := hq.1; have h8 := hq.2; omega))
    have Oc_10 := Lib.hid (VectorsO.keeps Oc_9.out (hk.mono fun b hb hq => by have h5 := hb.1; have h6 := hb.2; have h7 := hq.1; have h8 := hq.2; omega))
    have Od_10 := Lib.hid (TxtO.keeps Od_9.out (hk.mono fun b hb hq => by have h5 := hb.1; have h6 := hb.2; have h7 := hq.1; have h8 := hq.2; omega))
    have Oe_10 := Lib.hid (TxtO.keeps Oe_9.out (hk.mono fun b hb hq => by have h5 := hb.1; have h6 := hb.2; have h7 := hq.1; have h8 := hq.2; omega))
    have Og_10 := Lib.hid ho
    clear ho hk hz y10 z10 hkb hkc
    have y11 := HB10.out.mid HPRE.out 11 _ rfl
    have z11 := HB10.out.frozen (j * 13 + 11)
    have y12 := HB10.out.mid HPRE.out 12 _ rfl
    have z12 := HB10.out.frozen (j * 13 + 12)
    have hkb : kj + 1 + 1 + 1 + 1 + ↑l[j].labels.length + 1 + ↑(cntL cItem l[j].value.items) + ↑(cntL cVec l[j].value.parts) + ↑l[j].value.names.length + ↑l[j].value.cls.length + ↑l[j].value.levels.length + 2 <= 4611686018427387904 := by have := HCT.out; have := HK1.out; omega
    have hkc : 0 < kj + 1 + 1 + 1 + 1 + ↑l[j].labels.length + 1 + ↑(cntL cItem l[j].value.items) + ↑(cntL cVec l[j].value.parts) + ↑l[j].value.names.length + ↑l[j].value.cls.length + ↑l[j].value.levels.length := by omega
    go_wp2_with fail
    go_roundw
    case rel =>
     have hbF := ((HB10.out.mid_set HPRE.out 11 (.int .i64 (kj + 1 + 1 + 1 + 1 + ↑l[j].labels.length + 1 + ↑(cntL cItem l[j].value.items) + ↑(cntL cVec l[j].value.parts) + ↑l[j].value.names.length + ↑l[j].value.cls.length + ↑l[j].value.levels.length)) (by simp)).mid_set HPRE.out 12 (.int .i64 (kj + 1 + 1 + 1 + 1 + ↑l[j].labels.length + 1 + ↑(cntL cItem l[j].value.items) + ↑(cntL cVec l[j].value.parts) + ↑l[j].value.names.length + ↑l[j].value.cls.length + ↑l[j].value.levels.length + 1)) (by simp))
     have hkF := Keeps.sc (b := g) (o := j * 13 + 12) (Keeps.sc (b := g) (o := j * 13 + 11) (HKW10.out) (by simp) (.int .i64 (kj + 1 + 1 + 1 + 1 + ↑l[j].labels.length + 1 + ↑(cntL cItem l[j].value.items) + ↑(cntL cVec l[j].value.parts) + ↑l[j].value.names.length + ↑l[j].value.cls.length + ↑l[j].value.levels.length))) (by simp) (.int .i64 (kj + 1 + 1 + 1 + 1 + ↑l[j].labels.length + 1 + ↑(cntL cItem l[j].value.items) + ↑(cntL cVec l[j].value.parts) + ↑l[j].value.names.length + ↑l[j].value.cls.length + ↑l[j].value.levels.length + 1))
     have hzF := below_sc (b := g) (o := j * 13 + 12) (below_sc (b := g) (o := j * 13 + 11) (HZ10.out) (Nat.zero_le _) (.int .i64 (kj + 1 + 1 + 1 + 1 + ↑l[j].labels.length + 1 + ↑(cntL cItem l[j].value.items) + ↑(cntL cVec l[j].value.parts) + ↑l[j].value.names.length + ↑l[j].value.cls.length + ↑l[j].value.levels.length))) (Nat.zero_le _) (.int .i64 (kj + 1 + 1 + 1 + 1 + ↑l[j].labels.length + 1 + ↑(cntL cItem l[j].value.items) + ↑(cntL cVec l[j].value.parts) + ↑l[j].value.names.length + ↑l[j].value.cls.length + ↑l[j].value.levels.length + 1))
     have hOa := TxtO.keeps Oa_10.out (Keeps.sc (b := g) (o := j * 13 + 12) (Keeps.sc (b := g) (o := j * 13 + 11) (Keeps.refl _ w10) (fun hq => by have h5 := HG0.out.2; have h6 := hq.1; omega) (.int .i64 (kj + 1 + 1 + 1 + 1 + ↑l[j].labels.length + 1 + ↑(cntL cItem l[j].value.items) + ↑(cntL cVec l[j].value.parts) + ↑l[j].value.names.length + ↑l[j].value.cls.length + ↑l[j].value.levels.length))) (fun hq => by have h5 := HG0.out.2; have h6 := hq.1; omega) (.int .i64 (kj + 1 + 1 + 1 + 1 + ↑l[j].labels.length + 1 + ↑(cntL cItem l[j].value.items) + ↑(cntL cVec l[j].value.parts) + ↑l[j].value.names.length + ↑l[j].value.cls.length + ↑l[j].value.levels.length + 1)))
     have hOb := ItemsO.keeps Ob_10.out (Keeps.sc (b := g) (o := j * 13 + 12) (Keeps.sc (b := g) (o := j * 13 + 11) (Keeps.refl _ w10) (fun hq => by have h5 := HG0.out.2; have h6 := hq.1; omega) (.int .i64 (kj + 1 + 1 + 1 + 1 + ↑l[j].labels.length + 1 + ↑(cntL cItem l[j].value.items) + ↑(cntL cVec l[j].value.parts) + ↑l[j].value.names.length + ↑l[j].value.cls.length + ↑l[j].value.levels.length))) (fun hq => by have h5 := HG0.out.2; have h6 := hq.1; omega) (.int .i64 (kj + 1 + 1 + 1 + 1 + ↑l[j].labels.length + 1 + ↑(cntL cItem l[j].value.items) + ↑(cntL cVec l[j].value.parts) + ↑l[j].value.names.length + ↑l[j].value.cls.length + ↑l[j].value.levels.length + 1)))
     have hOc := VectorsO.keeps Oc_10.out (Keeps.sc (b := g) (o := j * 13 + 12) (Keeps.sc (b := g) (o := j * 13 + 11) (Keeps.refl _ w10) (fun hq => by have h5 := HG0.out.2; have h6 := hq.1; omega) (.int .i64 (kj + 1 + 1 + 1 + 1 + ↑l[j].labels.length + 1 + ↑(cntL cItem l[j].value.items) + ↑(cntL cVec l[j].value.parts) + ↑l[j].value.names.length + ↑l[j].value.cls.length + ↑l[j].value.levels.length))) (fun hq => by have h5 := HG0.out.2; have h6 := hq.1; omega) (.int .i64 (kj + 1 + 1 + 1 + 1 + ↑l[j].labels.length + 1 + ↑(cntL cItem l[j].value.items) + ↑(cntL cVec l[j].value.parts) + ↑l[j].value.names.length + ↑l[j].value.cls.length + ↑l[j].value.levels.length + 1)))
     have hOd := TxtO.keeps Od_10.out (Keeps.sc (b := g) (o := j * 13 + 12) (Keeps.sc (b := g) (o := j * 13 + 11) (Keeps.refl _ w10) (fun hq => by have h5 := HG0.out.2; have h6 := hq.1; omega) (.int .i64 (kj + 1 + 1 + 1 + 1 + ↑l[j].labels.length + 1 + ↑(cntL cItem l[j].value.items) + ↑(cntL cVec l[j].value.parts) + ↑l[j].value.names.length + ↑l[j].value.cls.length + ↑l[j].value.levels.length))) (fun hq => by have h5 := HG0.out.2; have h6 := hq.1; omega) (.int .i64 (kj + 1 + 1 + 1 + 1 + ↑l[j].labels.length + 1 + ↑(cntL cItem l[j].value.items) + ↑(cntL cVec l[j].value.parts) + ↑l[j].value.names.length + ↑l[j].value.cls.length + ↑l[j].value.levels.length + 1)))
     have hOe := TxtO.keeps Oe_10.out (Keeps.sc (b := g) (o := j * 13 + 12) (Keeps.sc (b := g) (o := j * 13 + 11) (Keeps.refl _ w10) (fun hq => by have h5 := HG0.out.2; have h6 := hq.1; omega) (.int .i64 (kj + 1 + 1 + 1 + 1 + ↑l[j].labels.length + 1 + ↑(cntL cItem l[j].value.items) + ↑(cntL cVec l[j].value.parts) + ↑l[j].value.names.length + ↑l[j].value.cls.length + ↑l[j].value.levels.length))) (fun hq => by have h5 := HG0.out.2; have h6 := hq.1; omega) (.int .i64 (kj + 1 + 1 + 1 + 1 + ↑l[j].labels.length + 1 + ↑(cntL cItem l[j].value.items) + ↑(cntL cVec l[j].value.parts) + ↑l[j].value.names.length + ↑l[j].value.cls.length + ↑l[j].value.levels.length + 1)))
     have hOg := TxtO.keeps Og_10.out (Keeps.sc (b := g) (o := j * 13 + 12) (Keeps.sc (b := g) (o := j * 13 + 11) (Keeps.refl _ w10) (fun hq => by have h5 := HG0.out.2; have h6 := hq.1; omega) (.int .i64 (kj + 1 + 1 + 1 + 1 + ↑l[j].labels.length + 1 + ↑(cntL cItem l[j].value.items) + ↑(cntL cVec l[j].value.parts) + ↑l[j].value.names.length + ↑l[j].value.cls.length + ↑l[j].value.levels.length))) (fun hq => by have h5 := HG0.out.2; have h6 := hq.1; omega) (.int .i64 (kj + 1 + 1 + 1 + 1 + ↑l[j].labels.length + 1 + ↑(cntL cItem l[j].value.items) + ↑(cntL cVec l[j].value.parts) + ↑l[j].value.names.length + ↑l[j].value.cls.length + ↑l[j].value.levels.length + 1)))
     refine ⟨j + 1, y.set j [.int .i64 (kj), .int .i64 (kj + 1), .int .i64 (kj + 1 + 1), .string (str (markT (kj + 1 + 1 + 1).toNat)), .slice A4 l[j].labels.length c4, .int .i64 (kj + 1 + 1 + 1 + 1 + ↑l[j].labels.length), .slice A51 l[j].value.items.length c51, .slice A52 l[j].value.parts.length c52, .slice A53 l[j].value.names.length c53, .slice A54 l[j].value.cls.length c54, .slice A55 l[j].value.levels.length c55, .int .i64 (kj + 1 + 1 + 1 + 1 + ↑l[j].labels.length + 1 + ↑(cntL cItem l[j].value.items) + ↑(cntL cVec l[j].value.parts) + ↑l[j].value.names.length + ↑l[j].value.cls.length + ↑l[j].value.levels.length), .int .i64 (kj + 1 + 1 + 1 + 1 + ↑l[j].labels.length + 1 + ↑(cntL cItem l[j].value.items) + ↑(cntL cVec l[j].value.parts) + ↑l[j].value.names.length + ↑l[j].value.cls.length + ↑l[j].value.levels.length + 1)], by omega, by go_num, by rw [HKJ.out]; congr 1; have := HCT.out; omega, ?_, ?_, ?_⟩
     ·show MidO _ _ _ _ _ _ _ _ _ _
      rw [<- HPS.out]
      refine MidO.update (fun h hk => h.keeps hk) HMj.out j (by rw [part_length]; exact hlt) _ _ rfl ?_ ?_ hkF
      ·rw [<- HSET.out]; simpa using hbF
      ·have e1 := mkVec_eq l[j].value (kj + 1 + 1 + 1 + 1 + ↑l[j].labels.length)
       have h8 := HCT.out
       have h9 := HK1.out
       have hcv := cVec_eq l[j].value
       refine ⟨A4, c4, A51, c51, A52, c52, A53, c53, A54, c54, A55, c55, f1, ?_, ?_, ?_, ?_, ?_, ?_, ⟨m + 1, A51, c51, A52, c52, A53, c53, A54, c54, A55, c55, f2, rfl, ?_, ?_, ?_, ?_, ?_, ?_, ?_, ?_⟩⟩
       ·simp only [mkInstr, markL_length]; rw [e1]; simp only [VecD.kind, VecD.items, VecD.parts, VecD.names, VecD.cls, VecD.levels, VecD.code, VecD.env, mkL_length, markL_length]
       ·show I64 kj; exact ⟨by omega, by omega⟩
       ·show I64 (kj + 1); exact ⟨by omega, by omega⟩
       ·show I64 (kj + 1 + 1); exact ⟨by omega, by omega⟩
       ·show (markT _).length <= maxLen; exact markT_small _ (by omega)
       ·simpa only [mkInstr, markL_length] using hOa
       ·show I64 (mkVec _ _).kind; rw [e1]; simp only [VecD.kind]; exact ⟨by omega, by omega⟩
       ·show ItemsO _ _ (.slice A51 (mkVec _ _).items.length c51) (mkVec _ _).items; rw [e1]; simpa only [VecD.items, mkL_length] using hOb
       ·show SlO _ _ _ _ _ (.slice A52 (mkVec _ _).parts.length c52) (mkVec _ _).parts; rw [e1]; unfold VectorsO at hOc; simpa only [VecD.parts, mkL_length] using hOc
       ·show TxtO _ _ (.slice A53 (mkVec _ _).names.length c53) (mkVec _ _).names; rw [e1]; simpa only [VecD.names, markL_length] using hOd
       ·show TxtO _ _ (.slice A54 (mkVec _ _).cls.length c54) (mkVec _ _).cls; rw [e1]; simpa only [VecD.cls, markL_length] using hOe
       ·show TxtO _ _ (.slice A55 (mkVec _ _).levels.length c55) (mkVec _ _).levels; rw [e1]; simpa only [VecD.levels, markL_length] using hOg
       ·show I64 (mkVec _ _).code; rw [e1]; simp only [VecD.code]; exact ⟨by omega, by omega⟩
       ·show I64 (mkVec _ _).env; rw [e1]; simp only [VecD.env]; exact ⟨by omega, by omega⟩
     ·exact HK.out.trans (hkF.mono fun b hb => ⟨fun e => hb (by rw [e]; exact HG0.out.1), fun hq => hb hq.1⟩)
     ·exact HZ.out.trans hzF
    case measure => simp [intOf]; omega
   ·obtain rfl : j = l.length := by omega
    go_wp2_with fail
    go_ret
    exact ⟨ret_int (by rw [List.take_length]), by have := HMj.out.back (cap := cap) (by rw [part_length]; exact hn) HC.out (by rw [part_length]; exact HP.out); rw [part_length, part_all] at this; exact this, HK.out, HZ.out⟩
end Go.Proofs.YtjdfancbmjnjfaaGreat
namespace Go.Proofs.YtjdfancbmjnjfaaGreat
set_option maxRecDepth 100000
open Go.ChangeShapes Go.WideShapes Go.ChangeAt Go.RowKit Go.Deep
set_option linter.unusedVariables false

def cSeg (d : SegD) : Nat := d.labels.length + d.defaults.length + cntL cInstr d.instrs
def markSeg (d : SegD) (k : Int) : SegD := ⟨(markL (k).toNat d.labels.length), (markI (k + ↑d.labels.length).toNat d.defaults.length), (mkL mkInstr cInstr d.instrs (k + ↑d.labels.length + ↑d.defaults.length))⟩

end Go.Proofs.YtjdfancbmjnjfaaGreat
namespace Go.Proofs.YtjdfancbmjnjfaaGreat
set_option maxRecDepth 100000
open Go.ChangeShapes Go.WideShapes Go.ChangeAt Go.RowKit Go.Deep
set_option linter.unusedVariables false

def markB (k n : Nat) : List Bool := (List.range n).map fun i => (((k + i : Nat) : Int) % 3 == 0)
theorem markB_length (k n : Nat) : (markB k n).length = n := by simp [markB]
theorem markB_at (k n i : Nat) (h : i < (markB k n).length) : (markB k n)[i] = (((k + i : Nat) : Int) % 3 == 0) := by simp [markB]
theorem markB_succ (k n : Nat) : markB k (n + 1) = markB k n ++ [(((k + n : Nat) : Int) % 3 == 0)] := by simp [markB, List.range_succ]
set_option maxHeartbeats 400000 in
theorem laws_markBoolS (xs : List Value) (base n : Nat) (v : Value) (k0 : Int) (e : TypeId) (w : World) (h : w.ownsRow base e 1 v n xs) (h0 : 0 < k0) (h1 : k0 + n <= 4611686018427387904) :
  Calls Tryz.prog 44 #[v, .int .i64 k0] w fun e' w' => e' = .returned (.int .i64 (k0 + n)) /\ w'.ownsRow base e 1 v n ((markB k0.toNat n).map fun n => Value.bool n) /\ w.grownBy w' v.ownBlock := by
 obtain ⟨k, rfl⟩ := Int.eq_ofNat_of_zero_le (show 0 <= k0 by omega)
 rw [Int.toNat_natCast]
 have hl := h.1
 rcases h.2 with ⟨rfl, rfl⟩ | ⟨g, cap, cur, rfl, hb, hg, hnc, hcm, hcs, htake⟩
 ·go_enter Tryz.func44, Tryz.ntmps44
  go_wp2_with fail
  go_loop [1, 5] (fun x i => i = .int .i64 0 /\ x = .int .i64 k) (fun _ i => 0)
  case atStart => exact ⟨rfl, rfl⟩
  case round =>
   obtain ⟨rfl, rfl⟩ := hrel
   go_wp2_with fail
   go_ret
   exact ⟨ret_int (by simp), by simp [markB]; exact World.ownsRow_nil _ _ _ _, World.grownBy.refl _ _⟩
 ·unfold maxLen at hcm
  have hown := Lib.hid h
  have HL := Lib.hid hl
  clear h hl htake hg hcs cur
  show Calls Tryz.prog 44 #[Value.slice (some ⟨g, 0, none⟩) n cap, Value.int IntKind.i64 ↑k] w fun e' w' => e' = Ending.returned (Value.int IntKind.i64 (↑k + ↑n)) /\ w'.ownsRow base e 1 (Value.slice (some ⟨g, 0, none⟩) n cap) n (List.map (fun n => Value.bool n) (markB k n)) /\ w.grownBy w' (some g)
  go_enter Tryz.func44, Tryz.ntmps44
  go_wp2_with fail
  go_loopw [1, 5] (fun x i wr => ∃ j : Nat, j <= n /\ i = .int .i64 j /\ x = .int .i64 (k + j : Nat) /\ w.grownBy wr (some g) /\ Hid (wr.ownsRow base e 1 (.slice (some ⟨g, 0, none⟩) n cap) n (((markB k j).map fun n => Value.bool n) ++ xs.drop j))) (fun _ i _ => n - (intOf i).toNat)
  case atStart => exact ⟨0, Nat.zero_le _, rfl, rfl, World.grownBy.refl _ _, by have := hown.out; simpa [markB, Hid] using this⟩
  case round =>
   obtain ⟨j, hj, rfl, rfl, hgr, ho⟩ := hrel
   by_cases hlt : j < n
   ·have hfr := ho.out.frozenAt j
    have hcl := ho.out.cellAt j (by omega)
    obtain ⟨u, hu⟩ : ∃ u, wr.cell? ⟨g, j, none⟩ = some u := ⟨_, hcl.trans (List.getElem?_eq_getElem (by have := ho.out.1; omega))⟩
    clear hcl
    go_wp2_with fail
    go_roundw
    case rel =>
     obtain ⟨h2, h3⟩ := ho.out.stored j (Value.bool (((k : Int) + j) % 3 == 0))
     refine ⟨j + 1, by omega, by go_num, by go_num, hgr.trans h3, ?_⟩
     rw [set_mid _ _ _ _ (by simp [markB]) (by have := HL.out; omega)] at h2
     rw [markB_succ, List.map_append]
     exact h2
    case measure => simp [intOf]; omega
   ·obtain rfl : j = n := by omega
    go_wp2_with fail
    go_ret
    refine ⟨ret_int (by omega), ?_, hgr⟩
    have := ho.out
    rw [List.drop_eq_nil_of_le (by have := HL.out; omega), List.append_nil] at this
    exact this

set_option maxHeartbeats 400000 in
theorem laws_heldBoolS (n : Nat) (v : Value) (k0 : Int) (w : World) (h0 : 0 < k0) (h1 : k0 + n <= 4611686018427387904) (h : Bools w v (markB k0.toNat n)) :
  Calls Tryz.prog 47 #[v, .int .i64 k0] w fun e' w' => e' = .returned (.int .i64 (k0 + n)) /\ w = w' := by
 obtain ⟨k, rfl⟩ := Int.eq_ofNat_of_zero_le (show 0 <= k0 by omega)
 rw [Int.toNat_natCast] at h
 obtain ⟨A, c, rfl, hlc, hm, HC⟩ := h.open_
 clear h
 rw [markB_length] at *
 unfold maxLen at hm
 go_enter Tryz.func47, Tryz.ntmps47
 go_wp2_with fail
 go_loop [1, 5] (fun x i => ∃ j : Nat, j <= n /\ i = .int .i64 j /\ x = .int .i64 (k + j : Nat)) (fun _ i => n - (intOf i).toNat)
 case atStart => exact ⟨0, Nat.zero_le _, rfl, rfl⟩
 case round =>
   obtain ⟨j, hj, rfl, rfl⟩ := hrel
   by_cases hlt : j < n
   ·obtain ⟨b, off, rfl, hbl, hcell⟩ := HC.out j (by rw [markB_length]; exact hlt)
    rw [markB_at] at hcell
    have he : ((((k + j : Nat) : Int) % 3 == 0) != (((k : Int) + j) % 3 == 0)) = false := by simp
    go_wp2_with fail
    go_round
    case rel => exact ⟨j + 1, by omega, by go_num, by go_num⟩
    case measure => simp [intOf]; omega
   ·obtain rfl : j = n := by omega
    go_wp2_with fail
    go_ret
    exact ⟨ret_int (by omega), rfl⟩

theorem laws_markBools (S : Nat -> Prop) (l : List Bool) (v : Value) (k : Int) (w : World) (h : BoolO S w v l) (h0 : 0 < k) (h1 : k + l.length <= 4611686018427387904) :
  Calls Tryz.prog 44 #[v, .int .i64 k] w (RetMark S w (k + l.length) fun w' => BoolO S w' v (markB k.toNat l.length)) :=
 (laws_markBoolS _ 0 l.length v k 4 w h.1 h0 h1).mono fun e w' ⟨he, ho, hg⟩ =>
  ⟨he, ⟨by rw [markB_length]; exact ho, h.2⟩, Keeps.grown' hg h.2, (Below.refl 0 w).grown hg (Nat.zero_le _) (fun _ _ => Nat.zero_le _)⟩
end Go.Proofs.YtjdfancbmjnjfaaGreat
namespace Go.Proofs.YtjdfancbmjnjfaaGreat
set_option maxRecDepth 100000
open Go.ChangeShapes Go.WideShapes Go.ChangeAt Go.RowKit Go.Deep
set_option linter.unusedVariables false

theorem cSeg_eq (d : SegD) : cSeg d = d.labels.length + d.defaults.length + cntL cInstr d.instrs := rfl
set_option maxHeartbeats 4000000 in
theorem laws_markSegmentS (S : Nat -> Prop) (l : List SegD) (v : Value) (k : Int) (w : World) (h : SlO S w 49 3 SegmentO v l) (h0 : 0 < k) (h1 : k + cntL cSeg l <= 4611686018427387904) :
  Calls Tryz.prog 42 #[v, .int .i64 k] w (RetMark S w (k + cntL cSeg l) fun w' => SlO S w' 49 3 SegmentO v (mkL markSeg cSeg l k)) := by
 rcases SlO.mid h with ⟨rfl, rfl⟩ | ⟨g, cap, f, post, ys, rfl, hn, hc, hp, hM⟩
 ·go_enter Tryz.func42, Tryz.ntmps42
  go_wp2_with fail
  go_loop [1, 5] (fun x i => i = .int .i64 0 /\ x = .int .i64 k) (fun _ i => 0)
  case atStart => exact ⟨rfl, rfl⟩
  case round =>
   obtain ⟨rfl, rfl⟩ := hrel
   go_wp2_with fail
   go_ret
   exact ⟨ret_int (by simp [cntL]), SlO.nil_ _ _ _ _ _, Keeps.refl _ _, Below.refl _ _⟩
 ·have HC := Lib.hid hc
  unfold maxLen at hc
  have HM := Lib.hid hM
  have HP := Lib.hid hp
  clear h hM hp
  go_enter Tryz.func42, Tryz.ntmps42
  go_wp2_with fail
  go_loopw [1, 5] (fun x i wr => ∃ (j : Nat) (y : List (List Value)), j <= l.length /\ i = .int .i64 j /\ x = .int .i64 (k + (cntL cSeg (l.take j) : Int)) /\ Hid (MidO S f wr 49 3 SegmentO g post y (part markSeg cSeg l k j)) /\ Hid (Keeps (fun b => ¬ S b) w wr) /\ Hid (Below 0 w wr)) (fun _ i _ => l.length - (intOf i).toNat)
  case atStart => exact ⟨0, ys, Nat.zero_le _, rfl, by simp [cntL], by rw [part_zero]; exact HM.out, Keeps.refl _ _, Below.refl _ _⟩
  case round =>
   obtain ⟨j, y, hj, rfl, rfl, HMj, HK, HZ⟩ := hrel
   by_cases hlt : j < l.length
   ·have hcn : (cntL cSeg (l.take j) : Int) + cSeg l[j] <= cntL cSeg l := by have := cntL_at cSeg l j hlt; omega
    have HKJ := Lib.hid (show k + (cntL cSeg (l.take (j + 1)) : Int) = k + (cntL cSeg (l.take j) : Int) + cSeg l[j] by rw [cntL_take _ _ _ hlt]; omega)
    have HPS := Lib.hid (part_set markSeg cSeg l k j hlt)
    have HCT := Lib.hid (cSeg_eq l[j])
    have hkj0 : 0 < k + (cntL cSeg (l.take j) : Int) := by omega
    have hkj1 : k + (cntL cSeg (l.take j) : Int) + cSeg l[j] <= 4611686018427387904 := by omega
    have HK1 := Lib.hid hkj1
    clear hcn hkj1
    generalize k + (cntL cSeg (l.take j) : Int) = kj at *
    obtain ⟨hy, pre, rest, hpre, hb, hset, hro⟩ := HMj.out.at_ j (by rw [part_length]; exact hlt)
    rw [part_at _ _ _ _ _ hlt] at hro
    obtain ⟨A0, c0, A1, c1, A2, c2, f1, hcs, oa, ob, oc⟩ := hro
    have Oa_0 := Lib.hid oa
    have Ob_0 := Lib.hid ob
    have Oc_0 := Lib.hid oc
    clear oa ob oc
    rw [hcs] at hb
    clear hcs
    have HSET := Lib.hid hset
    have HPRE := Lib.hid hpre
    have hgl : g < wr.heap.size := hb.lt
    have HG0 := Lib.hid HM.out.own
    have HB0 := Lib.hid hb
    have HKW0 := Lib.hid (Keeps.refl (fun b => b ≠ g /\ ¬ (S b /\ f b = j + 1)) wr)
    have HZ0 := Lib.hid (Below.refl 0 wr)
    clear hb hset hpre
    have y0 : wr.cell? ⟨g, j * 3, none⟩ = some (.slice A0 l[j].labels.length c0) := by simpa using HB0.out.mid HPRE.out 0 _ rfl
    have z0 := HB0.out.frozen (j * 3)
    have hkb : kj + 0 <= 4611686018427387904 := by have := HCT.out; have := HK1.out; omega
    have hkc : 0 < kj := by omega
    go_wp2_with fail
    have hh := laws_markTxt (fun b => (S b /\ f b = j + 1) /\ f1 b = 0) l[j].labels _ (kj) _ Oa_0.out (by omega) (by have := HCT.out; have := HK1.out; omega)
    refine Calls.mono hh ?_
    clear hh
    rintro e w1 ⟨rfl, ho, hk, hz⟩
    have HB1 := Lib.hid (HB0.out.keeps hk (fun hq => by have h5 := HG0.out.2; have h6 := hq.1; omega))
    have HKW1 := Lib.hid (HKW0.out.trans (hk.mono fun b hb hq => hb.2 hq.1))
    have HZ1 := Lib.hid (HZ0.out.trans hz)
    have Oa_1 := Lib.hid ho
    have Ob_1 := Lib.hid (IntO.keeps Ob_0.out (hk.mono fun b hb hq => by have h5 := hb.1; have h6 := hb.2; have h7 := hq.1; have h8 := hq.2; omega))
    have Oc_1 := Lib.hid (InstrsO.keeps Oc_0.out (hk.mono fun b hb hq => by have h5 := hb.1; have h6 := hb.2; have h7 := hq.1; have h8 := hq.2; omega))
    clear ho hk hz y0 z0 hkb hkc
    obtain ⟨kq1, hq1⟩ : ∃ x : Int, x = kj + ↑l[j].labels.length := ⟨_, rfl⟩
    rw [<- hq1]
    have HQ1 := Lib.hid hq1
    clear hq1
    have y1 := HB1.out.mid HPRE.out 1 _ rfl
    have z1 := HB1.out.frozen (j * 3 + 1)
    have hkb : kq1 + 0 <= 4611686018427387904 := by have := HQ1.out; have := HCT.out; have := HK1.out; omega
    have hkc : 0 < kq1 := by have := HQ1.out; omega
    go_wp2_with fail
    have hh := laws_markInts (fun b => (S b /\ f b = j + 1) /\ f1 b = 1) l[j].defaults _ (kq1) _ Ob_1.out (by have := HQ1.out; omega) (by have := HQ1.out; have := HCT.out; have := HK1.out; omega)
    refine Calls.mono hh ?_
    clear hh
    rintro e w2 ⟨rfl, ho, hk, hz⟩
    have HB2 := Lib.hid (HB1.out.keeps hk (fun hq => by have h5 := HG0.out.2; have h6 := hq.1; omega))
    have HKW2 := Lib.hid (HKW1.out.trans (hk.mono fun b hb hq => hb.2 hq.1))
    have HZ2 := Lib.hid (HZ1.out.trans hz)
    have Oa_2 := Lib.hid (TxtO.keeps Oa_1.out (hk.mono fun b hb hq => by have h5 := hb.1; have h6 := hb.2; have h7 := hq.1; have h8 := hq.2; omega))
    have Ob_2 := Lib.hid ho
    have Oc_2 := Lib.hid (InstrsO.keeps Oc_1.out (hk.mono fun b hb hq => by have h5 := hb.1; have h6 := hb.2; have h7 := hq.1; have h8 := hq.2; omega))
    clear ho hk hz y1 z1 hkb hkc
    obtain ⟨kq2, hq2⟩ : ∃ x : Int, x = kq1 + ↑l[j].defaults.length := ⟨_, rfl⟩
    rw [<- hq2]
    have HQ2 := Lib.hid hq2
    clear hq2
    have y2 := HB2.out.mid HPRE.out 2 _ rfl
    have z2 := HB2.out.frozen (j * 3 + 2)
    have hkb : kq2 + 0 <= 4611686018427387904 := by have := HQ1.out; have := HQ2.out; have := HCT.out; have := HK1.out; omega
    have hkc : 0 < kq2 := by have := HQ1.out; have := HQ2.out; omega
    go_wp2_with fail
    have hh := laws_markInstrS (fun b => (S b /\ f b = j + 1) /\ f1 b = 2) l[j].instrs _ (kq2) _ Oc_2.out (by have := HQ1.out; have := HQ2.out; omega) (by have := HQ1.out; have := HQ2.out; have := HCT.out; have := HK1.out; omega)
    refine Calls.mono hh ?_
    clear hh
    rintro e w3 ⟨rfl, ho, hk, hz⟩
    have HB3 := Lib.hid (HB2.out.keeps hk (fun hq => by have h5 := HG0.out.2; have h6 := hq.1; omega))
    have HKW3 := Lib.hid (HKW2.out.trans (hk.mono fun b hb hq => hb.2 hq.1))
    have HZ3 := Lib.hid (HZ2.out.trans hz)
    have Oa_3 := Lib.hid (TxtO.keeps Oa_2.out (hk.mono fun b hb hq => by have h5 := hb.1; have h6 := hb.2; have h7 := hq.1; have h8 := hq.2; omega))
    have Ob_3 := Lib.hid (IntO.keeps Ob_2.out (hk.mono fun b hb hq => by have h5 := hb.1; have h6 := hb.2; have h7 := hq.1; have h8 := hq.2; omega))
    have Oc_3 := Lib.hid ho
    clear ho hk hz y2 z2 hkb hkc
    obtain ⟨kq3, hq3⟩ : ∃ x : Int, x = kq2 + ↑(cntL cInstr l[j].instrs) := ⟨_, rfl⟩
    rw [<- hq3]
    have HQ3 := Lib.hid hq3
    clear hq3
    have hkb : kq3 + 0 <= 4611686018427387904 := by have := HQ1.out; have := HQ2.out; have := HQ3.out; have := HCT.out; have := HK1.out; omega
    have hkc : 0 < kq3 := by have := HQ1.out; have := HQ2.out; have := HQ3.out; omega
    go_wp2_with fail
    go_roundw
    case rel =>
     have hq1 := HQ1.out
     have hq2 := HQ2.out
     have hq3 := HQ3.out
     subst hq1
     subst hq2
     subst hq3
     have hbF := HB3.out
     have hkF := HKW3.out
     have hzF := HZ3.out
     have hOa := Oa_3.out
     have hOb := Ob_3.out
     have hOc := Oc_3.out
     refine ⟨j + 1, y.set j [.slice A0 l[j].labels.length c0, .slice A1 l[j].defaults.length c1, .slice A2 l[j].instrs.length c2], by omega, by go_num, by rw [HKJ.out]; congr 1; have := HCT.out; omega, ?_, ?_, ?_⟩
     ·show MidO _ _ _ _ _ _ _ _ _ _
      rw [<- HPS.out]
      refine MidO.update (fun h hk => h.keeps hk) HMj.out j (by rw [part_length]; exact hlt) _ _ rfl ?_ ?_ hkF
      ·rw [<- HSET.out]; simpa using hbF
      ·have h8 := HCT.out
       have h9 := HK1.out
       refine ⟨A0, c0, A1, c1, A2, c2, f1, ?_, ?_, ?_, ?_⟩
       ·simp only [markSeg, markL_length, markI_length, mkL_length]
       ·simpa only [markSeg, markL_length] using hOa
       ·simpa only [markSeg, markI_length] using hOb
       ·unfold InstrsO at hOc ⊢; simpa only [markSeg, mkL_length] using hOc
     ·exact HK.out.trans (hkF.mono fun b hb => ⟨fun e => hb (by rw [e]; exact HG0.out.1), fun hq => hb hq.1⟩)
     ·exact HZ.out.trans hzF
    case measure => simp [intOf]; omega
   ·obtain rfl : j = l.length := by omega
    go_wp2_with fail
    go_ret
    exact ⟨ret_int (by rw [List.take_length]), by have := HMj.out.back (cap := cap) (by rw [part_length]; exact hn) HC.out (by rw [part_length]; exact HP.out); rw [part_length, part_all] at this; exact this, HK.out, HZ.out⟩

def cCode (d : CodeD) : Nat := cntL cSeg d.segments + d.main.length + d.quiet.length
def markCodeD (d : CodeD) (k : Int) : CodeD := ⟨(mkL markSeg cSeg d.segments (k)), (markI (k + ↑(cntL cSeg d.segments)).toNat d.main.length), (markB (k + ↑(cntL cSeg d.segments) + ↑d.main.length).toNat d.quiet.length)⟩

set_option maxHeartbeats 4000000 in
theorem laws_markBytecode (S : Nat -> Prop) (d : CodeD) (cs : List Value) (k : Int) (w : World) (h : BytecodeO S w cs d) (hS : ¬ S w.heap.size) (h0 : 0 < k) (h1 : k + cCode d <= 4611686018427387904) :
  Calls Tryz.prog 15 #[.agg cs.toArray, .int .i64 k] w (RetMark S w (k + cCode d) fun w' => BytecodeO S w' cs (markCodeD d k)) := by
 obtain ⟨A0, c0, A1, c1, A2, c2, f, rfl, o0, o1, o2⟩ := h
 have HS := Lib.hid hS
 have hk1 : k + ↑(cntL cSeg d.segments) + ↑d.main.length + ↑d.quiet.length <= 4611686018427387904 := by unfold cCode at h1; omega
 have HKT := Lib.hid (show ((k + (cCode d : Nat) : Int)) = k + ↑(cntL cSeg d.segments) + ↑d.main.length + ↑d.quiet.length by unfold cCode; omega)
 have O0_0 := Lib.hid o0
 have O1_0 := Lib.hid o1
 have O2_0 := Lib.hid o2
 have HK0 := Lib.hid (Keeps.of_below (fun b => ¬ S b) ((Below.refl w.heap.size w).alloc (Nat.le_refl _) (.cells [.slice A0 d.segments.length c0, .slice A1 d.main.length c1, .slice A2 d.quiet.length c2].toArray 31)))
 have HB0 := Lib.hid (Blk.new w 31 [.slice A0 d.segments.length c0, .slice A1 d.main.length c1, .slice A2 d.quiet.length c2])
 clear o0 o1 o2 hS h1
 go_enter Tryz.func15, Tryz.ntmps15
 go_upto_region 1 with fail
 refine gen_w (G := fun W => Blk W w.heap.size 31 [.slice A0 d.segments.length c0, .slice A1 d.main.length c1, .slice A2 d.quiet.length c2] /\ Keeps (fun b => ¬ S b) w W /\ Below 0 w W /\ SegmentsO (fun b => S b /\ f b = 0) W (.slice A0 d.segments.length c0) d.segments /\ IntO (fun b => S b /\ f b = 1) W (.slice A1 d.main.length c1) d.main /\ BoolO (fun b => S b /\ f b = 2) W (.slice A2 d.quiet.length c2) d.quiet) (show Ok _ _ from ⟨HB0.out, HK0.out, (Below.refl 0 w).alloc (Nat.zero_le _) _, SegmentsO.keeps O0_0.out (Keeps.of_below _ ((Below.refl w.heap.size w).alloc (Nat.le_refl _) _)), IntO.keeps O1_0.out (Keeps.of_below _ ((Below.refl w.heap.size w).alloc (Nat.le_refl _) _)), BoolO.keeps O2_0.out (Keeps.of_below _ ((Below.refl w.heap.size w).alloc (Nat.le_refl _) _))⟩) ?_
 clear HB0 HK0 O0_0 O1_0 O2_0
 rintro W1 ⟨hq0, hq1, hq2, ho0, ho1, ho2⟩
 have HB1 := Lib.hid hq0
 have HK1 := Lib.hid hq1
 have HZ1 := Lib.hid hq2
 have O0_1 := Lib.hid ho0
 have O1_1 := Lib.hid ho1
 have O2_1 := Lib.hid ho2
 clear hq0 hq1 hq2 ho0 ho1 ho2
 have y0 := HB1.out.cell 0 _ rfl
 have hkc : 0 < k := by omega
 have hkb : k <= 4611686018427387904 := by omega
 go_wp2_with fail
 have hh := laws_markSegmentS (fun b => S b /\ f b = 0) d.segments _ (k) _ O0_1.out (by omega) (by omega)
 refine Calls.mono hh ?_
 clear hh y0 hkc hkb
 rintro e w2 ⟨rfl, ho, hk, hz⟩
 have HB2 := Lib.hid (HB1.out.keeps hk (fun hq => HS.out hq.1))
 have HZ2 := Lib.hid (HZ1.out.trans hz)
 have HK2 := Lib.hid (HK1.out.trans (hk.mono fun b hb hq => hb hq.1))
 have O0_2 := Lib.hid ho
 have O1_2 := Lib.hid (IntO.keeps O1_1.out (hk.mono fun b hb hq => by have h5 := hb.2; have h6 := hq.2; omega))
 have O2_2 := Lib.hid (BoolO.keeps O2_1.out (hk.mono fun b hb hq => by have h5 := hb.2; have h6 := hq.2; omega))
 clear ho hk hz
 have y1 := HB2.out.cell 1 _ rfl
 have hkc : 0 < k + ↑(cntL cSeg d.segments) := by omega
 have hkb : k + ↑(cntL cSeg d.segments) <= 4611686018427387904 := by omega
 go_wp2_with fail
 have hh := laws_markInts (fun b => S b /\ f b = 1) d.main _ (k + ↑(cntL cSeg d.segments)) _ O1_2.out (by omega) (by omega)
 refine Calls.mono hh ?_
 clear hh y1 hkc hkb
 rintro e w3 ⟨rfl, ho, hk, hz⟩
 have HB3 := Lib.hid (HB2.out.keeps hk (fun hq => HS.out hq.1))
 have HZ3 := Lib.hid (HZ2.out.trans hz)
 have HK3 := Lib.hid (HK2.out.trans (hk.mono fun b hb hq => hb hq.1))
 have O0_3 := Lib.hid (SegmentsO.keeps O0_2.out (hk.mono fun b hb hq => by have h5 := hb.2; have h6 := hq.2; omega))
 have O1_3 := Lib.hid ho
 have O2_3 := Lib.hid (BoolO.keeps O2_2.out (hk.mono fun b hb hq => by have h5 := hb.2; have h6 := hq.2; omega))
 clear ho hk hz
 have y2 := HB3.out.cell 2 _ rfl
 have hkc : 0 < k + ↑(cntL cSeg d.segments) + ↑d.main.length := by omega
 have hkb : k + ↑(cntL cSeg d.segments) + ↑d.main.length <= 4611686018427387904 := by omega
 go_wp2_with fail
 have hh := laws_markBools (fun b => S b /\ f b = 2) d.quiet _ (k + ↑(cntL cSeg d.segments) + ↑d.main.length) _ O2_3.out (by omega) (by omega)
 refine Calls.mono hh ?_
 clear hh y2 hkc hkb
 rintro e w4 ⟨rfl, ho, hk, hz⟩
 have HB4 := Lib.hid (HB3.out.keeps hk (fun hq => HS.out hq.1))
 have HZ4 := Lib.hid (HZ3.out.trans hz)
 have HK4 := Lib.hid (HK3.out.trans (hk.mono fun b hb hq => hb hq.1))
 have O0_4 := Lib.hid (SegmentsO.keeps O0_3.out (hk.mono fun b hb hq => by have h5 := hb.2; have h6 := hq.2; omega))
 have O1_4 := Lib.hid (IntO.keeps O1_3.out (hk.mono fun b hb hq => by have h5 := hb.2; have h6 := hq.2; omega))
 have O2_4 := Lib.hid ho
 clear ho hk hz
 go_wp2_with fail
 go_ret
 refine ⟨ret_int (by rw [HKT.out]), ⟨A0, c0, A1, c1, A2, c2, f, ?_, ?_, ?_, ?_⟩, HK4.out, HZ4.out⟩
 ·simp only [markCodeD, mkL_length, markI_length, markB_length]
 ·have hO := O0_4.out
  unfold SegmentsO at hO ⊢
  simpa only [markCodeD, mkL_length] using hO
 ·simpa only [markCodeD, markI_length] using O1_4.out
 ·simpa only [markCodeD, markB_length] using O2_4.out
end Go.Proofs.YtjdfancbmjnjfaaGreat
