/-
  Marking stores; how many marks a store takes.
-/
import Derived.Test.YtejieacdfjpfnaaGreatMarkBase
import Derived.Test.YtejieacdfjpfnaaGreatMarkInt
import Derived.Test.YtejieacdfjpfnaaGreatGSlot
import Derived.Test.YtejieacdfjpfnaaGreatGEnv
import Derived.Test.YtejieacdfjpfnaaGreatGPromise
import Derived.Test.YtejieacdfjpfnaaGreatGStore
import Derived.Deep.DeepCutAuto
namespace Go.Proofs.YtejieacdfjpfnaaGreat
set_option maxRecDepth 100000
open Go.ChangeShapes Go.WideShapes Go.ChangeAt Go.RowKit Go.Deep
set_option linter.unusedVariables false
set_option maxRecDepth 100000

def cSlot (d : SlotD) : Nat := 2 + cVec d.value + d.promises.length + d.labels.length
def mkSlot (d : SlotD) (k : Int) : SlotD := ⟨k, mkVec d.value (k + 1), k + 1 + 1 + ↑(cntL cItem d.value.items) + ↑(cntL cVec d.value.parts) + ↑d.value.names.length + ↑d.value.cls.length + ↑d.value.levels.length + 1 + 1, markI (k + 1 + 1 + ↑(cntL cItem d.value.items) + ↑(cntL cVec d.value.parts) + ↑d.value.names.length + ↑d.value.cls.length + ↑d.value.levels.length + 1 + 1 + 1).toNat d.promises.length, markL (k + 1 + 1 + ↑(cntL cItem d.value.items) + ↑(cntL cVec d.value.parts) + ↑d.value.names.length + ↑d.value.cls.length + ↑d.value.levels.length + 1 + 1 + 1 + ↑d.promises.length).toNat d.labels.length⟩
theorem cSlot_eq (d : SlotD) : cSlot d = 5 + cntL cItem d.value.items + cntL cVec d.value.parts + d.value.names.length + d.value.cls.length + d.value.levels.length + d.promises.length + d.labels.length := by
  unfold cSlot
  rw [cVec_eq]
  omega

set_option maxHeartbeats 8000000 in
theorem laws_markSlotS (S : Nat → Prop) (l : List SlotD) (v : Value) (k : Int) (w : World) (h : SlO S w 96 12 SlotO v l) (h0 : 0 < k) (h1 : k + cntL cSlot l ≤ 4611686018427387904) :
    Calls Tryz.prog 106 #[v, .int .i64 k] w (RetMark S w (k + cntL cSlot l) fun w' => SlO S w' 96 12 SlotO v (mkL mkSlot cSlot l k)) := by
  rcases SlO.mid h with ⟨rfl, rfl⟩ | ⟨g, cap, f, post, ys, rfl, hn, hc, hp, hM⟩
  · go_enter Tryz.func106, Tryz.ntmps106
    go_wp2_with fail
    go_loop [1, 5] (fun x i => i = .int .i64 0 ∧ x = .int .i64 k) (fun _ i => 0)
    case atStart => exact ⟨rfl, rfl⟩
    case round =>
      obtain ⟨rfl, rfl⟩ := hrel
      go_wp2_with fail
      go_ret
      exact ⟨ret_int (by simp [cntL]), SlO.nil_ _ _ _ _ _, Keeps.refl _ _, Below.refl _ _⟩
  · have HC := Lib.hid hc
    unfold maxLen at hc
    have HM := Lib.hid hM
    have HP := Lib.hid hp
    clear h hM hp
    go_enter Tryz.func106, Tryz.ntmps106
    go_wp2_with fail
    go_loopw [1, 5] (fun x i wr => ∃ (j : Nat) (y : List (List Value)), j ≤ l.length ∧ i = .int .i64 j ∧ x = .int .i64 (k + (cntL cSlot (l.take j) : Int)) ∧ Hid (MidO S f wr 96 12 SlotO g post y (part mkSlot cSlot l k j)) ∧ Hid (Keeps (fun b => ¬ S b) w wr) ∧ Hid (Below 0 w wr)) (fun _ i _ => l.length - (intOf i).toNat)
    case atStart => exact ⟨0, ys, Nat.zero_le _, rfl, by simp [cntL], by rw [part_zero]; exact HM.out, Keeps.refl _ _, Below.refl _ _⟩
    case round =>
      obtain ⟨j, y, hj, rfl, rfl, HMj, HK, HZ⟩ := hrel
      by_cases hlt : j < l.length
      · have hcn : (cntL cSlot (l.take j) : Int) + cSlot l[j] ≤ cntL cSlot l := by have := cntL_at cSlot l j hlt; omega
        have HKJ := Lib.hid (show k + (cntL cSlot (l.take (j + 1)) : Int) = k + (cntL cSlot (l.take j) : Int) + cSlot l[j] by rw [cntL_take _ _ _ hlt]; omega)
        have HPS := Lib.hid (part_set mkSlot cSlot l k j hlt)
        have HCT := Lib.hid (cSlot_eq l[j])
        have hkj0 : 0 < k + (cntL cSlot (l.take j) : Int) := by omega
        have hkj1 : k + (cntL cSlot (l.take j) : Int) + cSlot l[j] ≤ 4611686018427387904 := by omega
        have HK1 := Lib.hid hkj1
        clear hcn hkj1
        generalize k + (cntL cSlot (l.take j) : Int) = kj at *
        obtain ⟨hy, pre, rest, hpre, hb, hset, hro⟩ := HMj.out.at_ j (by rw [part_length]; exact hlt)
        rw [part_at _ _ _ _ _ hlt] at hro
        obtain ⟨A11, c11, A12, c12, A13, c13, A14, c14, A15, c15, A3, c3, A4, c4, f1, hcs, i0, oV, i2, op, oa⟩ := hro
        obtain ⟨n0, oV⟩ := oV
        obtain ⟨m, rfl⟩ : ∃ m, n0 = m + 1 := by
          cases n0 with
          | zero => exact oV.elim
          | succ m => exact ⟨m, rfl⟩
        obtain ⟨B1, b1, B2, b2, B3, b3, B4, b4, B5, b5, f2, hcs2, v0, ob, oc, od, oe, og, v6, v7⟩ := oV
        simp only [List.cons.injEq, Value.slice.injEq, and_true, true_and] at hcs2
        obtain ⟨⟨r1, r2⟩, ⟨r3, r4⟩, ⟨r5, r6⟩, ⟨r7, r8⟩, r9, r10⟩ := hcs2
        subst B1 b1 B2 b2 B3 b3 B4 b4 B5 b5
        have Ob_0 := Lib.hid ob
        have Oc_0 := Lib.hid (show VectorsO m _ wr _ _ from oc)
        have Od_0 := Lib.hid od
        have Oe_0 := Lib.hid oe
        have Og_0 := Lib.hid og
        clear ob oc od oe og
        have Op_0 := Lib.hid op
        have Oa_0 := Lib.hid oa
        clear op oa
        rw [hcs] at hb
        clear hcs
        have HSET := Lib.hid hset
        have HPRE := Lib.hid hpre
        have hgl : g < wr.heap.size := hb.lt
        have HG0 := Lib.hid HM.out.own
        have HB0 := Lib.hid hb
        have HKW0 := Lib.hid (Keeps.refl (fun b => b ≠ g ∧ ¬ (S b ∧ f b = j + 1)) wr)
        have HZ0 := Lib.hid (Below.refl 0 wr)
        clear hb hset hpre
        have y0 : wr.cell? ⟨g, j * 12, none⟩ = some (.int .i64 l[j].kind) := by simpa using HB0.out.mid HPRE.out 0 _ rfl
        have z0 := HB0.out.frozen (j * 12)
        have y1 := HB0.out.mid HPRE.out 1 _ rfl
        have z1 := HB0.out.frozen (j * 12 + 1)
        have y2 := HB0.out.mid HPRE.out 2 _ rfl
        have z2 := HB0.out.frozen (j * 12 + 2)
        have hkb : kj + 5 ≤ 4611686018427387904 := by have := HCT.out; have := HK1.out; omega
        have hkc : 0 < kj := by omega
        go_wp2_with fail
        refine abs_w (fun W => Blk W g 96 (pre ++ [.int .i64 (kj), .int .i64 (kj + 1), .slice A11 l[j].value.items.length c11, .slice A12 l[j].value.parts.length c12, .slice A13 l[j].value.names.length c13, .slice A14 l[j].value.cls.length c14, .slice A15 l[j].value.levels.length c15, .int .i64 l[j].value.code, .int .i64 l[j].value.env, .int .i64 l[j].promise, .slice A3 l[j].promises.length c3, .slice A4 l[j].labels.length c4] ++ rest) ∧ Keeps (fun b => b ≠ g ∧ ¬ (S b ∧ f b = j + 1)) wr W ∧ Below 0 wr W ∧ ItemsO (fun b => ((S b ∧ f b = j + 1) ∧ f1 b = 1) ∧ f2 b = 1) W (.slice A11 l[j].value.items.length c11) l[j].value.items ∧ VectorsO m (fun b => ((S b ∧ f b = j + 1) ∧ f1 b = 1) ∧ f2 b = 2) W (.slice A12 l[j].value.parts.length c12) l[j].value.parts ∧ TxtO (fun b => ((S b ∧ f b = j + 1) ∧ f1 b = 1) ∧ f2 b = 3) W (.slice A13 l[j].value.names.length c13) l[j].value.names ∧ TxtO (fun b => ((S b ∧ f b = j + 1) ∧ f1 b = 1) ∧ f2 b = 4) W (.slice A14 l[j].value.cls.length c14) l[j].value.cls ∧ TxtO (fun b => ((S b ∧ f b = j + 1) ∧ f1 b = 1) ∧ f2 b = 5) W (.slice A15 l[j].value.levels.length c15) l[j].value.levels ∧ IntO (fun b => (S b ∧ f b = j + 1) ∧ f1 b = 3) W (.slice A3 l[j].promises.length c3) l[j].promises ∧ TxtO (fun b => (S b ∧ f b = j + 1) ∧ f1 b = 4) W (.slice A4 l[j].labels.length c4) l[j].labels) ⟨?_, ?_, ?_, ?_, ?_, ?_, ?_, ?_, ?_, ?_⟩ ?_
        · simpa using ((HB0.out.mid_set HPRE.out 0 (.int .i64 (kj)) (by simp)).mid_set HPRE.out 1 (.int .i64 (kj + 1)) (by simp))
        · exact Keeps.sc (b := g) (o := j * 12 + 1) (Keeps.sc (b := g) (o := j * 12) (HKW0.out) (by simp) (.int .i64 (kj))) (by simp) (.int .i64 (kj + 1))
        · exact below_sc (b := g) (o := j * 12 + 1) (below_sc (b := g) (o := j * 12) (HZ0.out) (Nat.zero_le _) (.int .i64 (kj))) (Nat.zero_le _) (.int .i64 (kj + 1))
        · exact ItemsO.keeps Ob_0.out (Keeps.sc (b := g) (o := j * 12 + 1) (Keeps.sc (b := g) (o := j * 12) (Keeps.refl _ wr) (fun hq => by have h5 := HG0.out.2; have h6 := hq.1; omega) (.int .i64 (kj))) (fun hq => by have h5 := HG0.out.2; have h6 := hq.1; omega) (.int .i64 (kj + 1)))
        · exact VectorsO.keeps Oc_0.out (Keeps.sc (b := g) (o := j * 12 + 1) (Keeps.sc (b := g) (o := j * 12) (Keeps.refl _ wr) (fun hq => by have h5 := HG0.out.2; have h6 := hq.1; omega) (.int .i64 (kj))) (fun hq => by have h5 := HG0.out.2; have h6 := hq.1; omega) (.int .i64 (kj + 1)))
        · exact TxtO.keeps Od_0.out (Keeps.sc (b := g) (o := j * 12 + 1) (Keeps.sc (b := g) (o := j * 12) (Keeps.refl _ wr) (fun hq => by have h5 := HG0.out.2; have h6 := hq.1; omega) (.int .i64 (kj))) (fun hq => by have h5 := HG0.out.2; have h6 := hq.1; omega) (.int .i64 (kj + 1)))
        · exact TxtO.keeps Oe_0.out (Keeps.sc (b := g) (o := j * 12 + 1) (Keeps.sc (b := g) (o := j * 12) (Keeps.refl _ wr) (fun hq => by have h5 := HG0.out.2; have h6 := hq.1; omega) (.int .i64 (kj))) (fun hq => by have h5 := HG0.out.2; have h6 := hq.1; omega) (.int .i64 (kj + 1)))
        · exact TxtO.keeps Og_0.out (Keeps.sc (b := g) (o := j * 12 + 1) (Keeps.sc (b := g) (o := j * 12) (Keeps.refl _ wr) (fun hq => by have h5 := HG0.out.2; have h6 := hq.1; omega) (.int .i64 (kj))) (fun hq => by have h5 := HG0.out.2; have h6 := hq.1; omega) (.int .i64 (kj + 1)))
        · exact IntO.keeps Op_0.out (Keeps.sc (b := g) (o := j * 12 + 1) (Keeps.sc (b := g) (o := j * 12) (Keeps.refl _ wr) (fun hq => by have h5 := HG0.out.2; have h6 := hq.1; omega) (.int .i64 (kj))) (fun hq => by have h5 := HG0.out.2; have h6 := hq.1; omega) (.int .i64 (kj + 1)))
        · exact TxtO.keeps Oa_0.out (Keeps.sc (b := g) (o := j * 12 + 1) (Keeps.sc (b := g) (o := j * 12) (Keeps.refl _ wr) (fun hq => by have h5 := HG0.out.2; have h6 := hq.1; omega) (.int .i64 (kj))) (fun hq => by have h5 := HG0.out.2; have h6 := hq.1; omega) (.int .i64 (kj + 1)))
        clear y0 z0 y1 z1 y2 z2 hkb hkc
        rintro W1 ⟨hq0, hq1, hq2, hob, hoc, hod, hoe, hog, hop, hoa⟩
        have HB1 := Lib.hid hq0
        have HKW1 := Lib.hid hq1
        have HZ1 := Lib.hid hq2
        have Ob_1 := Lib.hid hob
        have Oc_1 := Lib.hid hoc
        have Od_1 := Lib.hid hod
        have Oe_1 := Lib.hid hoe
        have Og_1 := Lib.hid hog
        have Op_1 := Lib.hid hop
        have Oa_1 := Lib.hid hoa
        clear hq0 hq1 hq2 hob hoc hod hoe hog hop hoa
        have hh := laws_markItemS (fun b => ((S b ∧ f b = j + 1) ∧ f1 b = 1) ∧ f2 b = 1) l[j].value.items _ (kj + 1 + 1) _ Ob_1.out (by omega) (by have := HCT.out; have := HK1.out; omega)
        refine Calls.mono hh ?_
        clear hh
        rintro e w2 ⟨rfl, ho, hk, hz⟩
        have HB2 := Lib.hid (HB1.out.keeps hk (fun hq => by have h5 := HG0.out.2; have h6 := hq.1; omega))
        have HKW2 := Lib.hid (HKW1.out.trans (hk.mono fun b hb hq => hb.2 hq.1.1))
        have HZ2 := Lib.hid (HZ1.out.trans hz)
        have Ob_2 := Lib.hid ho
        have Oc_2 := Lib.hid (VectorsO.keeps Oc_1.out (hk.mono fun b hb hq => by have h5 := hb.1; have h6 := hb.2; have h7 := hq.1; have h8 := hq.2; omega))
        have Od_2 := Lib.hid (TxtO.keeps Od_1.out (hk.mono fun b hb hq => by have h5 := hb.1; have h6 := hb.2; have h7 := hq.1; have h8 := hq.2; omega))
        have Oe_2 := Lib.hid (TxtO.keeps Oe_1.out (hk.mono fun b hb hq => by have h5 := hb.1; have h6 := hb.2; have h7 := hq.1; have h8 := hq.2; omega))
        have Og_2 := Lib.hid (TxtO.keeps Og_1.out (hk.mono fun b hb hq => by have h5 := hb.1; have h6 := hb.2; have h7 := hq.1; have h8 := hq.2; omega))
        have Op_2 := Lib.hid (IntO.keeps Op_1.out (hk.mono fun b hb hq => by have h5 := hb.1; have h6 := hb.2; have h7 := hq.1; have h8 := hq.2; omega))
        have Oa_2 := Lib.hid (TxtO.keeps Oa_1.out (hk.mono fun b hb hq => by have h5 := hb.1; have h6 := hb.2; have h7 := hq.1; have h8 := hq.2; omega))
        clear ho hk hz 
        obtain ⟨kq2, hq2⟩ : ∃ x : Int, x = kj + 1 + 1 + ↑(cntL cItem l[j].value.items) := ⟨_, rfl⟩
        rw [← hq2]
        have HQ2 := Lib.hid hq2
        clear hq2
        have y3 := HB2.out.mid HPRE.out 3 _ rfl
        have z3 := HB2.out.frozen (j * 12 + 3)
        have hkb : kq2 + 3 ≤ 4611686018427387904 := by have := HQ2.out; have := HCT.out; have := HK1.out; omega
        have hkc : 0 < kq2 := by have := HQ2.out; omega
        go_wp2_with fail
        have hh := markVec_all m (fun b => ((S b ∧ f b = j + 1) ∧ f1 b = 1) ∧ f2 b = 2) l[j].value.parts _ (kq2) _ Oc_2.out (by have := HQ2.out; omega) (by have := HQ2.out; have := HCT.out; have := HK1.out; omega)
        refine Calls.mono hh ?_
        clear hh
        rintro e w3 ⟨rfl, ho, hk, hz⟩
        have HB3 := Lib.hid (HB2.out.keeps hk (fun hq => by have h5 := HG0.out.2; have h6 := hq.1; omega))
        have HKW3 := Lib.hid (HKW2.out.trans (hk.mono fun b hb hq => hb.2 hq.1.1))
        have HZ3 := Lib.hid (HZ2.out.trans hz)
        have Ob_3 := Lib.hid (ItemsO.keeps Ob_2.out (hk.mono fun b hb hq => by have h5 := hb.1; have h6 := hb.2; have h7 := hq.1; have h8 := hq.2; omega))
        have Oc_3 := Lib.hid ho
        have Od_3 := Lib.hid (TxtO.keeps Od_2.out (hk.mono fun b hb hq => by have h5 := hb.1; have h6 := hb.2; have h7 := hq.1; have h8 := hq.2; omega))
        have Oe_3 := Lib.hid (TxtO.keeps Oe_2.out (hk.mono fun b hb hq => by have h5 := hb.1; have h6 := hb.2; have h7 := hq.1; have h8 := hq.2; omega))
        have Og_3 := Lib.hid (TxtO.keeps Og_2.out (hk.mono fun b hb hq => by have h5 := hb.1; have h6 := hb.2; have h7 := hq.1; have h8 := hq.2; omega))
        have Op_3 := Lib.hid (IntO.keeps Op_2.out (hk.mono fun b hb hq => by have h5 := hb.1; have h6 := hb.2; have h7 := hq.1; have h8 := hq.2; omega))
        have Oa_3 := Lib.hid (TxtO.keeps Oa_2.out (hk.mono fun b hb hq => by have h5 := hb.1; have h6 := hb.2; have h7 := hq.1; have h8 := hq.2; omega))
        clear ho hk hz y3 z3 hkb hkc
        obtain ⟨kq3, hq3⟩ : ∃ x : Int, x = kq2 + ↑(cntL cVec l[j].value.parts) := ⟨_, rfl⟩
        rw [← hq3]
        have HQ3 := Lib.hid hq3
        clear hq3
        have y4 := HB3.out.mid HPRE.out 4 _ rfl
        have z4 := HB3.out.frozen (j * 12 + 4)
        have hkb : kq3 + 3 ≤ 4611686018427387904 := by have := HQ2.out; have := HQ3.out; have := HCT.out; have := HK1.out; omega
        have hkc : 0 < kq3 := by have := HQ2.out; have := HQ3.out; omega
        go_wp2_with fail
        have hh := laws_markTxt (fun b => ((S b ∧ f b = j + 1) ∧ f1 b = 1) ∧ f2 b = 3) l[j].value.names _ (kq3) _ Od_3.out (by have := HQ2.out; have := HQ3.out; omega) (by have := HQ2.out; have := HQ3.out; have := HCT.out; have := HK1.out; omega)
        refine Calls.mono hh ?_
        clear hh
        rintro e w4 ⟨rfl, ho, hk, hz⟩
        have HB4 := Lib.hid (HB3.out.keeps hk (fun hq => by have h5 := HG0.out.2; have h6 := hq.1; omega))
        have HKW4 := Lib.hid (HKW3.out.trans (hk.mono fun b hb hq => hb.2 hq.1.1))
        have HZ4 := Lib.hid (HZ3.out.trans hz)
        have Ob_4 := Lib.hid (ItemsO.keeps Ob_3.out (hk.mono fun b hb hq => by have h5 := hb.1; have h6 := hb.2; have h7 := hq.1; have h8 := hq.2; omega))
        have Oc_4 := Lib.hid (VectorsO.keeps Oc_3.out (hk.mono fun b hb hq => by have h5 := hb.1; have h6 := hb.2; have h7 := hq.1; have h8 := hq.2; omega))
        have Od_4 := Lib.hid ho
        have Oe_4 := Lib.hid (TxtO.keeps Oe_3.out (hk.mono fun b hb hq => by have h5 := hb.1; have h6 := hb.2; have h7 := hq.1; have h8 := hq.2; omega))
        have Og_4 := Lib.hid (TxtO.keeps Og_3.out (hk.mono fun b hb hq => by have h5 := hb.1; have h6 := hb.2; have h7 := hq.1; have h8 := hq.2; omega))
        have Op_4 := Lib.hid (IntO.keeps Op_3.out (hk.mono fun b hb hq => by have h5 := hb.1; have h6 := hb.2; have h7 := hq.1; have h8 := hq.2; omega))
        have Oa_4 := Lib.hid (TxtO.keeps Oa_3.out (hk.mono fun b hb hq => by have h5 := hb.1; have h6 := hb.2; have h7 := hq.1; have h8 := hq.2; omega))
        clear ho hk hz y4 z4 hkb hkc
        obtain ⟨kq4, hq4⟩ : ∃ x : Int, x = kq3 + ↑l[j].value.names.length := ⟨_, rfl⟩
        rw [← hq4]
        have HQ4 := Lib.hid hq4
        clear hq4
        have y5 := HB4.out.mid HPRE.out 5 _ rfl
        have z5 := HB4.out.frozen (j * 12 + 5)
        have hkb : kq4 + 3 ≤ 4611686018427387904 := by have := HQ2.out; have := HQ3.out; have := HQ4.out; have := HCT.out; have := HK1.out; omega
        have hkc : 0 < kq4 := by have := HQ2.out; have := HQ3.out; have := HQ4.out; omega
        go_wp2_with fail
        have hh := laws_markTxt (fun b => ((S b ∧ f b = j + 1) ∧ f1 b = 1) ∧ f2 b = 4) l[j].value.cls _ (kq4) _ Oe_4.out (by have := HQ2.out; have := HQ3.out; have := HQ4.out; omega) (by have := HQ2.out; have := HQ3.out; have := HQ4.out; have := HCT.out; have := HK1.out; omega)
        refine Calls.mono hh ?_
        clear hh
        rintro e w5 ⟨rfl, ho, hk, hz⟩
        have HB5 := Lib.hid (HB4.out.keeps hk (fun hq => by have h5 := HG0.out.2; have h6 := hq.1; omega))
        have HKW5 := Lib.hid (HKW4.out.trans (hk.mono fun b hb hq => hb.2 hq.1.1))
        have HZ5 := Lib.hid (HZ4.out.trans hz)
        have Ob_5 := Lib.hid (ItemsO.keeps Ob_4.out (hk.mono fun b hb hq => by have h5 := hb.1; have h6 := hb.2; have h7 := hq.1; have h8 := hq.2; omega))
        have Oc_5 := Lib.hid (VectorsO.keeps Oc_4.out (hk.mono fun b hb hq => by have h5 := hb.1; have h6 := hb.2; have h7 := hq.1; have h8 := hq.2; omega))
        have Od_5 := Lib.hid (TxtO.keeps Od_4.out (hk.mono fun b hb hq => by have h5 := hb.1; have h6 := hb.2; have h7 := hq.1; have h8 := hq.2; omega))
        have Oe_5 := Lib.hid ho
        have Og_5 := Lib.hid (TxtO.keeps Og_4.out (hk.mono fun b hb hq => by have h5 := hb.1; have h6 := hb.2; have h7 := hq.1; have h8 := hq.2; omega))
        have Op_5 := Lib.hid (IntO.keeps Op_4.out (hk.mono fun b hb hq => by have h5 := hb.1; have h6 := hb.2; have h7 := hq.1; have h8 := hq.2; omega))
        have Oa_5 := Lib.hid (TxtO.keeps Oa_4.out (hk.mono fun b hb hq => by have h5 := hb.1; have h6 := hb.2; have h7 := hq.1; have h8 := hq.2; omega))
        clear ho hk hz y5 z5 hkb hkc
        obtain ⟨kq5, hq5⟩ : ∃ x : Int, x = kq4 + ↑l[j].value.cls.length := ⟨_, rfl⟩
        rw [← hq5]
        have HQ5 := Lib.hid hq5
        clear hq5
        have y6 := HB5.out.mid HPRE.out 6 _ rfl
        have z6 := HB5.out.frozen (j * 12 + 6)
        have hkb : kq5 + 3 ≤ 4611686018427387904 := by have := HQ2.out; have := HQ3.out; have := HQ4.out; have := HQ5.out; have := HCT.out; have := HK1.out; omega
        have hkc : 0 < kq5 := by have := HQ2.out; have := HQ3.out; have := HQ4.out; have := HQ5.out; omega
        go_wp2_with fail
        have hh := laws_markTxt (fun b => ((S b ∧ f b = j + 1) ∧ f1 b = 1) ∧ f2 b = 5) l[j].value.levels _ (kq5) _ Og_5.out (by have := HQ2.out; have := HQ3.out; have := HQ4.out; have := HQ5.out; omega) (by have := HQ2.out; have := HQ3.out; have := HQ4.out; have := HQ5.out; have := HCT.out; have := HK1.out; omega)
        refine Calls.mono hh ?_
        clear hh
        rintro e w6 ⟨rfl, ho, hk, hz⟩
        have HB6 := Lib.hid (HB5.out.keeps hk (fun hq => by have h5 := HG0.out.2; have h6 := hq.1; omega))
        have HKW6 := Lib.hid (HKW5.out.trans (hk.mono fun b hb hq => hb.2 hq.1.1))
        have HZ6 := Lib.hid (HZ5.out.trans hz)
        have Ob_6 := Lib.hid (ItemsO.keeps Ob_5.out (hk.mono fun b hb hq => by have h5 := hb.1; have h6 := hb.2; have h7 := hq.1; have h8 := hq.2; omega))
        have Oc_6 := Lib.hid (VectorsO.keeps Oc_5.out (hk.mono fun b hb hq => by have h5 := hb.1; have h6 := hb.2; have h7 := hq.1; have h8 := hq.2; omega))
        have Od_6 := Lib.hid (TxtO.keeps Od_5.out (hk.mono fun b hb hq => by have h5 := hb.1; have h6 := hb.2; have h7 := hq.1; have h8 := hq.2; omega))
        have Oe_6 := Lib.hid (TxtO.keeps Oe_5.out (hk.mono fun b hb hq => by have h5 := hb.1; have h6 := hb.2; have h7 := hq.1; have h8 := hq.2; omega))
        have Og_6 := Lib.hid ho
        have Op_6 := Lib.hid (IntO.keeps Op_5.out (hk.mono fun b hb hq => by have h5 := hb.1; have h6 := hb.2; have h7 := hq.1; have h8 := hq.2; omega))
        have Oa_6 := Lib.hid (TxtO.keeps Oa_5.out (hk.mono fun b hb hq => by have h5 := hb.1; have h6 := hb.2; have h7 := hq.1; have h8 := hq.2; omega))
        clear ho hk hz y6 z6 hkb hkc
        obtain ⟨kq6, hq6⟩ : ∃ x : Int, x = kq5 + ↑l[j].value.levels.length := ⟨_, rfl⟩
        rw [← hq6]
        have HQ6 := Lib.hid hq6
        clear hq6
        have y7 := HB6.out.mid HPRE.out 7 _ rfl
        have z7 := HB6.out.frozen (j * 12 + 7)
        have y8 := HB6.out.mid HPRE.out 8 _ rfl
        have z8 := HB6.out.frozen (j * 12 + 8)
        have y9 := HB6.out.mid HPRE.out 9 _ rfl
        have z9 := HB6.out.frozen (j * 12 + 9)
        have y10 := HB6.out.mid HPRE.out 10 _ rfl
        have z10 := HB6.out.frozen (j * 12 + 10)
        have hkb : kq6 + 3 ≤ 4611686018427387904 := by have := HQ2.out; have := HQ3.out; have := HQ4.out; have := HQ5.out; have := HQ6.out; have := HCT.out; have := HK1.out; omega
        have hkc : 0 < kq6 := by have := HQ2.out; have := HQ3.out; have := HQ4.out; have := HQ5.out; have := HQ6.out; omega
        go_wp2_with fail
        refine abs_w (fun W => Blk W g 96 (pre ++ [.int .i64 (kj), .int .i64 (kj + 1), .slice A11 l[j].value.items.length c11, .slice A12 l[j].value.parts.length c12, .slice A13 l[j].value.names.length c13, .slice A14 l[j].value.cls.length c14, .slice A15 l[j].value.levels.length c15, .int .i64 (kq6), .int .i64 (kq6 + 1), .int .i64 (kq6 + 1 + 1), .slice A3 l[j].promises.length c3, .slice A4 l[j].labels.length c4] ++ rest) ∧ Keeps (fun b => b ≠ g ∧ ¬ (S b ∧ f b = j + 1)) wr W ∧ Below 0 wr W ∧ ItemsO (fun b => ((S b ∧ f b = j + 1) ∧ f1 b = 1) ∧ f2 b = 1) W (.slice A11 l[j].value.items.length c11) (mkL mkItem cItem l[j].value.items (kj + 1 + 1)) ∧ VectorsO m (fun b => ((S b ∧ f b = j + 1) ∧ f1 b = 1) ∧ f2 b = 2) W (.slice A12 l[j].value.parts.length c12) (mkL mkVec cVec l[j].value.parts (kq2)) ∧ TxtO (fun b => ((S b ∧ f b = j + 1) ∧ f1 b = 1) ∧ f2 b = 3) W (.slice A13 l[j].value.names.length c13) (markL (kq3).toNat l[j].value.names.length) ∧ TxtO (fun b => ((S b ∧ f b = j + 1) ∧ f1 b = 1) ∧ f2 b = 4) W (.slice A14 l[j].value.cls.length c14) (markL (kq4).toNat l[j].value.cls.length) ∧ TxtO (fun b => ((S b ∧ f b = j + 1) ∧ f1 b = 1) ∧ f2 b = 5) W (.slice A15 l[j].value.levels.length c15) (markL (kq5).toNat l[j].value.levels.length) ∧ IntO (fun b => (S b ∧ f b = j + 1) ∧ f1 b = 3) W (.slice A3 l[j].promises.length c3) l[j].promises ∧ TxtO (fun b => (S b ∧ f b = j + 1) ∧ f1 b = 4) W (.slice A4 l[j].labels.length c4) l[j].labels) ⟨?_, ?_, ?_, ?_, ?_, ?_, ?_, ?_, ?_, ?_⟩ ?_
        · simpa using (((HB6.out.mid_set HPRE.out 7 (.int .i64 (kq6)) (by simp)).mid_set HPRE.out 8 (.int .i64 (kq6 + 1)) (by simp)).mid_set HPRE.out 9 (.int .i64 (kq6 + 1 + 1)) (by simp))
        · exact Keeps.sc (b := g) (o := j * 12 + 9) (Keeps.sc (b := g) (o := j * 12 + 8) (Keeps.sc (b := g) (o := j * 12 + 7) (HKW6.out) (by simp) (.int .i64 (kq6))) (by simp) (.int .i64 (kq6 + 1))) (by simp) (.int .i64 (kq6 + 1 + 1))
        · exact below_sc (b := g) (o := j * 12 + 9) (below_sc (b := g) (o := j * 12 + 8) (below_sc (b := g) (o := j * 12 + 7) (HZ6.out) (Nat.zero_le _) (.int .i64 (kq6))) (Nat.zero_le _) (.int .i64 (kq6 + 1))) (Nat.zero_le _) (.int .i64 (kq6 + 1 + 1))
        · exact ItemsO.keeps Ob_6.out (Keeps.sc (b := g) (o := j * 12 + 9) (Keeps.sc (b := g) (o := j * 12 + 8) (Keeps.sc (b := g) (o := j * 12 + 7) (Keeps.refl _ w6) (fun hq => by have h5 := HG0.out.2; have h6 := hq.1; omega) (.int .i64 (kq6))) (fun hq => by have h5 := HG0.out.2; have h6 := hq.1; omega) (.int .i64 (kq6 + 1))) (fun hq => by have h5 := HG0.out.2; have h6 := hq.1; omega) (.int .i64 (kq6 + 1 + 1)))
        · exact VectorsO.keeps Oc_6.out (Keeps.sc (b := g) (o := j * 12 + 9) (Keeps.sc (b := g) (o := j * 12 + 8) (Keeps.sc (b := g) (o := j * 12 + 7) (Keeps.refl _ w6) (fun hq => by have h5 := HG0.out.2; have h6 := hq.1; omega) (.int .i64 (kq6))) (fun hq => by have h5 := HG0.out.2; have h6 := hq.1; omega) (.int .i64 (kq6 + 1))) (fun hq => by have h5 := HG0.out.2; have h6 := hq.1; omega) (.int .i64 (kq6 + 1 + 1)))
        · exact TxtO.keeps Od_6.out (Keeps.sc (b := g) (o := j * 12 + 9) (Keeps.sc (b := g) (o := j * 12 + 8) (Keeps.sc (b := g) (o := j * 12 + 7) (Keeps.refl _ w6) (fun hq => by have h5 := HG0.out.2; have h6 := hq.1; omega) (.int .i64 (kq6))) (fun hq => by have h5 := HG0.out.2; have h6 := hq.1; omega) (.int .i64 (kq6 + 1))) (fun hq => by have h5 := HG0.out.2; have h6 := hq.1; omega) (.int .i64 (kq6 + 1 + 1)))
        · exact TxtO.keeps Oe_6.out (Keeps.sc (b := g) (o := j * 12 + 9) (Keeps.sc (b := g) (o := j * 12 + 8) (Keeps.sc (b := g) (o := j * 12 + 7) (Keeps.refl _ w6) (fun hq => by have h5 := HG0.out.2; have h6 := hq.1; omega) (.int .i64 (kq6))) (fun hq => by have h5 := HG0.out.2; have h6 := hq.1; omega) (.int .i64 (kq6 + 1))) (fun hq => by have h5 := HG0.out.2; have h6 := hq.1; omega) (.int .i64 (kq6 + 1 + 1)))
        · exact TxtO.keeps Og_6.out (Keeps.sc (b := g) (o := j * 12 + 9) (Keeps.sc (b := g) (o := j * 12 + 8) (Keeps.sc (b := g) (o := j * 12 + 7) (Keeps.refl _ w6) (fun hq => by have h5 := HG0.out.2; have h6 := hq.1; omega) (.int .i64 (kq6))) (fun hq => by have h5 := HG0.out.2; have h6 := hq.1; omega) (.int .i64 (kq6 + 1))) (fun hq => by have h5 := HG0.out.2; have h6 := hq.1; omega) (.int .i64 (kq6 + 1 + 1)))
        · exact IntO.keeps Op_6.out (Keeps.sc (b := g) (o := j * 12 + 9) (Keeps.sc (b := g) (o := j * 12 + 8) (Keeps.sc (b := g) (o := j * 12 + 7) (Keeps.refl _ w6) (fun hq => by have h5 := HG0.out.2; have h6 := hq.1; omega) (.int .i64 (kq6))) (fun hq => by have h5 := HG0.out.2; have h6 := hq.1; omega) (.int .i64 (kq6 + 1))) (fun hq => by have h5 := HG0.out.2; have h6 := hq.1; omega) (.int .i64 (kq6 + 1 + 1)))
        · exact TxtO.keeps Oa_6.out (Keeps.sc (b := g) (o := j * 12 + 9) (Keeps.sc (b := g) (o := j * 12 + 8) (Keeps.sc (b := g) (o := j * 12 + 7) (Keeps.refl _ w6) (fun hq => by have h5 := HG0.out.2; have h6 := hq.1; omega) (.int .i64 (kq6))) (fun hq => by have h5 := HG0.out.2; have h6 := hq.1; omega) (.int .i64 (kq6 + 1))) (fun hq => by have h5 := HG0.out.2; have h6 := hq.1; omega) (.int .i64 (kq6 + 1 + 1)))
        clear y7 z7 y8 z8 y9 z9 y10 z10 hkb hkc
        rintro W7 ⟨hq0, hq1, hq2, hob, hoc, hod, hoe, hog, hop, hoa⟩
        have HB7 := Lib.hid hq0
        have HKW7 := Lib.hid hq1
        have HZ7 := Lib.hid hq2
        have Ob_7 := Lib.hid hob
        have Oc_7 := Lib.hid hoc
        have Od_7 := Lib.hid hod
        have Oe_7 := Lib.hid hoe
        have Og_7 := Lib.hid hog
        have Op_7 := Lib.hid hop
        have Oa_7 := Lib.hid hoa
        clear hq0 hq1 hq2 hob hoc hod hoe hog hop hoa
        have hh := laws_markInts (fun b => (S b ∧ f b = j + 1) ∧ f1 b = 3) l[j].promises _ (kq6 + 1 + 1 + 1) _ Op_7.out (by have := HQ2.out; have := HQ3.out; have := HQ4.out; have := HQ5.out; have := HQ6.out; omega) (by have := HQ2.out; have := HQ3.out; have := HQ4.out; have := HQ5.out; have := HQ6.out; have := HCT.out; have := HK1.out; omega)
        refine Calls.mono hh ?_
        clear hh
        rintro e w8 ⟨rfl, ho, hk, hz⟩
        have HB8 := Lib.hid (HB7.out.keeps hk (fun hq => by have h5 := HG0.out.2; have h6 := hq.1; omega))
        have HKW8 := Lib.hid (HKW7.out.trans (hk.mono fun b hb hq => hb.2 hq.1))
        have HZ8 := Lib.hid (HZ7.out.trans hz)
        have Ob_8 := Lib.hid (ItemsO.keeps Ob_7.out (hk.mono fun b hb hq => by have h5 := hb.1; have h6 := hb.2; have h7 := hq.1; have h8 := hq.2; omega))
        have Oc_8 := Lib.hid (VectorsO.keeps Oc_7.out (hk.mono fun b hb hq => by have h5 := hb.1; have h6 := hb.2; have h7 := hq.1; have h8 := hq.2; omega))
        have Od_8 := Lib.hid (TxtO.keeps Od_7.out (hk.mono fun b hb hq => by have h5 := hb.1; have h6 := hb.2; have h7 := hq.1; have h8 := hq.2; omega))
        have Oe_8 := Lib.hid (TxtO.keeps Oe_7.out (hk.mono fun b hb hq => by have h5 := hb.1; have h6 := hb.2; have h7 := hq.1; have h8 := hq.2; omega))
        have Og_8 := Lib.hid (TxtO.keeps Og_7.out (hk.mono fun b hb hq => by have h5 := hb.1; have h6 := hb.2; have h7 := hq.1; have h8 := hq.2; omega))
        have Op_8 := Lib.hid ho
        have Oa_8 := Lib.hid (TxtO.keeps Oa_7.out (hk.mono fun b hb hq => by have h5 := hb.1; have h6 := hb.2; have h7 := hq.1; have h8 := hq.2; omega))
        clear ho hk hz 
        obtain ⟨kq8, hq8⟩ : ∃ x : Int, x = kq6 + 1 + 1 + 1 + ↑l[j].promises.length := ⟨_, rfl⟩
        rw [← hq8]
        have HQ8 := Lib.hid hq8
        clear hq8
        have y11 := HB8.out.mid HPRE.out 11 _ rfl
        have z11 := HB8.out.frozen (j * 12 + 11)
        have hkb : kq8 + 0 ≤ 4611686018427387904 := by have := HQ2.out; have := HQ3.out; have := HQ4.out; have := HQ5.out; have := HQ6.out; have := HQ8.out; have := HCT.out; have := HK1.out; omega
        have hkc : 0 < kq8 := by have := HQ2.out; have := HQ3.out; have := HQ4.out; have := HQ5.out; have := HQ6.out; have := HQ8.out; omega
        go_wp2_with fail
        have hh := laws_markTxt (fun b => (S b ∧ f b = j + 1) ∧ f1 b = 4) l[j].labels _ (kq8) _ Oa_8.out (by have := HQ2.out; have := HQ3.out; have := HQ4.out; have := HQ5.out; have := HQ6.out; have := HQ8.out; omega) (by have := HQ2.out; have := HQ3.out; have := HQ4.out; have := HQ5.out; have := HQ6.out; have := HQ8.out; have := HCT.out; have := HK1.out; omega)
        refine Calls.mono hh ?_
        clear hh
        rintro e w9 ⟨rfl, ho, hk, hz⟩
        have HB9 := Lib.hid (HB8.out.keeps hk (fun hq => by have h5 := HG0.out.2; have h6 := hq.1; omega))
        have HKW9 := Lib.hid (HKW8.out.trans (hk.mono fun b hb hq => hb.2 hq.1))
        have HZ9 := Lib.hid (HZ8.out.trans hz)
        have Ob_9 := Lib.hid (ItemsO.keeps Ob_8.out (hk.mono fun b hb hq => by have h5 := hb.1; have h6 := hb.2; have h7 := hq.1; have h8 := hq.2; omega))
        have Oc_9 := Lib.hid (VectorsO.keeps Oc_8.out (hk.mono fun b hb hq => by have h5 := hb.1; have h6 := hb.2; have h7 := hq.1; have h8 := hq.2; omega))
        have Od_9 := Lib.hid (TxtO.keeps Od_8.out (hk.mono fun b hb hq => by have h5 := hb.1; have h6 := hb.2; have h7 := hq.1; have h8 := hq.2; omega))
        have Oe_9 := Lib.hid (TxtO.keeps Oe_8.out (hk.mono fun b hb hq => by have h5 := hb.1; have h6 := hb.2; have h7 := hq.1; have h8 := hq.2; omega))
        have Og_9 := Lib.hid (TxtO.keeps Og_8.out (hk.mono fun b hb hq => by have h5 := hb.1; have h6 := hb.2; have h7 := hq.1; have h8 := hq.2; omega))
        have Op_9 := Lib.hid (IntO.keeps Op_8.out (hk.mono fun b hb hq => by have h5 := hb.1; have h6 := hb.2; have h7 := hq.1; have h8 := hq.2; omega))
        have Oa_9 := Lib.hid ho
        clear ho hk hz y11 z11 hkb hkc
        obtain ⟨kq9, hq9⟩ : ∃ x : Int, x = kq8 + ↑l[j].labels.length := ⟨_, rfl⟩
        rw [← hq9]
        have HQ9 := Lib.hid hq9
        clear hq9
        have hkb : kq9 + 0 ≤ 4611686018427387904 := by have := HQ2.out; have := HQ3.out; have := HQ4.out; have := HQ5.out; have := HQ6.out; have := HQ8.out; have := HQ9.out; have := HCT.out; have := HK1.out; omega
        have hkc : 0 < kq9 := by have := HQ2.out; have := HQ3.out; have := HQ4.out; have := HQ5.out; have := HQ6.out; have := HQ8.out; have := HQ9.out; omega
        go_wp2_with fail
        go_roundw
        case rel =>
          have hq2 := HQ2.out
          have hq3 := HQ3.out
          have hq4 := HQ4.out
          have hq5 := HQ5.out
          have hq6 := HQ6.out
          have hq8 := HQ8.out
          have hq9 := HQ9.out
          subst hq2
          subst hq3
          subst hq4
          subst hq5
          subst hq6
          subst hq8
          subst hq9
          have hbF := HB9.out
          have hkF := HKW9.out
          have hzF := HZ9.out
          have hOb := Ob_9.out
          have hOc := Oc_9.out
          have hOd := Od_9.out
          have hOe := Oe_9.out
          have hOg := Og_9.out
          have hOp := Op_9.out
          have hOa := Oa_9.out
          refine ⟨j + 1, y.set j [.int .i64 (kj), .int .i64 (kj + 1), .slice A11 l[j].value.items.length c11, .slice A12 l[j].value.parts.length c12, .slice A13 l[j].value.names.length c13, .slice A14 l[j].value.cls.length c14, .slice A15 l[j].value.levels.length c15, .int .i64 (kj + 1 + 1 + ↑(cntL cItem l[j].value.items) + ↑(cntL cVec l[j].value.parts) + ↑l[j].value.names.length + ↑l[j].value.cls.length + ↑l[j].value.levels.length), .int .i64 (kj + 1 + 1 + ↑(cntL cItem l[j].value.items) + ↑(cntL cVec l[j].value.parts) + ↑l[j].value.names.length + ↑l[j].value.cls.length + ↑l[j].value.levels.length + 1), .int .i64 (kj + 1 + 1 + ↑(cntL cItem l[j].value.items) + ↑(cntL cVec l[j].value.parts) + ↑l[j].value.names.length + ↑l[j].value.cls.length + ↑l[j].value.levels.length + 1 + 1), .slice A3 l[j].promises.length c3, .slice A4 l[j].labels.length c4], by omega, by go_num, by rw [HKJ.out]; congr 1; have := HCT.out; omega, ?_, ?_, ?_⟩
          · show MidO _ _ _ _ _ _ _ _ _ _
            rw [← HPS.out]
            refine MidO.update (fun h hk => h.keeps hk) HMj.out j (by rw [part_length]; exact hlt) _ _ rfl ?_ ?_ hkF
            · rw [← HSET.out]; simpa using hbF
            · have e1 := mkVec_eq l[j].value (kj + 1)
              have h8 := HCT.out
              have h9 := HK1.out
              have hcv := cVec_eq l[j].value
              refine ⟨A11, c11, A12, c12, A13, c13, A14, c14, A15, c15, A3, c3, A4, c4, f1, ?_, ?_, ⟨m + 1, A11, c11, A12, c12, A13, c13, A14, c14, A15, c15, f2, rfl, ?_, ?_, ?_, ?_, ?_, ?_, ?_, ?_⟩, ?_, ?_, ?_⟩
              · simp only [mkSlot, markL_length, markI_length]; rw [e1]; simp only [VecD.kind, VecD.items, VecD.parts, VecD.names, VecD.cls, VecD.levels, VecD.code, VecD.env, mkL_length, markL_length]
              · show I64 kj; exact ⟨by omega, by omega⟩
              · show I64 (mkVec _ _).kind; rw [e1]; simp only [VecD.kind]; exact ⟨by omega, by omega⟩
              · show ItemsO _ _ (.slice A11 (mkVec _ _).items.length c11) (mkVec _ _).items; rw [e1]; simpa only [VecD.items, mkL_length] using hOb
              · show SlO _ _ _ _ _ (.slice A12 (mkVec _ _).parts.length c12) (mkVec _ _).parts; rw [e1]; unfold VectorsO at hOc; simpa only [VecD.parts, mkL_length] using hOc
              · show TxtO _ _ (.slice A13 (mkVec _ _).names.length c13) (mkVec _ _).names; rw [e1]; simpa only [VecD.names, markL_length] using hOd
              · show TxtO _ _ (.slice A14 (mkVec _ _).cls.length c14) (mkVec _ _).cls; rw [e1]; simpa only [VecD.cls, markL_length] using hOe
              · show TxtO _ _ (.slice A15 (mkVec _ _).levels.length c15) (mkVec _ _).levels; rw [e1]; simpa only [VecD.levels, markL_length] using hOg
              · show I64 (mkVec _ _).code; rw [e1]; simp only [VecD.code]; exact ⟨by omega, by omega⟩
              · show I64 (mkVec _ _).env; rw [e1]; simp only [VecD.env]; exact ⟨by omega, by omega⟩
              · show I64 (kj + 1 + 1 + ↑(cntL cItem l[j].value.items) + ↑(cntL cVec l[j].value.parts) + ↑l[j].value.names.length + ↑l[j].value.cls.length + ↑l[j].value.levels.length + 1 + 1); exact ⟨by omega, by omega⟩
              · simpa only [mkSlot, markI_length] using hOp
              · simpa only [mkSlot, markL_length] using hOa
          · exact HK.out.trans (hkF.mono fun b hb => ⟨fun e => hb (by rw [e]; exact HG0.out.1), fun hq => hb hq.1⟩)
          · exact HZ.out.trans hzF
        case measure => simp [intOf]; omega
      · obtain rfl : j = l.length := by omega
        go_wp2_with fail
        go_ret
        exact ⟨ret_int (by rw [List.take_length]), by have := HMj.out.back (cap := cap) (by rw [part_length]; exact hn) HC.out (by rw [part_length]; exact HP.out); rw [part_length, part_all] at this; exact this, HK.out, HZ.out⟩
end Go.Proofs.YtejieacdfjpfnaaGreat
namespace Go.Proofs.YtejieacdfjpfnaaGreat
open Go.ChangeShapes Go.WideShapes Go.ChangeAt Go.RowKit Go.Deep
set_option linter.unusedVariables false
set_option maxRecDepth 100000

def cEnv (d : EnvD) : Nat := 2 + d.names.length + cntL cSlot d.slots
def mkEnv (d : EnvD) (k : Int) : EnvD := ⟨k % 3 == 0, k + 1, markL (k + 1 + 1).toNat d.names.length, mkL mkSlot cSlot d.slots (k + 1 + 1 + ↑d.names.length)⟩
theorem cEnv_eq (d : EnvD) : cEnv d = 2 + d.names.length + cntL cSlot d.slots := rfl

set_option maxHeartbeats 4000000 in
theorem laws_markEnvS (S : Nat → Prop) (l : List EnvD) (v : Value) (k : Int) (w : World) (h : SlO S w 71 4 EnvO v l) (h0 : 0 < k) (h1 : k + cntL cEnv l ≤ 4611686018427387904) :
    Calls Tryz.prog 54 #[v, .int .i64 k] w (RetMark S w (k + cntL cEnv l) fun w' => SlO S w' 71 4 EnvO v (mkL mkEnv cEnv l k)) := by
  rcases SlO.mid h with ⟨rfl, rfl⟩ | ⟨g, cap, f, post, ys, rfl, hn, hc, hp, hM⟩
  · go_enter Tryz.func54, Tryz.ntmps54
    go_wp2_with fail
    go_loop [1, 5] (fun x i => i = .int .i64 0 ∧ x = .int .i64 k) (fun _ i => 0)
    case atStart => exact ⟨rfl, rfl⟩
    case round =>
      obtain ⟨rfl, rfl⟩ := hrel
      go_wp2_with fail
      go_ret
      exact ⟨ret_int (by simp [cntL]), SlO.nil_ _ _ _ _ _, Keeps.refl _ _, Below.refl _ _⟩
  · have HC := Lib.hid hc
    unfold maxLen at hc
    have HM := Lib.hid hM
    have HP := Lib.hid hp
    clear h hM hp
    go_enter Tryz.func54, Tryz.ntmps54
    go_wp2_with fail
    go_loopw [1, 5] (fun x i wr => ∃ (j : Nat) (y : List (List Value)), j ≤ l.length ∧ i = .int .i64 j ∧ x = .int .i64 (k + (cntL cEnv (l.take j) : Int)) ∧ Hid (MidO S f wr 71 4 EnvO g post y (part mkEnv cEnv l k j)) ∧ Hid (Keeps (fun b => ¬ S b) w wr) ∧ Hid (Below 0 w wr)) (fun _ i _ => l.length - (intOf i).toNat)
    case atStart => exact ⟨0, ys, Nat.zero_le _, rfl, by simp [cntL], by rw [part_zero]; exact HM.out, Keeps.refl _ _, Below.refl _ _⟩
    case round =>
      obtain ⟨j, y, hj, rfl, rfl, HMj, HK, HZ⟩ := hrel
      by_cases hlt : j < l.length
      · have hcn : (cntL cEnv (l.take j) : Int) + cEnv l[j] ≤ cntL cEnv l := by have := cntL_at cEnv l j hlt; omega
        have HKJ := Lib.hid (show k + (cntL cEnv (l.take (j + 1)) : Int) = k + (cntL cEnv (l.take j) : Int) + cEnv l[j] by rw [cntL_take _ _ _ hlt]; omega)
        have HPS := Lib.hid (part_set mkEnv cEnv l k j hlt)
        have HCT := Lib.hid (cEnv_eq l[j])
        have hkj0 : 0 < k + (cntL cEnv (l.take j) : Int) := by omega
        have hkj1 : k + (cntL cEnv (l.take j) : Int) + cEnv l[j] ≤ 4611686018427387904 := by omega
        have HK1 := Lib.hid hkj1
        clear hcn hkj1
        generalize k + (cntL cEnv (l.take j) : Int) = kj at *
        obtain ⟨hy, pre, rest, hpre, hb, hset, hro⟩ := HMj.out.at_ j (by rw [part_length]; exact hlt)
        rw [part_at _ _ _ _ _ hlt] at hro
        obtain ⟨A2, c2, A3, c3, f1, hcs, _, i1, oa, ob⟩ := hro
        have Oa_0 := Lib.hid oa
        have Ob_0 := Lib.hid ob
        clear oa ob
        rw [hcs] at hb
        clear hcs
        have HSET := Lib.hid hset
        have HPRE := Lib.hid hpre
        have hgl : g < wr.heap.size := hb.lt
        have HG0 := Lib.hid HM.out.own
        have HB0 := Lib.hid hb
        have HKW0 := Lib.hid (Keeps.refl (fun b => b ≠ g ∧ ¬ (S b ∧ f b = j + 1)) wr)
        have HZ0 := Lib.hid (Below.refl 0 wr)
        clear hb hset hpre
        have y0 : wr.cell? ⟨g, j * 4, none⟩ = some (.bool l[j].used) := by simpa using HB0.out.mid HPRE.out 0 _ rfl
        have z0 := HB0.out.frozen (j * 4)
        have y1 := HB0.out.mid HPRE.out 1 _ rfl
        have z1 := HB0.out.frozen (j * 4 + 1)
        have y2 := HB0.out.mid HPRE.out 2 _ rfl
        have z2 := HB0.out.frozen (j * 4 + 2)
        have hkb : kj + 2 ≤ 4611686018427387904 := by have := HCT.out; have := HK1.out; omega
        have hkc : 0 < kj := by omega
        go_wp2_with fail
        refine abs_w (fun W => Blk W g 71 (pre ++ [.bool ((kj) % 3 == 0), .int .i64 (kj + 1), .slice A2 l[j].names.length c2, .slice A3 l[j].slots.length c3] ++ rest) ∧ Keeps (fun b => b ≠ g ∧ ¬ (S b ∧ f b = j + 1)) wr W ∧ Below 0 wr W ∧ TxtO (fun b => (S b ∧ f b = j + 1) ∧ f1 b = 2) W (.slice A2 l[j].names.length c2) l[j].names ∧ SlotsO (fun b => (S b ∧ f b = j + 1) ∧ f1 b = 3) W (.slice A3 l[j].slots.length c3) l[j].slots) ⟨?_, ?_, ?_, ?_, ?_⟩ ?_
        · simpa using ((HB0.out.mid_set HPRE.out 0 (.bool ((kj) % 3 == 0)) (by simp)).mid_set HPRE.out 1 (.int .i64 (kj + 1)) (by simp))
        · exact Keeps.sc (b := g) (o := j * 4 + 1) (Keeps.sc (b := g) (o := j * 4) (HKW0.out) (by simp) (.bool ((kj) % 3 == 0))) (by simp) (.int .i64 (kj + 1))
        · exact below_sc (b := g) (o := j * 4 + 1) (below_sc (b := g) (o := j * 4) (HZ0.out) (Nat.zero_le _) (.bool ((kj) % 3 == 0))) (Nat.zero_le _) (.int .i64 (kj + 1))
        · exact TxtO.keeps Oa_0.out (Keeps.sc (b := g) (o := j * 4 + 1) (Keeps.sc (b := g) (o := j * 4) (Keeps.refl _ wr) (fun hq => by have h5 := HG0.out.2; have h6 := hq.1; omega) (.bool ((kj) % 3 == 0))) (fun hq => by have h5 := HG0.out.2; have h6 := hq.1; omega) (.int .i64 (kj + 1)))
        · exact SlotsO.keeps Ob_0.out (Keeps.sc (b := g) (o := j * 4 + 1) (Keeps.sc (b := g) (o := j * 4) (Keeps.refl _ wr) (fun hq => by have h5 := HG0.out.2; have h6 := hq.1; omega) (.bool ((kj) % 3 == 0))) (fun hq => by have h5 := HG0.out.2; have h6 := hq.1; omega) (.int .i64 (kj + 1)))
        clear y0 z0 y1 z1 y2 z2 hkb hkc
        rintro W1 ⟨hq0, hq1, hq2, hoa, hob⟩
        have HB1 := Lib.hid hq0
        have HKW1 := Lib.hid hq1
        have HZ1 := Lib.hid hq2
        have Oa_1 := Lib.hid hoa
        have Ob_1 := Lib.hid hob
        clear hq0 hq1 hq2 hoa hob
        have hh := laws_markTxt (fun b => (S b ∧ f b = j + 1) ∧ f1 b = 2) l[j].names _ (kj + 1 + 1) _ Oa_1.out (by omega) (by have := HCT.out; have := HK1.out; omega)
        refine Calls.mono hh ?_
        clear hh
        rintro e w2 ⟨rfl, ho, hk, hz⟩
        have HB2 := Lib.hid (HB1.out.keeps hk (fun hq => by have h5 := HG0.out.2; have h6 := hq.1; omega))
        have HKW2 := Lib.hid (HKW1.out.trans (hk.mono fun b hb hq => hb.2 hq.1))
        have HZ2 := Lib.hid (HZ1.out.trans hz)
        have Oa_2 := Lib.hid ho
        have Ob_2 := Lib.hid (SlotsO.keeps Ob_1.out (hk.mono fun b hb hq => by have h5 := hb.1; have h6 := hb.2; have h7 := hq.1; have h8 := hq.2; omega))
        clear ho hk hz 
        obtain ⟨kq2, hq2⟩ : ∃ x : Int, x = kj + 1 + 1 + ↑l[j].names.length := ⟨_, rfl⟩
        rw [← hq2]
        have HQ2 := Lib.hid hq2
        clear hq2
        have y3 := HB2.out.mid HPRE.out 3 _ rfl
        have z3 := HB2.out.frozen (j * 4 + 3)
        have hkb : kq2 + 0 ≤ 4611686018427387904 := by have := HQ2.out; have := HCT.out; have := HK1.out; omega
        have hkc : 0 < kq2 := by have := HQ2.out; omega
        go_wp2_with fail
        have hh := laws_markSlotS (fun b => (S b ∧ f b = j + 1) ∧ f1 b = 3) l[j].slots _ (kq2) _ Ob_2.out (by have := HQ2.out; omega) (by have := HQ2.out; have := HCT.out; have := HK1.out; omega)
        refine Calls.mono hh ?_
        clear hh
        rintro e w3 ⟨rfl, ho, hk, hz⟩
        have HB3 := Lib.hid (HB2.out.keeps hk (fun hq => by have h5 := HG0.out.2; have h6 := hq.1; omega))
        have HKW3 := Lib.hid (HKW2.out.trans (hk.mono fun b hb hq => hb.2 hq.1))
        have HZ3 := Lib.hid (HZ2.out.trans hz)
        have Oa_3 := Lib.hid (TxtO.keeps Oa_2.out (hk.mono fun b hb hq => by have h5 := hb.1; have h6 := hb.2; have h7 := hq.1; have h8 := hq.2; omega))
        have Ob_3 := Lib.hid ho
        clear ho hk hz y3 z3 hkb hkc
        obtain ⟨kq3, hq3⟩ : ∃ x : Int, x = kq2 + ↑(cntL cSlot l[j].slots) := ⟨_, rfl⟩
        rw [← hq3]
        have HQ3 := Lib.hid hq3
        clear hq3
        have hkb : kq3 + 0 ≤ 4611686018427387904 := by have := HQ2.out; have := HQ3.out; have := HCT.out; have := HK1.out; omega
        have hkc : 0 < kq3 := by have := HQ2.out; have := HQ3.out; omega
        go_wp2_with fail
        go_roundw
        case rel =>
          have hq2 := HQ2.out
          have hq3 := HQ3.out
          subst hq2
          subst hq3
          have hbF := HB3.out
          have hkF := HKW3.out
          have hzF := HZ3.out
          have hOa := Oa_3.out
          have hOb := Ob_3.out
          refine ⟨j + 1, y.set j [.bool ((kj) % 3 == 0), .int .i64 (kj + 1), .slice A2 l[j].names.length c2, .slice A3 l[j].slots.length c3], by omega, by go_num, by rw [HKJ.out]; congr 1; have := HCT.out; omega, ?_, ?_, ?_⟩
          · show MidO _ _ _ _ _ _ _ _ _ _
            rw [← HPS.out]
            refine MidO.update (fun h hk => h.keeps hk) HMj.out j (by rw [part_length]; exact hlt) _ _ rfl ?_ ?_ hkF
            · rw [← HSET.out]; simpa using hbF
            · have h8 := HCT.out
              have h9 := HK1.out
              refine ⟨A2, c2, A3, c3, f1, ?_, trivial, ?_, ?_, ?_⟩
              · simp only [mkEnv, markL_length, mkL_length]
              · show I64 (kj + 1); exact ⟨by omega, by omega⟩
              · simpa only [mkEnv, markL_length] using hOa
              · unfold SlotsO; simpa only [mkEnv, mkL_length] using hOb
          · exact HK.out.trans (hkF.mono fun b hb => ⟨fun e => hb (by rw [e]; exact HG0.out.1), fun hq => hb hq.1⟩)
          · exact HZ.out.trans hzF
        case measure => simp [intOf]; omega
      · obtain rfl : j = l.length := by omega
        go_wp2_with fail
        go_ret
        exact ⟨ret_int (by rw [List.take_length]), by have := HMj.out.back (cap := cap) (by rw [part_length]; exact hn) HC.out (by rw [part_length]; exact HP.out); rw [part_length, part_all] at this; exact this, HK.out, HZ.out⟩
end Go.Proofs.YtejieacdfjpfnaaGreat
namespace Go.Proofs.YtejieacdfjpfnaaGreat
open Go.ChangeShapes Go.WideShapes Go.ChangeAt Go.RowKit Go.Deep
set_option linter.unusedVariables false
set_option maxRecDepth 100000

def cProm (d : PromD) : Nat := 4 + cVec d.value
def mkProm (d : PromD) (k : Int) : PromD := ⟨k % 3 == 0, k + 1, k + 1 + 1, k + 1 + 1 + 1, mkVec d.value (k + 1 + 1 + 1 + 1)⟩
theorem cProm_eq (d : PromD) : cProm d = 7 + cntL cItem d.value.items + cntL cVec d.value.parts + d.value.names.length + d.value.cls.length + d.value.levels.length := by
  unfold cProm
  rw [cVec_eq]
  omega

set_option maxHeartbeats 8000000 in
theorem laws_markPromiseS (S : Nat → Prop) (l : List PromD) (v : Value) (k : Int) (w : World) (h : SlO S w 74 12 PromiseO v l) (h0 : 0 < k) (h1 : k + cntL cProm l ≤ 4611686018427387904) :
    Calls Tryz.prog 55 #[v, .int .i64 k] w (RetMark S w (k + cntL cProm l) fun w' => SlO S w' 74 12 PromiseO v (mkL mkProm cProm l k)) := by
  rcases SlO.mid h with ⟨rfl, rfl⟩ | ⟨g, cap, f, post, ys, rfl, hn, hc, hp, hM⟩
  · go_enter Tryz.func55, Tryz.ntmps55
    go_wp2_with fail
    go_loop [1, 5] (fun x i => i = .int .i64 0 ∧ x = .int .i64 k) (fun _ i => 0)
    case atStart => exact ⟨rfl, rfl⟩
    case round =>
      obtain ⟨rfl, rfl⟩ := hrel
      go_wp2_with fail
      go_ret
      exact ⟨ret_int (by simp [cntL]), SlO.nil_ _ _ _ _ _, Keeps.refl _ _, Below.refl _ _⟩
  · have HC := Lib.hid hc
    unfold maxLen at hc
    have HM := Lib.hid hM
    have HP := Lib.hid hp
    clear h hM hp
    go_enter Tryz.func55, Tryz.ntmps55
    go_wp2_with fail
    go_loopw [1, 5] (fun x i wr => ∃ (j : Nat) (y : List (List Value)), j ≤ l.length ∧ i = .int .i64 j ∧ x = .int .i64 (k + (cntL cProm (l.take j) : Int)) ∧ Hid (MidO S f wr 74 12 PromiseO g post y (part mkProm cProm l k j)) ∧ Hid (Keeps (fun b => ¬ S b) w wr) ∧ Hid (Below 0 w wr)) (fun _ i _ => l.length - (intOf i).toNat)
    case atStart => exact ⟨0, ys, Nat.zero_le _, rfl, by simp [cntL], by rw [part_zero]; exact HM.out, Keeps.refl _ _, Below.refl _ _⟩
    case round =>
      obtain ⟨j, y, hj, rfl, rfl, HMj, HK, HZ⟩ := hrel
      by_cases hlt : j < l.length
      · have hcn : (cntL cProm (l.take j) : Int) + cProm l[j] ≤ cntL cProm l := by have := cntL_at cProm l j hlt; omega
        have HKJ := Lib.hid (show k + (cntL cProm (l.take (j + 1)) : Int) = k + (cntL cProm (l.take j) : Int) + cProm l[j] by rw [cntL_take _ _ _ hlt]; omega)
        have HPS := Lib.hid (part_set mkProm cProm l k j hlt)
        have HCT := Lib.hid (cProm_eq l[j])
        have hkj0 : 0 < k + (cntL cProm (l.take j) : Int) := by omega
        have hkj1 : k + (cntL cProm (l.take j) : Int) + cProm l[j] ≤ 4611686018427387904 := by omega
        have HK1 := Lib.hid hkj1
        clear hcn hkj1
        generalize k + (cntL cProm (l.take j) : Int) = kj at *
        obtain ⟨hy, pre, rest, hpre, hb, hset, hro⟩ := HMj.out.at_ j (by rw [part_length]; exact hlt)
        rw [part_at _ _ _ _ _ hlt] at hro
        obtain ⟨A41, c41, A42, c42, A43, c43, A44, c44, A45, c45, f1, hcs, _, i1, i2, i3, oV⟩ := hro
        obtain ⟨n0, oV⟩ := oV
        obtain ⟨m, rfl⟩ : ∃ m, n0 = m + 1 := by
          cases n0 with
          | zero => exact oV.elim
          | succ m => exact ⟨m, rfl⟩
        obtain ⟨B1, b1, B2, b2, B3, b3, B4, b4, B5, b5, f2, hcs2, v0, ob, oc, od, oe, og, v6, v7⟩ := oV
        simp only [List.cons.injEq, Value.slice.injEq, and_true, true_and] at hcs2
        obtain ⟨⟨r1, r2⟩, ⟨r3, r4⟩, ⟨r5, r6⟩, ⟨r7, r8⟩, r9, r10⟩ := hcs2
        subst B1 b1 B2 b2 B3 b3 B4 b4 B5 b5
        have Ob_0 := Lib.hid ob
        have Oc_0 := Lib.hid (show VectorsO m _ wr _ _ from oc)
        have Od_0 := Lib.hid od
        have Oe_0 := Lib.hid oe
        have Og_0 := Lib.hid og
        clear ob oc od oe og
        rw [hcs] at hb
        clear hcs
        have HSET := Lib.hid hset
        have HPRE := Lib.hid hpre
        have hgl : g < wr.heap.size := hb.lt
        have HG0 := Lib.hid HM.out.own
        have HB0 := Lib.hid hb
        have HKW0 := Lib.hid (Keeps.refl (fun b => b ≠ g ∧ ¬ (S b ∧ f b = j + 1)) wr)
        have HZ0 := Lib.hid (Below.refl 0 wr)
        clear hb hset hpre
        have y0 : wr.cell? ⟨g, j * 12, none⟩ = some (.bool l[j].used) := by simpa using HB0.out.mid HPRE.out 0 _ rfl
        have z0 := HB0.out.frozen (j * 12)
        have y1 := HB0.out.mid HPRE.out 1 _ rfl
        have z1 := HB0.out.frozen (j * 12 + 1)
        have y2 := HB0.out.mid HPRE.out 2 _ rfl
        have z2 := HB0.out.frozen (j * 12 + 2)
        have y3 := HB0.out.mid HPRE.out 3 _ rfl
        have z3 := HB0.out.frozen (j * 12 + 3)
        have y4 := HB0.out.mid HPRE.out 4 _ rfl
        have z4 := HB0.out.frozen (j * 12 + 4)
        have y5 := HB0.out.mid HPRE.out 5 _ rfl
        have z5 := HB0.out.frozen (j * 12 + 5)
        have hkb : kj + 7 ≤ 4611686018427387904 := by have := HCT.out; have := HK1.out; omega
        have hkc : 0 < kj := by omega
        go_wp2_with fail
        refine abs_w (fun W => Blk W g 74 (pre ++ [.bool ((kj) % 3 == 0), .int .i64 (kj + 1), .int .i64 (kj + 1 + 1), .int .i64 (kj + 1 + 1 + 1), .int .i64 (kj + 1 + 1 + 1 + 1), .slice A41 l[j].value.items.length c41, .slice A42 l[j].value.parts.length c42, .slice A43 l[j].value.names.length c43, .slice A44 l[j].value.cls.length c44, .slice A45 l[j].value.levels.length c45, .int .i64 l[j].value.code, .int .i64 l[j].value.env] ++ rest) ∧ Keeps (fun b => b ≠ g ∧ ¬ (S b ∧ f b = j + 1)) wr W ∧ Below 0 wr W ∧ ItemsO (fun b => ((S b ∧ f b = j + 1) ∧ f1 b = 4) ∧ f2 b = 1) W (.slice A41 l[j].value.items.length c41) l[j].value.items ∧ VectorsO m (fun b => ((S b ∧ f b = j + 1) ∧ f1 b = 4) ∧ f2 b = 2) W (.slice A42 l[j].value.parts.length c42) l[j].value.parts ∧ TxtO (fun b => ((S b ∧ f b = j + 1) ∧ f1 b = 4) ∧ f2 b = 3) W (.slice A43 l[j].value.names.length c43) l[j].value.names ∧ TxtO (fun b => ((S b ∧ f b = j + 1) ∧ f1 b = 4) ∧ f2 b = 4) W (.slice A44 l[j].value.cls.length c44) l[j].value.cls ∧ TxtO (fun b => ((S b ∧ f b = j + 1) ∧ f1 b = 4) ∧ f2 b = 5) W (.slice A45 l[j].value.levels.length c45) l[j].value.levels) ⟨?_, ?_, ?_, ?_, ?_, ?_, ?_, ?_⟩ ?_
        · simpa using (((((HB0.out.mid_set HPRE.out 0 (.bool ((kj) % 3 == 0)) (by simp)).mid_set HPRE.out 1 (.int .i64 (kj + 1)) (by simp)).mid_set HPRE.out 2 (.int .i64 (kj + 1 + 1)) (by simp)).mid_set HPRE.out 3 (.int .i64 (kj + 1 + 1 + 1)) (by simp)).mid_set HPRE.out 4 (.int .i64 (kj + 1 + 1 + 1 + 1)) (by simp))
        · exact Keeps.sc (b := g) (o := j * 12 + 4) (Keeps.sc (b := g) (o := j * 12 + 3) (Keeps.sc (b := g) (o := j * 12 + 2) (Keeps.sc (b := g) (o := j * 12 + 1) (Keeps.sc (b := g) (o := j * 12) (HKW0.out) (by simp) (.bool ((kj) % 3 == 0))) (by simp) (.int .i64 (kj + 1))) (by simp) (.int .i64 (kj + 1 + 1))) (by simp) (.int .i64 (kj + 1 + 1 + 1))) (by simp) (.int .i64 (kj + 1 + 1 + 1 + 1))
        · exact below_sc (b := g) (o := j * 12 + 4) (below_sc (b := g) (o := j * 12 + 3) (below_sc (b := g) (o := j * 12 + 2) (below_sc (b := g) (o := j * 12 + 1) (below_sc (b := g) (o := j * 12) (HZ0.out) (Nat.zero_le _) (.bool ((kj) % 3 == 0))) (Nat.zero_le _) (.int .i64 (kj + 1))) (Nat.zero_le _) (.int .i64 (kj + 1 + 1))) (Nat.zero_le _) (.int .i64 (kj + 1 + 1 + 1))) (Nat.zero_le _) (.int .i64 (kj + 1 + 1 + 1 + 1))
        · exact ItemsO.keeps Ob_0.out (Keeps.sc (b := g) (o := j * 12 + 4) (Keeps.sc (b := g) (o := j * 12 + 3) (Keeps.sc (b := g) (o := j * 12 + 2) (Keeps.sc (b := g) (o := j * 12 + 1) (Keeps.sc (b := g) (o := j * 12) (Keeps.refl _ wr) (fun hq => by have h5 := HG0.out.2; have h6 := hq.1; omega) (.bool ((kj) % 3 == 0))) (fun hq => by have h5 := HG0.out.2; have h6 := hq.1; omega) (.int .i64 (kj + 1))) (fun hq => by have h5 := HG0.out.2; have h6 := hq.1; omega) (.int .i64 (kj + 1 + 1))) (fun hq => by have h5 := HG0.out.2; have h6 := hq.1; omega) (.int .i64 (kj + 1 + 1 + 1))) (fun hq => by have h5 := HG0.out.2; have h6 := hq.1; omega) (.int .i64 (kj + 1 + 1 + 1 + 1)))
        · exact VectorsO.keeps Oc_0.out (Keeps.sc (b := g) (o := j * 12 + 4) (Keeps.sc (b := g) (o := j * 12 + 3) (Keeps.sc (b := g) (o := j * 12 + 2) (Keeps.sc (b := g) (o := j * 12 + 1) (Keeps.sc (b := g) (o := j * 12) (Keeps.refl _ wr) (fun hq => by have h5 := HG0.out.2; have h6 := hq.1; omega) (.bool ((kj) % 3 == 0))) (fun hq => by have h5 := HG0.out.2; have h6 := hq.1; omega) (.int .i64 (kj + 1))) (fun hq => by have h5 := HG0.out.2; have h6 := hq.1; omega) (.int .i64 (kj + 1 + 1))) (fun hq => by have h5 := HG0.out.2; have h6 := hq.1; omega) (.int .i64 (kj + 1 + 1 + 1))) (fun hq => by have h5 := HG0.out.2; have h6 := hq.1; omega) (.int .i64 (kj + 1 + 1 + 1 + 1)))
        · exact TxtO.keeps Od_0.out (Keeps.sc (b := g) (o := j * 12 + 4) (Keeps.sc (b := g) (o := j * 12 + 3) (Keeps.sc (b := g) (o := j * 12 + 2) (Keeps.sc (b := g) (o := j * 12 + 1) (Keeps.sc (b := g) (o := j * 12) (Keeps.refl _ wr) (fun hq => by have h5 := HG0.out.2; have h6 := hq.1; omega) (.bool ((kj) % 3 == 0))) (fun hq => by have h5 := HG0.out.2; have h6 := hq.1; omega) (.int .i64 (kj + 1))) (fun hq => by have h5 := HG0.out.2; have h6 := hq.1; omega) (.int .i64 (kj + 1 + 1))) (fun hq => by have h5 := HG0.out.2; have h6 := hq.1; omega) (.int .i64 (kj + 1 + 1 + 1))) (fun hq => by have h5 := HG0.out.2; have h6 := hq.1; omega) (.int .i64 (kj + 1 + 1 + 1 + 1)))
        · exact TxtO.keeps Oe_0.out (Keeps.sc (b := g) (o := j * 12 + 4) (Keeps.sc (b := g) (o := j * 12 + 3) (Keeps.sc (b := g) (o := j * 12 + 2) (Keeps.sc (b := g) (o := j * 12 + 1) (Keeps.sc (b := g) (o := j * 12) (Keeps.refl _ wr) (fun hq => by have h5 := HG0.out.2; have h6 := hq.1; omega) (.bool ((kj) % 3 == 0))) (fun hq => by have h5 := HG0.out.2; have h6 := hq.1; omega) (.int .i64 (kj + 1))) (fun hq => by have h5 := HG0.out.2; have h6 := hq.1; omega) (.int .i64 (kj + 1 + 1))) (fun hq => by have h5 := HG0.out.2; have h6 := hq.1; omega) (.int .i64 (kj + 1 + 1 + 1))) (fun hq => by have h5 := HG0.out.2; have h6 := hq.1; omega) (.int .i64 (kj + 1 + 1 + 1 + 1)))
        · exact TxtO.keeps Og_0.out (Keeps.sc (b := g) (o := j * 12 + 4) (Keeps.sc (b := g) (o := j * 12 + 3) (Keeps.sc (b := g) (o := j * 12 + 2) (Keeps.sc (b := g) (o := j * 12 + 1) (Keeps.sc (b := g) (o := j * 12) (Keeps.refl _ wr) (fun hq => by have h5 := HG0.out.2; have h6 := hq.1; omega) (.bool ((kj) % 3 == 0))) (fun hq => by have h5 := HG0.out.2; have h6 := hq.1; omega) (.int .i64 (kj + 1))) (fun hq => by have h5 := HG0.out.2; have h6 := hq.1; omega) (.int .i64 (kj + 1 + 1))) (fun hq => by have h5 := HG0.out.2; have h6 := hq.1; omega) (.int .i64 (kj + 1 + 1 + 1))) (fun hq => by have h5 := HG0.out.2; have h6 := hq.1; omega) (.int .i64 (kj + 1 + 1 + 1 + 1)))
        clear y0 z0 y1 z1 y2 z2 y3 z3 y4 z4 y5 z5 hkb hkc
        rintro W1 ⟨hq0, hq1, hq2, hob, hoc, hod, hoe, hog⟩
        have HB1 := Lib.hid hq0
        have HKW1 := Lib.hid hq1
        have HZ1 := Lib.hid hq2
        have Ob_1 := Lib.hid hob
        have Oc_1 := Lib.hid hoc
        have Od_1 := Lib.hid hod
        have Oe_1 := Lib.hid hoe
        have Og_1 := Lib.hid hog
        clear hq0 hq1 hq2 hob hoc hod hoe hog
        have hh := laws_markItemS (fun b => ((S b ∧ f b = j + 1) ∧ f1 b = 4) ∧ f2 b = 1) l[j].value.items _ (kj + 1 + 1 + 1 + 1 + 1) _ Ob_1.out (by omega) (by have := HCT.out; have := HK1.out; omega)
        refine Calls.mono hh ?_
        clear hh
        rintro e w2 ⟨rfl, ho, hk, hz⟩
        have HB2 := Lib.hid (HB1.out.keeps hk (fun hq => by have h5 := HG0.out.2; have h6 := hq.1; omega))
        have HKW2 := Lib.hid (HKW1.out.trans (hk.mono fun b hb hq => hb.2 hq.1.1))
        have HZ2 := Lib.hid (HZ1.out.trans hz)
        have Ob_2 := Lib.hid ho
        have Oc_2 := Lib.hid (VectorsO.keeps Oc_1.out (hk.mono fun b hb hq => by have h5 := hb.1; have h6 := hb.2; have h7 := hq.1; have h8 := hq.2; omega))
        have Od_2 := Lib.hid (TxtO.keeps Od_1.out (hk.mono fun b hb hq => by have h5 := hb.1; have h6 := hb.2; have h7 := hq.1; have h8 := hq.2; omega))
        have Oe_2 := Lib.hid (TxtO.keeps Oe_1.out (hk.mono fun b hb hq => by have h5 := hb.1; have h6 := hb.2; have h7 := hq.1; have h8 := hq.2; omega))
        have Og_2 := Lib.hid (TxtO.keeps Og_1.out (hk.mono fun b hb hq => by have h5 := hb.1; have h6 := hb.2; have h7 := hq.1; have h8 := hq.2; omega))
        clear ho hk hz 
        obtain ⟨kq2, hq2⟩ : ∃ x : Int, x = kj + 1 + 1 + 1 + 1 + 1 + ↑(cntL cItem l[j].value.items) := ⟨_, rfl⟩
        rw [← hq2]
        have HQ2 := Lib.hid hq2
        clear hq2
        have y6 := HB2.out.mid HPRE.out 6 _ rfl
        have z6 := HB2.out.frozen (j * 12 + 6)
        have hkb : kq2 + 2 ≤ 4611686018427387904 := by have := HQ2.out; have := HCT.out; have := HK1.out; omega
        have hkc : 0 < kq2 := by have := HQ2.out; omega
        go_wp2_with fail
        have hh := markVec_all m (fun b => ((S b ∧ f b = j + 1) ∧ f1 b = 4) ∧ f2 b = 2) l[j].value.parts _ (kq2) _ Oc_2.out (by have := HQ2.out; omega) (by have := HQ2.out; have := HCT.out; have := HK1.out; omega)
        refine Calls.mono hh ?_
        clear hh
        rintro e w3 ⟨rfl, ho, hk, hz⟩
        have HB3 := Lib.hid (HB2.out.keeps hk (fun hq => by have h5 := HG0.out.2; have h6 := hq.1; omega))
        have HKW3 := Lib.hid (HKW2.out.trans (hk.mono fun b hb hq => hb.2 hq.1.1))
        have HZ3 := Lib.hid (HZ2.out.trans hz)
        have Ob_3 := Lib.hid (ItemsO.keeps Ob_2.out (hk.mono fun b hb hq => by have h5 := hb.1; have h6 := hb.2; have h7 := hq.1; have h8 := hq.2; omega))
        have Oc_3 := Lib.hid ho
        have Od_3 := Lib.hid (TxtO.keeps Od_2.out (hk.mono fun b hb hq => by have h5 := hb.1; have h6 := hb.2; have h7 := hq.1; have h8 := hq.2; omega))
        have Oe_3 := Lib.hid (TxtO.keeps Oe_2.out (hk.mono fun b hb hq => by have h5 := hb.1; have h6 := hb.2; have h7 := hq.1; have h8 := hq.2; omega))
        have Og_3 := Lib.hid (TxtO.keeps Og_2.out (hk.mono fun b hb hq => by have h5 := hb.1; have h6 := hb.2; have h7 := hq.1; have h8 := hq.2; omega))
        clear ho hk hz y6 z6 hkb hkc
        obtain ⟨kq3, hq3⟩ : ∃ x : Int, x = kq2 + ↑(cntL cVec l[j].value.parts) := ⟨_, rfl⟩
        rw [← hq3]
        have HQ3 := Lib.hid hq3
        clear hq3
        have y7 := HB3.out.mid HPRE.out 7 _ rfl
        have z7 := HB3.out.frozen (j * 12 + 7)
        have hkb : kq3 + 2 ≤ 4611686018427387904 := by have := HQ2.out; have := HQ3.out; have := HCT.out; have := HK1.out; omega
        have hkc : 0 < kq3 := by have := HQ2.out; have := HQ3.out; omega
        go_wp2_with fail
        have hh := laws_markTxt (fun b => ((S b ∧ f b = j + 1) ∧ f1 b = 4) ∧ f2 b = 3) l[j].value.names _ (kq3) _ Od_3.out (by have := HQ2.out; have := HQ3.out; omega) (by have := HQ2.out; have := HQ3.out; have := HCT.out; have := HK1.out; omega)
        refine Calls.mono hh ?_
        clear hh
        rintro e w4 ⟨rfl, ho, hk, hz⟩
        have HB4 := Lib.hid (HB3.out.keeps hk (fun hq => by have h5 := HG0.out.2; have h6 := hq.1; omega))
        have HKW4 := Lib.hid (HKW3.out.trans (hk.mono fun b hb hq => hb.2 hq.1.1))
        have HZ4 := Lib.hid (HZ3.out.trans hz)
        have Ob_4 := Lib.hid (ItemsO.keeps Ob_3.out (hk.mono fun b hb hq => by have h5 := hb.1; have h6 := hb.2; have h7 := hq.1; have h8 := hq.2; omega))
        have Oc_4 := Lib.hid (VectorsO.keeps Oc_3.out (hk.mono fun b hb hq => by have h5 := hb.1; have h6 := hb.2; have h7 := hq.1; have h8 := hq.2; omega))
        have Od_4 := Lib.hid ho
        have Oe_4 := Lib.hid (TxtO.keeps Oe_3.out (hk.mono fun b hb hq => by have h5 := hb.1; have h6 := hb.2; have h7 := hq.1; have h8 := hq.2; omega))
        have Og_4 := Lib.hid (TxtO.keeps Og_3.out (hk.mono fun b hb hq => by have h5 := hb.1; have h6 := hb.2; have h7 := hq.1; have h8 := hq.2; omega))
        clear ho hk hz y7 z7 hkb hkc
        obtain ⟨kq4, hq4⟩ : ∃ x : Int, x = kq3 + ↑l[j].value.names.length := ⟨_, rfl⟩
        rw [← hq4]
        have HQ4 := Lib.hid hq4
        clear hq4
        have y8 := HB4.out.mid HPRE.out 8 _ rfl
        have z8 := HB4.out.frozen (j * 12 + 8)
        have hkb : kq4 + 2 ≤ 4611686018427387904 := by have := HQ2.out; have := HQ3.out; have := HQ4.out; have := HCT.out; have := HK1.out; omega
        have hkc : 0 < kq4 := by have := HQ2.out; have := HQ3.out; have := HQ4.out; omega
        go_wp2_with fail
        have hh := laws_markTxt (fun b => ((S b ∧ f b = j + 1) ∧ f1 b = 4) ∧ f2 b = 4) l[j].value.cls _ (kq4) _ Oe_4.out (by have := HQ2.out; have := HQ3.out; have := HQ4.out; omega) (by have := HQ2.out; have := HQ3.out; have := HQ4.out; have := HCT.out; have := HK1.out; omega)
        refine Calls.mono hh ?_
        clear hh
        rintro e w5 ⟨rfl, ho, hk, hz⟩
        have HB5 := Lib.hid (HB4.out.keeps hk (fun hq => by have h5 := HG0.out.2; have h6 := hq.1; omega))
        have HKW5 := Lib.hid (HKW4.out.trans (hk.mono fun b hb hq => hb.2 hq.1.1))
        have HZ5 := Lib.hid (HZ4.out.trans hz)
        have Ob_5 := Lib.hid (ItemsO.keeps Ob_4.out (hk.mono fun b hb hq => by have h5 := hb.1; have h6 := hb.2; have h7 := hq.1; have h8 := hq.2; omega))
        have Oc_5 := Lib.hid (VectorsO.keeps Oc_4.out (hk.mono fun b hb hq => by have h5 := hb.1; have h6 := hb.2; have h7 := hq.1; have h8 := hq.2; omega))
        have Od_5 := Lib.hid (TxtO.keeps Od_4.out (hk.mono fun b hb hq => by have h5 := hb.1; have h6 := hb.2; have h7 := hq.1; have h8 := hq.2; omega))
        have Oe_5 := Lib.hid ho
        have Og_5 := Lib.hid (TxtO.keeps Og_4.out (hk.mono fun b hb hq => by have h5 := hb.1; have h6 := hb.2; have h7 := hq.1; have h8 := hq.2; omega))
        clear ho hk hz y8 z8 hkb hkc
        obtain ⟨kq5, hq5⟩ : ∃ x : Int, x = kq4 + ↑l[j].value.cls.length := ⟨_, rfl⟩
        rw [← hq5]
        have HQ5 := Lib.hid hq5
        clear hq5
        have y9 := HB5.out.mid HPRE.out 9 _ rfl
        have z9 := HB5.out.frozen (j * 12 + 9)
        have hkb : kq5 + 2 ≤ 4611686018427387904 := by have := HQ2.out; have := HQ3.out; have := HQ4.out; have := HQ5.out; have := HCT.out; have := HK1.out; omega
        have hkc : 0 < kq5 := by have := HQ2.out; have := HQ3.out; have := HQ4.out; have := HQ5.out; omega
        go_wp2_with fail
        have hh := laws_markTxt (fun b => ((S b ∧ f b = j + 1) ∧ f1 b = 4) ∧ f2 b = 5) l[j].value.levels _ (kq5) _ Og_5.out (by have := HQ2.out; have := HQ3.out; have := HQ4.out; have := HQ5.out; omega) (by have := HQ2.out; have := HQ3.out; have := HQ4.out; have := HQ5.out; have := HCT.out; have := HK1.out; omega)
        refine Calls.mono hh ?_
        clear hh
        rintro e w6 ⟨rfl, ho, hk, hz⟩
        have HB6 := Lib.hid (HB5.out.keeps hk (fun hq => by have h5 := HG0.out.2; have h6 := hq.1; omega))
        have HKW6 := Lib.hid (HKW5.out.trans (hk.mono fun b hb hq => hb.2 hq.1.1))
        have HZ6 := Lib.hid (HZ5.out.trans hz)
        have Ob_6 := Lib.hid (ItemsO.keeps Ob_5.out (hk.mono fun b hb hq => by have h5 := hb.1; have h6 := hb.2; have h7 := hq.1; have h8 := hq.2; omega))
        have Oc_6 := Lib.hid (VectorsO.keeps Oc_5.out (hk.mono fun b hb hq => by have h5 := hb.1; have h6 := hb.2; have h7 := hq.1; have h8 := hq.2; omega))
        have Od_6 := Lib.hid (TxtO.keeps Od_5.out (hk.mono fun b hb hq => by have h5 := hb.1; have h6 := hb.2; have h7 := hq.1; have h8 := hq.2; omega))
        have Oe_6 := Lib.hid (TxtO.keeps Oe_5.out (hk.mono fun b hb hq => by have h5 := hb.1; have h6 := hb.2; have h7 := hq.1; have h8 := hq.2; omega))
        have Og_6 := Lib.hid ho
        clear ho hk hz y9 z9 hkb hkc
        obtain ⟨kq6, hq6⟩ : ∃ x : Int, x = kq5 + ↑l[j].value.levels.length := ⟨_, rfl⟩
        rw [← hq6]
        have HQ6 := Lib.hid hq6
        clear hq6
        have y10 := HB6.out.mid HPRE.out 10 _ rfl
        have z10 := HB6.out.frozen (j * 12 + 10)
        have y11 := HB6.out.mid HPRE.out 11 _ rfl
        have z11 := HB6.out.frozen (j * 12 + 11)
        have hkb : kq6 + 2 ≤ 4611686018427387904 := by have := HQ2.out; have := HQ3.out; have := HQ4.out; have := HQ5.out; have := HQ6.out; have := HCT.out; have := HK1.out; omega
        have hkc : 0 < kq6 := by have := HQ2.out; have := HQ3.out; have := HQ4.out; have := HQ5.out; have := HQ6.out; omega
        go_wp2_with fail
        go_roundw
        case rel =>
          have hq2 := HQ2.out
          have hq3 := HQ3.out
          have hq4 := HQ4.out
          have hq5 := HQ5.out
          have hq6 := HQ6.out
          subst hq2
          subst hq3
          subst hq4
          subst hq5
          subst hq6
          have hbF := ((HB6.out.mid_set HPRE.out 10 (.int .i64 (kj + 1 + 1 + 1 + 1 + 1 + ↑(cntL cItem l[j].value.items) + ↑(cntL cVec l[j].value.parts) + ↑l[j].value.names.length + ↑l[j].value.cls.length + ↑l[j].value.levels.length)) (by simp)).mid_set HPRE.out 11 (.int .i64 (kj + 1 + 1 + 1 + 1 + 1 + ↑(cntL cItem l[j].value.items) + ↑(cntL cVec l[j].value.parts) + ↑l[j].value.names.length + ↑l[j].value.cls.length + ↑l[j].value.levels.length + 1)) (by simp))
          have hkF := Keeps.sc (b := g) (o := j * 12 + 11) (Keeps.sc (b := g) (o := j * 12 + 10) (HKW6.out) (by simp) (.int .i64 (kj + 1 + 1 + 1 + 1 + 1 + ↑(cntL cItem l[j].value.items) + ↑(cntL cVec l[j].value.parts) + ↑l[j].value.names.length + ↑l[j].value.cls.length + ↑l[j].value.levels.length))) (by simp) (.int .i64 (kj + 1 + 1 + 1 + 1 + 1 + ↑(cntL cItem l[j].value.items) + ↑(cntL cVec l[j].value.parts) + ↑l[j].value.names.length + ↑l[j].value.cls.length + ↑l[j].value.levels.length + 1))
          have hzF := below_sc (b := g) (o := j * 12 + 11) (below_sc (b := g) (o := j * 12 + 10) (HZ6.out) (Nat.zero_le _) (.int .i64 (kj + 1 + 1 + 1 + 1 + 1 + ↑(cntL cItem l[j].value.items) + ↑(cntL cVec l[j].value.parts) + ↑l[j].value.names.length + ↑l[j].value.cls.length + ↑l[j].value.levels.length))) (Nat.zero_le _) (.int .i64 (kj + 1 + 1 + 1 + 1 + 1 + ↑(cntL cItem l[j].value.items) + ↑(cntL cVec l[j].value.parts) + ↑l[j].value.names.length + ↑l[j].value.cls.length + ↑l[j].value.levels.length + 1))
          have hOb := ItemsO.keeps Ob_6.out (Keeps.sc (b := g) (o := j * 12 + 11) (Keeps.sc (b := g) (o := j * 12 + 10) (Keeps.refl _ w6) (fun hq => by have h5 := HG0.out.2; have h6 := hq.1; omega) (.int .i64 (kj + 1 + 1 + 1 + 1 + 1 + ↑(cntL cItem l[j].value.items) + ↑(cntL cVec l[j].value.parts) + ↑l[j].value.names.length + ↑l[j].value.cls.length + ↑l[j].value.levels.length))) (fun hq => by have h5 := HG0.out.2; have h6 := hq.1; omega) (.int .i64 (kj + 1 + 1 + 1 + 1 + 1 + ↑(cntL cItem l[j].value.items) + ↑(cntL cVec l[j].value.parts) + ↑l[j].value.names.length + ↑l[j].value.cls.length + ↑l[j].value.levels.length + 1)))
          have hOc := VectorsO.keeps Oc_6.out (Keeps.sc (b := g) (o := j * 12 + 11) (Keeps.sc (b := g) (o := j * 12 + 10) (Keeps.refl _ w6) (fun hq => by have h5 := HG0.out.2; have h6 := hq.1; omega) (.int .i64 (kj + 1 + 1 + 1 + 1 + 1 + ↑(cntL cItem l[j].value.items) + ↑(cntL cVec l[j].value.parts) + ↑l[j].value.names.length + ↑l[j].value.cls.length + ↑l[j].value.levels.length))) (fun hq => by have h5 := HG0.out.2; have h6 := hq.1; omega) (.int .i64 (kj + 1 + 1 + 1 + 1 + 1 + ↑(cntL cItem l[j].value.items) + ↑(cntL cVec l[j].value.parts) + ↑l[j].value.names.length + ↑l[j].value.cls.length + ↑l[j].value.levels.length + 1)))
          have hOd := TxtO.keeps Od_6.out (Keeps.sc (b := g) (o := j * 12 + 11) (Keeps.sc (b := g) (o := j * 12 + 10) (Keeps.refl _ w6) (fun hq => by have h5 := HG0.out.2; have h6 := hq.1; omega) (.int .i64 (kj + 1 + 1 + 1 + 1 + 1 + ↑(cntL cItem l[j].value.items) + ↑(cntL cVec l[j].value.parts) + ↑l[j].value.names.length + ↑l[j].value.cls.length + ↑l[j].value.levels.length))) (fun hq => by have h5 := HG0.out.2; have h6 := hq.1; omega) (.int .i64 (kj + 1 + 1 + 1 + 1 + 1 + ↑(cntL cItem l[j].value.items) + ↑(cntL cVec l[j].value.parts) + ↑l[j].value.names.length + ↑l[j].value.cls.length + ↑l[j].value.levels.length + 1)))
          have hOe := TxtO.keeps Oe_6.out (Keeps.sc (b := g) (o := j * 12 + 11) (Keeps.sc (b := g) (o := j * 12 + 10) (Keeps.refl _ w6) (fun hq => by have h5 := HG0.out.2; have h6 := hq.1; omega) (.int .i64 (kj + 1 + 1 + 1 + 1 + 1 + ↑(cntL cItem l[j].value.items) + ↑(cntL cVec l[j].value.parts) + ↑l[j].value.names.length + ↑l[j].value.cls.length + ↑l[j].value.levels.length))) (fun hq => by have h5 := HG0.out.2; have h6 := hq.1; omega) (.int .i64 (kj + 1 + 1 + 1 + 1 + 1 + ↑(cntL cItem l[j].value.items) + ↑(cntL cVec l[j].value.parts) + ↑l[j].value.names.length + ↑l[j].value.cls.length + ↑l[j].value.levels.length + 1)))
          have hOg := TxtO.keeps Og_6.out (Keeps.sc (b := g) (o := j * 12 + 11) (Keeps.sc (b := g) (o := j * 12 + 10) (Keeps.refl _ w6) (fun hq => by have h5 := HG0.out.2; have h6 := hq.1; omega) (.int .i64 (kj + 1 + 1 + 1 + 1 + 1 + ↑(cntL cItem l[j].value.items) + ↑(cntL cVec l[j].value.parts) + ↑l[j].value.names.length + ↑l[j].value.cls.length + ↑l[j].value.levels.length))) (fun hq => by have h5 := HG0.out.2; have h6 := hq.1; omega) (.int .i64 (kj + 1 + 1 + 1 + 1 + 1 + ↑(cntL cItem l[j].value.items) + ↑(cntL cVec l[j].value.parts) + ↑l[j].value.names.length + ↑l[j].value.cls.length + ↑l[j].value.levels.length + 1)))
          refine ⟨j + 1, y.set j [.bool ((kj) % 3 == 0), .int .i64 (kj + 1), .int .i64 (kj + 1 + 1), .int .i64 (kj + 1 + 1 + 1), .int .i64 (kj + 1 + 1 + 1 + 1), .slice A41 l[j].value.items.length c41, .slice A42 l[j].value.parts.length c42, .slice A43 l[j].value.names.length c43, .slice A44 l[j].value.cls.length c44, .slice A45 l[j].value.levels.length c45, .int .i64 (kj + 1 + 1 + 1 + 1 + 1 + ↑(cntL cItem l[j].value.items) + ↑(cntL cVec l[j].value.parts) + ↑l[j].value.names.length + ↑l[j].value.cls.length + ↑l[j].value.levels.length), .int .i64 (kj + 1 + 1 + 1 + 1 + 1 + ↑(cntL cItem l[j].value.items) + ↑(cntL cVec l[j].value.parts) + ↑l[j].value.names.length + ↑l[j].value.cls.length + ↑l[j].value.levels.length + 1)], by omega, by go_num, by rw [HKJ.out]; congr 1; have := HCT.out; omega, ?_, ?_, ?_⟩
          · show MidO _ _ _ _ _ _ _ _ _ _
            rw [← HPS.out]
            refine MidO.update (fun h hk => h.keeps hk) HMj.out j (by rw [part_length]; exact hlt) _ _ rfl ?_ ?_ hkF
            · rw [← HSET.out]; simpa using hbF
            · have e1 := mkVec_eq l[j].value (kj + 1 + 1 + 1 + 1)
              have h8 := HCT.out
              have h9 := HK1.out
              have hcv := cVec_eq l[j].value
              refine ⟨A41, c41, A42, c42, A43, c43, A44, c44, A45, c45, f1, ?_, trivial, ?_, ?_, ?_, ⟨m + 1, A41, c41, A42, c42, A43, c43, A44, c44, A45, c45, f2, rfl, ?_, ?_, ?_, ?_, ?_, ?_, ?_, ?_⟩⟩
              · simp only [mkProm]; rw [e1]; simp only [VecD.kind, VecD.items, VecD.parts, VecD.names, VecD.cls, VecD.levels, VecD.code, VecD.env, mkL_length, markL_length]
              · show I64 (kj + 1); exact ⟨by omega, by omega⟩
              · show I64 (kj + 1 + 1); exact ⟨by omega, by omega⟩
              · show I64 (kj + 1 + 1 + 1); exact ⟨by omega, by omega⟩
              · show I64 (mkVec _ _).kind; rw [e1]; simp only [VecD.kind]; exact ⟨by omega, by omega⟩
              · show ItemsO _ _ (.slice A41 (mkVec _ _).items.length c41) (mkVec _ _).items; rw [e1]; simpa only [VecD.items, mkL_length] using hOb
              · show SlO _ _ _ _ _ (.slice A42 (mkVec _ _).parts.length c42) (mkVec _ _).parts; rw [e1]; unfold VectorsO at hOc; simpa only [VecD.parts, mkL_length] using hOc
              · show TxtO _ _ (.slice A43 (mkVec _ _).names.length c43) (mkVec _ _).names; rw [e1]; simpa only [VecD.names, markL_length] using hOd
              · show TxtO _ _ (.slice A44 (mkVec _ _).cls.length c44) (mkVec _ _).cls; rw [e1]; simpa only [VecD.cls, markL_length] using hOe
              · show TxtO _ _ (.slice A45 (mkVec _ _).levels.length c45) (mkVec _ _).levels; rw [e1]; simpa only [VecD.levels, markL_length] using hOg
              · show I64 (mkVec _ _).code; rw [e1]; simp only [VecD.code]; exact ⟨by omega, by omega⟩
              · show I64 (mkVec _ _).env; rw [e1]; simp only [VecD.env]; exact ⟨by omega, by omega⟩
          · exact HK.out.trans (hkF.mono fun b hb => ⟨fun e => hb (by rw [e]; exact HG0.out.1), fun hq => hb hq.1⟩)
          · exact HZ.out.trans hzF
        case measure => simp [intOf]; omega
      · obtain rfl : j = l.length := by omega
        go_wp2_with fail
        go_ret
        exact ⟨ret_int (by rw [List.take_length]), by have := HMj.out.back (cap := cap) (by rw [part_length]; exact hn) HC.out (by rw [part_length]; exact HP.out); rw [part_length, part_all] at this; exact this, HK.out, HZ.out⟩
end Go.Proofs.YtejieacdfjpfnaaGreat
namespace Go.Proofs.YtejieacdfjpfnaaGreat
open Go.ChangeShapes Go.WideShapes Go.ChangeAt Go.RowKit Go.Deep
set_option linter.unusedVariables false
set_option maxRecDepth 100000

def cStore (d : StoreD) : Nat := cntL cEnv d.envs + cntL cProm d.promises
def markStoreD (d : StoreD) (k : Int) : StoreD := ⟨(mkL mkEnv cEnv d.envs (k)), (mkL mkProm cProm d.promises (k + ↑(cntL cEnv d.envs)))⟩

set_option maxHeartbeats 4000000 in
theorem laws_markStore (S : Nat → Prop) (d : StoreD) (cs : List Value) (k : Int) (w : World) (h : StoreO S w cs d) (hS : ¬ S w.heap.size) (h0 : 0 < k) (h1 : k + cStore d ≤ 4611686018427387904) :
    Calls Tryz.prog 17 #[.agg cs.toArray, .int .i64 k] w (RetMark S w (k + cStore d) fun w' => StoreO S w' cs (markStoreD d k)) := by
  obtain ⟨A0, c0, A1, c1, f, rfl, o0, o1⟩ := h
  have HS := Lib.hid hS
  have hk1 : k + ↑(cntL cEnv d.envs) + ↑(cntL cProm d.promises) ≤ 4611686018427387904 := by unfold cStore at h1; omega
  have HKT := Lib.hid (show ((k + (cStore d : Nat) : Int)) = k + ↑(cntL cEnv d.envs) + ↑(cntL cProm d.promises) by unfold cStore; omega)
  have O0_0 := Lib.hid o0
  have O1_0 := Lib.hid o1
  have HK0 := Lib.hid (Keeps.of_below (fun b => ¬ S b) ((Below.refl w.heap.size w).alloc (Nat.le_refl _) (.cells [.slice A0 d.envs.length c0, .slice A1 d.promises.length c1].toArray 33)))
  have HB0 := Lib.hid (Blk.new w 33 [.slice A0 d.envs.length c0, .slice A1 d.promises.length c1])
  clear o0 o1 hS h1
  go_enter Tryz.func17, Tryz.ntmps17
  go_upto_region 1 with fail
  refine gen_w (G := fun W => Blk W w.heap.size 33 [.slice A0 d.envs.length c0, .slice A1 d.promises.length c1] ∧ Keeps (fun b => ¬ S b) w W ∧ Below 0 w W ∧ EnvsO (fun b => S b ∧ f b = 0) W (.slice A0 d.envs.length c0) d.envs ∧ PromisesO (fun b => S b ∧ f b = 1) W (.slice A1 d.promises.length c1) d.promises) (show Ok _ _ from ⟨HB0.out, HK0.out, (Below.refl 0 w).alloc (Nat.zero_le _) _, EnvsO.keeps O0_0.out (Keeps.of_below _ ((Below.refl w.heap.size w).alloc (Nat.le_refl _) _)), PromisesO.keeps O1_0.out (Keeps.of_below _ ((Below.refl w.heap.size w).alloc (Nat.le_refl _) _))⟩) ?_
  clear HB0 HK0 O0_0 O1_0
  rintro W1 ⟨hq0, hq1, hq2, ho0, ho1⟩
  have HB1 := Lib.hid hq0
  have HK1 := Lib.hid hq1
  have HZ1 := Lib.hid hq2
  have O0_1 := Lib.hid ho0
  have O1_1 := Lib.hid ho1
  clear hq0 hq1 hq2 ho0 ho1
  have y0 := HB1.out.cell 0 _ rfl
  have hkc : 0 < k := by omega
  have hkb : k ≤ 4611686018427387904 := by omega
  go_wp2_with fail
  have hh := laws_markEnvS (fun b => S b ∧ f b = 0) d.envs _ (k) _ O0_1.out (by omega) (by omega)
  refine Calls.mono hh ?_
  clear hh y0 hkc hkb
  rintro e w2 ⟨rfl, ho, hk, hz⟩
  have HB2 := Lib.hid (HB1.out.keeps hk (fun hq => HS.out hq.1))
  have HZ2 := Lib.hid (HZ1.out.trans hz)
  have HK2 := Lib.hid (HK1.out.trans (hk.mono fun b hb hq => hb hq.1))
  have O0_2 := Lib.hid ho
  have O1_2 := Lib.hid (PromisesO.keeps O1_1.out (hk.mono fun b hb hq => by have h5 := hb.2; have h6 := hq.2; omega))
  clear ho hk hz
  have y1 := HB2.out.cell 1 _ rfl
  have hkc : 0 < k + ↑(cntL cEnv d.envs) := by omega
  have hkb : k + ↑(cntL cEnv d.envs) ≤ 4611686018427387904 := by omega
  go_wp2_with fail
  have hh := laws_markPromiseS (fun b => S b ∧ f b = 1) d.promises _ (k + ↑(cntL cEnv d.envs)) _ O1_2.out (by omega) (by omega)
  refine Calls.mono hh ?_
  clear hh y1 hkc hkb
  rintro e w3 ⟨rfl, ho, hk, hz⟩
  have HB3 := Lib.hid (HB2.out.keeps hk (fun hq => HS.out hq.1))
  have HZ3 := Lib.hid (HZ2.out.trans hz)
  have HK3 := Lib.hid (HK2.out.trans (hk.mono fun b hb hq => hb hq.1))
  have O0_3 := Lib.hid (EnvsO.keeps O0_2.out (hk.mono fun b hb hq => by have h5 := hb.2; have h6 := hq.2; omega))
  have O1_3 := Lib.hid ho
  clear ho hk hz
  go_wp2_with fail
  go_ret
  refine ⟨ret_int (by rw [HKT.out]), ⟨A0, c0, A1, c1, f, ?_, ?_, ?_⟩, HK3.out, HZ3.out⟩
  · simp only [markStoreD, mkL_length]
  · have hO := O0_3.out
    unfold EnvsO at hO ⊢
    simpa only [markStoreD, mkL_length] using hO
  · have hO := O1_3.out
    unfold PromisesO at hO ⊢
    simpa only [markStoreD, mkL_length] using hO
end Go.Proofs.YtejieacdfjpfnaaGreat
namespace Go.Proofs.YtejieacdfjpfnaaGreat
open Go.ChangeShapes Go.WideShapes Go.ChangeAt Go.RowKit Go.Deep
set_option linter.unusedVariables false
set_option maxRecDepth 100000

theorem cntL_cons {α : Type} (f : α → Nat) (x : α) (l : List α) : cntL f (x :: l) = f x + cntL f l := by simp [cntL]
theorem szS_cons {α : Type} (f : α → Nat) (x : α) (l : List α) : szS f (x :: l) = 1 + f x + szS f l := by simp [szS]; omega
theorem cntL_szS {α : Type} (f g : α → Nat) (m : Nat) (l : List α) (h : ∀ x ∈ l, f x ≤ m + m * g x) : cntL f l ≤ m * szS g l := by
  induction l with
  | nil => simp [cntL]
  | cons x l ih =>
    have h1 := ih fun y hy => h y (List.mem_cons_of_mem _ hy)
    have h2 := h x List.mem_cons_self
    rw [cntL_cons, szS_cons, Nat.mul_add, Nat.mul_add]
    omega
mutual
theorem cVec_le : ∀ d : VecD, cVec d ≤ 4 + 4 * szVector d
  | .mk k i p n c l co en => by
    have h1 := cVecs_le p
    have h2 : cntL cItem i ≤ 3 * szS szItem i := cntL_szS _ _ 3 _ fun x _ => by simp [cItem]
    have h3 := szL_length n
    have h4 := szL_length c
    have h5 := szL_length l
    rw [cVec, szVector_eq]
    simp only [VecD.items, VecD.parts, VecD.names, VecD.cls, VecD.levels]
    omega
theorem cVecs_le : ∀ l : List VecD, cVecs l ≤ 4 * szS szVector l
  | [] => by simp [cVecs]
  | d :: l => by
    have h1 := cVec_le d
    have h2 := cVecs_le l
    rw [cVecs, szS_cons]
    omega
end
end Go.Proofs.YtejieacdfjpfnaaGreat
namespace Go.Proofs.YtejieacdfjpfnaaGreat
open Go.ChangeShapes Go.WideShapes Go.ChangeAt Go.RowKit Go.Deep
set_option linter.unusedVariables false
set_option maxRecDepth 100000

theorem cSlot_le (d : SlotD) : cSlot d ≤ 8 + 8 * szSlot d := by
  have h1 := cVec_le d.value
  have h2 := szL_length d.labels
  unfold cSlot szSlot
  omega
theorem cEnv_le (d : EnvD) : cEnv d ≤ 8 + 8 * szEnv d := by
  have h1 : cntL cSlot d.slots ≤ 8 * szS szSlot d.slots := cntL_szS _ _ 8 _ fun x _ => cSlot_le x
  have h2 := szL_length d.names
  unfold cEnv szEnv
  omega
theorem cProm_le (d : PromD) : cProm d ≤ 8 + 8 * szPromise d := by
  have h1 := cVec_le d.value
  unfold cProm szPromise
  omega
theorem cStore_le (s : StoreD) : cStore s ≤ 8 * szStore s := by
  have h1 : cntL cEnv s.envs ≤ 8 * szS szEnv s.envs := cntL_szS _ _ 8 _ fun x _ => cEnv_le x
  have h2 : cntL cProm s.promises ≤ 8 * szS szPromise s.promises := cntL_szS _ _ 8 _ fun x _ => cProm_le x
  unfold cStore szStore
  omega
theorem cV1_le (d : VecD) : cV1 d ≤ 4 + 4 * szVector d := by
  have h1 := cVec_le d
  rw [cVec_eq] at h1
  unfold cV1
  omega
end Go.Proofs.YtejieacdfjpfnaaGreat
