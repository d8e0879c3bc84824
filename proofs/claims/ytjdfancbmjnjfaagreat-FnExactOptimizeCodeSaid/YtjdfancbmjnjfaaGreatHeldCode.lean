/-
  What is held of the marks: instructions, segments, bytecode.
-/
import Derived.Test.YtjdfancbmjnjfaaGreatHeldVec
import Derived.Test.YtjdfancbmjnjfaaGreatKMarkC
import Derived.Deep.DeepCutAuto
namespace Go.Proofs.YtjdfancbmjnjfaaGreat
set_option maxRecDepth 100000
open Go.ChangeShapes Go.WideShapes Go.ChangeAt Go.RowKit Go.Deep
set_option linter.unusedVariables false

theorem laws_heldInts (l : List Int) (v : Value) (k : Int) (w : World) (h : Ints w v (markI k.toNat l.length)) (h0 : 0 < k) (h1 : k + l.length <= 4611686018427387904) :
  Calls Tryz.prog 46 #[v, .int .i64 k] w (RetHeld w (k + l.length)) :=
 Calls.mono (laws_heldIntS l.length v k w h0 h1 h) fun e w' ⟨he, hw⟩ => ⟨he, by rw [<- hw]; exact Below.refl _ _⟩
theorem laws_heldBools (l : List Bool) (v : Value) (k : Int) (w : World) (h : Bools w v (markB k.toNat l.length)) (h0 : 0 < k) (h1 : k + l.length <= 4611686018427387904) :
  Calls Tryz.prog 47 #[v, .int .i64 k] w (RetHeld w (k + l.length)) :=
 Calls.mono (laws_heldBoolS l.length v k w h0 h1 h) fun e w' ⟨he, hw⟩ => ⟨he, by rw [<- hw]; exact Below.refl _ _⟩

set_option maxHeartbeats 8000000 in
theorem laws_heldInstrS (l : List InstrD) (v : Value) (k : Int) (w : World) (h : SlR w 13 (InstrR w) v (mkL mkInstr cInstr l k)) (h0 : 0 < k) (h1 : k + cntL cInstr l <= 4611686018427387904) :
  Calls Tryz.prog 77 #[v, .int .i64 k] w (RetHeld w (k + cntL cInstr l)) := by
 obtain ⟨G, g0, HG⟩ := good0 w
 obtain ⟨A, c, rfl, hlc, hm, HC⟩ := SlR.open_ h
 have HL := Lib.hid (mkL_length mkInstr cInstr l k)
 rw [mkL_length] at hlc ⊢
 clear h
 unfold maxLen at hm
 go_enter Tryz.func77, Tryz.ntmps77
 go_wp2_with fail
 go_loopw [1, 5] (fun x i wr => ∃ j : Nat, j <= l.length /\ i = .int .i64 j /\ x = .int .i64 (k + (cntL cInstr (l.take j) : Int)) /\ Ok G wr) (fun _ i _ => l.length - (intOf i).toNat)
 case atStart => exact ⟨0, Nat.zero_le _, rfl, by simp [cntL], g0⟩
 case round =>
  clear g0
  obtain ⟨j, hj, rfl, rfl, g0⟩ := hrel
  by_cases hlt : j < l.length
  ·have hcn : (cntL cInstr (l.take j) : Int) + cInstr l[j] <= cntL cInstr l := by have := cntL_at cInstr l j hlt; omega
   have HKJ := Lib.hid (show k + (cntL cInstr (l.take (j + 1)) : Int) = k + (cntL cInstr (l.take j) : Int) + cInstr l[j] by rw [cntL_take _ _ _ hlt]; omega)
   have HCT := Lib.hid (cInstr_eq l[j])
   have hkj0 : 0 < k + (cntL cInstr (l.take j) : Int) := by omega
   have HK1 := Lib.hid (show k + (cntL cInstr (l.take j) : Int) + cInstr l[j] <= 4611686018427387904 by omega)
   obtain ⟨b, off, cs, rfl, hbl, _, hat, hro⟩ := HC.out j (by rw [HL.out]; exact hlt)
   rw [mkL_at _ _ _ _ _ hlt] at hro
   clear hcn
   generalize k + (cntL cInstr (l.take j) : Int) = kj at *
   obtain ⟨v6, v1, v2, v3, v4, v5, rfl, h0, h1, h2, h3, h4, hv⟩ := hro
   obtain ⟨n0, hv⟩ := hv
   obtain ⟨m, rfl⟩ : ∃ m, n0 = m + 1 := by
    cases n0 with
    | zero => exact hv.elim
    | succ m => exact ⟨m, rfl⟩
   simp only [mkInstr] at hat hv h4
   rw [mkVec_eq] at hat hv
   obtain ⟨u1, u2, u3, u4, u5, he, _, g1, g2, g3, g4, g5, _, _⟩ := hv
   simp only [kind_mk, items_mk, parts_mk, names_mk, cls_mk, levels_mk, code_mk, env_mk] at hat he g1 g2 g3 g4 g5
   simp only [List.cons.injEq, and_true, true_and] at he
   obtain ⟨rfl, rfl, rfl, rfl, rfl⟩ := he
   obtain ⟨kq1, hq1⟩ : ∃ x : Int, x = kj + 1 + 1 + 1 + 1 + ↑l[j].labels.length := ⟨_, rfl⟩
   try simp only [<- hq1] at hat g1 g2 g3 g4 g5
   have HQ1 := Lib.hid hq1
   clear hq1
   obtain ⟨kq2, hq2⟩ : ∃ x : Int, x = kq1 + 1 + ↑(cntL cItem l[j].value.items) := ⟨_, rfl⟩
   try simp only [<- hq2] at hat g1 g2 g3 g4 g5
   have HQ2 := Lib.hid hq2
   clear hq2
   obtain ⟨kq3, hq3⟩ : ∃ x : Int, x = kq2 + ↑(cntL cVec l[j].value.parts) := ⟨_, rfl⟩
   try simp only [<- hq3] at hat g1 g2 g3 g4 g5
   have HQ3 := Lib.hid hq3
   clear hq3
   obtain ⟨kq4, hq4⟩ : ∃ x : Int, x = kq3 + ↑l[j].value.names.length := ⟨_, rfl⟩
   try simp only [<- hq4] at hat g1 g2 g3 g4 g5
   have HQ4 := Lib.hid hq4
   clear hq4
   obtain ⟨kq5, hq5⟩ : ∃ x : Int, x = kq4 + ↑l[j].value.cls.length := ⟨_, rfl⟩
   try simp only [<- hq5] at hat g1 g2 g3 g4 g5
   have HQ5 := Lib.hid hq5
   clear hq5
   obtain ⟨kq6, hq6⟩ : ∃ x : Int, x = kq5 + ↑l[j].value.levels.length := ⟨_, rfl⟩
   try simp only [<- hq6] at hat g1 g2 g3 g4 g5
   have HQ6 := Lib.hid hq6
   clear hq6
   have H1 := Lib.hid g1
   have H2 := Lib.hid (show Vectors m w v2 _ from g2)
   have H3 := Lib.hid g3
   have H4 := Lib.hid g4
   have H5 := Lib.hid g5
   have H6 := Lib.hid h4
   clear h0 h1 h2 h3 h4 g1 g2 g3 g4 g5
   obtain ⟨y0, y1, y2, y3, y4, y5, y6, y7, y8, y9, y10, y11, y12⟩ := pk_e13 HG hbl hat
   clear hat
   have hkb : kj + 7 <= 4611686018427387904 := by have := HCT.out; have := HK1.out; omega
   have hkc : 0 < kj := by omega
   go_wp2_with fail
   refine wp_region_plan (S := Ok G) (by kernel_rfl) [(true, 0), (true, 1), (true, 2), (true, 3), (true, 4), (true, 5), (false, 6), (true, 7)] (by kernel_rfl) (HG.out.drew g0) ?_
   replace g0 := HG.out.drew g0
   repeat ((first | (refine dyn_take rfl rfl (fun W g => by go_simp; rfl) ?_) | (refine dyn_skip rfl rfl ?_)); go_simp)
   refine dyn_act rfl rfl (fun K hK => ?_)
   go_wp2_with fail
   refine (laws_markText (kj + 1 + 1 + 1) _ (by omega) (by omega)).mono ?_
   rintro e w2 ⟨rfl, hb⟩
   replace g0 := HG.out.step g0 hb
   clear hb
   simp only []
   refine hK.out _ _ g0 ?_
   clear hK
   repeat ((first | (refine dyn_take rfl rfl (fun W g => by go_simp; rfl) ?_) | (refine dyn_skip rfl rfl ?_)); go_simp)
   refine dyn_done ?_
   go_wp2_with fail
   have hh := laws_heldTxt l[j].labels _ (kj + 1 + 1 + 1 + 1) _ (Txts.below H6.out (HG.out.below g0)) (by omega) (by have := HCT.out; have := HK1.out; omega)
   refine Calls.mono hh ?_
   clear hh hkb hkc
   rintro e w2 ⟨rfl, hb⟩
   replace g0 := HG.out.step g0 hb
   clear hb
   rw [<- HQ1.out]
   have hkb : kq1 + 3 <= 4611686018427387904 := by have := HQ1.out; have := HCT.out; have := HK1.out; omega
   have hkc : 0 < kq1 := by have := HQ1.out; omega
   go_wp2_with fail
   have hh := laws_heldItemS l[j].value.items _ (kq1 + 1) _ (Items.below H1.out (HG.out.below g0)) (by have := HQ1.out; omega) (by have := HQ1.out; have := HCT.out; have := HK1.out; omega)
   refine Calls.mono hh ?_
   clear hh hkb hkc
   rintro e w2 ⟨rfl, hb⟩
   replace g0 := HG.out.step g0 hb
   clear hb
   rw [<- HQ2.out]
   have hkb : kq2 + 2 <= 4611686018427387904 := by have := HQ1.out; have := HQ2.out; have := HCT.out; have := HK1.out; omega
   have hkc : 0 < kq2 := by have := HQ1.out; have := HQ2.out; omega
   go_wp2_with fail
   have hh := heldVec_all m l[j].value.parts _ (kq2) _ (Vectors.below H2.out (HG.out.below g0)) (by have := HQ1.out; have := HQ2.out; omega) (by have := HQ1.out; have := HQ2.out; have := HCT.out; have := HK1.out; omega)
   refine Calls.mono hh ?_
   clear hh hkb hkc
   rintro e w2 ⟨rfl, hb⟩
   replace g0 := HG.out.step g0 hb
   clear hb
   rw [<- HQ3.out]
   have hkb : kq3 + 2 <= 4611686018427387904 := by have := HQ1.out; have := HQ2.out; have := HQ3.out; have := HCT.out; have := HK1.out; omega
   have hkc : 0 < kq3 := by have := HQ1.out; have := HQ2.out; have := HQ3.out; omega
   go_wp2_with fail
   have hh := laws_heldTxt l[j].value.names _ (kq3) _ (Txts.below H3.out (HG.out.below g0)) (by have := HQ1.out; have := HQ2.out; have := HQ3.out; omega) (by have := HQ1.out; have := HQ2.out; have := HQ3.out; have := HCT.out; have := HK1.out; omega)
   refine Calls.mono hh ?_
   clear hh hkb hkc
   rintro e w2 ⟨rfl, hb⟩
   replace g0 := HG.out.step g0 hb
   clear hb
   rw [<- HQ4.out]
   have hkb : kq4 + 2 <= 4611686018427387904 := by have := HQ1.out; have := HQ2.out; have := HQ3.out; have := HQ4.out; have := HCT.out; have := HK1.out; omega
   have hkc : 0 < kq4 := by have := HQ1.out; have := HQ2.out; have := HQ3.out; have := HQ4.out; omega
   go_wp2_with fail
   have hh := laws_heldTxt l[j].value.cls _ (kq4) _ (Txts.below H4.out (HG.out.below g0)) (by have := HQ1.out; have := HQ2.out; have := HQ3.out; have := HQ4.out; omega) (by have := HQ1.out; have := HQ2.out; have := HQ3.out; have := HQ4.out; have := HCT.out; have := HK1.out; omega)
   refine Calls.mono hh ?_
   clear hh hkb hkc
   rintro e w2 ⟨rfl, hb⟩
   replace g0 := HG.out.step g0 hb
   clear hb
   rw [<- HQ5.out]
   have hkb : kq5 + 2 <= 4611686018427387904 := by have := HQ1.out; have := HQ2.out; have := HQ3.out; have := HQ4.out; have := HQ5.out; have := HCT.out; have := HK1.out; omega
   have hkc : 0 < kq5 := by have := HQ1.out; have := HQ2.out; have := HQ3.out; have := HQ4.out; have := HQ5.out; omega
   go_wp2_with fail
   have hh := laws_heldTxt l[j].value.levels _ (kq5) _ (Txts.below H5.out (HG.out.below g0)) (by have := HQ1.out; have := HQ2.out; have := HQ3.out; have := HQ4.out; have := HQ5.out; omega) (by have := HQ1.out; have := HQ2.out; have := HQ3.out; have := HQ4.out; have := HQ5.out; have := HCT.out; have := HK1.out; omega)
   refine Calls.mono hh ?_
   clear hh hkb hkc
   rintro e w2 ⟨rfl, hb⟩
   replace g0 := HG.out.step g0 hb
   clear hb
   rw [<- HQ6.out]
   have hkb : kq6 + 2 <= 4611686018427387904 := by have := HQ1.out; have := HQ2.out; have := HQ3.out; have := HQ4.out; have := HQ5.out; have := HQ6.out; have := HCT.out; have := HK1.out; omega
   have hkc : 0 < kq6 := by have := HQ1.out; have := HQ2.out; have := HQ3.out; have := HQ4.out; have := HQ5.out; have := HQ6.out; omega
   go_wp2_with fail
   go_roundw
   case rel => exact ⟨j + 1, by omega, by go_num, by rw [HKJ.out]; congr 1; have := HQ1.out; have := HQ2.out; have := HQ3.out; have := HQ4.out; have := HQ5.out; have := HQ6.out; have := HCT.out; omega, g0⟩
   case measure => simp [intOf]; omega
  ·obtain rfl : j = l.length := by omega
   go_wp2_with fail
   go_ret
   exact ⟨ret_int (by rw [List.take_length]), HG.out.below g0⟩
set_option maxHeartbeats 4000000 in
theorem laws_heldSegmentS (l : List SegD) (v : Value) (k : Int) (w : World) (h : SlR w 3 (SegmentR w) v (mkL markSeg cSeg l k)) (h0 : 0 < k) (h1 : k + cntL cSeg l <= 4611686018427387904) :
  Calls Tryz.prog 45 #[v, .int .i64 k] w (RetHeld w (k + cntL cSeg l)) := by
 obtain ⟨G, g0, HG⟩ := good0 w
 obtain ⟨A, c, rfl, hlc, hm, HC⟩ := SlR.open_ h
 have HL := Lib.hid (mkL_length markSeg cSeg l k)
 rw [mkL_length] at hlc ⊢
 clear h
 unfold maxLen at hm
 go_enter Tryz.func45, Tryz.ntmps45
 go_wp2_with fail
 go_loopw [1, 5] (fun x i wr => ∃ j : Nat, j <= l.length /\ i = .int .i64 j /\ x = .int .i64 (k + (cntL cSeg (l.take j) : Int)) /\ Ok G wr) (fun _ i _ => l.length - (intOf i).toNat)
 case atStart => exact ⟨0, Nat.zero_le _, rfl, by simp [cntL], g0⟩
 case round =>
  clear g0
  obtain ⟨j, hj, rfl, rfl, g0⟩ := hrel
  by_cases hlt : j < l.length
  ·have hcn : (cntL cSeg (l.take j) : Int) + cSeg l[j] <= cntL cSeg l := by have := cntL_at cSeg l j hlt; omega
   have HKJ := Lib.hid (show k + (cntL cSeg (l.take (j + 1)) : Int) = k + (cntL cSeg (l.take j) : Int) + cSeg l[j] by rw [cntL_take _ _ _ hlt]; omega)
   have HCT := Lib.hid (cSeg_eq l[j])
   have hkj0 : 0 < k + (cntL cSeg (l.take j) : Int) := by omega
   have HK1 := Lib.hid (show k + (cntL cSeg (l.take j) : Int) + cSeg l[j] <= 4611686018427387904 by omega)
   obtain ⟨b, off, cs, rfl, hbl, _, hat, hro⟩ := HC.out j (by rw [HL.out]; exact hlt)
   rw [mkL_at _ _ _ _ _ hlt] at hro
   clear hcn
   generalize k + (cntL cSeg (l.take j) : Int) = kj at *
   obtain ⟨v1, v2, v3, rfl, h1, h2, h3⟩ := hro
   simp only [markSeg] at hat h1 h2 h3
   have H1 := Lib.hid h1
   have H2 := Lib.hid h2
   have H3 := Lib.hid h3
   clear h1 h2 h3
   obtain ⟨y0, y1, y2⟩ := pk_e3 HG hbl hat
   clear hat
   have hkb : kj + 0 <= 4611686018427387904 := by have := HCT.out; have := HK1.out; omega
   have hkc : 0 < kj := by omega
   go_wp2_with fail
   have hh := laws_heldTxt l[j].labels _ (kj) _ (Txts.below H1.out (HG.out.below g0)) (by omega) (by have := HCT.out; have := HK1.out; omega)
   refine Calls.mono hh ?_
   clear hh hkb hkc
   rintro e w2 ⟨rfl, hb⟩
   replace g0 := HG.out.step g0 hb
   clear hb
   have hkb : kj + ↑l[j].labels.length + 0 <= 4611686018427387904 := by have := HCT.out; have := HK1.out; omega
   have hkc : 0 < kj + ↑l[j].labels.length := by omega
   go_wp2_with fail
   have hh := laws_heldInts l[j].defaults _ (kj + ↑l[j].labels.length) _ (Ints.below H2.out (HG.out.below g0)) (by omega) (by have := HCT.out; have := HK1.out; omega)
   refine Calls.mono hh ?_
   clear hh hkb hkc
   rintro e w2 ⟨rfl, hb⟩
   replace g0 := HG.out.step g0 hb
   clear hb
   have hkb : kj + ↑l[j].labels.length + ↑l[j].defaults.length + 0 <= 4611686018427387904 := by have := HCT.out; have := HK1.out; omega
   have hkc : 0 < kj + ↑l[j].labels.length + ↑l[j].defaults.length := by omega
   go_wp2_with fail
   have hh := laws_heldInstrS l[j].instrs _ (kj + ↑l[j].labels.length + ↑l[j].defaults.length) _ (Instrs.below H3.out (HG.out.below g0)) (by omega) (by have := HCT.out; have := HK1.out; omega)
   refine Calls.mono hh ?_
   clear hh hkb hkc
   rintro e w2 ⟨rfl, hb⟩
   replace g0 := HG.out.step g0 hb
   clear hb
   have hkb : kj + ↑l[j].labels.length + ↑l[j].defaults.length + ↑(cntL cInstr l[j].instrs) + 0 <= 4611686018427387904 := by have := HCT.out; have := HK1.out; omega
   have hkc : 0 < kj + ↑l[j].labels.length + ↑l[j].defaults.length + ↑(cntL cInstr l[j].instrs) := by omega
   go_wp2_with fail
   go_roundw
   case rel => exact ⟨j + 1, by omega, by go_num, by rw [HKJ.out]; congr 1; have := HCT.out; omega, g0⟩
   case measure => simp [intOf]; omega
  ·obtain rfl : j = l.length := by omega
   go_wp2_with fail
   go_ret
   exact ⟨ret_int (by rw [List.take_length]), HG.out.below g0⟩

set_option maxHeartbeats 4000000 in
theorem laws_heldBytecode (d : CodeD) (cs : List Value) (k : Int) (w : World) (h : BytecodeR w cs (markCodeD d k)) (h0 : 0 < k) (h1 : k + cCode d <= 4611686018427387904) :
  Calls Tryz.prog 16 #[.agg cs.toArray, .int .i64 k] w (RetHeld w (k + cCode d)) := by
 obtain ⟨v1, v2, v3, rfl, h2, h3, h4⟩ := h
 simp only [markCodeD] at h2 h3 h4
 have hk1 : k + ↑(cntL cSeg d.segments) + ↑d.main.length + ↑d.quiet.length <= 4611686018427387904 := by unfold cCode at h1; omega
 have HKT := Lib.hid (show ((k + (cCode d : Nat) : Int)) = k + ↑(cntL cSeg d.segments) + ↑d.main.length + ↑d.quiet.length by unfold cCode; omega)
 obtain ⟨G, g0, HG, B1⟩ := good1 w 31 [v1, v2, v3]
 have H1 := Lib.hid h2
 have H2 := Lib.hid h3
 have H3 := Lib.hid h4
 clear h2 h3 h4 h1
 obtain ⟨x0, x1, x2⟩ := pk_f3 B1
 go_enter Tryz.func16, Tryz.ntmps16
 go_upto_region 1 with fail
 refine gen_w g0 ?_
 clear g0
 intro W0 g0
 have hkc : 0 < k := by omega
 have hkb : k <= 4611686018427387904 := by omega
 go_wp2_with fail
 have hh := laws_heldSegmentS d.segments _ (k) _ (Segments.below H1.out (HG.out.below g0)) (by omega) (by omega)
 refine Calls.mono hh ?_
 clear hh hkb hkc
 rintro e w2 ⟨rfl, hb⟩
 replace g0 := HG.out.step g0 hb
 clear hb
 have hkc : 0 < k + ↑(cntL cSeg d.segments) := by omega
 have hkb : k + ↑(cntL cSeg d.segments) <= 4611686018427387904 := by omega
 go_wp2_with fail
 have hh := laws_heldInts d.main _ (k + ↑(cntL cSeg d.segments)) _ (Ints.below H2.out (HG.out.below g0)) (by omega) (by omega)
 refine Calls.mono hh ?_
 clear hh hkb hkc
 rintro e w3 ⟨rfl, hb⟩
 replace g0 := HG.out.step g0 hb
 clear hb
 have hkc : 0 < k + ↑(cntL cSeg d.segments) + ↑d.main.length := by omega
 have hkb : k + ↑(cntL cSeg d.segments) + ↑d.main.length <= 4611686018427387904 := by omega
 go_wp2_with fail
 have hh := laws_heldBools d.quiet _ (k + ↑(cntL cSeg d.segments) + ↑d.main.length) _ (Bools.below H3.out (HG.out.below g0)) (by omega) (by omega)
 refine Calls.mono hh ?_
 clear hh hkb hkc
 rintro e w4 ⟨rfl, hb⟩
 replace g0 := HG.out.step g0 hb
 clear hb
 have hkc : 0 < k + ↑(cntL cSeg d.segments) + ↑d.main.length + ↑d.quiet.length := by omega
 go_wp2_with fail
 go_ret
 exact ⟨ret_int HKT.out.symm, HG.out.below g0⟩
end Go.Proofs.YtjdfancbmjnjfaaGreat
