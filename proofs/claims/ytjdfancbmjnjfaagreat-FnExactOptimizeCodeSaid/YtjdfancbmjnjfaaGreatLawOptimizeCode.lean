/-
  The law FnExactOptimizeCode returns true for every bytecode.
-/
import Derived.Test.YtjdfancbmjnjfaaGreatRows
import Derived.Test.YtjdfancbmjnjfaaGreatJoin
import Derived.Test.YtjdfancbmjnjfaaGreatOptI
import Derived.Test.YtjdfancbmjnjfaaGreatHeldCode
import Derived.Test.YtjdfancbmjnjfaaGreatKLe
namespace Go.Proofs.YtjdfancbmjnjfaaGreat
set_option maxRecDepth 100000
open Go.ChangeShapes Go.WideShapes Go.ChangeAt Go.RowKit Go.Deep
open Go.ChangeMaps (open_string shut_string)
set_option linter.unusedVariables false
set_option maxRecDepth 100000

theorem cCode_le (d : CodeD) : cCode d <= 8 * szBytecode d := by
 have h := cntL_szS cSeg szSegment 8 d.segments (fun x _ => by have := cSeg_le x; omega)
 unfold cCode szBytecode
 omega
theorem szS_map_le {α : Type} (f : α -> Nat) (g : α -> α) (l : List α) (h : ∀ x ∈ l, f (g x) <= f x) : szS f (l.map g) <= szS f l := by
 induction l with
 | nil => exact Nat.le_refl _
 | cons x l ih =>
  rw [List.map_cons, szS_cons, szS_cons]
  have := h x (by simp)
  have := ih (fun y hy => h y (by simp [hy]))
  omega
theorem dropN_sz (kp : Nat -> Bool) (l : List InstrD) : ∀ k, k <= l.length -> szS szInstr (dropN kp l k) <= szS szInstr (l.take k) := by
 intro k
 induction k with
 | zero => intro _; simp [dropN, szS]
 | succ k ih =>
  intro hk
  rw [dropN, List.getElem?_eq_getElem (by omega), szS_take_succ szInstr l k (by omega)]
  have h1 := ih (by omega)
  dsimp only
  by_cases h : kp k = true
  ·rw [if_pos h]
   have e : szS szInstr (dropN kp l k ++ [mvI kp l[k]]) = szS szInstr (dropN kp l k) + 1 + szInstr (mvI kp l[k]) := by simp [szS]; omega
   have e2 : szInstr (mvI kp l[k]) = szInstr l[k] := by unfold mvI; split <;> rfl
   omega
  ·rw [if_neg h, List.append_nil]
   omega
theorem thrF_sz {l : List InstrD} (ha : ArgOk l) : szS szInstr (thrF l) = szS szInstr l := by
 have e : (thrF l).map szInstr = l.map szInstr := by
  refine List.ext_getElem (by simp [thrF_len]) fun i h1 h2 => ?_
  simp only [List.length_map] at h1 h2
  obtain ⟨hl, hs⟩ := (thrF_Thr l ha).sim
  simp only [List.getElem_map]
  have h3 := hs i h2
  unfold szInstr
  rw [h3]
 unfold szS
 rw [e, thrF_len]
theorem optF_sz : ∀ f l, ArgOk l -> szS szInstr (optF f l) <= szS szInstr l := by
 intro f
 induction f with
 | zero => intro l _; exact Nat.le_refl _
 | succ f ih =>
  intro l ha
  have h1 : szS szInstr (dropF (thrF l)) <= szS szInstr l := by
   have := dropN_sz (keepF (thrF l)) (thrF l) (thrF l).length (Nat.le_refl _)
   rw [List.take_length, thrF_sz ha] at this
   exact this
  rw [optF]
  split
  ·exact h1
  ·exact Nat.le_trans (ih _ (dropF_ok (thrF_ok ha))) h1
theorem optC_c (s : CodeD) : cCode (optC s) <= 8 * szBytecode s + 100 := by
 have h := cCode_le (optC s)
 have h2 : szBytecode (optC s) <= szBytecode s := by
  unfold optC
  cases q : checkB s
  ·simp [zCode, szBytecode, szS]
  ·have h3 := szS_map_le szSegment optS s.segments (fun x hx => by
    have := optF_sz (x.instrs.length + 1) x.instrs (check_ok q x hx).1.1
    unfold szSegment optS
    show szL x.labels + List.length x.defaults + szS szInstr (optF (x.instrs.length + 1) x.instrs) <= _
    omega)
   simp only [if_true]
   unfold optD szBytecode
   dsimp only
   omega
 omega

namespace fnExactOptimizeCode
set_option maxHeartbeats 16000000 in
theorem walk (v0 : Value) (xs0 : List Value × CodeD) {w : World} (h0 : v0 = .agg xs0.1.toArray /\ BytecodeR w xs0.1 xs0.2) :
  Calls Tryz.prog 5 #[v0] w fun e w' => e = .returned (.bool true) /\ Below w.heap.size w w' := by
 obtain ⟨cs, s⟩ := xs0
 obtain ⟨rfl, h⟩ := h0
 dsimp only at h ⊢
 have HT := Lib.hid h
 obtain ⟨v0, v1, v2, rfl, k0, k1, k2⟩ := h
 obtain ⟨A1, a1, rfl, _⟩ := SlR.open_ k0
 obtain ⟨A2, a2, rfl, _⟩ := Ints.open_ k1
 obtain ⟨A3, a3, rfl, _⟩ := Bools.open_ k2
 clear k0 k1 k2
 obtain ⟨p1, HL0, lop1, Ep1⟩ := (LS.start w).box 26 [.slice A1 s.segments.length a1, .slice A2 s.main.length a2, .slice A3 s.quiet.length a3]
 have HL := Lib.hid (show LS w [p1] _ from HL0)
 clear HL0
 by_cases hz : (szBytecode s : Int) <= 1048576
 rotate_left
 ·have HZ := Lib.hid (szR_neg hz)
  go_enter Tryz.func5, Tryz.ntmps5
  go_upto_region 1 with fail
  refine gen_w (G := LS w [p1]) (show Ok _ _ from HL.out) ?_
  clear HL
  intro W0 g
  have HL := Lib.hid (show LS w [p1] W0 from g)
  have y0 := (Ep1.out _ (HL.out.at 0 _ rfl)).cell 0 _ rfl
  have y1 := (Ep1.out _ (HL.out.at 0 _ rfl)).cell 1 _ rfl
  have y2 := (Ep1.out _ (HL.out.at 0 _ rfl)).cell 2 _ rfl
  go_wp2_with fail
  refine Calls.mono (laws_szBytecode s _ 1048576 _ (HT.out.below HL.out.below) (by omega) (by omega)) ?_
  rintro e w1 ⟨rfl, hb⟩
  rw [HZ.out]
  have HB := Lib.hid (HL.out.step hb).below
  clear hb g HL y0 y1 y2
  go_wp2_with fail
  go_ret
  exact ⟨rfl, HB.out⟩
 have HZ := Lib.hid (szR_pos hz)
 have hct := cCode_le s
 have hcd := optC_c s
 have HSZ := Lib.hid (show szBytecode s <= 1048576 by omega)
 obtain ⟨d, hd⟩ : ∃ d, optC s = d := ⟨_, rfl⟩
 obtain ⟨bo, hbo⟩ : ∃ bo, checkB s = bo := ⟨_, rfl⟩
 have HSP := Lib.hid (fun (cs : List Value) (V : World) (h : BytecodeR V cs s) => spec_OptimizeCode s cs V h HSZ.out)
 have HIM := Lib.hid (fun (cs : List Value) (V : World) (h : BytecodeR V cs s) => impl_OptimizeCode s cs V h HSZ.out)
 rw [hd, hbo] at HSP HIM
 rw [hd] at hcd
 clear hd hbo
 go_enter Tryz.func5, Tryz.ntmps5
 go_upto_region 1 with fail
 refine gen_w (G := LS w [p1]) (show Ok _ _ from HL.out) ?_
 clear HL
 intro W0 g
 have HL := Lib.hid (show LS w [p1] W0 from g)
 clear g
 have y0 := (Ep1.out _ (HL.out.at 0 _ rfl)).cell 0 _ rfl
 have y1 := (Ep1.out _ (HL.out.at 0 _ rfl)).cell 1 _ rfl
 have y2 := (Ep1.out _ (HL.out.at 0 _ rfl)).cell 2 _ rfl
 go_wp2_with fail
 refine Calls.mono (laws_szBytecode s _ 1048576 _ (HT.out.below HL.out.below) (by omega) (by omega)) ?_
 rintro e w1 ⟨rfl, hb⟩
 rw [HZ.out]
 clear y0 y1 y2
 replace HL := Lib.hid (HL.out.step hb)
 clear hb
 have y0 := (Ep1.out _ (HL.out.at 0 _ rfl)).cell 0 _ rfl
 have y1 := (Ep1.out _ (HL.out.at 0 _ rfl)).cell 1 _ rfl
 have y2 := (Ep1.out _ (HL.out.at 0 _ rfl)).cell 2 _ rfl
 go_wp2_with fail
 clear y0 y1 y2
 refine Calls.mono (laws_toBytecode s _ _ (HT.out.below HL.out.below) (by omega)) ?_
 rintro e w2 ⟨cu, rfl, ou, hb⟩
 have Ru := Lib.hid ou.read
 obtain ⟨u1, uc1, u2, uc2, u3, uc3, rfl⟩ := ou.shape
 clear ou
 replace HL := Lib.hid (HL.out.step hb)
 clear hb
 go_wp2_with fail
 refine Calls.mono (HSP.out _ _ Ru.out) ?_
 rintro e w3 ⟨cC, rfl, oC, hb⟩
 obtain ⟨C1, Cc1, C2, Cc2, C3, Cc3, rfl⟩ := oC.shape
 obtain ⟨p2, HLn, lop2, hip2, Ep2⟩ := HL.out.push hb (fun V => BytecodeO (Rng w2.heap.size w3.heap.size) V [.slice C1 d.segments.length Cc1, .slice C2 d.main.length Cc2, .slice C3 d.quiet.length Cc3] d) (fun V V2 hk h => h.keeps hk) oC
 replace HL := Lib.hid HLn
 clear hb HLn
 clear oC
 go_upto_region 6 with fail
 obtain ⟨p3, HLn, lop3, Ep3⟩ := HL.out.box 31 [.slice C1 d.segments.length Cc1, .slice C2 d.main.length Cc2, .slice C3 d.quiet.length Cc3]
 refine gen_w (G := LS w [p3, p2, p1]) (show Ok _ _ from HLn) ?_
 clear HL HLn
 intro w4 g
 have HL := Lib.hid (show LS w [p3, p2, p1] w4 from g)
 clear g
 clear Ru
 have y0 := (Ep1.out _ (HL.out.at 2 _ rfl)).cell 0 _ rfl
 have y1 := (Ep1.out _ (HL.out.at 2 _ rfl)).cell 1 _ rfl
 have y2 := (Ep1.out _ (HL.out.at 2 _ rfl)).cell 2 _ rfl
 go_wp2_with fail
 clear y0 y1 y2
 refine Calls.mono (laws_toBytecode s _ _ (HT.out.below HL.out.below) (by omega)) ?_
 rintro e w5 ⟨cx, rfl, ox, hb⟩
 obtain ⟨X1, x1, X2, x2, X3, x3, rfl⟩ := ox.shape
 obtain ⟨p4, HLn, lop4, hip4, Ep4⟩ := HL.out.push hb (fun V => BytecodeO (Rng w4.heap.size w5.heap.size) V [.slice X1 s.segments.length x1, .slice X2 s.main.length x2, .slice X3 s.quiet.length x3] s) (fun V V2 hk h => h.keeps hk) ox
 replace HL := Lib.hid HLn
 clear hb HLn
 clear ox
 go_upto_region 7 with fail
 obtain ⟨p5, HLn, lop5, Ep5⟩ := HL.out.box 31 [.slice X1 s.segments.length x1, .slice X2 s.main.length x2, .slice X3 s.quiet.length x3]
 refine gen_w (G := LS w [p5, p4, p3, p2, p1]) (show Ok _ _ from HLn) ?_
 clear HL HLn
 intro w6 g
 have HL := Lib.hid (show LS w [p5, p4, p3, p2, p1] w6 from g)
 clear g
 have y0 := (Ep5.out _ (HL.out.at 0 _ rfl)).cell 0 _ rfl
 have y1 := (Ep5.out _ (HL.out.at 0 _ rfl)).cell 1 _ rfl
 have y2 := (Ep5.out _ (HL.out.at 0 _ rfl)).cell 2 _ rfl
 go_wp2_with fail
 refine Calls.mono (HIM.out _ _ (Ep4.out _ (HL.out.at 1 _ rfl)).read) ?_
 rintro e w7 ⟨cG, rfl, oG, hb⟩
 obtain ⟨G1, Gc1, G2, Gc2, G3, Gc3, rfl⟩ := oG.shape
 obtain ⟨p6, HLn, lop6, hip6, Ep6⟩ := HL.out.push hb (fun V => BytecodeO (Rng w6.heap.size w7.heap.size) V [.slice G1 d.segments.length Gc1, .slice G2 d.main.length Gc2, .slice G3 d.quiet.length Gc3] d) (fun V V2 hk h => h.keeps hk) oG
 replace HL := Lib.hid HLn
 clear hb HLn
 clear oG
 go_upto_region 8 with fail
 obtain ⟨p7, HLn, lop7, Ep7⟩ := HL.out.box 31 [.slice G1 d.segments.length Gc1, .slice G2 d.main.length Gc2, .slice G3 d.quiet.length Gc3]
 refine gen_w (G := LS w [p7, p6, p5, p4, p3, p2, p1]) (show Ok _ _ from HLn) ?_
 clear HL HLn
 intro w8 g
 have HL := Lib.hid (show LS w [p7, p6, p5, p4, p3, p2, p1] w8 from g)
 clear g
 clear y0 y1 y2
 have hbb : (bo != bo) = false := by simp
 have y0 := (Ep7.out _ (HL.out.at 0 _ rfl)).cell 0 _ rfl
 have y1 := (Ep7.out _ (HL.out.at 0 _ rfl)).cell 1 _ rfl
 have y2 := (Ep7.out _ (HL.out.at 0 _ rfl)).cell 2 _ rfl
 have z0 := (Ep3.out _ (HL.out.at 4 _ rfl)).cell 0 _ rfl
 have z1 := (Ep3.out _ (HL.out.at 4 _ rfl)).cell 1 _ rfl
 have z2 := (Ep3.out _ (HL.out.at 4 _ rfl)).cell 2 _ rfl
 go_wp2_with fail
 clear y0 y1 y2 z0 z1 z2
 refine Calls.mono (laws_eqBytecode_same d _ _ _ (Ep6.out _ (HL.out.at 1 _ rfl)).read (Ep2.out _ (HL.out.at 5 _ rfl)).read) ?_
 rintro e w9 ⟨rfl, hb⟩
 replace HL := Lib.hid (HL.out.step hb)
 clear hb
 have y0 := fun V (h : Ok (LS w [p7, p6, p5, p4, p3, p2, p1]) V) => (Ep5.out _ ((show LS w [p7, p6, p5, p4, p3, p2, p1] V from h).at 2 _ rfl)).cell 0 _ rfl
 have y1 := fun V (h : Ok (LS w [p7, p6, p5, p4, p3, p2, p1]) V) => (Ep5.out _ ((show LS w [p7, p6, p5, p4, p3, p2, p1] V from h).at 2 _ rfl)).cell 1 _ rfl
 have y2 := fun V (h : Ok (LS w [p7, p6, p5, p4, p3, p2, p1]) V) => (Ep5.out _ ((show LS w [p7, p6, p5, p4, p3, p2, p1] V from h).at 2 _ rfl)).cell 2 _ rfl
 have z0 := fun V (h : Ok (LS w [p7, p6, p5, p4, p3, p2, p1]) V) => (Ep1.out _ ((show LS w [p7, p6, p5, p4, p3, p2, p1] V from h).at 6 _ rfl)).cell 0 _ rfl
 have z1 := fun V (h : Ok (LS w [p7, p6, p5, p4, p3, p2, p1]) V) => (Ep1.out _ ((show LS w [p7, p6, p5, p4, p3, p2, p1] V from h).at 6 _ rfl)).cell 1 _ rfl
 have z2 := fun V (h : Ok (LS w [p7, p6, p5, p4, p3, p2, p1]) V) => (Ep1.out _ ((show LS w [p7, p6, p5, p4, p3, p2, p1] V from h).at 6 _ rfl)).cell 2 _ rfl
 have g0 : Ok (LS w [p7, p6, p5, p4, p3, p2, p1]) w9.drew := HL.out.drew
 clear HL
 go_wp2_with fail
 refine wp_region_plan (S := Ok (LS w [p7, p6, p5, p4, p3, p2, p1])) (by kernel_rfl) [(true, 0), (true, 1), (false, 2), (false, 3), (true, 4)] (by kernel_rfl) g0 ?_
 repeat ((first | (refine dyn_take rfl rfl (fun W g => by go_simp; rfl) ?_) | (refine dyn_skip rfl rfl ?_)); go_simp)
 refine dyn_act rfl rfl (fun K hK => ?_)
 go_wp2_with fail
 refine Calls.mono (laws_toBytecode s _ _ (HT.out.below (show LS w [p7, p6, p5, p4, p3, p2, p1] _ from g0).below) (by omega)) ?_
 rintro e w10 ⟨cy, rfl, oy, hb⟩
 have RY := Lib.hid oy.read
 obtain ⟨Y1, yc1, Y2, yc2, Y3, yc3, rfl⟩ := oy.shape
 have g1 : Ok (LS w [p7, p6, p5, p4, p3, p2, p1]) w10 := (show LS w [p7, p6, p5, p4, p3, p2, p1] _ from g0).step hb
 clear oy hb g0
 simp only []
 refine hK.out _ _ g1 ?_
 clear hK
 repeat ((first | (refine dyn_take rfl rfl (fun W g => by go_simp; rfl) ?_) | (refine dyn_skip rfl rfl ?_)); go_simp)
 refine dyn_act rfl rfl (fun K hK => ?_)
 go_wp2_with fail
 refine Calls.mono (laws_eqBytecode_same s _ _ _ (Ep4.out _ ((show LS w [p7, p6, p5, p4, p3, p2, p1] _ from g1).at 3 _ rfl)).read RY.out) ?_
 rintro e w11 ⟨rfl, hb⟩
 have g2 : Ok (LS w [p7, p6, p5, p4, p3, p2, p1]) w11 := (show LS w [p7, p6, p5, p4, p3, p2, p1] _ from g1).step hb
 clear hb g1 RY
 simp only []
 refine hK.out _ _ g2 ?_
 clear hK
 repeat ((first | (refine dyn_take rfl rfl (fun W g => by go_simp; rfl) ?_) | (refine dyn_skip rfl rfl ?_)); go_simp)
 refine dyn_done ?_
 have HL := Lib.hid (show LS w [p7, p6, p5, p4, p3, p2, p1] w11 from g2)
 clear g2 y0 y1 y2 z0 z1 z2
 have y0 := (Ep5.out _ (HL.out.at 2 _ rfl)).cell 0 _ rfl
 have y1 := (Ep5.out _ (HL.out.at 2 _ rfl)).cell 1 _ rfl
 have y2 := (Ep5.out _ (HL.out.at 2 _ rfl)).cell 2 _ rfl
 go_wp2_with fail
 clear y0 y1 y2
 refine Calls.mono (laws_markBytecode (Rng w4.heap.size w5.heap.size) s _ 1 _ (Ep4.out _ (HL.out.at 3 _ rfl)) (fun hb => by have h1 := hb.2; have h2 := (HL.out.bnd 3 _ rfl).2.2; rw [hip4] at h2; omega) (by decide) (by omega)) ?_
 rintro e w12 ⟨rfl, ho, hk, hz0⟩
 obtain ⟨p8, HLn, lop8, hip8, Ep8⟩ := HL.out.mod 3 _ rfl (by rw [lop4, hip4]; exact hk) hz0 (fun V => BytecodeO (Rng w4.heap.size w5.heap.size) V [.slice X1 s.segments.length x1, .slice X2 s.main.length x2, .slice X3 s.quiet.length x3] (markCodeD s 1)) (by rw [lop4, hip4]; exact fun V V2 hk h => h.keeps hk) ho
 rw [lop4] at lop8
 rw [hip4] at hip8
 have HL2 := Lib.hid (show LS w [p7, p6, p5, p8, p3, p2, p1] _ from HLn)
 clear HL HLn hk hz0 ho
 have HL := HL2
 clear HL2
 have hdk : decide ((1 + (cCode s : Int)) < 0) = false := decide_eq_false (by omega)
 have y0 := (Ep7.out _ (HL.out.at 0 _ rfl)).cell 0 _ rfl
 have y1 := (Ep7.out _ (HL.out.at 0 _ rfl)).cell 1 _ rfl
 have y2 := (Ep7.out _ (HL.out.at 0 _ rfl)).cell 2 _ rfl
 have z0 := (Ep3.out _ (HL.out.at 4 _ rfl)).cell 0 _ rfl
 have z1 := (Ep3.out _ (HL.out.at 4 _ rfl)).cell 1 _ rfl
 have z2 := (Ep3.out _ (HL.out.at 4 _ rfl)).cell 2 _ rfl
 go_wp2_with fail
 clear y0 y1 y2 z0 z1 z2
 refine Calls.mono (laws_eqBytecode_same d _ _ _ (Ep6.out _ (HL.out.at 1 _ rfl)).read (Ep2.out _ (HL.out.at 5 _ rfl)).read) ?_
 rintro e w13 ⟨rfl, hb⟩
 replace HL := Lib.hid (HL.out.step hb)
 clear hb
 have y0 := (Ep7.out _ (HL.out.at 0 _ rfl)).cell 0 _ rfl
 have y1 := (Ep7.out _ (HL.out.at 0 _ rfl)).cell 1 _ rfl
 have y2 := (Ep7.out _ (HL.out.at 0 _ rfl)).cell 2 _ rfl
 go_wp2_with fail
 clear y0 y1 y2
 refine Calls.mono (laws_markBytecode (Rng w6.heap.size w7.heap.size) d _ 1 _ (Ep6.out _ (HL.out.at 1 _ rfl)) (fun hb => by have h1 := hb.2; have h2 := (HL.out.bnd 1 _ rfl).2.2; rw [hip6] at h2; omega) (by decide) (by omega)) ?_
 rintro e w14 ⟨rfl, ho, hk, hz0⟩
 obtain ⟨p9, HLn, lop9, hip9, Ep9⟩ := HL.out.mod 1 _ rfl (by rw [lop6, hip6]; exact hk) hz0 (fun V => BytecodeO (Rng w6.heap.size w7.heap.size) V [.slice G1 d.segments.length Gc1, .slice G2 d.main.length Gc2, .slice G3 d.quiet.length Gc3] (markCodeD d 1)) (by rw [lop6, hip6]; exact fun V V2 hk h => h.keeps hk) ho
 rw [lop6] at lop9
 rw [hip6] at hip9
 have HL2 := Lib.hid (show LS w [p7, p9, p5, p8, p3, p2, p1] _ from HLn)
 clear HL HLn hk hz0 ho
 have HL := HL2
 clear HL2
 have hd0 : decide ((1 + (cCode d : Int)) < 0) = false := decide_eq_false (by omega)
 have y0 := (Ep7.out _ (HL.out.at 0 _ rfl)).cell 0 _ rfl
 have y1 := (Ep7.out _ (HL.out.at 0 _ rfl)).cell 1 _ rfl
 have y2 := (Ep7.out _ (HL.out.at 0 _ rfl)).cell 2 _ rfl
 go_wp2_with fail
 clear y0 y1 y2
 refine Calls.mono (laws_heldBytecode d _ 1 _ (Ep9.out _ (HL.out.at 1 _ rfl)).read (by decide) (by omega)) ?_
 rintro e w15 ⟨rfl, hb⟩
 replace HL := Lib.hid (HL.out.step hb)
 clear hb
 have y0 := (Ep1.out _ (HL.out.at 6 _ rfl)).cell 0 _ rfl
 have y1 := (Ep1.out _ (HL.out.at 6 _ rfl)).cell 1 _ rfl
 have y2 := (Ep1.out _ (HL.out.at 6 _ rfl)).cell 2 _ rfl
 go_wp2_with fail
 clear y0 y1 y2
 refine Calls.mono (laws_toBytecode s _ _ (HT.out.below HL.out.below) (by omega)) ?_
 rintro e w16 ⟨ct, rfl, ot, hb⟩
 have Rt := Lib.hid ot.read
 obtain ⟨t1, tc1, t2, tc2, t3, tc3, rfl⟩ := ot.shape
 clear ot
 replace HL := Lib.hid (HL.out.step hb)
 clear hb
 go_wp2_with fail
 refine Calls.mono (HIM.out _ _ Rt.out) ?_
 rintro e w17 ⟨cH, rfl, oH, hb⟩
 obtain ⟨H1, Hc1, H2, Hc2, H3, Hc3, rfl⟩ := oH.shape
 obtain ⟨p10, HLn, lop10, hip10, Ep10⟩ := HL.out.push hb (fun V => BytecodeO (Rng w16.heap.size w17.heap.size) V [.slice H1 d.segments.length Hc1, .slice H2 d.main.length Hc2, .slice H3 d.quiet.length Hc3] d) (fun V V2 hk h => h.keeps hk) oH
 replace HL := Lib.hid HLn
 clear hb HLn
 clear oH
 go_upto_region 25 with fail
 obtain ⟨p11, HLn, lop11, Ep11⟩ := HL.out.box 31 [.slice H1 d.segments.length Hc1, .slice H2 d.main.length Hc2, .slice H3 d.quiet.length Hc3]
 refine gen_w (G := LS w [p11, p10, p7, p9, p5, p8, p3, p2, p1]) (show Ok _ _ from HLn) ?_
 clear HL HLn
 intro w18 g
 have HL := Lib.hid (show LS w [p11, p10, p7, p9, p5, p8, p3, p2, p1] w18 from g)
 clear g
 clear Rt
 have y0 := (Ep11.out _ (HL.out.at 0 _ rfl)).cell 0 _ rfl
 have y1 := (Ep11.out _ (HL.out.at 0 _ rfl)).cell 1 _ rfl
 have y2 := (Ep11.out _ (HL.out.at 0 _ rfl)).cell 2 _ rfl
 have z0 := (Ep3.out _ (HL.out.at 6 _ rfl)).cell 0 _ rfl
 have z1 := (Ep3.out _ (HL.out.at 6 _ rfl)).cell 1 _ rfl
 have z2 := (Ep3.out _ (HL.out.at 6 _ rfl)).cell 2 _ rfl
 go_wp2_with fail
 clear y0 y1 y2 z0 z1 z2
 refine Calls.mono (laws_eqBytecode_same d _ _ _ (Ep10.out _ (HL.out.at 1 _ rfl)).read (Ep2.out _ (HL.out.at 7 _ rfl)).read) ?_
 rintro e w19 ⟨rfl, hb⟩
 replace HL := Lib.hid (HL.out.step hb)
 clear hb
 have y0 := (Ep7.out _ (HL.out.at 2 _ rfl)).cell 0 _ rfl
 have y1 := (Ep7.out _ (HL.out.at 2 _ rfl)).cell 1 _ rfl
 have y2 := (Ep7.out _ (HL.out.at 2 _ rfl)).cell 2 _ rfl
 go_wp2_with fail
 clear y0 y1 y2
 refine Calls.mono (laws_heldBytecode d _ 1 _ (Ep9.out _ (HL.out.at 3 _ rfl)).read (by decide) (by omega)) ?_
 rintro e w20 ⟨rfl, hb⟩
 replace HL := Lib.hid (HL.out.step hb)
 clear hb
 go_wp2_with fail
 go_ret
 exact ⟨rfl, HL.out.below⟩
set_option maxRecDepth 100000 in
theorem lifted (os : Os) (started : os.Started) (H : Type) (enc : TypeId × Value → H) :
    ReturnsInHanded {} Tryz.checked os 5 .any (Rows.fnExactOptimizeCodeSpec.pre6 enc Tryz.prog Tryz.f5 Rows.fnExactOptimizeCodeRow.domain false) (Rows.fnExactOptimizeCodeSpec.post enc Tryz.prog Tryz.f5 false true false false) := by
  refine returnsInHanded_of_change (C := Tryz.checked) own started (by kernel_rfl) Tryz.func5
    (ChangeSpec.witness6 (enc := enc) (C := Tryz.checked) false ⟨#[], #[.agg #[.slice none 0 0, .slice none 0 0, .slice none 0 0]], []⟩ 8 (by kernel_rfl) (by kernel_rfl) (by kernel_rfl) (by kernel_rfl)) ?_
  intro W base args ds gs before hval0 hW hcnd _
  have hval : ∀ (j : Nat) t v, Tryz.f5.params[j]? = some t → args[j]? = some v → Value.okWide Tryz.prog W .any base t v := hval0
  have hW' := hW
  obtain ⟨p, q, hA0, hV, rfl, hfz, hnd⟩ := hW
  have hA : DataW.TrodAll enc Tryz.prog W 0 (fun _ => true) true Tryz.f5.params.toList args.toList ds p := hA0
  rw [Tryz.params5] at hA hval
  obtain ⟨v0, vs0, d0, ds0, p0, q0, hargs, rfl, rfl, h0, r0⟩ := trodAll_cons hA
  obtain ⟨rfl, rfl, rfl⟩ := trodAll_nil r0
  obtain rfl : args = #[v0] := by cases args; simp_all
  obtain ⟨rfl, rfl⟩ := trodVars_none hV
  obtain ⟨x0, u0⟩ := open_bytecode (hval 0 26 v0 rfl rfl) h0
  clear hA0 hval0
  refine (walk v0 x0 u0).mono fun e W' ⟨he, hg⟩ => ?_
  subst he
  exact ⟨_, rfl, law_post laidOut hW' rfl rfl Tryz.underlying4 rfl rfl rfl (by intro t ht; rw [Tryz.params5] at ht; have ht2 : t ∈ [26] := ht; simp only [List.mem_cons, List.not_mem_nil, or_false] at ht2; rcases ht2 with rfl <;> exact ⟨by kernel_rfl, of_decide_eq_true (by kernel_rfl)⟩) hg⟩

theorem fact0 : jf0 Tryz.prog 5 Tryz.f5 Rows.fnExactOptimizeCodeSpec Rows.fnExactOptimizeCodeRow = true := by kernel_rfl
theorem fact1 : jf1 Tryz.prog 5 Tryz.f5 Rows.fnExactOptimizeCodeSpec Rows.fnExactOptimizeCodeRow = true := by kernel_rfl
theorem fact2 : jf2 Tryz.prog 5 Tryz.f5 Rows.fnExactOptimizeCodeSpec Rows.fnExactOptimizeCodeRow = true := by kernel_rfl
theorem fact3 : jf3 Tryz.prog 5 Tryz.f5 Rows.fnExactOptimizeCodeSpec Rows.fnExactOptimizeCodeRow = true := by kernel_rfl
theorem fact4 : jf4 Tryz.prog 5 Tryz.f5 Rows.fnExactOptimizeCodeSpec Rows.fnExactOptimizeCodeRow = true := by kernel_rfl
theorem fact5 : jf5 Tryz.prog 5 Tryz.f5 Rows.fnExactOptimizeCodeSpec Rows.fnExactOptimizeCodeRow = true := by kernel_rfl
theorem fact6 : jf6 Tryz.prog 5 Tryz.f5 Rows.fnExactOptimizeCodeSpec Rows.fnExactOptimizeCodeRow = true := by kernel_rfl
theorem fact7 : jf7 Tryz.prog 5 Tryz.f5 Rows.fnExactOptimizeCodeSpec Rows.fnExactOptimizeCodeRow = true := by kernel_rfl
theorem fact8 : jf8 Tryz.prog 5 Tryz.f5 Rows.fnExactOptimizeCodeSpec Rows.fnExactOptimizeCodeRow = true := by kernel_rfl
theorem fact9 : jf9 Tryz.prog 5 Tryz.f5 Rows.fnExactOptimizeCodeSpec Rows.fnExactOptimizeCodeRow = true := by kernel_rfl
theorem fact10 : jf10 Tryz.prog 5 Tryz.f5 Rows.fnExactOptimizeCodeSpec Rows.fnExactOptimizeCodeRow = true := by kernel_rfl
theorem fact11 : jf11 Tryz.prog 5 Tryz.f5 Rows.fnExactOptimizeCodeSpec Rows.fnExactOptimizeCodeRow = true := by kernel_rfl
theorem fact12 : jf12 Tryz.prog 5 Tryz.f5 Rows.fnExactOptimizeCodeSpec Rows.fnExactOptimizeCodeRow = true := by kernel_rfl
theorem fact13 : jf13 Tryz.prog 5 Tryz.f5 Rows.fnExactOptimizeCodeSpec Rows.fnExactOptimizeCodeRow = true := by kernel_rfl
theorem fact14 : jf14 Tryz.prog 5 Tryz.f5 Rows.fnExactOptimizeCodeSpec Rows.fnExactOptimizeCodeRow = true := by kernel_rfl
theorem fact15 : jf15 Tryz.prog 5 Tryz.f5 Rows.fnExactOptimizeCodeSpec Rows.fnExactOptimizeCodeRow = true := by kernel_rfl
theorem fact16 : jf16 Tryz.prog 5 Tryz.f5 Rows.fnExactOptimizeCodeSpec Rows.fnExactOptimizeCodeRow = true := by kernel_rfl
theorem fact17 : jf17 Tryz.prog 5 Tryz.f5 Rows.fnExactOptimizeCodeSpec Rows.fnExactOptimizeCodeRow = true := by kernel_rfl
theorem fact18 : jf18 Tryz.prog 5 Tryz.f5 Rows.fnExactOptimizeCodeSpec Rows.fnExactOptimizeCodeRow = true := by kernel_rfl
theorem fact19 : jf19 Tryz.prog 5 Tryz.f5 Rows.fnExactOptimizeCodeSpec Rows.fnExactOptimizeCodeRow = true := by kernel_rfl
theorem fact20 : jf20 Tryz.prog 5 Tryz.f5 Rows.fnExactOptimizeCodeSpec Rows.fnExactOptimizeCodeRow = true := by kernel_rfl
theorem fact21 : jf21 Tryz.prog 5 Tryz.f5 Rows.fnExactOptimizeCodeSpec Rows.fnExactOptimizeCodeRow = true := by kernel_rfl
theorem fact22 : jf22 Tryz.prog 5 Tryz.f5 Rows.fnExactOptimizeCodeSpec Rows.fnExactOptimizeCodeRow = true := by kernel_rfl
theorem fact23 : jf23 Tryz.prog 5 Tryz.f5 Rows.fnExactOptimizeCodeSpec Rows.fnExactOptimizeCodeRow = true := by kernel_rfl
theorem fact24 : jf24 Tryz.prog 5 Tryz.f5 Rows.fnExactOptimizeCodeSpec Rows.fnExactOptimizeCodeRow = true := by kernel_rfl
theorem fact25 : jf25 Tryz.prog 5 Tryz.f5 Rows.fnExactOptimizeCodeSpec Rows.fnExactOptimizeCodeRow = true := by kernel_rfl
theorem fact26 : jf26 Tryz.prog 5 Tryz.f5 Rows.fnExactOptimizeCodeSpec Rows.fnExactOptimizeCodeRow = true := by kernel_rfl
theorem fact27 : jf27 Tryz.prog 5 Tryz.f5 Rows.fnExactOptimizeCodeSpec Rows.fnExactOptimizeCodeRow = true := by kernel_rfl
theorem fact28 : jf28 Tryz.prog 5 Tryz.f5 Rows.fnExactOptimizeCodeSpec Rows.fnExactOptimizeCodeRow = true := by kernel_rfl
theorem fact29 : jf29 Tryz.prog 5 Tryz.f5 Rows.fnExactOptimizeCodeSpec Rows.fnExactOptimizeCodeRow = true := by kernel_rfl
theorem fact30 : jf30 Tryz.prog 5 Tryz.f5 Rows.fnExactOptimizeCodeSpec Rows.fnExactOptimizeCodeRow = true := by kernel_rfl
theorem fact31 : jf31 Tryz.prog 5 Tryz.f5 Rows.fnExactOptimizeCodeSpec Rows.fnExactOptimizeCodeRow = true := by kernel_rfl
theorem over : Rows.fnExactOptimizeCodeRow.holds Tryz.pinned (OpenSpec.ofChange Rows.fnExactOptimizeCodeSpec) :=
  OpenClaim.holds_of_wide 5 Tryz.f5 rfl rfl rfl rfl rfl rfl rfl ⟨rfl, rfl, rfl, rfl, rfl⟩ rfl rfl rfl rfl rfl (by kernel_rfl) Tryz.func5 (joined fact0 fact1 fact2 fact3 fact4 fact5 fact6 fact7 fact8 fact9 fact10 fact11 fact12 fact13 fact14 fact15 fact16 fact17 fact18 fact19 fact20 fact21 fact22 fact23 fact24 fact25 fact26 fact27 fact28 fact29 fact30 fact31)
    (of_decide_eq_true (by kernel_rfl)) (by unfold Func.isWrapper; first | (rw [if_pos (by decide +kernel)]; kernel_rfl) | (rw [if_neg (by decide +kernel)]; exact ⟨rfl, rfl⟩))
    (fun os started H enc _ => lifted os started H enc)

/-- THE STATEMENT -/
theorem proved : Rows.FnExactOptimizeCodeSaid :=
  over
#print axioms proved
end fnExactOptimizeCode
end Go.Proofs.YtjdfancbmjnjfaaGreat
