/-
  The law FnExactCollectStore returns true for every store and every list of roots.
-/
import Derived.Test.YtejieacdfjpfnaaGreatRows
import Derived.Test.YtejieacdfjpfnaaGreatJoin
import Derived.Test.YtejieacdfjpfnaaGreatColAll
import Derived.Test.YtejieacdfjpfnaaGreatStMark
import Derived.Test.YtejieacdfjpfnaaGreatStHeld
namespace Go.Proofs.YtejieacdfjpfnaaGreat
set_option maxRecDepth 100000
open Go.ChangeShapes Go.WideShapes Go.ChangeAt Go.RowKit Go.Deep
open Go.ChangeMaps (open_string shut_string)
set_option linter.unusedVariables false
set_option maxRecDepth 100000

theorem szS_setle {α : Type} (f : α → Nat) (l : List α) (k : Nat) (x : α) : szS f (l.set k x) ≤ szS f l + f x := by
  unfold szS
  have : ∀ (l : List α) (k : Nat), ((l.set k x).map f).sum ≤ (l.map f).sum + f x := by
    intro l
    induction l with
    | nil => intro k; simp
    | cons a l ih =>
      intro k
      cases k with
      | zero => simp only [List.set_cons_zero, List.map_cons, List.sum_cons]; omega
      | succ k => have := ih k; simp only [List.set_cons_succ, List.map_cons, List.sum_cons]; omega
  have := this l k
  rw [List.length_set]
  omega
theorem sw_sz {α : Type} (f : α → Nat) (z : α) (hz : f z = 0) (E : List Bool) (k : Nat) (l : List α) : szS f (sw z E k l) ≤ szS f l := by
  induction k with
  | zero => exact Nat.le_refl _
  | succ k ih =>
    unfold sw
    split
    · exact ih
    · have := szS_setle f (sw z E k l) k z
      omega
theorem col_c {s : StoreD} {roots : List Int} {x : StoreD × Bool} (h : ColP s roots x) : cStore x.1 ≤ 8 * szStore s + 100 := by
  have h1 : szStore x.1 ≤ szStore s := by
    obtain ⟨d, b⟩ := x
    obtain ⟨_, h2, h3⟩ := h
    dsimp only at h2 h3 ⊢
    cases b
    · rw [h3 rfl]
      unfold stZ szStore szS
      simp
    · obtain ⟨E, P, _, rfl⟩ := h2 rfl
      have e1 := sw_sz szEnv zEn (by unfold zEn szEnv szL szS; simp) E s.envs.length s.envs
      have e2 := sw_sz szPromise zPr (by unfold zPr szPromise; decide) P s.promises.length s.promises
      unfold colS szStore
      dsimp only
      omega
  have := cStore_le x.1
  omega

namespace fnExactCollectStore
set_option maxHeartbeats 8000000 in
theorem walk (v0 : Value) (xs0 : List Value × StoreD) {w : World} (h0 : v0 = .agg xs0.1.toArray ∧ StoreR w xs0.1 xs0.2) (rv : Value) (roots : List Int) (hr : Ints w rv roots) :
    Calls Tryz.prog 8 #[v0, rv] w fun e w' => e = .returned (.bool true) ∧ Below w.heap.size w w' := by
  obtain ⟨cs, s⟩ := xs0
  obtain ⟨rfl, h⟩ := h0
  dsimp only at h ⊢
  have HT := Lib.hid h
  have HR := Lib.hid hr
  obtain ⟨A1, a1, A2, a2, rfl, _⟩ := h.open_
  obtain ⟨RA, rc, rfl, hrl, hrm, _⟩ := Ints.open_ hr
  clear h hr
  unfold maxLen at hrm
  obtain ⟨p1, HL0, lop1, Ep1⟩ := (LS.start w).box 25 [.slice A1 s.envs.length a1, .slice A2 s.promises.length a2]
  have HL := Lib.hid (show LS w [p1] _ from HL0)
  clear HL0
  by_cases hn : roots.length ≤ 1048576
  rotate_left
  · go_enter Tryz.func8, Tryz.ntmps8
    go_wp2_with fail
    go_ret
    exact ⟨rfl, HL.out.below⟩
  by_cases hz : (szStore s : Int) ≤ 1048576
  rotate_left
  · have HZ := Lib.hid (szR_neg hz)
    go_enter Tryz.func8, Tryz.ntmps8
    go_upto_region 1 with fail
    refine gen_w (G := LS w [p1]) (show Ok _ _ from HL.out) ?_
    clear HL
    intro W0 g
    have HL := Lib.hid (show LS w [p1] W0 from g)
    have y0 := (Ep1.out _ (HL.out.at 0 _ rfl)).cell 0 _ rfl
    have y1 := (Ep1.out _ (HL.out.at 0 _ rfl)).cell 1 _ rfl
    go_wp2_with fail
    refine Calls.mono (laws_szStore s _ 1048576 _ (HT.out.below HL.out.below) (by omega) (by omega)) ?_
    rintro e w1 ⟨rfl, hb⟩
    rw [HZ.out]
    have HB := Lib.hid (HL.out.step hb).below
    clear hb g HL y0 y1
    go_wp2_with fail
    go_ret
    exact ⟨rfl, HB.out⟩
  have HZ := Lib.hid (szR_pos hz)
  have hct := cStore_le s
  have HSZ := Lib.hid (show szStore s ≤ 1048576 by omega)
  go_enter Tryz.func8, Tryz.ntmps8
  go_upto_region 1 with fail
  refine gen_w (G := LS w [p1]) (show Ok _ _ from HL.out) ?_
  clear HL
  intro W0 g
  have HL := Lib.hid (show LS w [p1] W0 from g)
  clear g
  have y0 := (Ep1.out _ (HL.out.at 0 _ rfl)).cell 0 _ rfl
  have y1 := (Ep1.out _ (HL.out.at 0 _ rfl)).cell 1 _ rfl
  go_wp2_with fail
  refine Calls.mono (laws_szStore s _ 1048576 _ (HT.out.below HL.out.below) (by omega) (by omega)) ?_
  rintro e w1 ⟨rfl, hb⟩
  rw [HZ.out]
  clear y0 y1
  replace HL := Lib.hid (HL.out.step hb)
  clear hb
  have y0 := (Ep1.out _ (HL.out.at 0 _ rfl)).cell 0 _ rfl
  have y1 := (Ep1.out _ (HL.out.at 0 _ rfl)).cell 1 _ rfl
  go_wp2_with fail
  clear y0 y1
  refine Calls.mono (laws_toStore s _ _ (HT.out.below HL.out.below) (by omega)) ?_
  rintro e w2 ⟨cu, rfl, ou, hb⟩
  have Ru := Lib.hid ou.read
  obtain ⟨uA1, ua1, uA2, ua2, rfl⟩ := StoreO.shape2 ou
  clear ou
  replace HL := Lib.hid (HL.out.step hb)
  clear hb
  go_wp2_with fail
  refine Calls.mono (laws_toIntS_own roots _ _ (HR.out.below HL.out.below) (by omega)) ?_
  rintro e w3 ⟨Iu, iu, rfl, ju, hb⟩
  have RIu := Lib.hid ju.read
  have RSu := Lib.hid (Ru.out.below hb)
  clear ju Ru
  replace HL := Lib.hid (HL.out.step hb)
  clear hb
  go_wp2_with fail
  refine Calls.mono (spec_CollectStore s roots _ _ _ RSu.out RIu.out HSZ.out) ?_
  rintro e w4 ⟨⟨d, bo⟩, cC, Crp, rfl, oC, hb⟩
  have HCP := Lib.hid Crp
  have hcx := col_c Crp
  clear Crp
  dsimp only at hcx oC
  obtain ⟨C1, Cc1, C2, Cc2, rfl⟩ := StoreO.shape2 oC
  obtain ⟨p2, HLn, lop2, hip2, Ep2⟩ := HL.out.push hb (fun V => StoreO (Rng w3.heap.size w4.heap.size) V [.slice C1 d.envs.length Cc1, .slice C2 d.promises.length Cc2] d) (fun V V2 hk h => h.keeps hk) oC
  replace HL := Lib.hid HLn
  clear hb HLn
  clear oC
  go_upto_region 8 with fail
  obtain ⟨p3, HLn, lop3, Ep3⟩ := HL.out.box 33 [.slice C1 d.envs.length Cc1, .slice C2 d.promises.length Cc2]
  refine gen_w (G := LS w [p3, p2, p1]) (show Ok _ _ from HLn) ?_
  clear HL HLn
  intro w5 g
  have HL := Lib.hid (show LS w [p3, p2, p1] w5 from g)
  clear g
  clear RSu RIu
  have y0 := (Ep1.out _ (HL.out.at 2 _ rfl)).cell 0 _ rfl
  have y1 := (Ep1.out _ (HL.out.at 2 _ rfl)).cell 1 _ rfl
  go_wp2_with fail
  clear y0 y1
  refine Calls.mono (laws_toStore s _ _ (HT.out.below HL.out.below) (by omega)) ?_
  rintro e w6 ⟨cx, rfl, ox, hb⟩
  obtain ⟨X1, x1, X2, x2, rfl⟩ := StoreO.shape2 ox
  obtain ⟨p4, HLn, lop4, hip4, Ep4⟩ := HL.out.push hb (fun V => StoreO (Rng w5.heap.size w6.heap.size) V [.slice X1 s.envs.length x1, .slice X2 s.promises.length x2] s) (fun V V2 hk h => h.keeps hk) ox
  replace HL := Lib.hid HLn
  clear hb HLn
  clear ox
  go_upto_region 9 with fail
  obtain ⟨p5, HLn, lop5, Ep5⟩ := HL.out.box 33 [.slice X1 s.envs.length x1, .slice X2 s.promises.length x2]
  refine gen_w (G := LS w [p5, p4, p3, p2, p1]) (show Ok _ _ from HLn) ?_
  clear HL HLn
  intro w7 g
  have HL := Lib.hid (show LS w [p5, p4, p3, p2, p1] w7 from g)
  clear g
  go_wp2_with fail
  refine Calls.mono (laws_toIntS_own roots _ _ (HR.out.below HL.out.below) (by omega)) ?_
  rintro e w8 ⟨J, jc, rfl, oj, hb⟩
  obtain ⟨p6, HLn, lop6, hip6, Ep6⟩ := HL.out.push hb (fun V => IntO (Rng w7.heap.size w8.heap.size) V (.slice J roots.length jc) roots) (fun V V2 hk h => h.keeps hk) oj
  replace HL := Lib.hid HLn
  clear hb HLn
  clear oj
  have y0 := (Ep5.out _ (HL.out.at 1 _ rfl)).cell 0 _ rfl
  have y1 := (Ep5.out _ (HL.out.at 1 _ rfl)).cell 1 _ rfl
  go_wp2_with fail
  refine Calls.mono (impl_CollectStore s roots _ _ _ (Ep4.out _ (HL.out.at 2 _ rfl)).read (Ep6.out _ (HL.out.at 0 _ rfl)).read HSZ.out) ?_
  rintro e w9 ⟨Gx, cG, Grp, rfl, oG, hb⟩
  obtain rfl := ColP.unique Grp HCP.out
  clear Grp
  dsimp only at oG
  obtain ⟨G1, Gc1, G2, Gc2, rfl⟩ := StoreO.shape2 oG
  obtain ⟨p7, HLn, lop7, hip7, Ep7⟩ := HL.out.push hb (fun V => StoreO (Rng w8.heap.size w9.heap.size) V [.slice G1 d.envs.length Gc1, .slice G2 d.promises.length Gc2] d) (fun V V2 hk h => h.keeps hk) oG
  replace HL := Lib.hid HLn
  clear hb HLn
  clear oG
  go_upto_region 11 with fail
  obtain ⟨p8, HLn, lop8, Ep8⟩ := HL.out.box 33 [.slice G1 d.envs.length Gc1, .slice G2 d.promises.length Gc2]
  refine gen_w (G := LS w [p8, p7, p6, p5, p4, p3, p2, p1]) (show Ok _ _ from HLn) ?_
  clear HL HLn
  intro w10 g
  have HL := Lib.hid (show LS w [p8, p7, p6, p5, p4, p3, p2, p1] w10 from g)
  clear g
  clear y0 y1
  have y0 := (Ep8.out _ (HL.out.at 0 _ rfl)).cell 0 _ rfl
  have y1 := (Ep8.out _ (HL.out.at 0 _ rfl)).cell 1 _ rfl
  have z0 := (Ep3.out _ (HL.out.at 5 _ rfl)).cell 0 _ rfl
  have z1 := (Ep3.out _ (HL.out.at 5 _ rfl)).cell 1 _ rfl
  go_wp2_with fail
  clear y0 y1 z0 z1
  refine Calls.mono (laws_eqStore_same d _ _ _ (Ep7.out _ (HL.out.at 1 _ rfl)).read (Ep2.out _ (HL.out.at 6 _ rfl)).read) ?_
  rintro e w11 ⟨rfl, hb⟩
  replace HL := Lib.hid (HL.out.step hb)
  clear hb
  have y0 := fun V (h : Ok (LS w [p8, p7, p6, p5, p4, p3, p2, p1]) V) => (Ep5.out _ ((show LS w [p8, p7, p6, p5, p4, p3, p2, p1] V from h).at 3 _ rfl)).cell 0 _ rfl
  have y1 := fun V (h : Ok (LS w [p8, p7, p6, p5, p4, p3, p2, p1]) V) => (Ep5.out _ ((show LS w [p8, p7, p6, p5, p4, p3, p2, p1] V from h).at 3 _ rfl)).cell 1 _ rfl
  have z0 := fun V (h : Ok (LS w [p8, p7, p6, p5, p4, p3, p2, p1]) V) => (Ep1.out _ ((show LS w [p8, p7, p6, p5, p4, p3, p2, p1] V from h).at 7 _ rfl)).cell 0 _ rfl
  have z1 := fun V (h : Ok (LS w [p8, p7, p6, p5, p4, p3, p2, p1]) V) => (Ep1.out _ ((show LS w [p8, p7, p6, p5, p4, p3, p2, p1] V from h).at 7 _ rfl)).cell 1 _ rfl
  have g0 : Ok (LS w [p8, p7, p6, p5, p4, p3, p2, p1]) w11.drew := HL.out.drew
  clear HL
  go_wp2_with fail
  refine wp_region_plan (S := Ok (LS w [p8, p7, p6, p5, p4, p3, p2, p1])) (by kernel_rfl) [(true, 0), (true, 1), (false, 2), (false, 3), (true, 4)] (by kernel_rfl) g0 ?_
  repeat ((first | (refine dyn_take rfl rfl (fun W g => by go_simp; rfl) ?_) | (refine dyn_skip rfl rfl ?_)); go_simp)
  refine dyn_act rfl rfl (fun K hK => ?_)
  go_wp2_with fail
  refine Calls.mono (laws_toStore s _ _ (HT.out.below (show LS w [p8, p7, p6, p5, p4, p3, p2, p1] _ from g0).below) (by omega)) ?_
  rintro e w12 ⟨cy, rfl, oy, hb⟩
  have RY := Lib.hid oy.read
  obtain ⟨Y1, yc1, Y2, yc2, rfl⟩ := StoreO.shape2 oy
  have g1 : Ok (LS w [p8, p7, p6, p5, p4, p3, p2, p1]) w12 := (show LS w [p8, p7, p6, p5, p4, p3, p2, p1] _ from g0).step hb
  clear oy hb g0
  simp only []
  refine hK.out _ _ g1 ?_
  clear hK
  repeat ((first | (refine dyn_take rfl rfl (fun W g => by go_simp; rfl) ?_) | (refine dyn_skip rfl rfl ?_)); go_simp)
  refine dyn_act rfl rfl (fun K hK => ?_)
  go_wp2_with fail
  refine Calls.mono (laws_eqStore_same s _ _ _ (Ep4.out _ ((show LS w [p8, p7, p6, p5, p4, p3, p2, p1] _ from g1).at 4 _ rfl)).read RY.out) ?_
  rintro e w13 ⟨rfl, hb⟩
  have g2 : Ok (LS w [p8, p7, p6, p5, p4, p3, p2, p1]) w13 := (show LS w [p8, p7, p6, p5, p4, p3, p2, p1] _ from g1).step hb
  clear hb g1 RY
  simp only []
  refine hK.out _ _ g2 ?_
  clear hK
  repeat ((first | (refine dyn_take rfl rfl (fun W g => by go_simp; rfl) ?_) | (refine dyn_skip rfl rfl ?_)); go_simp)
  refine dyn_done ?_
  have HL := Lib.hid (show LS w [p8, p7, p6, p5, p4, p3, p2, p1] w13 from g2)
  clear g2 y0 y1 z0 z1
  go_wp2_with fail
  refine Calls.mono (laws_toIntS_own roots _ _ (HR.out.below HL.out.below) (by omega)) ?_
  rintro e w14 ⟨Q, qc, rfl, oq, hb⟩
  have RQ := Lib.hid oq.read
  clear oq
  replace HL := Lib.hid (HL.out.step hb)
  clear hb
  go_wp2_with fail
  refine Calls.mono (laws_eqIntS_same roots _ _ _ (Ep6.out _ (HL.out.at 2 _ rfl)).read RQ.out) ?_
  rintro e w15 ⟨rfl, hb⟩
  clear RQ
  replace HL := Lib.hid (HL.out.step hb)
  clear hb
  have y0 := (Ep5.out _ (HL.out.at 3 _ rfl)).cell 0 _ rfl
  have y1 := (Ep5.out _ (HL.out.at 3 _ rfl)).cell 1 _ rfl
  go_wp2_with fail
  clear y0 y1
  refine Calls.mono (laws_markStore (Rng w5.heap.size w6.heap.size) s _ 1 _ (Ep4.out _ (HL.out.at 4 _ rfl)) (fun hb => by have h1 := hb.2; have h2 := (HL.out.bnd 4 _ rfl).2.2; rw [hip4] at h2; omega) (by decide) (by omega)) ?_
  rintro e w16 ⟨rfl, ho, hk, hz0⟩
  obtain ⟨p9, HLn, lop9, hip9, Ep9⟩ := HL.out.mod 4 _ rfl (by rw [lop4, hip4]; exact hk) hz0 (fun V => StoreO (Rng w5.heap.size w6.heap.size) V [.slice X1 s.envs.length x1, .slice X2 s.promises.length x2] (markStoreD s 1)) (by rw [lop4, hip4]; exact fun V V2 hk h => h.keeps hk) ho
  rw [lop4] at lop9
  rw [hip4] at hip9
  have HL2 := Lib.hid (show LS w [p8, p7, p6, p5, p9, p3, p2, p1] _ from HLn)
  clear HL HLn hk hz0 ho
  have HL := HL2
  clear HL2
  go_wp2_with fail
  refine Calls.mono (laws_markInts (Rng w7.heap.size w8.heap.size) roots _ (1 + cStore s) _ (Ep6.out _ (HL.out.at 2 _ rfl)) (by omega) (by omega)) ?_
  rintro e w17 ⟨rfl, ho, hk, hz0⟩
  obtain ⟨p10, HLn, lop10, hip10, Ep10⟩ := HL.out.mod 2 _ rfl (by rw [lop6, hip6]; exact hk) hz0 (fun V => IntO (Rng w7.heap.size w8.heap.size) V (.slice J roots.length jc) (markI (1 + (cStore s : Int)).toNat roots.length)) (by rw [lop6, hip6]; exact fun V V2 hk h => h.keeps hk) ho
  rw [lop6] at lop10
  rw [hip6] at hip10
  have HL2 := Lib.hid (show LS w [p8, p7, p10, p5, p9, p3, p2, p1] _ from HLn)
  clear HL HLn hk hz0 ho
  have HL := HL2
  clear HL2
  have hdk : decide ((1 + (cStore s : Int) + (roots.length : Int)) < 0) = false := decide_eq_false (by omega)
  have y0 := (Ep8.out _ (HL.out.at 0 _ rfl)).cell 0 _ rfl
  have y1 := (Ep8.out _ (HL.out.at 0 _ rfl)).cell 1 _ rfl
  have z0 := (Ep3.out _ (HL.out.at 5 _ rfl)).cell 0 _ rfl
  have z1 := (Ep3.out _ (HL.out.at 5 _ rfl)).cell 1 _ rfl
  go_wp2_with fail
  clear y0 y1 z0 z1
  refine Calls.mono (laws_eqStore_same d _ _ _ (Ep7.out _ (HL.out.at 1 _ rfl)).read (Ep2.out _ (HL.out.at 6 _ rfl)).read) ?_
  rintro e w18 ⟨rfl, hb⟩
  replace HL := Lib.hid (HL.out.step hb)
  clear hb
  have y0 := (Ep8.out _ (HL.out.at 0 _ rfl)).cell 0 _ rfl
  have y1 := (Ep8.out _ (HL.out.at 0 _ rfl)).cell 1 _ rfl
  go_wp2_with fail
  clear y0 y1
  refine Calls.mono (laws_markStore (Rng w8.heap.size w9.heap.size) d _ 1 _ (Ep7.out _ (HL.out.at 1 _ rfl)) (fun hb => by have h1 := hb.2; have h2 := (HL.out.bnd 1 _ rfl).2.2; rw [hip7] at h2; omega) (by decide) (by omega)) ?_
  rintro e w19 ⟨rfl, ho, hk, hz0⟩
  obtain ⟨p11, HLn, lop11, hip11, Ep11⟩ := HL.out.mod 1 _ rfl (by rw [lop7, hip7]; exact hk) hz0 (fun V => StoreO (Rng w8.heap.size w9.heap.size) V [.slice G1 d.envs.length Gc1, .slice G2 d.promises.length Gc2] (markStoreD d 1)) (by rw [lop7, hip7]; exact fun V V2 hk h => h.keeps hk) ho
  rw [lop7] at lop11
  rw [hip7] at hip11
  have HL2 := Lib.hid (show LS w [p8, p11, p10, p5, p9, p3, p2, p1] _ from HLn)
  clear HL HLn hk hz0 ho
  have HL := HL2
  clear HL2
  have hd0 : decide ((1 + (cStore d : Int)) < 0) = false := decide_eq_false (by omega)
  have y0 := (Ep8.out _ (HL.out.at 0 _ rfl)).cell 0 _ rfl
  have y1 := (Ep8.out _ (HL.out.at 0 _ rfl)).cell 1 _ rfl
  go_wp2_with fail
  clear y0 y1
  refine Calls.mono (laws_heldStore d _ 1 _ (Ep11.out _ (HL.out.at 1 _ rfl)).read (by decide) (by omega)) ?_
  rintro e w20 ⟨rfl, hb⟩
  replace HL := Lib.hid (HL.out.step hb)
  clear hb
  have y0 := (Ep1.out _ (HL.out.at 7 _ rfl)).cell 0 _ rfl
  have y1 := (Ep1.out _ (HL.out.at 7 _ rfl)).cell 1 _ rfl
  go_wp2_with fail
  clear y0 y1
  refine Calls.mono (laws_toStore s _ _ (HT.out.below HL.out.below) (by omega)) ?_
  rintro e w21 ⟨ct, rfl, ot, hb⟩
  have Rt := Lib.hid ot.read
  obtain ⟨tA1, ta1, tA2, ta2, rfl⟩ := StoreO.shape2 ot
  clear ot
  replace HL := Lib.hid (HL.out.step hb)
  clear hb
  go_wp2_with fail
  refine Calls.mono (laws_toIntS_own roots _ _ (HR.out.below HL.out.below) (by omega)) ?_
  rintro e w22 ⟨It, it, rfl, jt, hb⟩
  have RIt := Lib.hid jt.read
  have RSt := Lib.hid (Rt.out.below hb)
  clear jt Rt
  replace HL := Lib.hid (HL.out.step hb)
  clear hb
  go_wp2_with fail
  refine Calls.mono (impl_CollectStore s roots _ _ _ RSt.out RIt.out HSZ.out) ?_
  rintro e w23 ⟨Hx, cH, Hrp, rfl, oH, hb⟩
  obtain rfl := ColP.unique Hrp HCP.out
  clear Hrp
  dsimp only at oH
  obtain ⟨H1, Hc1, H2, Hc2, rfl⟩ := StoreO.shape2 oH
  obtain ⟨p12, HLn, lop12, hip12, Ep12⟩ := HL.out.push hb (fun V => StoreO (Rng w22.heap.size w23.heap.size) V [.slice H1 d.envs.length Hc1, .slice H2 d.promises.length Hc2] d) (fun V V2 hk h => h.keeps hk) oH
  replace HL := Lib.hid HLn
  clear hb HLn
  clear oH
  go_upto_region 31 with fail
  obtain ⟨p13, HLn, lop13, Ep13⟩ := HL.out.box 33 [.slice H1 d.envs.length Hc1, .slice H2 d.promises.length Hc2]
  refine gen_w (G := LS w [p13, p12, p8, p11, p10, p5, p9, p3, p2, p1]) (show Ok _ _ from HLn) ?_
  clear HL HLn
  intro w24 g
  have HL := Lib.hid (show LS w [p13, p12, p8, p11, p10, p5, p9, p3, p2, p1] w24 from g)
  clear g
  clear RSt RIt
  have y0 := (Ep13.out _ (HL.out.at 0 _ rfl)).cell 0 _ rfl
  have y1 := (Ep13.out _ (HL.out.at 0 _ rfl)).cell 1 _ rfl
  have z0 := (Ep3.out _ (HL.out.at 7 _ rfl)).cell 0 _ rfl
  have z1 := (Ep3.out _ (HL.out.at 7 _ rfl)).cell 1 _ rfl
  go_wp2_with fail
  clear y0 y1 z0 z1
  refine Calls.mono (laws_eqStore_same d _ _ _ (Ep12.out _ (HL.out.at 1 _ rfl)).read (Ep2.out _ (HL.out.at 8 _ rfl)).read) ?_
  rintro e w25 ⟨rfl, hb⟩
  replace HL := Lib.hid (HL.out.step hb)
  clear hb
  have y0 := (Ep8.out _ (HL.out.at 2 _ rfl)).cell 0 _ rfl
  have y1 := (Ep8.out _ (HL.out.at 2 _ rfl)).cell 1 _ rfl
  go_wp2_with fail
  clear y0 y1
  refine Calls.mono (laws_heldStore d _ 1 _ (Ep11.out _ (HL.out.at 3 _ rfl)).read (by decide) (by omega)) ?_
  rintro e w26 ⟨rfl, hb⟩
  replace HL := Lib.hid (HL.out.step hb)
  clear hb
  go_wp2_with fail
  go_ret
  exact ⟨rfl, HL.out.below⟩
set_option maxRecDepth 100000 in
theorem lifted (os : Os) (started : os.Started) (H : Type) (enc : TypeId × Value → H) :
    ReturnsInHanded {} Tryz.checked os 8 .any (Rows.fnExactCollectStoreSpec.pre6 enc Tryz.prog Tryz.f8 Rows.fnExactCollectStoreRow.domain false) (Rows.fnExactCollectStoreSpec.post enc Tryz.prog Tryz.f8 false true false false) := by
  refine returnsInHanded_of_change (C := Tryz.checked) own started (by kernel_rfl) Tryz.func8
    (ChangeSpec.witness6 (enc := enc) (C := Tryz.checked) false ⟨#[], #[.agg #[.slice none 0 0, .slice none 0 0], .slice none 0 0], []⟩ 8 (by kernel_rfl) (by kernel_rfl) (by kernel_rfl) (by kernel_rfl)) ?_
  intro W base args ds gs before hval0 hW hcnd _
  have hval : ∀ (j : Nat) t v, Tryz.f8.params[j]? = some t → args[j]? = some v → Value.okWide Tryz.prog W .any base t v := hval0
  have hW' := hW
  obtain ⟨p, q, hA0, hV, rfl, hfz, hnd⟩ := hW
  have hA : DataW.TrodAll enc Tryz.prog W 0 (fun _ => true) true Tryz.f8.params.toList args.toList ds p := hA0
  rw [Tryz.params8] at hA hval
  obtain ⟨v0, vs0, d0, ds0, p0, q0, hargs, rfl, rfl, h0, r0⟩ := trodAll_cons hA
  obtain ⟨v1, vs1, d1, ds1, p1, q1, rfl, rfl, rfl, h1, r1⟩ := trodAll_cons r0
  obtain ⟨rfl, rfl, rfl⟩ := trodAll_nil r1
  obtain rfl : args = #[v0, v1] := by cases args; simp_all
  obtain ⟨rfl, rfl⟩ := trodVars_none hV
  obtain ⟨x0, u0⟩ := open_store (hval 0 25 v0 rfl rfl) h0
  obtain ⟨x1, u1⟩ := open_ints64 (hval 1 26 v1 rfl rfl) h1
  clear hA0 hval0
  refine (walk v0 x0 u0 v1 x1 u1).mono fun e W' ⟨he, hg⟩ => ?_
  subst he
  exact ⟨_, rfl, law_post laidOut hW' rfl rfl Tryz.underlying4 rfl rfl rfl (by intro t ht; rw [Tryz.params8] at ht; have ht2 : t ∈ [25, 26] := ht; simp only [List.mem_cons, List.not_mem_nil, or_false] at ht2; rcases ht2 with rfl | rfl <;> exact ⟨by kernel_rfl, of_decide_eq_true (by kernel_rfl)⟩) hg⟩

theorem fact0 : jf0 Tryz.prog 8 Tryz.f8 Rows.fnExactCollectStoreSpec Rows.fnExactCollectStoreRow = true := by kernel_rfl
theorem fact1 : jf1 Tryz.prog 8 Tryz.f8 Rows.fnExactCollectStoreSpec Rows.fnExactCollectStoreRow = true := by kernel_rfl
theorem fact2 : jf2 Tryz.prog 8 Tryz.f8 Rows.fnExactCollectStoreSpec Rows.fnExactCollectStoreRow = true := by kernel_rfl
theorem fact3 : jf3 Tryz.prog 8 Tryz.f8 Rows.fnExactCollectStoreSpec Rows.fnExactCollectStoreRow = true := by kernel_rfl
theorem fact4 : jf4 Tryz.prog 8 Tryz.f8 Rows.fnExactCollectStoreSpec Rows.fnExactCollectStoreRow = true := by kernel_rfl
theorem fact5 : jf5 Tryz.prog 8 Tryz.f8 Rows.fnExactCollectStoreSpec Rows.fnExactCollectStoreRow = true := by kernel_rfl
theorem fact6 : jf6 Tryz.prog 8 Tryz.f8 Rows.fnExactCollectStoreSpec Rows.fnExactCollectStoreRow = true := by kernel_rfl
theorem fact7 : jf7 Tryz.prog 8 Tryz.f8 Rows.fnExactCollectStoreSpec Rows.fnExactCollectStoreRow = true := by kernel_rfl
theorem fact8 : jf8 Tryz.prog 8 Tryz.f8 Rows.fnExactCollectStoreSpec Rows.fnExactCollectStoreRow = true := by kernel_rfl
theorem fact9 : jf9 Tryz.prog 8 Tryz.f8 Rows.fnExactCollectStoreSpec Rows.fnExactCollectStoreRow = true := by kernel_rfl
theorem fact10 : jf10 Tryz.prog 8 Tryz.f8 Rows.fnExactCollectStoreSpec Rows.fnExactCollectStoreRow = true := by kernel_rfl
theorem fact11 : jf11 Tryz.prog 8 Tryz.f8 Rows.fnExactCollectStoreSpec Rows.fnExactCollectStoreRow = true := by kernel_rfl
theorem fact12 : jf12 Tryz.prog 8 Tryz.f8 Rows.fnExactCollectStoreSpec Rows.fnExactCollectStoreRow = true := by kernel_rfl
theorem fact13 : jf13 Tryz.prog 8 Tryz.f8 Rows.fnExactCollectStoreSpec Rows.fnExactCollectStoreRow = true := by kernel_rfl
theorem fact14 : jf14 Tryz.prog 8 Tryz.f8 Rows.fnExactCollectStoreSpec Rows.fnExactCollectStoreRow = true := by kernel_rfl
theorem fact15 : jf15 Tryz.prog 8 Tryz.f8 Rows.fnExactCollectStoreSpec Rows.fnExactCollectStoreRow = true := by kernel_rfl
theorem fact16 : jf16 Tryz.prog 8 Tryz.f8 Rows.fnExactCollectStoreSpec Rows.fnExactCollectStoreRow = true := by kernel_rfl
theorem fact17 : jf17 Tryz.prog 8 Tryz.f8 Rows.fnExactCollectStoreSpec Rows.fnExactCollectStoreRow = true := by kernel_rfl
theorem fact18 : jf18 Tryz.prog 8 Tryz.f8 Rows.fnExactCollectStoreSpec Rows.fnExactCollectStoreRow = true := by kernel_rfl
theorem fact19 : jf19 Tryz.prog 8 Tryz.f8 Rows.fnExactCollectStoreSpec Rows.fnExactCollectStoreRow = true := by kernel_rfl
theorem fact20 : jf20 Tryz.prog 8 Tryz.f8 Rows.fnExactCollectStoreSpec Rows.fnExactCollectStoreRow = true := by kernel_rfl
theorem fact21 : jf21 Tryz.prog 8 Tryz.f8 Rows.fnExactCollectStoreSpec Rows.fnExactCollectStoreRow = true := by kernel_rfl
theorem fact22 : jf22 Tryz.prog 8 Tryz.f8 Rows.fnExactCollectStoreSpec Rows.fnExactCollectStoreRow = true := by kernel_rfl
theorem fact23 : jf23 Tryz.prog 8 Tryz.f8 Rows.fnExactCollectStoreSpec Rows.fnExactCollectStoreRow = true := by kernel_rfl
theorem fact24 : jf24 Tryz.prog 8 Tryz.f8 Rows.fnExactCollectStoreSpec Rows.fnExactCollectStoreRow = true := by kernel_rfl
theorem fact25 : jf25 Tryz.prog 8 Tryz.f8 Rows.fnExactCollectStoreSpec Rows.fnExactCollectStoreRow = true := by kernel_rfl
theorem fact26 : jf26 Tryz.prog 8 Tryz.f8 Rows.fnExactCollectStoreSpec Rows.fnExactCollectStoreRow = true := by kernel_rfl
theorem fact27 : jf27 Tryz.prog 8 Tryz.f8 Rows.fnExactCollectStoreSpec Rows.fnExactCollectStoreRow = true := by kernel_rfl
theorem fact28 : jf28 Tryz.prog 8 Tryz.f8 Rows.fnExactCollectStoreSpec Rows.fnExactCollectStoreRow = true := by kernel_rfl
theorem fact29 : jf29 Tryz.prog 8 Tryz.f8 Rows.fnExactCollectStoreSpec Rows.fnExactCollectStoreRow = true := by kernel_rfl
theorem fact30 : jf30 Tryz.prog 8 Tryz.f8 Rows.fnExactCollectStoreSpec Rows.fnExactCollectStoreRow = true := by kernel_rfl
theorem fact31 : jf31 Tryz.prog 8 Tryz.f8 Rows.fnExactCollectStoreSpec Rows.fnExactCollectStoreRow = true := by kernel_rfl
theorem over : Rows.fnExactCollectStoreRow.holds Tryz.pinned (OpenSpec.ofChange Rows.fnExactCollectStoreSpec) :=
  OpenClaim.holds_of_wide 8 Tryz.f8 rfl rfl rfl rfl rfl rfl rfl ⟨rfl, rfl, rfl, rfl, rfl⟩ rfl rfl rfl rfl rfl (by kernel_rfl) Tryz.func8 (joined fact0 fact1 fact2 fact3 fact4 fact5 fact6 fact7 fact8 fact9 fact10 fact11 fact12 fact13 fact14 fact15 fact16 fact17 fact18 fact19 fact20 fact21 fact22 fact23 fact24 fact25 fact26 fact27 fact28 fact29 fact30 fact31)
    (of_decide_eq_true (by kernel_rfl)) (by unfold Func.isWrapper; first | (rw [if_pos (by decide +kernel)]; kernel_rfl) | (rw [if_neg (by decide +kernel)]; exact ⟨rfl, rfl⟩))
    (fun os started H enc _ => lifted os started H enc)

/-- THE STATEMENT -/
theorem proved : Rows.FnExactCollectStoreSaid :=
  over
#print axioms proved
end fnExactCollectStore
end Go.Proofs.YtejieacdfjpfnaaGreat
