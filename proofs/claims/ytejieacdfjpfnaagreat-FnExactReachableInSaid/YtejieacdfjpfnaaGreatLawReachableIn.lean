/-
  The law FnExactReachableIn returns true for every store and every list of roots.
-/
import Derived.Test.YtejieacdfjpfnaaGreatRows
import Derived.Test.YtejieacdfjpfnaaGreatJoin
import Derived.Test.YtejieacdfjpfnaaGreatReachP
import Derived.Test.YtejieacdfjpfnaaGreatLawSt
import Derived.Test.YtejieacdfjpfnaaGreatStMark
import Derived.Test.YtejieacdfjpfnaaGreatStHeld
import Derived.Test.YtejieacdfjpfnaaGreatMarkInt
namespace Go.Proofs.YtejieacdfjpfnaaGreat
set_option maxRecDepth 100000
open Go.ChangeShapes Go.WideShapes Go.ChangeAt Go.RowKit Go.Deep
open Go.ChangeMaps (open_string shut_string)
set_option linter.unusedVariables false

theorem ReachP.len {s : StoreD} {roots l0 l1 : List Int} {b : Bool} (h : ReachP s roots l0 l1 b) : l0.length ≤ s.envs.length ∧ l1.length ≤ s.promises.length := by
  obtain ⟨_, h1, h2⟩ := h
  cases b
  · obtain ⟨rfl, rfl⟩ := h2 rfl
    exact ⟨Nat.zero_le _, Nat.zero_le _⟩
  · obtain ⟨E, P, m, rfl, rfl⟩ := h1 rfl
    have e1 := posF_len (gB E) E.length
    have e2 := posF_len (gB P) P.length
    rw [m.lenE] at e1
    rw [m.lenP] at e2
    exact ⟨by rw [m.lenE]; exact e1, by rw [m.lenP]; exact e2⟩

namespace fnExactReachableIn
set_option maxHeartbeats 8000000 in
theorem walk (v0 : Value) (xs0 : List Value × StoreD) {w : World} (h0 : v0 = .agg xs0.1.toArray ∧ StoreR w xs0.1 xs0.2) (rv : Value) (roots : List Int) (hr : Ints w rv roots) :
    Calls Tryz.prog 3 #[v0, rv] w fun e w' => e = .returned (.bool true) ∧ Below w.heap.size w w' := by
  obtain ⟨cs, s⟩ := xs0
  obtain ⟨rfl, h⟩ := h0
  dsimp only at h ⊢
  have HT := Lib.hid h
  have HR := Lib.hid hr
  obtain ⟨A1, a1, A2, a2, rfl, _⟩ := h.open_
  obtain ⟨RA, rc, rfl, hrl, hrm, _⟩ := Ints.open_ hr
  clear h hr
  unfold maxLen at hrm
  obtain ⟨p1, HL0, lop1, Ep1⟩ := (LS.start w).box 25 [.slice A1 s.envs.length a1, .slice A2 s.promises.length a2]
  have HL := Lib.hid (show LS w [p1] _ from HL0)
  clear HL0
  by_cases hn : roots.length ≤ 1048576
  rotate_left
  · go_enter Tryz.func3, Tryz.ntmps3
    go_wp2_with fail
    go_ret
    exact ⟨rfl, HL.out.below⟩
  by_cases hz : (szStore s : Int) ≤ 1048576
  rotate_left
  · have HZ := Lib.hid (szR_neg hz)
    go_enter Tryz.func3, Tryz.ntmps3
    go_upto_region 1 with fail
    refine gen_w (G := LS w [p1]) (show Ok _ _ from HL.out) ?_
    clear HL
    intro W0 g
    have HL := Lib.hid (show LS w [p1] W0 from g)
    have y0 := (Ep1.out _ (HL.out.at 0 _ rfl)).cell 0 _ rfl
    have y1 := (Ep1.out _ (HL.out.at 0 _ rfl)).cell 1 _ rfl
    go_wp2_with fail
    refine Calls.mono (laws_szStore s _ 1048576 _ (HT.out.below HL.out.below) (by omega) (by omega)) ?_
    rintro e w1 ⟨rfl, hb⟩
    rw [HZ.out]
    have HB := Lib.hid (HL.out.step hb).below
    clear hb g HL y0 y1
    go_wp2_with fail
    go_ret
    exact ⟨rfl, HB.out⟩
  have HZ := Lib.hid (szR_pos hz)
  have hct := cStore_le s
  have HSZ := Lib.hid (show szStore s ≤ 1048576 by omega)
  go_enter Tryz.func3, Tryz.ntmps3
  go_upto_region 1 with fail
  refine gen_w (G := LS w [p1]) (show Ok _ _ from HL.out) ?_
  clear HL
  intro W0 g
  have HL := Lib.hid (show LS w [p1] W0 from g)
  clear g
  have y0 := (Ep1.out _ (HL.out.at 0 _ rfl)).cell 0 _ rfl
  have y1 := (Ep1.out _ (HL.out.at 0 _ rfl)).cell 1 _ rfl
  go_wp2_with fail
  refine Calls.mono (laws_szStore s _ 1048576 _ (HT.out.below HL.out.below) (by omega) (by omega)) ?_
  rintro e w1 ⟨rfl, hb⟩
  rw [HZ.out]
  clear y0 y1
  replace HL := Lib.hid (HL.out.step hb)
  clear hb
  have y0 := (Ep1.out _ (HL.out.at 0 _ rfl)).cell 0 _ rfl
  have y1 := (Ep1.out _ (HL.out.at 0 _ rfl)).cell 1 _ rfl
  go_wp2_with fail
  clear y0 y1
  refine Calls.mono (laws_toStore s _ _ (HT.out.below HL.out.below) (by omega)) ?_
  rintro e w2 ⟨cu, rfl, ou, hb⟩
  have Ru := Lib.hid ou.read
  obtain ⟨uA1, ua1, uA2, ua2, rfl⟩ := StoreO.shape ou
  clear ou
  replace HL := Lib.hid (HL.out.step hb)
  clear hb
  go_wp2_with fail
  refine Calls.mono (laws_toIntS_own roots _ _ (HR.out.below HL.out.below) (by omega)) ?_
  rintro e w3 ⟨Iu, iu, rfl, ju, hb⟩
  have RIu := Lib.hid ju.read
  have RSu := Lib.hid (Ru.out.below hb)
  clear ju Ru
  replace HL := Lib.hid (HL.out.step hb)
  clear hb
  go_wp2_with fail
  refine Calls.mono (spec_ReachableIn s roots _ _ _ RSu.out RIu.out HSZ.out) ?_
  rintro e w4 ⟨gA, gc, gB, gd, gl, gm, gb, gf, rfl, grp, go0, go1, hb⟩
  have HRP := Lib.hid grp
  have hlen := grp.len
  have hzs1 : s.envs.length ≤ 1048576 := by have := szS_length szEnv s.envs; unfold szStore at hz; omega
  have hzs2 : s.promises.length ≤ 1048576 := by have := szS_length szPromise s.promises; unfold szStore at hz; omega
  clear grp
  obtain ⟨p2, HLn, lop2, hip2, Ep2⟩ := HL.out.push hb (fun V => IntO (fun x => Rng w3.heap.size w4.heap.size x ∧ gf x = 0) V (.slice gA gl.length gc) gl ∧ IntO (fun x => Rng w3.heap.size w4.heap.size x ∧ gf x = 1) V (.slice gB gm.length gd) gm) (fun V V2 hk h => ⟨h.1.keeps (hk.mono fun _ h => h.1), h.2.keeps (hk.mono fun _ h => h.1)⟩) ⟨go0, go1⟩
  replace HL := Lib.hid HLn
  clear hb HLn
  clear go0 go1
  clear RSu RIu
  have y0 := (Ep1.out _ (HL.out.at 1 _ rfl)).cell 0 _ rfl
  have y1 := (Ep1.out _ (HL.out.at 1 _ rfl)).cell 1 _ rfl
  go_wp2_with fail
  clear y0 y1
  refine Calls.mono (laws_toStore s _ _ (HT.out.below HL.out.below) (by omega)) ?_
  rintro e w5 ⟨cx, rfl, ox, hb⟩
  obtain ⟨X1, x1, X2, x2, rfl⟩ := StoreO.shape ox
  obtain ⟨p3, HLn, lop3, hip3, Ep3⟩ := HL.out.push hb (fun V => StoreO (Rng w4.heap.size w5.heap.size) V [.slice X1 s.envs.length x1, .slice X2 s.promises.length x2] s) (fun V V2 hk h => h.keeps hk) ox
  replace HL := Lib.hid HLn
  clear hb HLn
  clear ox
  go_upto_region 9 with fail
  obtain ⟨p4, HLn, lop4, Ep4⟩ := HL.out.box 33 [.slice X1 s.envs.length x1, .slice X2 s.promises.length x2]
  refine gen_w (G := LS w [p4, p3, p2, p1]) (show Ok _ _ from HLn) ?_
  clear HL HLn
  intro w6 g
  have HL := Lib.hid (show LS w [p4, p3, p2, p1] w6 from g)
  clear g
  go_wp2_with fail
  refine Calls.mono (laws_toIntS_own roots _ _ (HR.out.below HL.out.below) (by omega)) ?_
  rintro e w7 ⟨J, jc, rfl, oj, hb⟩
  obtain ⟨p5, HLn, lop5, hip5, Ep5⟩ := HL.out.push hb (fun V => IntO (Rng w6.heap.size w7.heap.size) V (.slice J roots.length jc) roots) (fun V V2 hk h => h.keeps hk) oj
  replace HL := Lib.hid HLn
  clear hb HLn
  clear oj
  have y0 := (Ep4.out _ (HL.out.at 1 _ rfl)).cell 0 _ rfl
  have y1 := (Ep4.out _ (HL.out.at 1 _ rfl)).cell 1 _ rfl
  go_wp2_with fail
  refine Calls.mono (impl_ReachableIn s roots _ _ _ (Ep3.out _ (HL.out.at 2 _ rfl)).read (Ep5.out _ (HL.out.at 0 _ rfl)).read HSZ.out) ?_
  rintro e w8 ⟨kA, kc, kB, kd, kl, km, kb, kf, rfl, krp, ko0, ko1, hb⟩
  obtain ⟨rfl, rfl, rfl⟩ := krp.unique HRP.out
  clear krp
  obtain ⟨p6, HLn, lop6, hip6, Ep6⟩ := HL.out.push hb (fun V => IntO (fun x => Rng w7.heap.size w8.heap.size x ∧ kf x = 0) V (.slice kA kl.length kc) kl ∧ IntO (fun x => Rng w7.heap.size w8.heap.size x ∧ kf x = 1) V (.slice kB km.length kd) km) (fun V V2 hk h => ⟨h.1.keeps (hk.mono fun _ h => h.1), h.2.keeps (hk.mono fun _ h => h.1)⟩) ⟨ko0, ko1⟩
  replace HL := Lib.hid HLn
  clear hb HLn
  clear ko0 ko1
  clear y0 y1
  go_wp2_with fail
  refine Calls.mono (laws_eqIntS_same kl _ _ _ (Ep6.out _ (HL.out.at 0 _ rfl)).1.read (Ep2.out _ (HL.out.at 4 _ rfl)).1.read) ?_
  rintro e w9 ⟨rfl, hb⟩
  replace HL := Lib.hid (HL.out.step hb)
  clear hb
  go_wp2_with fail
  refine Calls.mono (laws_eqIntS_same km _ _ _ (Ep6.out _ (HL.out.at 0 _ rfl)).2.read (Ep2.out _ (HL.out.at 4 _ rfl)).2.read) ?_
  rintro e w10 ⟨rfl, hb⟩
  replace HL := Lib.hid (HL.out.step hb)
  clear hb
  have y0 := fun V (h : Ok (LS w [p6, p5, p4, p3, p2, p1]) V) => (Ep4.out _ ((show LS w [p6, p5, p4, p3, p2, p1] V from h).at 2 _ rfl)).cell 0 _ rfl
  have y1 := fun V (h : Ok (LS w [p6, p5, p4, p3, p2, p1]) V) => (Ep4.out _ ((show LS w [p6, p5, p4, p3, p2, p1] V from h).at 2 _ rfl)).cell 1 _ rfl
  have z0 := fun V (h : Ok (LS w [p6, p5, p4, p3, p2, p1]) V) => (Ep1.out _ ((show LS w [p6, p5, p4, p3, p2, p1] V from h).at 5 _ rfl)).cell 0 _ rfl
  have z1 := fun V (h : Ok (LS w [p6, p5, p4, p3, p2, p1]) V) => (Ep1.out _ ((show LS w [p6, p5, p4, p3, p2, p1] V from h).at 5 _ rfl)).cell 1 _ rfl
  have g0 : Ok (LS w [p6, p5, p4, p3, p2, p1]) w10.drew := HL.out.drew
  clear HL
  go_wp2_with fail
  refine wp_region_plan (S := Ok (LS w [p6, p5, p4, p3, p2, p1])) (by kernel_rfl) [(true, 0), (true, 1), (false, 2), (false, 3), (true, 4)] (by kernel_rfl) g0 ?_
  repeat ((first | (refine dyn_take rfl rfl (fun W g => by go_simp; rfl) ?_) | (refine dyn_skip rfl rfl ?_)); go_simp)
  refine dyn_act rfl rfl (fun K hK => ?_)
  go_wp2_with fail
  refine Calls.mono (laws_toStore s _ _ (HT.out.below (show LS w [p6, p5, p4, p3, p2, p1] _ from g0).below) (by omega)) ?_
  rintro e w11 ⟨cy, rfl, oy, hb⟩
  have RY := Lib.hid oy.read
  obtain ⟨Y1, yc1, Y2, yc2, rfl⟩ := StoreO.shape oy
  have g1 : Ok (LS w [p6, p5, p4, p3, p2, p1]) w11 := (show LS w [p6, p5, p4, p3, p2, p1] _ from g0).step hb
  clear oy hb g0
  simp only []
  refine hK.out _ _ g1 ?_
  clear hK
  repeat ((first | (refine dyn_take rfl rfl (fun W g => by go_simp; rfl) ?_) | (refine dyn_skip rfl rfl ?_)); go_simp)
  refine dyn_act rfl rfl (fun K hK => ?_)
  go_wp2_with fail
  refine Calls.mono (laws_eqStore_same s _ _ _ (Ep3.out _ ((show LS w [p6, p5, p4, p3, p2, p1] _ from g1).at 3 _ rfl)).read RY.out) ?_
  rintro e w12 ⟨rfl, hb⟩
  have g2 : Ok (LS w [p6, p5, p4, p3, p2, p1]) w12 := (show LS w [p6, p5, p4, p3, p2, p1] _ from g1).step hb
  clear hb g1 RY
  simp only []
  refine hK.out _ _ g2 ?_
  clear hK
  repeat ((first | (refine dyn_take rfl rfl (fun W g => by go_simp; rfl) ?_) | (refine dyn_skip rfl rfl ?_)); go_simp)
  refine dyn_done ?_
  have HL := Lib.hid (show LS w [p6, p5, p4, p3, p2, p1] w12 from g2)
  clear g2 y0 y1 z0 z1
  go_wp2_with fail
  refine Calls.mono (laws_toIntS_own roots _ _ (HR.out.below HL.out.below) (by omega)) ?_
  rintro e w13 ⟨Q, qc, rfl, oq, hb⟩
  have RQ := Lib.hid oq.read
  clear oq
  replace HL := Lib.hid (HL.out.step hb)
  clear hb
  go_wp2_with fail
  refine Calls.mono (laws_eqIntS_same roots _ _ _ (Ep5.out _ (HL.out.at 1 _ rfl)).read RQ.out) ?_
  rintro e w14 ⟨rfl, hb⟩
  clear RQ
  replace HL := Lib.hid (HL.out.step hb)
  clear hb
  have y0 := (Ep4.out _ (HL.out.at 2 _ rfl)).cell 0 _ rfl
  have y1 := (Ep4.out _ (HL.out.at 2 _ rfl)).cell 1 _ rfl
  go_wp2_with fail
  clear y0 y1
  refine Calls.mono (laws_markStore (Rng w4.heap.size w5.heap.size) s _ 1 _ (Ep3.out _ (HL.out.at 3 _ rfl)) (fun hb => by have h1 := hb.2; have h2 := (HL.out.bnd 3 _ rfl).2.2; rw [hip3] at h2; omega) (by decide) (by omega)) ?_
  rintro e w15 ⟨rfl, ho, hk, hz0⟩
  obtain ⟨p7, HLn, lop7, hip7, Ep7⟩ := HL.out.mod 3 _ rfl (by first | (rw [lop3, hip3]; exact hk) | (refine hk.mono fun b hb hq => hb ?_; first | exact hq.1 | (rw [lop3, hip3]; exact hq.1))) hz0 (fun V => StoreO (Rng w4.heap.size w5.heap.size) V [.slice X1 s.envs.length x1, .slice X2 s.promises.length x2] (markStoreD s 1)) (by rw [lop3, hip3]; exact fun V V2 hk h => h.keeps hk) ho
  rw [lop3] at lop7
  rw [hip3] at hip7
  have HL2 := Lib.hid (show LS w [p6, p5, p4, p7, p2, p1] _ from HLn)
  clear HL HLn hk hz0
  have HL := HL2
  clear HL2
  clear ho
  go_wp2_with fail
  refine Calls.mono (laws_markInts (Rng w6.heap.size w7.heap.size) roots _ (1 + cStore s) _ (Ep5.out _ (HL.out.at 1 _ rfl)) (by omega) (by omega)) ?_
  rintro e w16 ⟨rfl, ho, hk, hz0⟩
  obtain ⟨p8, HLn, lop8, hip8, Ep8⟩ := HL.out.mod 1 _ rfl (by first | (rw [lop5, hip5]; exact hk) | (refine hk.mono fun b hb hq => hb ?_; first | exact hq.1 | (rw [lop5, hip5]; exact hq.1))) hz0 (fun V => IntO (Rng w6.heap.size w7.heap.size) V (.slice J roots.length jc) (markI (1 + (cStore s : Int)).toNat roots.length)) (by rw [lop5, hip5]; exact fun V V2 hk h => h.keeps hk) ho
  rw [lop5] at lop8
  rw [hip5] at hip8
  have HL2 := Lib.hid (show LS w [p6, p8, p4, p7, p2, p1] _ from HLn)
  clear HL HLn hk hz0
  have HL := HL2
  clear HL2
  clear ho
  have hdk : decide ((1 + (cStore s : Int) + (roots.length : Int)) < 0) = false := decide_eq_false (by omega)
  go_wp2_with fail
  refine Calls.mono (laws_eqIntS_same kl _ _ _ (Ep6.out _ (HL.out.at 0 _ rfl)).1.read (Ep2.out _ (HL.out.at 4 _ rfl)).1.read) ?_
  rintro e w17 ⟨rfl, hb⟩
  replace HL := Lib.hid (HL.out.step hb)
  clear hb
  go_wp2_with fail
  refine Calls.mono (laws_eqIntS_same km _ _ _ (Ep6.out _ (HL.out.at 0 _ rfl)).2.read (Ep2.out _ (HL.out.at 4 _ rfl)).2.read) ?_
  rintro e w18 ⟨rfl, hb⟩
  replace HL := Lib.hid (HL.out.step hb)
  clear hb
  go_wp2_with fail
  refine Calls.mono (laws_markInts (fun x => Rng w7.heap.size w8.heap.size x ∧ kf x = 0) kl _ 1 _ (Ep6.out _ (HL.out.at 0 _ rfl)).1 (by omega) (by omega)) ?_
  rintro e w19 ⟨rfl, ho, hk, hz0⟩
  have ho1 := (Ep6.out _ (HL.out.at 0 _ rfl)).2.keeps (hk.mono fun b hb hq => by have := hb.2; have := hq.2; omega)
  obtain ⟨p9, HLn, lop9, hip9, Ep9⟩ := HL.out.mod 0 _ rfl (by first | (rw [lop6, hip6]; exact hk) | (refine hk.mono fun b hb hq => hb ?_; first | exact hq.1 | (rw [lop6, hip6]; exact hq.1))) hz0 (fun V => IntO (fun x => Rng w7.heap.size w8.heap.size x ∧ kf x = 0) V (.slice kA kl.length kc) (markI (1 : Int).toNat kl.length) ∧ IntO (fun x => Rng w7.heap.size w8.heap.size x ∧ kf x = 1) V (.slice kB km.length kd) (km)) (by rw [lop6, hip6]; exact fun V V2 hk h => ⟨h.1.keeps (hk.mono fun _ h => h.1), h.2.keeps (hk.mono fun _ h => h.1)⟩) ⟨ho, ho1⟩
  rw [lop6] at lop9
  rw [hip6] at hip9
  have HL2 := Lib.hid (show LS w [p9, p8, p4, p7, p2, p1] _ from HLn)
  clear HL HLn hk hz0
  have HL := HL2
  clear HL2
  clear ho ho1
  go_wp2_with fail
  refine Calls.mono (laws_markInts (fun x => Rng w7.heap.size w8.heap.size x ∧ kf x = 1) km _ (1 + kl.length) _ (Ep9.out _ (HL.out.at 0 _ rfl)).2 (by omega) (by omega)) ?_
  rintro e w20 ⟨rfl, ho, hk, hz0⟩
  have ho1 := (Ep9.out _ (HL.out.at 0 _ rfl)).1.keeps (hk.mono fun b hb hq => by have := hb.2; have := hq.2; omega)
  obtain ⟨p10, HLn, lop10, hip10, Ep10⟩ := HL.out.mod 0 _ rfl (by first | (rw [lop9, hip9]; exact hk) | (refine hk.mono fun b hb hq => hb ?_; first | exact hq.1 | (rw [lop9, hip9]; exact hq.1))) hz0 (fun V => IntO (fun x => Rng w7.heap.size w8.heap.size x ∧ kf x = 0) V (.slice kA kl.length kc) (markI (1 : Int).toNat kl.length) ∧ IntO (fun x => Rng w7.heap.size w8.heap.size x ∧ kf x = 1) V (.slice kB km.length kd) (markI (1 + (kl.length : Int)).toNat km.length)) (by rw [lop9, hip9]; exact fun V V2 hk h => ⟨h.1.keeps (hk.mono fun _ h => h.1), h.2.keeps (hk.mono fun _ h => h.1)⟩) ⟨ho1, ho⟩
  rw [lop9] at lop10
  rw [hip9] at hip10
  have HL2 := Lib.hid (show LS w [p10, p8, p4, p7, p2, p1] _ from HLn)
  clear HL HLn hk hz0
  have HL := HL2
  clear HL2
  clear ho ho1
  have hd0 : decide ((1 + (kl.length : Int)) < 0) = false := decide_eq_false (by omega)
  have hd1 : decide ((1 + (kl.length : Int) + (km.length : Int)) < 0) = false := decide_eq_false (by omega)
  go_wp2_with fail
  refine Calls.mono (laws_heldInts kl _ 1 _ (Ep10.out _ (HL.out.at 0 _ rfl)).1.read (by omega) (by omega)) ?_
  rintro e w21 ⟨rfl, hb⟩
  replace HL := Lib.hid (HL.out.step hb)
  clear hb
  go_wp2_with fail
  refine Calls.mono (laws_heldInts km _ (1 + kl.length) _ (Ep10.out _ (HL.out.at 0 _ rfl)).2.read (by omega) (by omega)) ?_
  rintro e w22 ⟨rfl, hb⟩
  replace HL := Lib.hid (HL.out.step hb)
  clear hb
  have y0 := (Ep1.out _ (HL.out.at 5 _ rfl)).cell 0 _ rfl
  have y1 := (Ep1.out _ (HL.out.at 5 _ rfl)).cell 1 _ rfl
  go_wp2_with fail
  clear y0 y1
  refine Calls.mono (laws_toStore s _ _ (HT.out.below HL.out.below) (by omega)) ?_
  rintro e w23 ⟨ct, rfl, ot, hb⟩
  have Rt := Lib.hid ot.read
  obtain ⟨tA1, ta1, tA2, ta2, rfl⟩ := StoreO.shape ot
  clear ot
  replace HL := Lib.hid (HL.out.step hb)
  clear hb
  go_wp2_with fail
  refine Calls.mono (laws_toIntS_own roots _ _ (HR.out.below HL.out.below) (by omega)) ?_
  rintro e w24 ⟨It, it, rfl, jt, hb⟩
  have RIt := Lib.hid jt.read
  have RSt := Lib.hid (Rt.out.below hb)
  clear jt Rt
  replace HL := Lib.hid (HL.out.step hb)
  clear hb
  go_wp2_with fail
  refine Calls.mono (impl_ReachableIn s roots _ _ _ RSt.out RIt.out HSZ.out) ?_
  rintro e w25 ⟨hA, hc, hB, hd, hl, hm, hb, hf, rfl, hrp, ho0, ho1, hb⟩
  obtain ⟨rfl, rfl, rfl⟩ := hrp.unique HRP.out
  clear hrp
  obtain ⟨p11, HLn, lop11, hip11, Ep11⟩ := HL.out.push hb (fun V => IntO (fun x => Rng w24.heap.size w25.heap.size x ∧ hf x = 0) V (.slice hA hl.length hc) hl ∧ IntO (fun x => Rng w24.heap.size w25.heap.size x ∧ hf x = 1) V (.slice hB hm.length hd) hm) (fun V V2 hk h => ⟨h.1.keeps (hk.mono fun _ h => h.1), h.2.keeps (hk.mono fun _ h => h.1)⟩) ⟨ho0, ho1⟩
  replace HL := Lib.hid HLn
  clear hb HLn
  clear ho0 ho1
  clear RSt RIt
  go_wp2_with fail
  refine Calls.mono (laws_eqIntS_same hl _ _ _ (Ep11.out _ (HL.out.at 0 _ rfl)).1.read (Ep2.out _ (HL.out.at 5 _ rfl)).1.read) ?_
  rintro e w26 ⟨rfl, hb⟩
  replace HL := Lib.hid (HL.out.step hb)
  clear hb
  go_wp2_with fail
  refine Calls.mono (laws_eqIntS_same hm _ _ _ (Ep11.out _ (HL.out.at 0 _ rfl)).2.read (Ep2.out _ (HL.out.at 5 _ rfl)).2.read) ?_
  rintro e w27 ⟨rfl, hb⟩
  replace HL := Lib.hid (HL.out.step hb)
  clear hb
  go_wp2_with fail
  refine Calls.mono (laws_heldInts hl _ 1 _ (Ep10.out _ (HL.out.at 1 _ rfl)).1.read (by omega) (by omega)) ?_
  rintro e w28 ⟨rfl, hb⟩
  replace HL := Lib.hid (HL.out.step hb)
  clear hb
  go_wp2_with fail
  refine Calls.mono (laws_heldInts hm _ (1 + hl.length) _ (Ep10.out _ (HL.out.at 1 _ rfl)).2.read (by omega) (by omega)) ?_
  rintro e w29 ⟨rfl, hb⟩
  replace HL := Lib.hid (HL.out.step hb)
  clear hb
  go_wp2_with fail
  go_ret
  exact ⟨rfl, HL.out.below⟩
set_option maxRecDepth 100000 in
theorem lifted (os : Os) (started : os.Started) (H : Type) (enc : TypeId × Value → H) :
    ReturnsInHanded {} Tryz.checked os 3 .any (Rows.fnExactReachableInSpec.pre6 enc Tryz.prog Tryz.f3 Rows.fnExactReachableInRow.domain false) (Rows.fnExactReachableInSpec.post enc Tryz.prog Tryz.f3 false true false false) := by
  refine returnsInHanded_of_change (C := Tryz.checked) own started (by kernel_rfl) Tryz.func3
    (ChangeSpec.witness6 (enc := enc) (C := Tryz.checked) false ⟨#[], #[.agg #[.slice none 0 0, .slice none 0 0], .slice none 0 0], []⟩ 8 (by kernel_rfl) (by kernel_rfl) (by kernel_rfl) (by kernel_rfl)) ?_
  intro W base args ds gs before hval0 hW hcnd _
  have hval : ∀ (j : Nat) t v, Tryz.f3.params[j]? = some t → args[j]? = some v → Value.okWide Tryz.prog W .any base t v := hval0
  have hW' := hW
  obtain ⟨p, q, hA0, hV, rfl, hfz, hnd⟩ := hW
  have hA : DataW.TrodAll enc Tryz.prog W 0 (fun _ => true) true Tryz.f3.params.toList args.toList ds p := hA0
  rw [Tryz.params3] at hA hval
  obtain ⟨v0, vs0, d0, ds0, p0, q0, hargs, rfl, rfl, h0, r0⟩ := trodAll_cons hA
  obtain ⟨v1, vs1, d1, ds1, p1, q1, rfl, rfl, rfl, h1, r1⟩ := trodAll_cons r0
  obtain ⟨rfl, rfl, rfl⟩ := trodAll_nil r1
  obtain rfl : args = #[v0, v1] := by cases args; simp_all
  obtain ⟨rfl, rfl⟩ := trodVars_none hV
  obtain ⟨x0, u0⟩ := open_store (hval 0 25 v0 rfl rfl) h0
  obtain ⟨x1, u1⟩ := open_ints64 (hval 1 26 v1 rfl rfl) h1
  clear hA0 hval0
  refine (walk v0 x0 u0 v1 x1 u1).mono fun e W' ⟨he, hg⟩ => ?_
  subst he
  exact ⟨_, rfl, law_post laidOut hW' rfl rfl Tryz.underlying4 rfl rfl rfl (by intro t ht; rw [Tryz.params3] at ht; have ht2 : t ∈ [25, 26] := ht; simp only [List.mem_cons, List.not_mem_nil, or_false] at ht2; rcases ht2 with rfl | rfl <;> exact ⟨by kernel_rfl, of_decide_eq_true (by kernel_rfl)⟩) hg⟩

theorem fact0 : jf0 Tryz.prog 3 Tryz.f3 Rows.fnExactReachableInSpec Rows.fnExactReachableInRow = true := by kernel_rfl
theorem fact1 : jf1 Tryz.prog 3 Tryz.f3 Rows.fnExactReachableInSpec Rows.fnExactReachableInRow = true := by kernel_rfl
theorem fact2 : jf2 Tryz.prog 3 Tryz.f3 Rows.fnExactReachableInSpec Rows.fnExactReachableInRow = true := by kernel_rfl
theorem fact3 : jf3 Tryz.prog 3 Tryz.f3 Rows.fnExactReachableInSpec Rows.fnExactReachableInRow = true := by kernel_rfl
theorem fact4 : jf4 Tryz.prog 3 Tryz.f3 Rows.fnExactReachableInSpec Rows.fnExactReachableInRow = true := by kernel_rfl
theorem fact5 : jf5 Tryz.prog 3 Tryz.f3 Rows.fnExactReachableInSpec Rows.fnExactReachableInRow = true := by kernel_rfl
theorem fact6 : jf6 Tryz.prog 3 Tryz.f3 Rows.fnExactReachableInSpec Rows.fnExactReachableInRow = true := by kernel_rfl
theorem fact7 : jf7 Tryz.prog 3 Tryz.f3 Rows.fnExactReachableInSpec Rows.fnExactReachableInRow = true := by kernel_rfl
theorem fact8 : jf8 Tryz.prog 3 Tryz.f3 Rows.fnExactReachableInSpec Rows.fnExactReachableInRow = true := by kernel_rfl
theorem fact9 : jf9 Tryz.prog 3 Tryz.f3 Rows.fnExactReachableInSpec Rows.fnExactReachableInRow = true := by kernel_rfl
theorem fact10 : jf10 Tryz.prog 3 Tryz.f3 Rows.fnExactReachableInSpec Rows.fnExactReachableInRow = true := by kernel_rfl
theorem fact11 : jf11 Tryz.prog 3 Tryz.f3 Rows.fnExactReachableInSpec Rows.fnExactReachableInRow = true := by kernel_rfl
theorem fact12 : jf12 Tryz.prog 3 Tryz.f3 Rows.fnExactReachableInSpec Rows.fnExactReachableInRow = true := by kernel_rfl
theorem fact13 : jf13 Tryz.prog 3 Tryz.f3 Rows.fnExactReachableInSpec Rows.fnExactReachableInRow = true := by kernel_rfl
theorem fact14 : jf14 Tryz.prog 3 Tryz.f3 Rows.fnExactReachableInSpec Rows.fnExactReachableInRow = true := by kernel_rfl
theorem fact15 : jf15 Tryz.prog 3 Tryz.f3 Rows.fnExactReachableInSpec Rows.fnExactReachableInRow = true := by kernel_rfl
theorem fact16 : jf16 Tryz.prog 3 Tryz.f3 Rows.fnExactReachableInSpec Rows.fnExactReachableInRow = true := by kernel_rfl
theorem fact17 : jf17 Tryz.prog 3 Tryz.f3 Rows.fnExactReachableInSpec Rows.fnExactReachableInRow = true := by kernel_rfl
theorem fact18 : jf18 Tryz.prog 3 Tryz.f3 Rows.fnExactReachableInSpec Rows.fnExactReachableInRow = true := by kernel_rfl
theorem fact19 : jf19 Tryz.prog 3 Tryz.f3 Rows.fnExactReachableInSpec Rows.fnExactReachableInRow = true := by kernel_rfl
theorem fact20 : jf20 Tryz.prog 3 Tryz.f3 Rows.fnExactReachableInSpec Rows.fnExactReachableInRow = true := by kernel_rfl
theorem fact21 : jf21 Tryz.prog 3 Tryz.f3 Rows.fnExactReachableInSpec Rows.fnExactReachableInRow = true := by kernel_rfl
theorem fact22 : jf22 Tryz.prog 3 Tryz.f3 Rows.fnExactReachableInSpec Rows.fnExactReachableInRow = true := by kernel_rfl
theorem fact23 : jf23 Tryz.prog 3 Tryz.f3 Rows.fnExactReachableInSpec Rows.fnExactReachableInRow = true := by kernel_rfl
theorem fact24 : jf24 Tryz.prog 3 Tryz.f3 Rows.fnExactReachableInSpec Rows.fnExactReachableInRow = true := by kernel_rfl
theorem fact25 : jf25 Tryz.prog 3 Tryz.f3 Rows.fnExactReachableInSpec Rows.fnExactReachableInRow = true := by kernel_rfl
theorem fact26 : jf26 Tryz.prog 3 Tryz.f3 Rows.fnExactReachableInSpec Rows.fnExactReachableInRow = true := by kernel_rfl
theorem fact27 : jf27 Tryz.prog 3 Tryz.f3 Rows.fnExactReachableInSpec Rows.fnExactReachableInRow = true := by kernel_rfl
theorem fact28 : jf28 Tryz.prog 3 Tryz.f3 Rows.fnExactReachableInSpec Rows.fnExactReachableInRow = true := by kernel_rfl
theorem fact29 : jf29 Tryz.prog 3 Tryz.f3 Rows.fnExactReachableInSpec Rows.fnExactReachableInRow = true := by kernel_rfl
theorem fact30 : jf30 Tryz.prog 3 Tryz.f3 Rows.fnExactReachableInSpec Rows.fnExactReachableInRow = true := by kernel_rfl
theorem fact31 : jf31 Tryz.prog 3 Tryz.f3 Rows.fnExactReachableInSpec Rows.fnExactReachableInRow = true := by kernel_rfl
theorem over : Rows.fnExactReachableInRow.holds Tryz.pinned (OpenSpec.ofChange Rows.fnExactReachableInSpec) :=
  OpenClaim.holds_of_wide 3 Tryz.f3 rfl rfl rfl rfl rfl rfl rfl ⟨rfl, rfl, rfl, rfl, rfl⟩ rfl rfl rfl rfl rfl (by kernel_rfl) Tryz.func3 (joined fact0 fact1 fact2 fact3 fact4 fact5 fact6 fact7 fact8 fact9 fact10 fact11 fact12 fact13 fact14 fact15 fact16 fact17 fact18 fact19 fact20 fact21 fact22 fact23 fact24 fact25 fact26 fact27 fact28 fact29 fact30 fact31)
    (of_decide_eq_true (by kernel_rfl)) (by unfold Func.isWrapper; first | (rw [if_pos (by decide +kernel)]; kernel_rfl) | (rw [if_neg (by decide +kernel)]; exact ⟨rfl, rfl⟩))
    (fun os started H enc _ => lifted os started H enc)

/-- THE STATEMENT -/
theorem proved : Rows.FnExactReachableInSaid :=
  over
#print axioms proved
end fnExactReachableIn
end Go.Proofs.YtejieacdfjpfnaaGreat
