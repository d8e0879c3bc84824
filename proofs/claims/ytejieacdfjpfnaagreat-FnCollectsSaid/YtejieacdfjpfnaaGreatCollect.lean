/-
  Contracts: CollectStore, of the program and of the reference.
-/
import Derived.Test.YtejieacdfjpfnaaGreatKSweep
import Derived.Test.YtejieacdfjpfnaaGreatReachP
namespace Go.Proofs.YtejieacdfjpfnaaGreat
set_option maxRecDepth 100000
open Go.ChangeShapes Go.WideShapes Go.ChangeAt Go.RowKit Go.Deep
set_option linter.unusedVariables false
set_option maxRecDepth 100000

def ColP (s : StoreD) (roots : List Int) (x : StoreD × Bool) : Prop := x.2 = rootsOk s roots ∧ (x.2 = true → ∃ E P, Marked s roots E P ∧ x.1 = colS s E P) ∧ (x.2 = false → x.1 = stZ)
def RetCol (s : StoreD) (roots : List Int) (w : World) (e : Ending) (w' : World) : Prop := ∃ (x : StoreD × Bool) (cs : List Value), ColP s roots x ∧ e = .returned (.tuple #[.agg cs.toArray, .bool x.2]) ∧ StoreO (Rng w.heap.size w'.heap.size) w' cs x.1 ∧ Below w.heap.size w w'
theorem colS_shape {S : Nat → Prop} {w : World} {cs : List Value} {s : StoreD} {E P : List Bool} (h : StoreO S w cs (colS s E P)) : ∃ (A0 : Option Addr) (a0 : Nat) (A1 : Option Addr) (a1 : Nat), cs = [.slice A0 s.envs.length a0, .slice A1 s.promises.length a1] := by
  obtain ⟨A0, a0, A1, a1, rfl⟩ := h.shape2
  exact ⟨A0, a0, A1, a1, by unfold colS; simp [sw_len]⟩
/-- the end: the box's cells are stored into the result's box -/
theorem put2c {w w3 : World} {d : StoreD} {r lo r6 : Nat} {t : TypeId} (c0 c1 : Value) {a0 a1 : Value} (hB : Blk w3 r t [a0, a1]) (ho : StoreO (Rng lo r6) w3 [c0, c1] d) (h6 : r6 ≤ w3.heap.size) (hr : w.heap.size ≤ r) (hl : r < lo) (hb : Below w.heap.size w w3) :
    Ok (fun W => Blk W r t [c0, c1] ∧ StoreO (Rng w.heap.size W.heap.size) W [c0, c1] d ∧ Below w.heap.size w W) ((w3.setCell ⟨r, 0, none⟩ c0).setCell ⟨r, 1, none⟩ c1) :=
  put2 c0 c1 hB (ho.mono fun b h => ⟨h.1, Nat.lt_of_lt_of_le h.2 h6⟩) hr hl hb

set_option maxHeartbeats 8000000 in
theorem spec_CollectStore (s : StoreD) (roots : List Int) (ss : List Value) (rv : Value) (w : World) (h : StoreR w ss s) (hr : Ints w rv roots) (hz : szStore s ≤ 1048576) :
    Calls Tryz.prog 34 #[.agg ss.toArray, rv] w (RetCol s roots w) := by
  have HS := Lib.hid h
  have HR := Lib.hid hr
  have HZ := Lib.hid hz
  have hzE : s.envs.length ≤ 1048576 := by unfold szStore at hz; have := szS_length szEnv s.envs; omega
  have hzP : s.promises.length ≤ 1048576 := by unfold szStore at hz; have := szS_length szPromise s.promises; omega
  clear hz
  obtain ⟨G, g0, HG, BX, BZ⟩ := good2 w 33 ss 33 zSt
  obtain ⟨E0, e0, E1, e1, rfl, _⟩ := h.open_
  obtain ⟨RA, rc, rfl, _⟩ := Ints.open_ hr
  clear h hr
  obtain ⟨x0, x1⟩ := pk_f2 BX
  go_enter Tryz.func34, Tryz.ntmps34
  go_upto_region 1 with fail
  refine gen_w g0 ?_
  clear g0
  intro W1 g1
  generalize (Value.agg #[.slice E0 s.envs.length e0, .slice E1 s.promises.length e1]) = V0
  go_wp2_with fail
  refine Calls.mono (spec_l27Roots s roots _ _ _ (HS.out.below (HG.out.below g1)) (HR.out.below (HG.out.below g1)) (by have := HZ.out; omega)) ?_
  rintro e w2 ⟨ge, gp, E, P, rfl, hge, hgp, hne, hE, hP, hEl, hPl, hmk, hb⟩
  replace g1 := HG.out.step g1 hb
  clear hb
  have HMK := Lib.hid hmk
  clear hmk
  have HE := Lib.hid hE
  have HP := Lib.hid hP
  clear hE hP
  cases hro : rootsOk s roots
  · have HCP := Lib.hid (show ColP s roots (stZ, false) from ⟨hro.symm, fun h => (by cases h), fun _ => rfl⟩)
    clear hro
    have z0 := (BZ.out _ g1).frozen 0
    have z1 := (BZ.out _ g1).frozen 1
    have y0 := (BZ.out _ g1).cell 0 _ rfl
    have y1 := (BZ.out _ g1).cell 1 _ rfl
    have hltR := (BZ.out _ g1).lt
    go_wp2_with fail
    refine gen_w (put2 (w := w) (d := stZ) (lo := w.heap.size + 2) (.slice none 0 0) (.slice none 0 0) (BZ.out _ g1) (zeroSt _ _) (by omega) (by omega) (HG.out.below g1)) ?_
    clear z0 z1 y0 y1
    rintro V ⟨hblk, hv, hbv⟩
    have f0 := hblk.cell 0 _ rfl
    have f1 := hblk.cell 1 _ rfl
    refine bodyPost_ret (v := .tuple #[.agg #[.slice none 0 0, .slice none 0 0], .bool false]) (by simp [results, Tryz.results34, go_sem, f0, f1]) rfl ?_
    exact ⟨_, _, HCP.out, rfl, hv, hbv⟩
  have HM := Lib.hid (HMK.out hro)
  have HOK := Lib.hid (show storeOk s = true by unfold rootsOk at hro; rw [Bool.and_eq_true] at hro; exact hro.1)
  have HCP := Lib.hid (show ColP s roots (colS s E P, true) from ⟨hro.symm, fun _ => ⟨E, P, HM.out, rfl⟩, fun h => (by cases h)⟩)
  clear hro
  go_wp2_with fail
  refine Calls.mono (spec_l26Copy s _ _ (HS.out.below (HG.out.below g1)) (parts_ok HOK.out) (by have := HZ.out; omega)) ?_
  rintro e w6 ⟨cs6, rfl, ho, hb⟩
  obtain ⟨C0, c0, C1, c1, rfl⟩ := ho.shape2
  have hz6 := hb.size
  have HLO := Lib.hid (BZ.out _ g1).lt
  have hgel := HE.out.lt
  have hgpl := HP.out.lt
  have g6 := HG.out.step g1 hb
  have HO6 := Lib.hid ho
  have HE6 := Lib.hid (HE.out.below hb)
  have HP6 := Lib.hid (HP.out.below hb)
  obtain ⟨lo, hlo⟩ : ∃ lo : Nat, lo = w2.heap.size := ⟨_, rfl⟩
  rw [← hlo] at HLO HO6 hz6 hgel hgpl
  clear hb ho g1 HE HP hlo
  obtain ⟨G7, g7, HG7, BP⟩ := good1 w6 33 [.slice C0 s.envs.length c0, .slice C1 s.promises.length c1]
  have HH7 := Lib.hid (fun W (h : Ok G7 W) => HG.out.step g6 (HG7.out.below h))
  go_upto_region 5 with fail
  refine gen_w g7 ?_
  clear g7 x0 x1
  intro W7 g7
  have hb7 := HG7.out.below g7
  have BZ8 := Lib.hid (BZ.out _ (HH7.out _ g7))
  have HBW := Lib.hid (HG.out.below (HH7.out _ g7))
  have hsz7 := hb7.size
  go_wp2_with fail
  refine Calls.mono (spec_l27Sweep s E P ge gp lo w6.heap.size C0 C1 c0 c1 W7 (BP.out _ g7) (HO6.out.keeps (Keeps.of_below _ hb7)) (HE6.out.below hb7) (HP6.out.below hb7) (fun h => by have := h.1; omega) (fun h => by have := h.1; omega) hEl hPl (by have := HZ.out; omega)) ?_
  rintro e w9 ⟨rfl, hcw⟩
  have HX := Lib.hid hcw
  clear hcw hb7 g7
  have hwl3 := HLO.out
  have HXB := Lib.hid (show Below w.heap.size w w9 from HBW.out.trans (below_ofK HX.out.kp HX.out.b0 (fun b hb hr => by have := hr.1; omega) HBW.out.size))
  have HBZ := Lib.hid (BZ8.out.keeps HX.out.kp (fun hr => by have := hr.1; omega))
  have HOO := Lib.hid HX.out.o
  have h6s : w6.heap.size ≤ w9.heap.size := Nat.le_of_lt HX.out.b6.lt
  have y0 := HX.out.b6.cell 0 _ rfl
  have y1 := HX.out.b6.cell 1 _ rfl
  have z0 := HBZ.out.frozen 0
  have z1 := HBZ.out.frozen 1
  have r0 := HBZ.out.cell 0 _ rfl
  have r1 := HBZ.out.cell 1 _ rfl
  go_wp2_with fail
  refine gen_w (put2c (w := w) (r6 := w6.heap.size) (.slice C0 s.envs.length c0) (.slice C1 s.promises.length c1) HBZ.out HOO.out h6s (by omega) (by omega) HXB.out) ?_
  clear y0 y1 z0 z1 r0 r1
  rintro V ⟨hblk, hv, hbv⟩
  have f0 := hblk.cell 0 _ rfl
  have f1 := hblk.cell 1 _ rfl
  refine bodyPost_ret (v := .tuple #[.agg #[.slice C0 s.envs.length c0, .slice C1 s.promises.length c1], .bool true]) (by simp [results, Tryz.results34, go_sem, f0, f1]) rfl ?_
  exact ⟨_, _, HCP.out, rfl, hv, hbv⟩

set_option maxHeartbeats 8000000 in
theorem impl_CollectStore (s : StoreD) (roots : List Int) (ss : List Value) (rv : Value) (w : World) (h : StoreR w ss s) (hr : Ints w rv roots) (hz : szStore s ≤ 1048576) :
    Calls Tryz.prog 35 #[.agg ss.toArray, rv] w (RetCol s roots w) := by
  have HS := Lib.hid h
  have HR := Lib.hid hr
  have HZ := Lib.hid hz
  have hzE : s.envs.length ≤ 1048576 := by unfold szStore at hz; have := szS_length szEnv s.envs; omega
  have hzP : s.promises.length ≤ 1048576 := by unfold szStore at hz; have := szS_length szPromise s.promises; omega
  clear hz
  obtain ⟨G, g0, HG, BX, BZ⟩ := good2 w 33 ss 33 zSt
  obtain ⟨E0, e0, E1, e1, rfl, _⟩ := h.open_
  obtain ⟨RA, rc, rfl, _⟩ := Ints.open_ hr
  clear h hr
  obtain ⟨x0, x1⟩ := pk_f2 BX
  go_enter Tryz.func35, Tryz.ntmps35
  go_upto_region 1 with fail
  refine gen_w g0 ?_
  clear g0
  intro W1 g1
  generalize (Value.agg #[.slice E0 s.envs.length e0, .slice E1 s.promises.length e1]) = V0
  go_wp2_with fail
  refine Calls.mono (impl_rootsRight s roots _ _ _ (HS.out.below (HG.out.below g1)) (HR.out.below (HG.out.below g1)) (by have := HZ.out; omega)) ?_
  rintro e w2 ⟨rfl, hb⟩
  replace g1 := HG.out.step g1 hb
  clear hb
  cases hro : rootsOk s roots
  · have HCP := Lib.hid (show ColP s roots (stZ, false) from ⟨hro.symm, fun h => (by cases h), fun _ => rfl⟩)
    clear hro
    have z0 := (BZ.out _ g1).frozen 0
    have z1 := (BZ.out _ g1).frozen 1
    have y0 := (BZ.out _ g1).cell 0 _ rfl
    have y1 := (BZ.out _ g1).cell 1 _ rfl
    have hltR := (BZ.out _ g1).lt
    go_wp2_with fail
    refine gen_w (put2 (w := w) (d := stZ) (lo := w.heap.size + 2) (.slice none 0 0) (.slice none 0 0) (BZ.out _ g1) (zeroSt _ _) (by omega) (by omega) (HG.out.below g1)) ?_
    clear z0 z1 y0 y1
    rintro V ⟨hblk, hv, hbv⟩
    have f0 := hblk.cell 0 _ rfl
    have f1 := hblk.cell 1 _ rfl
    refine bodyPost_ret (v := .tuple #[.agg #[.slice none 0 0, .slice none 0 0], .bool false]) (by simp [results, Tryz.results35, go_sem, f0, f1]) rfl ?_
    exact ⟨_, _, HCP.out, rfl, hv, hbv⟩
  have HOK := Lib.hid (show storeOk s = true by unfold rootsOk at hro; rw [Bool.and_eq_true] at hro; exact hro.1)
  have HALL := Lib.hid (show ∀ e ∈ roots, 0 ≤ e ∧ e < s.envs.length from fun e he => by unfold rootsOk at hro; rw [Bool.and_eq_true, List.all_eq_true] at hro; exact envU_in (hro.2 e he))
  have HRO := Lib.hid hro
  clear hro
  go_wp2_with fail
  refine Calls.mono (impl_copyStore s _ _ (HS.out.below (HG.out.below g1)) (by have := HZ.out; omega)) ?_
  rintro e w6 ⟨cs6, rfl, ho, hb⟩
  obtain ⟨C0, c0, C1, c1, rfl⟩ := ho.shape2
  have hz6 := hb.size
  have HLO := Lib.hid (BZ.out _ g1).lt
  have g6 := HG.out.step g1 hb
  have HO6 := Lib.hid ho
  obtain ⟨lo, hlo⟩ : ∃ lo : Nat, lo = w2.heap.size := ⟨_, rfl⟩
  rw [← hlo] at HLO HO6 hz6
  clear hb ho g1 hlo
  obtain ⟨G7, g7, HG7, BP⟩ := good1 w6 33 [.slice C0 s.envs.length c0, .slice C1 s.promises.length c1]
  have HH7 := Lib.hid (fun W (h : Ok G7 W) => HG.out.step g6 (HG7.out.below h))
  go_upto_region 4 with fail
  refine gen_w g7 ?_
  clear g7 x0 x1
  intro W7 g7
  have hb7 := HG7.out.below g7
  have hw7 := (BP.out _ g7).lt
  go_wp2_with fail
  refine Calls.mono (impl_reached s roots _ _ W7 w.heap.size (HS.out.below (HG.out.below (HH7.out _ g7))) (BX.out _ (HH7.out _ g7)) (HR.out.below (HG.out.below (HH7.out _ g7))) HOK.out HALL.out (by have := HZ.out; omega)) ?_
  rintro e wb ⟨rb, ge, gp, lo2, st, A, c, rfl, hq, hs, hmk⟩
  have g8 := HG7.out.step g7 hs.rd
  have HRL := Lib.hid (show w6.heap.size < rb by have := hq.r.1; omega)
  have hge : ¬ Rng lo w6.heap.size ge := fun h => by have := h.2; have := hq.g.1; omega
  have hgp : ¬ Rng lo w6.heap.size gp := fun h => by have := h.2; have := hq.p.1; omega
  have HRB := Lib.hid hs.bR
  have hEl : st.E.length = s.envs.length := hmk.lenE
  have hPl : st.P.length = s.promises.length := hmk.lenP
  have HCP := Lib.hid (show ColP s roots (colS s st.E st.P, true) from ⟨HRO.out.symm, fun _ => ⟨st.E, st.P, hmk, rfl⟩, fun h => (by cases h)⟩)
  have BZ8 := Lib.hid (BZ.out _ (HH7.out _ g8))
  have HBW := Lib.hid (HG.out.below (HH7.out _ g8))
  have HX := Lib.hid (show CW wb lo w6.heap.size ge gp [.slice C0 s.envs.length c0, .slice C1 s.promises.length c1] st.E st.P ⟨sw zEn st.E 0 s.envs, s.promises⟩ wb from ⟨BP.out _ g8, HO6.out.keeps (Keeps.of_below _ (HG7.out.below g8)), hs.bE, hs.bP, Keeps.refl _ _, Below.refl _ _⟩)
  obtain ⟨E, hE9⟩ : ∃ E, E = st.E := ⟨_, rfl⟩
  obtain ⟨P, hP9⟩ : ∃ P, P = st.P := ⟨_, rfl⟩
  rw [← hE9] at hEl HCP HX
  rw [← hP9] at hPl HCP HX
  have hr1 := hs.bR.cell 1 _ rfl
  clear hE9 hP9 hs hmk hq hb7 g7 g8
  go_wp2_with fail
  clear hr1
  go_loopw [8, 9, 26] (fun _ _ i wr => ∃ k : Nat, k ≤ s.envs.length ∧ i = .int .i64 k ∧ Hid (CW wb lo w6.heap.size ge gp [.slice C0 s.envs.length c0, .slice C1 s.promises.length c1] E P ⟨sw zEn E (k) s.envs, s.promises⟩ wr)) (fun _ _ i _ => s.envs.length - (intOf i).toNat)
  case atStart => exact ⟨0, Nat.zero_le _, rfl, HX.out⟩
  case round =>
    clear HX
    obtain ⟨k, hk, rfl, HX⟩ := hrel
    have x0 := HX.out.b6.cell 0 _ rfl
    have x1 := HX.out.b6.cell 1 _ rfl
    by_cases hlt : k < s.envs.length
    · have q0 := HX.out.bE.cell k _ (bls_get _ k (by omega))
      cases hg : gB E k
      · have HN := Lib.hid (sw_no (z := zEn) (l := s.envs) hg)
        rw [hg] at q0
        clear hg
        obtain ⟨g, u0, u1, u2, u3, rfl, ⟨y0, y1, y2, y3⟩, ⟨f0, f1, f2, f3⟩, hc⟩ := HX.out.clearE (by show (sw _ _ _ _).length = _; rw [sw_len]) k hlt hge hgp
        have HX2 := Lib.hid hc
        clear hc
        go_wp2_with fail
        clear HX x0 x1 q0 y0 y1 y2 y3 f0 f1 f2 f3
        go_roundw
        case rel => first | exact ⟨k + 1, by omega, by go_num, by rw [HN.out]; exact HX2.out⟩ | ((repeat apply Exists.intro); exact ⟨⟨k + 1, by omega, by go_num, by rw [HN.out]; exact HX2.out⟩, rfl⟩)
        case measure => simp [intOf]; omega
      · have HN := Lib.hid (sw_yes (z := zEn) (l := s.envs) hg)
        rw [hg] at q0
        clear hg
        go_wp2_with fail
        go_roundw
        case rel => first | exact ⟨k + 1, by omega, by go_num, by rw [HN.out]; exact HX.out⟩ | ((repeat apply Exists.intro); exact ⟨⟨k + 1, by omega, by go_num, by rw [HN.out]; exact HX.out⟩, rfl⟩)
        case measure => simp [intOf]; omega
    · obtain rfl : k = s.envs.length := by omega
      clear hlt hk
      have hr2 := (HRB.out.keeps HX.out.kp (fun h => by have := h.2; have := HRL.out; omega)).cell 2 _ rfl
      go_wp2_with fail
      clear hr2
      go_loopw [10, 11, 44] (fun _ _ i wr => ∃ k : Nat, k ≤ s.promises.length ∧ i = .int .i64 k ∧ Hid (CW wb lo w6.heap.size ge gp [.slice C0 s.envs.length c0, .slice C1 s.promises.length c1] E P ⟨sw zEn E s.envs.length s.envs, sw zPr P (k) s.promises⟩ wr)) (fun _ _ i _ => s.promises.length - (intOf i).toNat)
      case atStart => exact ⟨0, Nat.zero_le _, rfl, HX.out⟩
      case round =>
        clear HX
        obtain ⟨k, hk, rfl, HX⟩ := hrel
        have x0 := HX.out.b6.cell 0 _ rfl
        have x1 := HX.out.b6.cell 1 _ rfl
        by_cases hlt : k < s.promises.length
        · have q0 := HX.out.bP.cell k _ (bls_get _ k (by omega))
          cases hg : gB P k
          · have HN := Lib.hid (sw_no (z := zPr) (l := s.promises) hg)
            rw [hg] at q0
            clear hg
            obtain ⟨g, u0, u1, u2, u3, u4, u5, u6, u7, u8, u9, u10, u11, rfl, ⟨y0, y1, y2, y3, y4, y5, y6, y7, y8, y9, y10, y11⟩, ⟨f0, f1, f2, f3, f4, f5, f6, f7, f8, f9, f10, f11⟩, hc⟩ := HX.out.clearP (by show (sw _ _ _ _).length = _; rw [sw_len]) k hlt hge hgp
            have HX2 := Lib.hid hc
            clear hc
            go_wp2_with fail
            clear HX x0 x1 q0 y0 y1 y2 y3 y4 y5 y6 y7 y8 y9 y10 y11 f0 f1 f2 f3 f4 f5 f6 f7 f8 f9 f10 f11
            go_roundw
            case rel => first | exact ⟨k + 1, by omega, by go_num, by rw [HN.out]; exact HX2.out⟩ | ((repeat apply Exists.intro); exact ⟨⟨k + 1, by omega, by go_num, by rw [HN.out]; exact HX2.out⟩, rfl⟩)
            case measure => simp [intOf]; omega
          · have HN := Lib.hid (sw_yes (z := zPr) (l := s.promises) hg)
            rw [hg] at q0
            clear hg
            go_wp2_with fail
            go_roundw
            case rel => first | exact ⟨k + 1, by omega, by go_num, by rw [HN.out]; exact HX.out⟩ | ((repeat apply Exists.intro); exact ⟨⟨k + 1, by omega, by go_num, by rw [HN.out]; exact HX.out⟩, rfl⟩)
            case measure => simp [intOf]; omega
        · obtain rfl : k = s.promises.length := by omega
          clear hlt hk
          have hwl3 := HLO.out
          have HXB := Lib.hid (show Below w.heap.size w wr from HBW.out.trans (below_ofK HX.out.kp HX.out.b0 (fun b hb hr => by have := hr.1; omega) HBW.out.size))
          have HBZ := Lib.hid (BZ8.out.keeps HX.out.kp (fun hr => by have := hr.1; omega))
          have HOO := Lib.hid HX.out.o
          have h6s : w6.heap.size ≤ wr.heap.size := Nat.le_of_lt HX.out.b6.lt
          have y0 := HX.out.b6.cell 0 _ rfl
          have y1 := HX.out.b6.cell 1 _ rfl
          have z0 := HBZ.out.frozen 0
          have z1 := HBZ.out.frozen 1
          have r0 := HBZ.out.cell 0 _ rfl
          have r1 := HBZ.out.cell 1 _ rfl
          go_wp2_with fail
          refine gen_w (put2c (w := w) (r6 := w6.heap.size) (.slice C0 s.envs.length c0) (.slice C1 s.promises.length c1) HBZ.out HOO.out h6s (by omega) (by omega) HXB.out) ?_
          clear y0 y1 z0 z1 r0 r1
          rintro V ⟨hblk, hv, hbv⟩
          have f0 := hblk.cell 0 _ rfl
          have f1 := hblk.cell 1 _ rfl
          refine bodyPost_ret (v := .tuple #[.agg #[.slice C0 s.envs.length c0, .slice C1 s.promises.length c1], .bool true]) (by simp [results, Tryz.results35, go_sem, f0, f1]) rfl ?_
          exact ⟨_, _, HCP.out, rfl, hv, hbv⟩
end Go.Proofs.YtejieacdfjpfnaaGreat
