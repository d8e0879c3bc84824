/-
  Contracts: spec.l32Uses, spec.CheckCode, impl.CheckCode.
-/
import Derived.Test.YtjdfancbmjnjfaaGreatChk12
import Derived.Test.YtjdfancbmjnjfaaGreatChk13
namespace Go.Proofs.YtjdfancbmjnjfaaGreat
set_option maxRecDepth 100000
open Go.ChangeShapes Go.WideShapes Go.ChangeAt Go.RowKit Go.Deep
set_option linter.unusedVariables false
set_option linter.unusedSimpArgs false

/-! ### Memory of the reference's count -/
structure US (w0 W : World) (bg : Nat) (gt : Nat) (gc : List Value) (K n : Nat) (R : List Int) (V : World) : Prop where
  gb : Blk V bg gt gc
  kn : Blk V K 3 (usedL R n)
  b0 : Below w0.heap.size w0 V
  gr : W.grownBy V (some K)
  ne : w0.heap.size ≤ K ∧ K ≠ bg ∧ w0.heap.size ≤ V.heap.size
theorem US.step {w0 W V V' : World} {bg gt : Nat} {gc : List Value} {K n : Nat} {R : List Int} (h : US w0 W bg gt gc K n R V) (hb : Below V.heap.size V V') : US w0 W bg gt gc K n R V' :=
  ⟨h.gb.below hb, h.kn.below hb, h.b0.trans (hb.mono h.ne.2.2), h.gr.trans (grown_of_below hb _), h.ne.1, h.ne.2.1, Nat.le_trans h.ne.2.2 hb.size⟩
theorem US.drew {w0 W V : World} {bg gt : Nat} {gc : List Value} {K n : Nat} {R : List Int} (h : US w0 W bg gt gc K n R V) : US w0 W bg gt gc K n R V.drew :=
  ⟨h.gb, h.kn, h.b0.drew, ⟨h.gr.os, h.gr.tape, h.gr.output, h.gr.size, h.gr.block⟩, h.ne⟩
theorem US.grow {w0 W V V' : World} {bg gt : Nat} {gc : List Value} {K n : Nat} {R R' : List Int} (h : US w0 W bg gt gc K n R V) (hk : Blk V' K 3 (usedL R' n)) (hg : V.grownBy V' (some K)) : US w0 W bg gt gc K n R' V' :=
  ⟨(hg.block _ h.gb.lt (fun e => h.ne.2.1 (by injection e with e; exact e.symm))).trans h.gb, hk, h.b0.grown hg h.ne.2.2 (fun k e => by injection e with e; subst e; exact h.ne.1), h.gr.trans hg, h.ne.1, h.ne.2.1, Nat.le_trans h.ne.2.2 hg.size⟩
theorem US.store {w0 W V : World} {bg gt : Nat} {gc : List Value} {K n : Nat} {R : List Int} (h : US w0 W bg gt gc K n R V) (k : Nat) : US w0 W bg gt gc K n (R ++ [(k : Int)]) (V.setCell ⟨K, k, none⟩ (.int .i64 ((R.count (k : Int) : Int) + 1))) := by
  refine h.grow ?_ (grown_setCell V ⟨K, k, none⟩ _)
  rw [usedL_set]
  exact h.kn.set_ k _
def RetUse (K n : Nat) (R : List Int) (W : World) (e : Ending) (W' : World) : Prop := e = .returned (.tuple #[]) ∧ Blk W' K 3 (usedL R n) ∧ W.grownBy W' (some K)
theorem count_len (R : List Int) (k : Int) : R.count k ≤ R.length := List.count_le_length
theorem defR_len (g : SegD) (j : Nat) : (defR g j).length ≤ g.defaults.length := by
  unfold defR
  have := List.length_filter_le (fun d => decide (0 ≤ d)) (g.defaults.take j)
  simp only [List.length_take] at this
  omega
theorem insRf_len (g : SegD) (j : Nat) : (insRf g j).length ≤ g.instrs.length := by
  unfold insRf
  rw [List.length_map]
  have := List.length_filter_le (fun x : InstrD => refOp x.op) (g.instrs.take j)
  simp only [List.length_take] at this
  omega
theorem defR_mem {g : SegD} {j : Nat} (h : j < g.defaults.length) (h0 : 0 ≤ g.defaults[j]) : g.defaults[j] ∈ refsG g := by
  unfold refsG
  rw [List.mem_append]
  left
  rw [List.mem_filter]
  exact ⟨List.getElem_mem h, by simpa using h0⟩
theorem insRf_mem {g : SegD} {j : Nat} (h : j < g.instrs.length) (h0 : refOp g.instrs[j].op = true) : g.instrs[j].arg ∈ refsG g := by
  unfold refsG
  rw [List.mem_append]
  right
  rw [List.mem_map]
  exact ⟨_, List.mem_filter.2 ⟨List.getElem_mem h, h0⟩, rfl⟩

set_option maxHeartbeats 8000000 in
theorem spec_l32Uses (g : SegD) (gc : List Value) (K n : Nat) (R : List Int) (w0 W : World) (h : SegmentR w0 gc g) (hb0 : Below w0.heap.size w0 W) (hK : w0.heap.size ≤ K) (hB : Blk W K 3 (usedL R n)) (hn : n ≤ 1000)
    (hR : ∀ r ∈ refsG g, 0 ≤ r ∧ r < n) (hop : ∀ x ∈ g.instrs, 0 ≤ x.op ∧ x.op ≤ 33) (hl : R.length + g.defaults.length + g.instrs.length ≤ 10000000) :
    Calls Tryz.prog 23 #[.agg gc.toArray, .slice (some ⟨K, 0, none⟩) n n] W (RetUse K n (R ++ refsG g) W) := by
  have HR := Lib.hid hR
  have HOP := Lib.hid hop
  clear hR hop
  obtain ⟨u0, u1, u2, rfl, r0, r1, r2⟩ := h
  obtain ⟨L0, n0, rfl, ll, ml, _⟩ := Txts.open_ r0
  obtain ⟨D0, e0, rfl, ld, md, HD⟩ := Ints.open_ r1
  obtain ⟨I0, f0, rfl, li, mi, HI⟩ := SlR.open_ r2
  unfold maxLen at md mi
  clear r0 r1 r2
  obtain ⟨gc, hgc⟩ : ∃ gc : List Value, gc = [.slice L0 g.labels.length n0, .slice D0 g.defaults.length e0, .slice I0 g.instrs.length f0] := ⟨_, rfl⟩
  have HGC := Lib.hid hgc
  clear hgc
  have HU := Lib.hid (show Ok (US w0 W W.heap.size 49 gc K n R) (W.alloc (.cells #[.slice L0 g.labels.length n0, .slice D0 g.defaults.length e0, .slice I0 g.instrs.length f0] 49)) from
    ⟨by rw [HGC.out]; exact Blk.new _ _ [_, _, _], hB.alloc _, hb0.alloc hb0.size _, grown_of_below ((Below.refl _ _).alloc (Nat.le_refl _) _) _, hK, (by have := hB.lt; omega), by simp; have := hb0.size; omega⟩)
  go_enter Tryz.func23, Tryz.ntmps23
  go_upto_region 1 with fail
  refine gen_w HU.out ?_
  clear HU hB hb0
  intro W1 F
  go_wp2_with fail
  go_loopw [4] (fun q wr => ∃ j : Nat, j ≤ g.defaults.length ∧ q = .int .i64 j ∧ Ok (US w0 W W.heap.size 49 gc K n (R ++ defR g j)) wr) (fun q _ => g.defaults.length - (intOf q).toNat)
  case atStart => exact ⟨0, Nat.zero_le _, rfl, by simp only [defR, List.take_zero, List.filter_nil, List.append_nil]; exact F⟩
  case round =>
    clear F
    obtain ⟨j, hj, rfl, F⟩ := hrel
    have x1 := F.gb.cell 1 (.slice D0 g.defaults.length e0) (by rw [HGC.out]; rfl)
    by_cases hlj : j < g.defaults.length
    · obtain ⟨b0, o0, rfl, hbl0, hc0, _, _⟩ := HD.out j hlj
      have y0 := (F.b0.cell (p := ⟨b0, o0 + j, none⟩) hbl0).trans hc0
      clear hc0
      by_cases h0 : 0 ≤ g.defaults[j]
      rotate_left
      · have HS := Lib.hid (show defR g (j + 1) = defR g j by rw [defR_succ g j hlj, if_neg h0, List.append_nil])
        go_wp2_with fail
        go_roundw
        case rel => exact ⟨j + 1, by omega, by go_num, by rw [HS.out]; exact F⟩
        case measure => simp [intOf]; omega
      have HS := Lib.hid (show R ++ defR g (j + 1) = R ++ defR g j ++ [g.defaults[j]] by rw [defR_succ g j hlj, if_pos h0, List.append_assoc])
      have hrg := HR.out _ (defR_mem hlj h0)
      obtain ⟨a, ha⟩ := Int.eq_ofNat_of_zero_le h0
      rw [ha] at y0 HS hrg h0
      clear ha
      have han : a < n := by omega
      have han2 : (a : Int) < (n : Int) := by omega
      obtain ⟨m, hm⟩ : ∃ m : Nat, (R ++ defR g j).count (a : Int) = m := ⟨_, rfl⟩
      have hml : m ≤ 10000000 := by
        have h1 := count_len (R ++ defR g j) a
        have h2 := defR_len g j
        rw [List.length_append] at h1
        omega
      have k0 := F.kn.cell a _ (usedL_at _ n a han)
      have k1 := F.kn.frozen a
      rw [hm] at k0
      have HM := Lib.hid hm
      clear hm hrg
      have w1 : IntKind.i64.wrap ((m : Int) + 1) = (m : Int) + 1 := IntWalk.i64_in _ (by omega)
      obtain ⟨GY, hGY⟩ : ∃ GY : World → Prop, GY = fun V => V.cell? ⟨W.heap.size, 1, none⟩ = some (.slice (some ⟨b0, o0, none⟩) g.defaults.length e0) ∧ V.cell? ⟨b0, o0 + j, none⟩ = some (.int .i64 a) ∧ V.cell? ⟨K, a, none⟩ = some (.int .i64 m) := ⟨_, rfl⟩
      have p1 := fun V (h : Ok GY V) => (show V.cell? ⟨W.heap.size, 1, none⟩ = some (.slice (some ⟨b0, o0, none⟩) g.defaults.length e0) by rw [hGY] at h; exact h.1)
      have p2 := fun V (h : Ok GY V) => (show V.cell? ⟨b0, o0 + j, none⟩ = some (.int .i64 a) by rw [hGY] at h; exact h.2.1)
      have p3 := fun V (h : Ok GY V) => (show V.cell? ⟨K, a, none⟩ = some (.int .i64 m) by rw [hGY] at h; exact h.2.2)
      have gY : Ok GY wr.drew := by rw [hGY]; exact ⟨x1, y0, k0⟩
      clear hGY
      have hj1 : (j : Int) < (g.defaults.length : Int) := by omega
      go_upto_region 5 with fail
      refine wp_region_phase2 (T := Ok GY) (by kernel_rfl) [(2, 0), (2, 1), (1, 2), (2, 3), (2, 4), (1, 5), (2, 6), (2, 7), (1, 8), (2, 9), (2, 10), (1, 11), (2, 12), (1, 13), (2, 14), (2, 15), (0, 16)] [16] (by kernel_rfl) gY ?_
      repeat ((first | (refine dynL_take rfl rfl (fun W g => by go_simp; rfl) ?_) | (refine dynL_pure rfl rfl (fun W => by go_simp; rfl) ?_)); go_simp)
      refine dynL_last rfl (by simp) rfl (fun K9 hK => ?_)
      go_wp2_with fail
      refine hK.out _ _ ?_
      clear hK p1 p2 p3 gY k0 k1 w1
      refine dynL_done ?_
      have F2 := Lib.hid (show Ok (US w0 W W.heap.size 49 gc K n (R ++ defR g (j + 1))) _ from by
        have h9 := (US.drew F).store a
        rw [HM.out, ← HS.out] at h9
        exact h9)
      go_wp2_with fail
      go_roundw
      case rel => exact ⟨j + 1, by omega, by go_num, F2.out⟩
      case measure => simp [intOf]; omega
    · obtain rfl : j = g.defaults.length := by omega
      go_wp2_with fail
      clear x1 hj hlj
      go_loopw [5] (fun q wr => ∃ j : Nat, j ≤ g.instrs.length ∧ q = .int .i64 j ∧ Ok (US w0 W W.heap.size 49 gc K n (R ++ defR g g.defaults.length ++ insRf g j)) wr) (fun q _ => g.instrs.length - (intOf q).toNat)
      case atStart => exact ⟨0, Nat.zero_le _, rfl, by simp only [insRf, List.take_zero, List.filter_nil, List.map_nil, List.append_nil]; exact F⟩
      case round =>
        clear F
        obtain ⟨j, hj, rfl, F⟩ := hrel
        have x2 := F.gb.cell 2 (.slice I0 g.instrs.length f0) (by rw [HGC.out]; rfl)
        by_cases hlj : j < g.instrs.length
        rotate_left
        · obtain rfl : j = g.instrs.length := by omega
          have HF := Lib.hid (show US w0 W W.heap.size 49 gc K n (R ++ refsG g) wr by rw [refsG_all, ← List.append_assoc]; exact F)
          clear F
          go_wp2_with fail
          refine bodyPost_end (v := .tuple #[]) (by kernel_rfl) rfl ?_
          exact ⟨rfl, HF.out.kn, HF.out.gr⟩
        obtain ⟨b0, o0, ic, rfl, hbl0, _, hat0, hr0⟩ := HI.out j hlj
        obtain ⟨hx0, hx1⟩ := HOP.out _ (List.getElem_mem hlj)
        have HSU := Lib.hid (insRf_succ g j hlj)
        have HMM := Lib.hid (fun h => HR.out _ (insRf_mem (g := g) hlj h))
        obtain ⟨A4, c4, A5, c5, A6, c6, A7, c7, A8, c8, A9, c9, rfl⟩ := hr0.slices
        clear hr0
        generalize g.instrs[j] = x at hat0 hx0 hx1 HSU HMM
        have y0 := (F.b0.cell (p := ⟨b0, o0 + j * 13, none⟩) hbl0).trans (by simpa using hat0 0 _ rfl)
        have y1 := (F.b0.cell (p := ⟨b0, o0 + j * 13 + 1, none⟩) hbl0).trans (hat0 1 _ rfl)
        clear hat0
        go_wp2_with fail
        refine Calls.mono (spec_l32Refers x.op hx0 hx1 _) ?_
        rintro e w9 ⟨rfl, rfl⟩
        cases hr : refOp x.op
        · have HS := Lib.hid (show insRf g (j + 1) = insRf g j by rw [HSU.out, hr]; simp)
          clear hr
          go_wp2_with fail
          go_roundw
          case rel => exact ⟨j + 1, by omega, by go_num, by rw [HS.out]; exact F⟩
          case measure => simp [intOf]; omega
        have hrg := HMM.out hr
        have HS := Lib.hid (show R ++ defR g g.defaults.length ++ insRf g (j + 1) = R ++ defR g g.defaults.length ++ insRf g j ++ [x.arg] by rw [HSU.out, hr]; simp)
        obtain ⟨a, ha⟩ := Int.eq_ofNat_of_zero_le hrg.1
        rw [ha] at y1 HS hrg
        clear ha hr HSU HMM
        have han : a < n := by omega
        have han2 : (a : Int) < (n : Int) := by omega
        obtain ⟨m, hm⟩ : ∃ m : Nat, (R ++ defR g g.defaults.length ++ insRf g j).count (a : Int) = m := ⟨_, rfl⟩
        have hml : m ≤ 10000000 := by
          have h1 := count_len (R ++ defR g g.defaults.length ++ insRf g j) a
          have h2 := defR_len g g.defaults.length
          have h3 := insRf_len g j
          rw [List.length_append, List.length_append] at h1
          omega
        have k0 := F.kn.cell a _ (usedL_at _ n a han)
        have k1 := F.kn.frozen a
        rw [hm] at k0
        have HM := Lib.hid hm
        clear hm hrg
        have w1 : IntKind.i64.wrap ((m : Int) + 1) = (m : Int) + 1 := IntWalk.i64_in _ (by omega)
        obtain ⟨GY, hGY⟩ : ∃ GY : World → Prop, GY = fun V => V.cell? ⟨W.heap.size, 2, none⟩ = some (.slice (some ⟨b0, o0, none⟩) g.instrs.length f0) ∧ V.cell? ⟨b0, o0 + j * 13 + 1, none⟩ = some (.int .i64 a) ∧ V.cell? ⟨K, a, none⟩ = some (.int .i64 m) := ⟨_, rfl⟩
        have p1 := fun V (h : Ok GY V) => (show V.cell? ⟨W.heap.size, 2, none⟩ = some (.slice (some ⟨b0, o0, none⟩) g.instrs.length f0) by rw [hGY] at h; exact h.1)
        have p2 := fun V (h : Ok GY V) => (show V.cell? ⟨b0, o0 + j * 13 + 1, none⟩ = some (.int .i64 a) by rw [hGY] at h; exact h.2.1)
        have p3 := fun V (h : Ok GY V) => (show V.cell? ⟨K, a, none⟩ = some (.int .i64 m) by rw [hGY] at h; exact h.2.2)
        have gY : Ok GY wr.drew := by rw [hGY]; exact ⟨x2, y1, k0⟩
        clear hGY
        have hj1 : (j : Int) < (g.instrs.length : Int) := by omega
        go_upto_region 10 with fail
        refine wp_region_phase2 (T := Ok GY) (by kernel_rfl) [(2, 0), (2, 1), (1, 2), (2, 3), (2, 4), (2, 5), (1, 6), (2, 7), (2, 8), (1, 9), (2, 10), (2, 11), (2, 12), (1, 13), (2, 14), (1, 15), (2, 16), (2, 17), (0, 18)] [18] (by kernel_rfl) gY ?_
        repeat ((first | (refine dynL_take rfl rfl (fun W g => by go_simp; rfl) ?_) | (refine dynL_pure rfl rfl (fun W => by go_simp; rfl) ?_)); go_simp)
        refine dynL_last rfl (by simp) rfl (fun K9 hK => ?_)
        go_wp2_with fail
        refine hK.out _ _ ?_
        clear hK p1 p2 p3 gY k0 k1 w1
        refine dynL_done ?_
        have F2 := Lib.hid (show Ok (US w0 W W.heap.size 49 gc K n (R ++ defR g g.defaults.length ++ insRf g (j + 1))) _ from by
          have h9 := (US.drew F).store a
          rw [HM.out, ← HS.out] at h9
          exact h9)
        go_wp2_with fail
        go_roundw
        case rel => exact ⟨j + 1, by omega, by go_num, F2.out⟩
        case measure => simp [intOf]; omega
end Go.Proofs.YtjdfancbmjnjfaaGreat
