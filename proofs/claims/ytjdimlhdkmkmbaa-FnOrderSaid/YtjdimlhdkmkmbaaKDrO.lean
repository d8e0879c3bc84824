/-
  Merged texts: DrawOrd, VmDrawO.
-/
import Derived.Test.YtjdimlhdkmkmbaaDrawTwo
import Derived.Test.YtjdimlhdkmkmbaaKVq
namespace Go.Proofs.Ytjdimlhdkmkmbaa
set_option maxRecDepth 100000
set_option maxRecDepth 100000
open Go.ChangeShapes Go.WideShapes Go.ChangeAt Go.RowKit Go.Deep
set_option linter.unusedVariables false

def RetOrd (B : Nat) (w : World) (e : Ending) (w' : World) : Prop :=
  ∃ (cs : List Value) (d : VecD) (b : Bool), e = .returned (.tuple #[.agg cs.toArray, .bool b]) ∧ VecO (Rng w.heap.size w'.heap.size) w' cs d ∧ szVector d ≤ B ∧ Below w.heap.size w w'
set_option maxHeartbeats 8000000 in
theorem spec_l7Draw (v : Value) (l : List Nat) (w : World) (h : Bytes w v l) (hl : l.length ≤ 1048576) :
    Calls Try.prog 64 #[v] w (RetOrd 300000 w) := by
  obtain ⟨a, c, rfl⟩ := SlR.shape h
  have hb0 := (Below.refl w.heap.size w).alloc (Nat.le_refl _) (.cells nvZ.toArray 28)
  have HG0 := Lib.hid (show Ok (fun W => Bytes W (.slice a l.length c) l ∧ Blk W w.heap.size 28 nvZ ∧ Below w.heap.size w W ∧ W.heap.size = w.heap.size + 1) (w.alloc (.cells nvZ.toArray 28)) from ⟨SlR.below h hb0 (fun _ _ h => h), Blk.new w 28 nvZ, hb0, by simp⟩)
  clear h hb0
  go_enter Try.func64, Try.ntmps64
  go_upto_region 1 with fail
  refine gen_w (G := fun W => Bytes W (.slice a l.length c) l ∧ Blk W w.heap.size 28 nvZ ∧ Below w.heap.size w W ∧ W.heap.size = w.heap.size + 1) HG0.out ?_
  rintro w0 ⟨h1, h2, h4, h5⟩
  have HY := Lib.hid h1
  have HR0 := Lib.hid h2
  have HB0 := Lib.hid h4
  have HSZ := Lib.hid h5
  clear h1 h2 h4 h5 HG0
  go_wp2_with fail
  refine Calls.mono (spec_l1New _ l _ (by exact HY.out) hl) ?_
  rintro e w1 ⟨rfl, hc, ha, hb, hs⟩
  generalize hg : w0.heap.size = g at hc ha ⊢
  have HA := Lib.hid ha
  have HG := Lib.hid hg
  have HC1 := Lib.hid hc
  have HB1 := Lib.hid hb
  clear hc ha hb hs hg
  go_wp2_with fail
  refine Calls.mono (spec_l1Once g _ l 4 _ HC1.out HA.out (by omega) (by omega)) ?_
  rintro e w2 ⟨b, rfl, hc, ho⟩
  have HC2 := Lib.hid hc
  have HB2 := Lib.hid (Only.below HB1.out ho (by rw [HG.out]; exact Nat.le_refl _) HB1.out.size)
  clear hc ho HB1 HC1
  cases b
  · go_wp2_with fail
    refine Calls.mono (spec_l1Below g _ l 3 _ HC2.out HA.out (by omega) (by omega)) ?_
    rintro e w3 ⟨t, rfl, ht0, ht1, hc, ho⟩
    have HC3 := Lib.hid hc
    have HB3 := Lib.hid (Only.below HB2.out ho (by rw [HG.out]; exact Nat.le_refl _) HB2.out.size)
    clear hc ho HB2 HC2
    go_wp2_with fail
    refine Calls.mono (spec_l1Below g _ l 8 _ HC3.out HA.out (by omega) (by omega)) ?_
    rintro e w4 ⟨u, rfl, hu0, hu1, hc, ho⟩
    have HC4 := Lib.hid hc
    have HB4 := Lib.hid (Only.below HB3.out ho (by rw [HG.out]; exact Nat.le_refl _) HB3.out.size)
    clear hc ho HB3 HC3
    obtain ⟨m, rfl⟩ := Int.eq_ofNat_of_zero_le hu0
    go_wp2_with fail
    refine Calls.mono (spec_l4Atom g _ l _ m _ HC4.out HA.out ⟨by omega, by omega⟩ (by omega)) ?_
    rintro e w5 ⟨U, q, its, rfl, hV, him, hok, hc, ho⟩
    have HZ := Lib.hid (show szVector (atV (1 + t) its) ≤ 300000 by have := sz_atV (kd := 1 + t) hok; omega)
    generalize atV (1 + t) its = d at hV HZ
    generalize ([Value.int IntKind.i64 (1 + t), Value.slice U m q, Value.slice none 0 0, Value.slice none 0 0, Value.slice none 0 0, Value.slice none 0 0, Value.int IntKind.i64 0, Value.int IntKind.i64 0] : List Value) = cs at hV ⊢
    obtain ⟨A1, a1, A2, a2, A3, a3, A4, a4, A5, a5, rfl⟩ := hV.shape
    have HC3 := Lib.hid hc
    have HB3 := Lib.hid (Only.below HB4.out ho (by rw [HG.out]; exact Nat.le_refl _) HB4.out.size)
    have HV3 := Lib.hid hV
    have hs2 := HB4.out.size
    have hgl := Cur.lt_ HC4.out
    clear hc ho HB4 HC4 hV
    go_wp2_with fail
    refine Calls.mono (spec_l1Once g _ l 2 _ HC3.out HA.out (by omega) (by omega)) ?_
    rintro e w6 ⟨bb, rfl, hc, ho⟩
    have HV5 := Lib.hid (HV3.out.keeps (Keeps.grown ho fun x hx e => by injection e with e; have := hx.1; omega))
    have HB5 := Lib.hid (Only.below HB3.out ho (by rw [HG.out]; exact Nat.le_refl _) HB3.out.size)
    have HR5 := Lib.hid (show Blk w6 w.heap.size 28 nvZ from (HB5.out.block w.heap.size (by have := HSZ.out; omega)).trans HR0.out)
    have hs5 := ho.size
    clear hc ho HB3 HC3 HV3
    have r0 := HR5.out.cell 0 _ rfl
    have r1 := HR5.out.cell 1 _ rfl
    have r2 := HR5.out.cell 2 _ rfl
    have r3 := HR5.out.cell 3 _ rfl
    have r4 := HR5.out.cell 4 _ rfl
    have r5 := HR5.out.cell 5 _ rfl
    have r6 := HR5.out.cell 6 _ rfl
    have r7 := HR5.out.cell 7 _ rfl
    have z0 := HR5.out.frozen 0
    have z1 := HR5.out.frozen 1
    have z2 := HR5.out.frozen 2
    have z3 := HR5.out.frozen 3
    have z4 := HR5.out.frozen 4
    have z5 := HR5.out.frozen 5
    have z6 := HR5.out.frozen 6
    have z7 := HR5.out.frozen 7
    go_wp2_with fail
    have hkF := Lib.hid (Keeps.sc (b := w.heap.size) (o := 7) (Keeps.sc (b := w.heap.size) (o := 6) (Keeps.sc (b := w.heap.size) (o := 5) (Keeps.sc (b := w.heap.size) (o := 4) (Keeps.sc (b := w.heap.size) (o := 3) (Keeps.sc (b := w.heap.size) (o := 2) (Keeps.sc (b := w.heap.size) (o := 1) (Keeps.sc (b := w.heap.size) (o := 0) (Keeps.refl (fun x => x ≠ w.heap.size) w6) (by simp) (.int .i64 d.kind)) (by simp) (.slice A1 d.items.length a1)) (by simp) (.slice A2 d.parts.length a2)) (by simp) (.slice A3 d.names.length a3)) (by simp) (.slice A4 d.cls.length a4)) (by simp) (.slice A5 d.levels.length a5)) (by simp) (.int .i64 d.code)) (by simp) (.int .i64 d.env))
    have hbF := Lib.hid (below_sc (b := w.heap.size) (o := 7) (below_sc (b := w.heap.size) (o := 6) (below_sc (b := w.heap.size) (o := 5) (below_sc (b := w.heap.size) (o := 4) (below_sc (b := w.heap.size) (o := 3) (below_sc (b := w.heap.size) (o := 2) (below_sc (b := w.heap.size) (o := 1) (below_sc (b := w.heap.size) (o := 0) (Below.refl w.heap.size w6) (Nat.le_refl _) (.int .i64 d.kind)) (Nat.le_refl _) (.slice A1 d.items.length a1)) (Nat.le_refl _) (.slice A2 d.parts.length a2)) (Nat.le_refl _) (.slice A3 d.names.length a3)) (Nat.le_refl _) (.slice A4 d.cls.length a4)) (Nat.le_refl _) (.slice A5 d.levels.length a5)) (Nat.le_refl _) (.int .i64 d.code)) (Nat.le_refl _) (.int .i64 d.env))
    exact bodyPost_ret (v := .tuple #[.agg #[.int .i64 d.kind, .slice A1 d.items.length a1, .slice A2 d.parts.length a2, .slice A3 d.names.length a3, .slice A4 d.cls.length a4, .slice A5 d.levels.length a5, .int .i64 d.code, .int .i64 d.env], .bool bb]) (by simp [results, Try.results64, go_sem, r0, r1, r2, r3, r4, r5, r6, r7]; try rfl) rfl ⟨_, d, bb, rfl, (HV5.out.keeps (hkF.out.mono fun x hx => by have := hx.1; have := HSZ.out; omega)).mono (fun x hx => ⟨by have := hx.1; have := HSZ.out; omega, Nat.lt_of_lt_of_le hx.2 (Nat.le_trans hs5 hkF.out.1)⟩), HZ.out, (HB0.out.trans (HB5.out.mono (by have := HSZ.out; omega))).trans hbF.out⟩
  · go_wp2_with fail
    refine Calls.mono (spec_l4Any g _ l _ HC2.out HA.out) ?_
    rintro e w3 ⟨cs, d, rfl, hV, hz, hc, ho⟩
    obtain ⟨A1, a1, A2, a2, A3, a3, A4, a4, A5, a5, rfl⟩ := hV.shape
    have HC3 := Lib.hid hc
    have HZ := Lib.hid hz
    have HB3 := Lib.hid (Only.below HB2.out ho (by rw [HG.out]; exact Nat.le_refl _) HB2.out.size)
    have HV3 := Lib.hid hV
    have hs2 := HB2.out.size
    have hgl := Cur.lt_ HC2.out
    clear hc ho HB2 HC2 hV hz
    go_wp2_with fail
    refine Calls.mono (spec_l1Once g _ l 2 _ HC3.out HA.out (by omega) (by omega)) ?_
    rintro e w5 ⟨bb, rfl, hc, ho⟩
    have HV5 := Lib.hid (HV3.out.keeps (Keeps.grown ho fun x hx e => by injection e with e; have := hx.1; omega))
    have HB5 := Lib.hid (Only.below HB3.out ho (by rw [HG.out]; exact Nat.le_refl _) HB3.out.size)
    have HR5 := Lib.hid (show Blk w5 w.heap.size 28 nvZ from (HB5.out.block w.heap.size (by have := HSZ.out; omega)).trans HR0.out)
    have hs5 := ho.size
    clear hc ho HB3 HC3 HV3
    have r0 := HR5.out.cell 0 _ rfl
    have r1 := HR5.out.cell 1 _ rfl
    have r2 := HR5.out.cell 2 _ rfl
    have r3 := HR5.out.cell 3 _ rfl
    have r4 := HR5.out.cell 4 _ rfl
    have r5 := HR5.out.cell 5 _ rfl
    have r6 := HR5.out.cell 6 _ rfl
    have r7 := HR5.out.cell 7 _ rfl
    have z0 := HR5.out.frozen 0
    have z1 := HR5.out.frozen 1
    have z2 := HR5.out.frozen 2
    have z3 := HR5.out.frozen 3
    have z4 := HR5.out.frozen 4
    have z5 := HR5.out.frozen 5
    have z6 := HR5.out.frozen 6
    have z7 := HR5.out.frozen 7
    go_wp2_with fail
    have hkF := Lib.hid (Keeps.sc (b := w.heap.size) (o := 7) (Keeps.sc (b := w.heap.size) (o := 6) (Keeps.sc (b := w.heap.size) (o := 5) (Keeps.sc (b := w.heap.size) (o := 4) (Keeps.sc (b := w.heap.size) (o := 3) (Keeps.sc (b := w.heap.size) (o := 2) (Keeps.sc (b := w.heap.size) (o := 1) (Keeps.sc (b := w.heap.size) (o := 0) (Keeps.refl (fun x => x ≠ w.heap.size) w5) (by simp) (.int .i64 d.kind)) (by simp) (.slice A1 d.items.length a1)) (by simp) (.slice A2 d.parts.length a2)) (by simp) (.slice A3 d.names.length a3)) (by simp) (.slice A4 d.cls.length a4)) (by simp) (.slice A5 d.levels.length a5)) (by simp) (.int .i64 d.code)) (by simp) (.int .i64 d.env))
    have hbF := Lib.hid (below_sc (b := w.heap.size) (o := 7) (below_sc (b := w.heap.size) (o := 6) (below_sc (b := w.heap.size) (o := 5) (below_sc (b := w.heap.size) (o := 4) (below_sc (b := w.heap.size) (o := 3) (below_sc (b := w.heap.size) (o := 2) (below_sc (b := w.heap.size) (o := 1) (below_sc (b := w.heap.size) (o := 0) (Below.refl w.heap.size w5) (Nat.le_refl _) (.int .i64 d.kind)) (Nat.le_refl _) (.slice A1 d.items.length a1)) (Nat.le_refl _) (.slice A2 d.parts.length a2)) (Nat.le_refl _) (.slice A3 d.names.length a3)) (Nat.le_refl _) (.slice A4 d.cls.length a4)) (Nat.le_refl _) (.slice A5 d.levels.length a5)) (Nat.le_refl _) (.int .i64 d.code)) (Nat.le_refl _) (.int .i64 d.env))
    exact bodyPost_ret (v := .tuple #[.agg #[.int .i64 d.kind, .slice A1 d.items.length a1, .slice A2 d.parts.length a2, .slice A3 d.names.length a3, .slice A4 d.cls.length a4, .slice A5 d.levels.length a5, .int .i64 d.code, .int .i64 d.env], .bool bb]) (by simp [results, Try.results64, go_sem, r0, r1, r2, r3, r4, r5, r6, r7]; try rfl) rfl ⟨_, d, bb, rfl, (HV5.out.keeps (hkF.out.mono fun x hx => by have := hx.1; have := HSZ.out; omega)).mono (fun x hx => ⟨by have := hx.1; have := HSZ.out; omega, Nat.lt_of_lt_of_le hx.2 (Nat.le_trans hs5 hkF.out.1)⟩), HZ.out, (HB0.out.trans (HB5.out.mono (by have := HSZ.out; omega))).trans hbF.out⟩
end Go.Proofs.Ytjdimlhdkmkmbaa
namespace Go.Proofs.Ytjdimlhdkmkmbaa
set_option maxRecDepth 100000
open Go.ChangeShapes Go.WideShapes Go.ChangeAt Go.RowKit Go.Deep Go.Proofs.Ytjdimlhdkmkmbaa.Vm
set_option linter.unusedVariables false

theorem ct_l7Draw (l : List Nat) (hl : l.length ≤ 1048576) (hb : ∀ x ∈ l, x < 256) : Ct Try.prog 64 [.c (.sl (l.map byK))] (fun t => ∃ d b, t = .tu [vT d, .q b] ∧ VecWf d ∧ szVector d ≤ 300000) := fun w Z vs hK hr => by
  obtain ⟨v, rfl, h1⟩ := one_arg hr
  refine Calls.mono (spec_l7Draw v l w (bytes_of h1.cI hK hb) hl) fun e w' ⟨cs, d, b, he, hd, hz, hbe⟩ => ?_
  obtain ⟨a1, a2⟩ := vecO_rd (Z := Z) (n := w.heap.size) (fun b hb => hb.1) hd
  exact ⟨_, .tu [vT d, .q b], knNew Z w.heap.size w', he, ⟨d, b, rfl, a2, hz⟩, hbe, knNew_ok hK hbe, knNew_old Z _ w', by
    have := RdTs.cons a1 (.cons (RdT.q (ρ := rho0) b) (.nil _ _))
    exact .tu _ _ this.1 this.2⟩
set_option maxHeartbeats 4000000 in
theorem ct_DrawOrderOf (l : List Nat) (hl : l.length ≤ 1048576) (hb : ∀ x ∈ l, x < 256) : Ct Try.prog 26 [.c (.sl (l.map byK))] (fun t => ∃ d b, t = .tu [vT d, .q b] ∧ VecWf d ∧ szVector d ≤ 300000) := by
  have c1 := ct_l7Draw l hl hb
  obtain ⟨zb, zc, zs, zl, zn, zt, zp, zg, zv, zx, zm, hz⟩ := Vm.zE
  obtain ⟨B, hB⟩ := hide (l.map byK)
  rw [← hB] at c1 ⊢
  refine Ct_of_W Try.func26 rfl (Nat.le_of_ble_eq_true rfl) fun w0 Z0 => ?_
  refine W_run ti_ok hz 400 (by cbv) ?_
  refine W_call (by cbv) (by kernel_rfl) (c1) ?_
  rintro t ⟨d, b, rfl, hd, hz1⟩
  obtain ⟨kd, I, P, N, Q, L, cd, en, hT, -⟩ := vT_hide d
  rw [hT]
  refine W_run ti_ok hz 400 (by cbv) ?_
  refine W_ret ti_ok rfl (by cbv) ?_
  exact ⟨d, b, by rw [hT], hd, hz1⟩
end Go.Proofs.Ytjdimlhdkmkmbaa
