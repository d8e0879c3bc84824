/-
  Contracts: what the laws of vectors draw: two vectors.
-/
import Derived.Test.YtjdimlhdkmkmbaaDrawSub
import Derived.Test.YtjdimlhdkmkmbaaKFree
namespace Go.Proofs.Ytjdimlhdkmkmbaa
set_option maxRecDepth 100000
open Go.ChangeShapes Go.WideShapes Go.ChangeAt Go.RowKit Go.Deep
set_option linter.unusedVariables false

def RetTwo (B : Nat) (w : World) (e : Ending) (w' : World) : Prop :=
  ∃ (cs fs : List Value) (d f : VecD), e = .returned (.tuple #[.agg cs.toArray, .agg fs.toArray]) ∧ VecO (Rng w.heap.size w'.heap.size) w' cs d ∧ VecO (Rng w.heap.size w'.heap.size) w' fs f ∧ szVector d ≤ B ∧ szVector f ≤ B ∧ Below w.heap.size w w'
def VBx (vb : Nat) (cs : List Value) (W : World) : Prop := Blk W vb 28 cs
/-- a cursor and a vector's box, both above a mark -/
structure TD (w1 : World) (g : Nat) (v : Value) (l : List Nat) (vb : Nat) (cs : List Value) (W : World) : Prop where
  cur : Cur W g v l
  bx : Ok (VBx vb cs) W
  bl : Below w1.heap.size w1 W
  gl : w1.heap.size ≤ g
  vl : w1.heap.size ≤ vb
  ne : vb ≠ g
section
variable {w1 : World} {g : Nat} {v : Value} {l : List Nat} {vb : Nat} {cs : List Value} {W W' : World}
theorem TD.next (h : TD w1 g v l vb cs W) (hc : Cur W' g v l) (ho : Only g W W') : TD w1 g v l vb cs W' :=
  ⟨hc, (ho.block vb (show Blk W vb _ cs from h.bx).lt (fun e => by injection e with e; exact h.ne e)).trans h.bx, Only.below h.bl ho h.gl h.bl.size, h.gl, h.vl, h.ne⟩
theorem TD.step (h : TD w1 g v l vb cs W) (hb : Below W.heap.size W W') : TD w1 g v l vb cs W' :=
  ⟨Cur.below_ h.cur hb, (show Blk W vb _ cs from h.bx).below hb, h.bl.trans (hb.mono h.bl.size), h.gl, h.vl, h.ne⟩
theorem TD.far (h : TD w1 g v l vb cs W) {b : Nat} {t : TypeId} {es : List Value} (hb : Blk w1 b t es) : Blk W b t es := (h.bl.block b hb.lt).trans hb
end
set_option maxHeartbeats 8000000 in
theorem spec_l9Two (v : Value) (l : List Nat) (w : World) (h : Bytes w v l) (hl : l.length ≤ 1048576) :
    Calls Try.prog 34 #[v] w (RetTwo 300000 w) := by
  obtain ⟨a, c, rfl⟩ := SlR.shape h
  have hb0 := ((Below.refl w.heap.size w).alloc (Nat.le_refl _) (.cells nvZ.toArray 28)).alloc (by simp) (.cells nvZ.toArray 28)
  have HG0 := Lib.hid (show Ok (fun W => Bytes W (.slice a l.length c) l ∧ Blk W w.heap.size 28 nvZ ∧ Blk W (w.heap.size + 1) 28 nvZ ∧ Below w.heap.size w W ∧ W.heap.size = w.heap.size + 2) ((w.alloc (.cells nvZ.toArray 28)).alloc (.cells nvZ.toArray 28)) from ⟨SlR.below h hb0 (fun _ _ h => h), (Blk.new w 28 nvZ).alloc _, Blk.new_at _ 28 nvZ _ (by simp), hb0, by simp⟩)
  clear h hb0
  go_enter Try.func34, Try.ntmps34
  go_upto_region 1 with fail
  refine gen_w (G := fun W => Bytes W (.slice a l.length c) l ∧ Blk W w.heap.size 28 nvZ ∧ Blk W (w.heap.size + 1) 28 nvZ ∧ Below w.heap.size w W ∧ W.heap.size = w.heap.size + 2) HG0.out ?_
  rintro w0 ⟨h1, h2, h3, h4, h5⟩
  have HY := Lib.hid h1
  have HR0 := Lib.hid h2
  have HR1 := Lib.hid h3
  have HB0 := Lib.hid h4
  have HSZ := Lib.hid h5
  clear h1 h2 h3 h4 h5 HG0
  go_wp2_with fail
  refine Calls.mono (spec_l1New _ l _ (by exact HY.out) hl) ?_
  rintro e w1 ⟨rfl, hc, ha, hb, hs⟩
  generalize hg : w0.heap.size = g at hc ha ⊢
  have HC := Lib.hid hc
  have HA := Lib.hid ha
  have HB1 := Lib.hid hb
  have HG := Lib.hid hg
  clear hc ha hb hs hg
  go_wp2_with fail
  refine Calls.mono (spec_l4Any g _ l _ HC.out HA.out) ?_
  rintro e w2 ⟨cs, d, rfl, hV, hz, hc, ho⟩
  obtain ⟨A1, a1, A2, a2, A3, a3, A4, a4, A5, a5, rfl⟩ := hV.shape
  have hg1 : g < w1.heap.size := Cur.lt_ HC.out
  have hb2 := (Below.refl w2.heap.size w2).alloc (Nat.le_refl _) (.cells [.int .i64 d.kind, .slice A1 d.items.length a1, .slice A2 d.parts.length a2, .slice A3 d.names.length a3, .slice A4 d.cls.length a4, .slice A5 d.levels.length a5, .int .i64 d.code, .int .i64 d.env].toArray 28)
  have HD := Lib.hid (show TD w0 g (.slice a l.length c) l w2.heap.size [.int .i64 d.kind, .slice A1 d.items.length a1, .slice A2 d.parts.length a2, .slice A3 d.names.length a3, .slice A4 d.cls.length a4, .slice A5 d.levels.length a5, .int .i64 d.code, .int .i64 d.env] (w2.alloc (.cells [.int .i64 d.kind, .slice A1 d.items.length a1, .slice A2 d.parts.length a2, .slice A3 d.names.length a3, .slice A4 d.cls.length a4, .slice A5 d.levels.length a5, .int .i64 d.code, .int .i64 d.env].toArray 28)) ∧ VecO (Rng w1.heap.size w2.heap.size) (w2.alloc (.cells [.int .i64 d.kind, .slice A1 d.items.length a1, .slice A2 d.parts.length a2, .slice A3 d.names.length a3, .slice A4 d.cls.length a4, .slice A5 d.levels.length a5, .int .i64 d.code, .int .i64 d.env].toArray 28)) [.int .i64 d.kind, .slice A1 d.items.length a1, .slice A2 d.parts.length a2, .slice A3 d.names.length a3, .slice A4 d.cls.length a4, .slice A5 d.levels.length a5, .int .i64 d.code, .int .i64 d.env] d from
    ⟨⟨Cur.below_ hc hb2, Blk.new w2 _ [.int .i64 d.kind, .slice A1 d.items.length a1, .slice A2 d.parts.length a2, .slice A3 d.names.length a3, .slice A4 d.cls.length a4, .slice A5 d.levels.length a5, .int .i64 d.code, .int .i64 d.env], (Only.below HB1.out ho (by rw [HG.out]; exact Nat.le_refl _) HB1.out.size).trans (hb2.mono (by have := ho.size; have := HB1.out.size; omega)), by rw [HG.out]; exact Nat.le_refl _, by have := ho.size; have := HB1.out.size; omega, by have := ho.size; omega⟩, hV.keeps (Keeps.of_below _ hb2)⟩)
  have HZ := Lib.hid hz
  have hs2 := ho.size
  clear hc ho hV hz hb2 HC HY
  go_upto_region 3 with fail
  generalize hvb : w2.heap.size = vb at HD hs2 ⊢
  generalize hw1s : w1.heap.size = p1 at HD hs2 hg1
  clear hvb hw1s
  refine gen_w (G := fun W => TD w0 g (.slice a l.length c) l vb [.int .i64 d.kind, .slice A1 d.items.length a1, .slice A2 d.parts.length a2, .slice A3 d.names.length a3, .slice A4 d.cls.length a4, .slice A5 d.levels.length a5, .int .i64 d.code, .int .i64 d.env] W ∧ VecO (Rng p1 vb) W [.int .i64 d.kind, .slice A1 d.items.length a1, .slice A2 d.parts.length a2, .slice A3 d.names.length a3, .slice A4 d.cls.length a4, .slice A5 d.levels.length a5, .int .i64 d.code, .int .i64 d.env] d) HD.out ?_
  rintro w3 ⟨h1, h2⟩
  have HD3 := Lib.hid (h1.step (Below.drew (Below.refl _ _)))
  have HV3 := Lib.hid (h2.keeps (Keeps.of_below _ (Below.drew (Below.refl w3.heap.size w3))))
  have g1 : Ok (VBx vb [.int .i64 d.kind, .slice A1 d.items.length a1, .slice A2 d.parts.length a2, .slice A3 d.names.length a3, .slice A4 d.cls.length a4, .slice A5 d.levels.length a5, .int .i64 d.code, .int .i64 d.env]) w3.drew := HD3.out.bx
  clear h1 h2 HD
  have x0 := fun W (h : Ok (VBx vb [.int .i64 d.kind, .slice A1 d.items.length a1, .slice A2 d.parts.length a2, .slice A3 d.names.length a3, .slice A4 d.cls.length a4, .slice A5 d.levels.length a5, .int .i64 d.code, .int .i64 d.env]) W) => (show Blk W vb _ [.int .i64 d.kind, .slice A1 d.items.length a1, .slice A2 d.parts.length a2, .slice A3 d.names.length a3, .slice A4 d.cls.length a4, .slice A5 d.levels.length a5, .int .i64 d.code, .int .i64 d.env] from h).cell 0 _ rfl
  have x1 := fun W (h : Ok (VBx vb [.int .i64 d.kind, .slice A1 d.items.length a1, .slice A2 d.parts.length a2, .slice A3 d.names.length a3, .slice A4 d.cls.length a4, .slice A5 d.levels.length a5, .int .i64 d.code, .int .i64 d.env]) W) => (show Blk W vb _ [.int .i64 d.kind, .slice A1 d.items.length a1, .slice A2 d.parts.length a2, .slice A3 d.names.length a3, .slice A4 d.cls.length a4, .slice A5 d.levels.length a5, .int .i64 d.code, .int .i64 d.env] from h).cell 1 _ rfl
  have x2 := fun W (h : Ok (VBx vb [.int .i64 d.kind, .slice A1 d.items.length a1, .slice A2 d.parts.length a2, .slice A3 d.names.length a3, .slice A4 d.cls.length a4, .slice A5 d.levels.length a5, .int .i64 d.code, .int .i64 d.env]) W) => (show Blk W vb _ [.int .i64 d.kind, .slice A1 d.items.length a1, .slice A2 d.parts.length a2, .slice A3 d.names.length a3, .slice A4 d.cls.length a4, .slice A5 d.levels.length a5, .int .i64 d.code, .int .i64 d.env] from h).cell 2 _ rfl
  have x3 := fun W (h : Ok (VBx vb [.int .i64 d.kind, .slice A1 d.items.length a1, .slice A2 d.parts.length a2, .slice A3 d.names.length a3, .slice A4 d.cls.length a4, .slice A5 d.levels.length a5, .int .i64 d.code, .int .i64 d.env]) W) => (show Blk W vb _ [.int .i64 d.kind, .slice A1 d.items.length a1, .slice A2 d.parts.length a2, .slice A3 d.names.length a3, .slice A4 d.cls.length a4, .slice A5 d.levels.length a5, .int .i64 d.code, .int .i64 d.env] from h).cell 3 _ rfl
  have x4 := fun W (h : Ok (VBx vb [.int .i64 d.kind, .slice A1 d.items.length a1, .slice A2 d.parts.length a2, .slice A3 d.names.length a3, .slice A4 d.cls.length a4, .slice A5 d.levels.length a5, .int .i64 d.code, .int .i64 d.env]) W) => (show Blk W vb _ [.int .i64 d.kind, .slice A1 d.items.length a1, .slice A2 d.parts.length a2, .slice A3 d.names.length a3, .slice A4 d.cls.length a4, .slice A5 d.levels.length a5, .int .i64 d.code, .int .i64 d.env] from h).cell 4 _ rfl
  have x5 := fun W (h : Ok (VBx vb [.int .i64 d.kind, .slice A1 d.items.length a1, .slice A2 d.parts.length a2, .slice A3 d.names.length a3, .slice A4 d.cls.length a4, .slice A5 d.levels.length a5, .int .i64 d.code, .int .i64 d.env]) W) => (show Blk W vb _ [.int .i64 d.kind, .slice A1 d.items.length a1, .slice A2 d.parts.length a2, .slice A3 d.names.length a3, .slice A4 d.cls.length a4, .slice A5 d.levels.length a5, .int .i64 d.code, .int .i64 d.env] from h).cell 5 _ rfl
  have x6 := fun W (h : Ok (VBx vb [.int .i64 d.kind, .slice A1 d.items.length a1, .slice A2 d.parts.length a2, .slice A3 d.names.length a3, .slice A4 d.cls.length a4, .slice A5 d.levels.length a5, .int .i64 d.code, .int .i64 d.env]) W) => (show Blk W vb _ [.int .i64 d.kind, .slice A1 d.items.length a1, .slice A2 d.parts.length a2, .slice A3 d.names.length a3, .slice A4 d.cls.length a4, .slice A5 d.levels.length a5, .int .i64 d.code, .int .i64 d.env] from h).cell 6 _ rfl
  have x7 := fun W (h : Ok (VBx vb [.int .i64 d.kind, .slice A1 d.items.length a1, .slice A2 d.parts.length a2, .slice A3 d.names.length a3, .slice A4 d.cls.length a4, .slice A5 d.levels.length a5, .int .i64 d.code, .int .i64 d.env]) W) => (show Blk W vb _ [.int .i64 d.kind, .slice A1 d.items.length a1, .slice A2 d.parts.length a2, .slice A3 d.names.length a3, .slice A4 d.cls.length a4, .slice A5 d.levels.length a5, .int .i64 d.code, .int .i64 d.env] from h).cell 7 _ rfl
  refine wp_region_plan (S := Ok (VBx vb [.int .i64 d.kind, .slice A1 d.items.length a1, .slice A2 d.parts.length a2, .slice A3 d.names.length a3, .slice A4 d.cls.length a4, .slice A5 d.levels.length a5, .int .i64 d.code, .int .i64 d.env])) (by kernel_rfl) [(true, 0), (true, 1), (true, 2), (false, 3), (true, 4), (false, 5), (false, 6), (false, 7)] (by kernel_rfl) g1 ?_
  repeat ((first | (refine dyn_take rfl rfl (fun W g => by go_simp; rfl) ?_) | (refine dyn_skip rfl rfl ?_)); go_simp)
  refine dyn_act rfl rfl (fun K hK => ?_)
  go_wp2_with fail
  refine Calls.mono (spec_l4Len d _ _ (by exact HV3.out.read) (by have := sz_len d; have := HZ.out; omega)) ?_
  rintro e w4 ⟨rfl, hb⟩
  have HD4 := Lib.hid (HD3.out.step hb)
  have HV4 := Lib.hid (HV3.out.keeps (Keeps.of_below _ hb))
  replace g1 : Ok (VBx vb [.int .i64 d.kind, .slice A1 d.items.length a1, .slice A2 d.parts.length a2, .slice A3 d.names.length a3, .slice A4 d.cls.length a4, .slice A5 d.levels.length a5, .int .i64 d.code, .int .i64 d.env]) w4 := HD4.out.bx
  clear hb HD3 HV3
  simp only []
  refine hK.out _ _ g1 ?_
  clear hK
  go_simp
  obtain ⟨n4, hn4, hn4'⟩ : ∃ n4 : Nat, n4 = min 4 (lenV d) ∧ n4 ≤ 4 := ⟨_, rfl, Nat.min_le_left _ _⟩
  have HN4 := Lib.hid hn4
  clear hn4
  refine dyn_take (v := .int .i64 n4) rfl rfl (fun W g => by go_simp; first | rfl | (rw [HN4.out]; split <;> omega)) ?_
  go_simp
  refine dyn_act rfl rfl (fun K hK => ?_)
  go_wp2_with fail
  refine Calls.mono (spec_l9Subscript g _ l n4 _ HD4.out.cur HA.out hn4') ?_
  rintro e w5 ⟨fs, f, rfl, hF, hfz, hc, ho⟩
  obtain ⟨B1, b1, B2, b2, B3, b3, B4, b4, B5, b5, rfl⟩ := hF.shape
  have HD5 := Lib.hid (HD4.out.next hc ho)
  have HV5 := Lib.hid (HV4.out.keeps (Keeps.grown ho fun x hx e => by injection e with e; have := hx.1; omega))
  have HF5 := Lib.hid hF
  have HFZ := Lib.hid hfz
  have hs4 := HD4.out.bl.size
  replace g1 : Ok (VBx vb [.int .i64 d.kind, .slice A1 d.items.length a1, .slice A2 d.parts.length a2, .slice A3 d.names.length a3, .slice A4 d.cls.length a4, .slice A5 d.levels.length a5, .int .i64 d.code, .int .i64 d.env]) w5 := HD5.out.bx
  clear hc ho hF hfz HD4 HV4
  simp only []
  refine hK.out _ _ g1 ?_
  clear hK
  go_simp
  have hsz := HSZ.out
  have r0 := (HD5.out.far HR0.out).cell 0 _ rfl
  have r1 := (HD5.out.far HR0.out).cell 1 _ rfl
  have r2 := (HD5.out.far HR0.out).cell 2 _ rfl
  have r3 := (HD5.out.far HR0.out).cell 3 _ rfl
  have r4 := (HD5.out.far HR0.out).cell 4 _ rfl
  have r5 := (HD5.out.far HR0.out).cell 5 _ rfl
  have r6 := (HD5.out.far HR0.out).cell 6 _ rfl
  have r7 := (HD5.out.far HR0.out).cell 7 _ rfl
  have z0 := (HD5.out.far HR0.out).frozen 0
  have z1 := (HD5.out.far HR0.out).frozen 1
  have z2 := (HD5.out.far HR0.out).frozen 2
  have z3 := (HD5.out.far HR0.out).frozen 3
  have z4 := (HD5.out.far HR0.out).frozen 4
  have z5 := (HD5.out.far HR0.out).frozen 5
  have z6 := (HD5.out.far HR0.out).frozen 6
  have z7 := (HD5.out.far HR0.out).frozen 7
  have s0 := (HD5.out.far HR1.out).cell 0 _ rfl
  have s1 := (HD5.out.far HR1.out).cell 1 _ rfl
  have s2 := (HD5.out.far HR1.out).cell 2 _ rfl
  have s3 := (HD5.out.far HR1.out).cell 3 _ rfl
  have s4 := (HD5.out.far HR1.out).cell 4 _ rfl
  have s5 := (HD5.out.far HR1.out).cell 5 _ rfl
  have s6 := (HD5.out.far HR1.out).cell 6 _ rfl
  have s7 := (HD5.out.far HR1.out).cell 7 _ rfl
  have t0 := (HD5.out.far HR1.out).frozen 0
  have t1 := (HD5.out.far HR1.out).frozen 1
  have t2 := (HD5.out.far HR1.out).frozen 2
  have t3 := (HD5.out.far HR1.out).frozen 3
  have t4 := (HD5.out.far HR1.out).frozen 4
  have t5 := (HD5.out.far HR1.out).frozen 5
  have t6 := (HD5.out.far HR1.out).frozen 6
  have t7 := (HD5.out.far HR1.out).frozen 7
  have hne0 : vb ≠ w.heap.size := by have := HD5.out.vl; omega
  have hne1 : vb ≠ w.heap.size + 1 := by have := HD5.out.vl; omega
  have HG1 := Lib.hid (show Ok (VBx vb [.int .i64 d.kind, .slice A1 d.items.length a1, .slice A2 d.parts.length a2, .slice A3 d.names.length a3, .slice A4 d.cls.length a4, .slice A5 d.levels.length a5, .int .i64 d.code, .int .i64 d.env]) _ from Blk.far8 (show Blk w5 vb _ [.int .i64 d.kind, .slice A1 d.items.length a1, .slice A2 d.parts.length a2, .slice A3 d.names.length a3, .slice A4 d.cls.length a4, .slice A5 d.levels.length a5, .int .i64 d.code, .int .i64 d.env] from HD5.out.bx) w.heap.size hne0 (.int .i64 d.kind) (.slice A1 d.items.length a1) (.slice A2 d.parts.length a2) (.slice A3 d.names.length a3) (.slice A4 d.cls.length a4) (.slice A5 d.levels.length a5) (.int .i64 d.code) (.int .i64 d.env))
  have HG2 := Lib.hid (show Ok (VBx vb [.int .i64 d.kind, .slice A1 d.items.length a1, .slice A2 d.parts.length a2, .slice A3 d.names.length a3, .slice A4 d.cls.length a4, .slice A5 d.levels.length a5, .int .i64 d.code, .int .i64 d.env]) _ from Blk.far8 (show Blk _ vb _ [.int .i64 d.kind, .slice A1 d.items.length a1, .slice A2 d.parts.length a2, .slice A3 d.names.length a3, .slice A4 d.cls.length a4, .slice A5 d.levels.length a5, .int .i64 d.code, .int .i64 d.env] from HG1.out) (w.heap.size + 1) hne1 (.int .i64 f.kind) (.slice B1 f.items.length b1) (.slice B2 f.parts.length b2) (.slice B3 f.names.length b3) (.slice B4 f.cls.length b4) (.slice B5 f.levels.length b5) (.int .i64 f.code) (.int .i64 f.env))
  refine dyn_act rfl rfl (fun K hK => ?_)
  go_wp2_with fail
  refine hK.out _ _ (by exact HG1.out) ?_
  clear hK
  go_simp
  refine dyn_act rfl rfl (fun K hK => ?_)
  go_wp2_with fail
  refine hK.out _ _ (by exact HG2.out) ?_
  clear hK
  refine dyn_done ?_
  go_wp2_with fail
  have hkF := Lib.hid (Keeps.sc (b := w.heap.size + 1) (o := 7) (Keeps.sc (b := w.heap.size + 1) (o := 6) (Keeps.sc (b := w.heap.size + 1) (o := 5) (Keeps.sc (b := w.heap.size + 1) (o := 4) (Keeps.sc (b := w.heap.size + 1) (o := 3) (Keeps.sc (b := w.heap.size + 1) (o := 2) (Keeps.sc (b := w.heap.size + 1) (o := 1) (Keeps.sc (b := w.heap.size + 1) (o := 0) (Keeps.sc (b := w.heap.size) (o := 7) (Keeps.sc (b := w.heap.size) (o := 6) (Keeps.sc (b := w.heap.size) (o := 5) (Keeps.sc (b := w.heap.size) (o := 4) (Keeps.sc (b := w.heap.size) (o := 3) (Keeps.sc (b := w.heap.size) (o := 2) (Keeps.sc (b := w.heap.size) (o := 1) (Keeps.sc (b := w.heap.size) (o := 0) (Keeps.refl (fun x => x ≠ w.heap.size ∧ x ≠ w.heap.size + 1) w5) (by simp) (.int .i64 d.kind)) (by simp) (.slice A1 d.items.length a1)) (by simp) (.slice A2 d.parts.length a2)) (by simp) (.slice A3 d.names.length a3)) (by simp) (.slice A4 d.cls.length a4)) (by simp) (.slice A5 d.levels.length a5)) (by simp) (.int .i64 d.code)) (by simp) (.int .i64 d.env)) (by simp) (.int .i64 f.kind)) (by simp) (.slice B1 f.items.length b1)) (by simp) (.slice B2 f.parts.length b2)) (by simp) (.slice B3 f.names.length b3)) (by simp) (.slice B4 f.cls.length b4)) (by simp) (.slice B5 f.levels.length b5)) (by simp) (.int .i64 f.code)) (by simp) (.int .i64 f.env))
  have hbF := Lib.hid (below_sc (b := w.heap.size + 1) (o := 7) (below_sc (b := w.heap.size + 1) (o := 6) (below_sc (b := w.heap.size + 1) (o := 5) (below_sc (b := w.heap.size + 1) (o := 4) (below_sc (b := w.heap.size + 1) (o := 3) (below_sc (b := w.heap.size + 1) (o := 2) (below_sc (b := w.heap.size + 1) (o := 1) (below_sc (b := w.heap.size + 1) (o := 0) (below_sc (b := w.heap.size) (o := 7) (below_sc (b := w.heap.size) (o := 6) (below_sc (b := w.heap.size) (o := 5) (below_sc (b := w.heap.size) (o := 4) (below_sc (b := w.heap.size) (o := 3) (below_sc (b := w.heap.size) (o := 2) (below_sc (b := w.heap.size) (o := 1) (below_sc (b := w.heap.size) (o := 0) (Below.refl w.heap.size w5) (Nat.le_refl _) (.int .i64 d.kind)) (Nat.le_refl _) (.slice A1 d.items.length a1)) (Nat.le_refl _) (.slice A2 d.parts.length a2)) (Nat.le_refl _) (.slice A3 d.names.length a3)) (Nat.le_refl _) (.slice A4 d.cls.length a4)) (Nat.le_refl _) (.slice A5 d.levels.length a5)) (Nat.le_refl _) (.int .i64 d.code)) (Nat.le_refl _) (.int .i64 d.env)) (by omega) (.int .i64 f.kind)) (by omega) (.slice B1 f.items.length b1)) (by omega) (.slice B2 f.parts.length b2)) (by omega) (.slice B3 f.names.length b3)) (by omega) (.slice B4 f.cls.length b4)) (by omega) (.slice B5 f.levels.length b5)) (by omega) (.int .i64 f.code)) (by omega) (.int .i64 f.env))
  exact bodyPost_ret (v := .tuple #[.agg #[.int .i64 d.kind, .slice A1 d.items.length a1, .slice A2 d.parts.length a2, .slice A3 d.names.length a3, .slice A4 d.cls.length a4, .slice A5 d.levels.length a5, .int .i64 d.code, .int .i64 d.env], .agg #[.int .i64 f.kind, .slice B1 f.items.length b1, .slice B2 f.parts.length b2, .slice B3 f.names.length b3, .slice B4 f.cls.length b4, .slice B5 f.levels.length b5, .int .i64 f.code, .int .i64 f.env]]) (by simp [results, Try.results34, go_sem, r0, r1, r2, r3, r4, r5, r6, r7, s0, s1, s2, s3, s4, s5, s6, s7]; try rfl) rfl ⟨_, _, d, f, rfl, (HV5.out.keeps (hkF.out.mono fun x hx => by have := hx.1; have := HSZ.out; have := HG.out; omega)).mono (fun x hx => ⟨by have := hx.1; have := HSZ.out; have := HG.out; omega, Nat.lt_of_lt_of_le hx.2 (Nat.le_trans (Nat.le_of_lt (show Blk w5 vb _ _ from HD5.out.bx).lt) hkF.out.1)⟩), (HF5.out.keeps (hkF.out.mono fun x hx => by have := hx.1; have := HSZ.out; omega)).mono (fun x hx => ⟨by have := hx.1; have := HSZ.out; omega, Nat.lt_of_lt_of_le hx.2 hkF.out.1⟩), by have := HZ.out; omega, HFZ.out, (HB0.out.trans (HD5.out.bl.mono (by have := HSZ.out; omega))).trans hbF.out⟩
section
variable {w1 : World} {g : Nat} {v : Value} {l : List Nat} {vb : Nat} {cs : List Value} {W W' : World}
end

end Go.Proofs.Ytjdimlhdkmkmbaa
