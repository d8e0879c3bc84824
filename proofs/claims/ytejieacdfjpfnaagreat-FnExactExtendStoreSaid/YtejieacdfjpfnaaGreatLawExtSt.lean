/-
  The law FnExactExtendStore returns true for every store, environment and name.
-/
import Derived.Test.YtejieacdfjpfnaaGreatRows
import Derived.Test.YtejieacdfjpfnaaGreatJoin
import Derived.Test.YtejieacdfjpfnaaGreatStE
import Derived.Test.YtejieacdfjpfnaaGreatStMark
import Derived.Test.YtejieacdfjpfnaaGreatStHeld
import Derived.Deep.RegionHeld3
namespace Go.Proofs.YtejieacdfjpfnaaGreat
set_option maxRecDepth 100000
open Go.ChangeShapes Go.WideShapes Go.ChangeAt Go.RowKit Go.Deep
open Go.ChangeMaps (open_string shut_string)
set_option linter.unusedVariables false

theorem extS_c (s : StoreD) (p : Int) : cStore (extS s p).1 ≤ 8 * szStore s + 1000 := by
  have h1 : szStore (extS s p).1 ≤ szStore s + 100 := by
    unfold extS
    split
    · unfold szStore szS
      simp [szEnv, szL, szS]
      omega
    · unfold stZ szStore szS
      simp
  have := cStore_le (extS s p).1
  omega

namespace fnExactExtendStore
/-- outside S, and below B, nothing has changed -/
theorem below_of {S : Nat → Prop} {B : Nat} {w w' : World} (hk : Keeps (fun b => ¬ S b) w w') (h0 : Below 0 w w') (hs : ∀ b, S b → B ≤ b) (hB : B ≤ w.heap.size) : Below B w w' :=
  ⟨h0.os, h0.tape, h0.output, hk.1, fun i hi => hk.2 i (by omega) (fun h => by have := hs i h; omega)⟩
structure L0 (w : World) (cs : List Value) (W : World) : Prop where
  bA : Blk W w.heap.size 25 cs
  below : Below w.heap.size w W
theorem L0.step {w : World} {cs : List Value} {W W' : World} (h : L0 w cs W) (hb : Below W.heap.size W W') : L0 w cs W' :=
  ⟨h.bA.below hb, h.below.trans (hb.mono h.below.size)⟩
structure L1 (w : World) (cs : List Value) (d : StoreD) (p : Nat) (cw : List Value) (W : World) : Prop where
  l0 : L0 w cs W
  bw : Blk W p 33 cw
  ow : StoreO (Rng (w.heap.size + 1) p) W cw d
  hp : w.heap.size + 1 ≤ p
theorem L1.step {w : World} {cs : List Value} {d : StoreD} {p : Nat} {cw : List Value} {W W' : World} (h : L1 w cs d p cw W) (hb : Below W.heap.size W W') : L1 w cs d p cw W' :=
  ⟨h.l0.step hb, h.bw.below hb, h.ow.keeps (Keeps.of_below _ hb), h.hp⟩
structure L2 (w : World) (cs : List Value) (d : StoreD) (p : Nat) (cw : List Value) (q : Nat) (cx : List Value) (W : World) : Prop where
  l1 : L1 w cs d p cw W
  bx : Blk W q 33 cx
  hq : p + 1 ≤ q
theorem L2.step {w : World} {cs : List Value} {d : StoreD} {p : Nat} {cw : List Value} {q : Nat} {cx : List Value} {W W' : World} (h : L2 w cs d p cw q cx W) (hb : Below W.heap.size W W') : L2 w cs d p cw q cx W' :=
  ⟨h.l1.step hb, h.bx.below hb, h.hq⟩
structure L3 (w : World) (cs : List Value) (d : StoreD) (p : Nat) (cw : List Value) (q : Nat) (cx : List Value) (r : Nat) (cg : List Value) (dg : StoreD) (W : World) : Prop where
  l2 : L2 w cs d p cw q cx W
  bg : Blk W r 33 cg
  og : StoreO (Rng (q + 1) r) W cg dg
  hr : q + 1 ≤ r
theorem L3.step {w : World} {cs : List Value} {d : StoreD} {p : Nat} {cw : List Value} {q : Nat} {cx : List Value} {r : Nat} {cg : List Value} {dg : StoreD} {W W' : World} (h : L3 w cs d p cw q cx r cg dg W) (hb : Below W.heap.size W W') : L3 w cs d p cw q cx r cg dg W' :=
  ⟨h.l2.step hb, h.bg.below hb, h.og.keeps (Keeps.of_below _ hb), h.hr⟩
theorem L3.markX {w : World} {cs : List Value} {d : StoreD} {p : Nat} {cw : List Value} {q : Nat} {cx : List Value} {r : Nat} {cg : List Value} {dg : StoreD} {W W' : World} (h : L3 w cs d p cw q cx r cg dg W) (hk : Keeps (fun b => ¬ Rng (p + 1) q b) W W') (h0 : Below 0 W W') : L3 w cs d p cw q cx r cg dg W' :=
  have hp := h.l2.l1.hp
  have hq := h.l2.hq
  have hr := h.hr
  ⟨⟨⟨⟨h.l2.l1.l0.bA.keeps hk (fun hb => by have := hb.1; omega), h.l2.l1.l0.below.trans (below_of hk h0 (fun b hb => by have := hb.1; omega) h.l2.l1.l0.below.size)⟩, h.l2.l1.bw.keeps hk (fun hb => by have := hb.1; omega), h.l2.l1.ow.keeps (hk.mono fun b hb hq' => by have := hb.2; have := hq'.1; omega), hp⟩, h.l2.bx.keeps hk (fun hb => by have := hb.2; omega), hq⟩, h.bg.keeps hk (fun hb => by have := hb.2; omega), h.og.keeps (hk.mono fun b hb hq' => by have := hb.1; have := hq'.2; omega), hr⟩
theorem L3.markG {w : World} {cs : List Value} {d : StoreD} {p : Nat} {cw : List Value} {q : Nat} {cx : List Value} {r : Nat} {cg : List Value} {dg dg' : StoreD} {W W' : World} (h : L3 w cs d p cw q cx r cg dg W) (ho : StoreO (Rng (q + 1) r) W' cg dg') (hk : Keeps (fun b => ¬ Rng (q + 1) r b) W W') (h0 : Below 0 W W') : L3 w cs d p cw q cx r cg dg' W' :=
  have hp := h.l2.l1.hp
  have hq := h.l2.hq
  have hr := h.hr
  ⟨⟨⟨⟨h.l2.l1.l0.bA.keeps hk (fun hb => by have := hb.1; omega), h.l2.l1.l0.below.trans (below_of hk h0 (fun b hb => by have := hb.1; omega) h.l2.l1.l0.below.size)⟩, h.l2.l1.bw.keeps hk (fun hb => by have := hb.1; omega), h.l2.l1.ow.keeps (hk.mono fun b hb hq' => by have := hb.2; have := hq'.1; omega), hp⟩, h.l2.bx.keeps hk (fun hb => by have := hb.1; omega), hq⟩, h.bg.keeps hk (fun hb => by have := hb.2; omega), ho, hr⟩

set_option maxHeartbeats 8000000 in
theorem walk (v : Value) (xs : List Value × StoreD) {w : World} (h : v = .agg xs.1.toArray ∧ StoreR w xs.1 xs.2) (env : Int) (henv : I64 env) :
    Calls Tryz.prog 5 #[v, .int .i64 env] w fun e w' => e = .returned (.bool true) ∧ Below w.heap.size w w' := by
  obtain ⟨cs, s⟩ := xs
  obtain ⟨rfl, h⟩ := h
  dsimp only at h ⊢
  have HT := Lib.hid h
  obtain ⟨A1, a1, A2, a2, rfl, _⟩ := h.open_
  clear h
  have HL := Lib.hid (show L0 w [.slice A1 s.envs.length a1, .slice A2 s.promises.length a2] (w.alloc (.cells [.slice A1 s.envs.length a1, .slice A2 s.promises.length a2].toArray 25)) from ⟨Blk.new _ _ _, (Below.refl w.heap.size w).alloc (Nat.le_refl _) _⟩)
  by_cases hz : (szStore s : Int) ≤ 1048576
  rotate_left
  · have HZ := Lib.hid (szR_neg hz)
    go_enter Tryz.func5, Tryz.ntmps5
    go_upto_region 1 with fail
    refine gen_w (G := L0 w [.slice A1 s.envs.length a1, .slice A2 s.promises.length a2]) (show Ok _ _ from HL.out) ?_
    intro W0 g0
    have y0 := g0.bA.cell 0 _ rfl
    have y1 := g0.bA.cell 1 _ rfl
    go_wp2_with fail
    refine Calls.mono (laws_szStore s _ 1048576 _ (HT.out.below g0.below) (by omega) (by omega)) ?_
    rintro e w1 ⟨rfl, hb⟩
    rw [HZ.out]
    have HB := Lib.hid (g0.step hb).below
    clear hb g0 y0 y1
    go_wp2_with fail
    go_ret
    exact ⟨rfl, HB.out⟩
  have HZ := Lib.hid (szR_pos hz)
  have hS1 := fun cs w h => spec_ExtendStore s env cs w h (by omega)
  have hI1 := fun cs w h => impl_ExtendStore s env cs w h (by omega)
  have hcv := extS_c s env
  generalize extS s env = vb at hS1 hI1 hcv
  obtain ⟨d, bo⟩ := vb
  dsimp only at hcv
  have HS1 := Lib.hid hS1
  have HI1 := Lib.hid hI1
  have hct := cStore_le s
  clear hS1 hI1
  go_enter Tryz.func5, Tryz.ntmps5
  go_upto_region 1 with fail
  refine gen_w (G := L0 w [.slice A1 s.envs.length a1, .slice A2 s.promises.length a2]) (show Ok _ _ from HL.out) ?_
  clear HL
  intro W0 g0
  have y0 := g0.bA.cell 0 _ rfl
  have y1 := g0.bA.cell 1 _ rfl
  go_wp2_with fail
  refine Calls.mono (laws_szStore s _ 1048576 _ (HT.out.below g0.below) (by omega) (by omega)) ?_
  rintro e w1 ⟨rfl, hb⟩
  rw [HZ.out]
  have HL1 := Lib.hid (g0.step hb)
  clear hb g0 y0 y1
  have y0 := HL1.out.bA.cell 0 _ rfl
  have y1 := HL1.out.bA.cell 1 _ rfl
  go_wp2_with fail
  clear y0 y1
  refine Calls.mono (laws_toStore s _ _ (HT.out.below HL1.out.below) (by omega)) ?_
  rintro e w2 ⟨ca, rfl, oa, hb⟩
  have HL2 := Lib.hid (HL1.out.step hb)
  have RA := Lib.hid oa.read
  have hs2 : w.heap.size + 1 ≤ w2.heap.size := by have := HL2.out.bA.lt; omega
  obtain ⟨B1, b1, B2, b2, rfl⟩ := oa.shape
  clear hb HL1 oa
  go_wp2_with fail
  refine Calls.mono (HS1.out _ _ RA.out) ?_
  rintro e w3 ⟨cw, rfl, ow, hb⟩
  obtain ⟨C1, c1, C2, c2, rfl⟩ := ow.shape2
  have hs3 : w.heap.size + 1 ≤ w3.heap.size := by have := hb.size; omega
  have HL3 := Lib.hid (show L1 w [.slice A1 s.envs.length a1, .slice A2 s.promises.length a2] d w3.heap.size [.slice C1 d.envs.length c1, .slice C2 d.promises.length c2] (w3.alloc (.cells [.slice C1 d.envs.length c1, .slice C2 d.promises.length c2].toArray 33)) from
    have b := (Below.refl w3.heap.size w3).alloc (Nat.le_refl _) (.cells [.slice C1 d.envs.length c1, .slice C2 d.promises.length c2].toArray 33)
    ⟨(HL2.out.step hb).step b, Blk.new w3 _ _, (ow.keeps (Keeps.of_below _ b)).mono fun b h => ⟨by have := h.1; omega, h.2⟩, hs3⟩)
  clear hb HL2 RA ow
  go_upto_region 6 with fail
  refine gen_w (G := L1 w [.slice A1 s.envs.length a1, .slice A2 s.promises.length a2] d w3.heap.size [.slice C1 d.envs.length c1, .slice C2 d.promises.length c2]) (show Ok _ _ from HL3.out) ?_
  clear HL3
  intro W3 g3
  have hW3 : w3.heap.size + 1 ≤ W3.heap.size := by have := g3.bw.lt; omega
  have HL3 := Lib.hid (show L1 w [.slice A1 s.envs.length a1, .slice A2 s.promises.length a2] d w3.heap.size [.slice C1 d.envs.length c1, .slice C2 d.promises.length c2] W3 from g3)
  clear g3
  have y0 := HL3.out.l0.bA.cell 0 _ rfl
  have y1 := HL3.out.l0.bA.cell 1 _ rfl
  go_wp2_with fail
  clear y0 y1
  refine Calls.mono (laws_toStore s _ _ (HT.out.below HL3.out.l0.below) (by omega)) ?_
  rintro e w4 ⟨cx, rfl, ox, hb⟩
  have HL4 := Lib.hid (HL3.out.step hb)
  have hs4 : w3.heap.size + 1 ≤ w4.heap.size := by have := hb.size; omega
  obtain ⟨X1, x1, X2, x2, rfl⟩ := ox.shape
  have OX := Lib.hid ox
  clear hb HL3 ox
  go_upto_region 7 with fail
  refine gen_w (G := fun W => L2 w [.slice A1 s.envs.length a1, .slice A2 s.promises.length a2] d w3.heap.size [.slice C1 d.envs.length c1, .slice C2 d.promises.length c2] w4.heap.size [.slice X1 s.envs.length x1, .slice X2 s.promises.length x2] W ∧ StoreO (Rng (w3.heap.size + 1) w4.heap.size) W [.slice X1 s.envs.length x1, .slice X2 s.promises.length x2] s) (show Ok _ _ from
    have b := (Below.refl w4.heap.size w4).alloc (Nat.le_refl _) (.cells [.slice X1 s.envs.length x1, .slice X2 s.promises.length x2].toArray 33)
    ⟨⟨HL4.out.step b, Blk.new w4 _ _, hs4⟩, (OX.out.keeps (Keeps.of_below _ b)).mono fun b h => ⟨by have := h.1; omega, h.2⟩⟩) ?_
  clear HL4 OX
  rintro W5 ⟨g5, o5⟩
  have HL5 := Lib.hid g5
  have OX5 := Lib.hid o5
  clear g5 o5
  have hs5 : w4.heap.size + 1 ≤ W5.heap.size := by have := HL5.out.bx.lt; omega
  have y0 := HL5.out.bx.cell 0 _ rfl
  have y1 := HL5.out.bx.cell 1 _ rfl
  go_wp2_with fail
  clear y0 y1
  refine Calls.mono (HI1.out _ _ OX5.out.read) ?_
  rintro e w6 ⟨cg, rfl, og, hb⟩
  obtain ⟨D1, e1, D2, e2, rfl⟩ := og.shape2
  have hs6 : w4.heap.size + 1 ≤ w6.heap.size := by have := hb.size; omega
  have HL6 := Lib.hid (show L3 w [.slice A1 s.envs.length a1, .slice A2 s.promises.length a2] d w3.heap.size [.slice C1 d.envs.length c1, .slice C2 d.promises.length c2] w4.heap.size [.slice X1 s.envs.length x1, .slice X2 s.promises.length x2] w6.heap.size [.slice D1 d.envs.length e1, .slice D2 d.promises.length e2] d (w6.alloc (.cells [.slice D1 d.envs.length e1, .slice D2 d.promises.length e2].toArray 33)) ∧ StoreO (Rng (w3.heap.size + 1) w4.heap.size) (w6.alloc (.cells [.slice D1 d.envs.length e1, .slice D2 d.promises.length e2].toArray 33)) [.slice X1 s.envs.length x1, .slice X2 s.promises.length x2] s from
    have b := (Below.refl w6.heap.size w6).alloc (Nat.le_refl _) (.cells [.slice D1 d.envs.length e1, .slice D2 d.promises.length e2].toArray 33)
    ⟨⟨(HL5.out.step hb).step b, Blk.new w6 _ _, (og.keeps (Keeps.of_below _ b)).mono fun b h => ⟨by have := h.1; omega, h.2⟩, hs6⟩, (OX5.out.keeps (Keeps.of_below _ hb)).keeps (Keeps.of_below _ b)⟩)
  clear hb HL5 OX5 og
  go_upto_region 8 with fail
  refine gen_w (G := fun W => L3 w [.slice A1 s.envs.length a1, .slice A2 s.promises.length a2] d w3.heap.size [.slice C1 d.envs.length c1, .slice C2 d.promises.length c2] w4.heap.size [.slice X1 s.envs.length x1, .slice X2 s.promises.length x2] w6.heap.size [.slice D1 d.envs.length e1, .slice D2 d.promises.length e2] d W ∧ StoreO (Rng (w3.heap.size + 1) w4.heap.size) W [.slice X1 s.envs.length x1, .slice X2 s.promises.length x2] s) (show Ok _ _ from HL6.out) ?_
  clear HL6
  rintro W6 ⟨g6, o6⟩
  have HL6 := Lib.hid g6
  have OX6 := Lib.hid o6
  clear g6 o6
  have y0 := HL6.out.bg.cell 0 _ rfl
  have y1 := HL6.out.bg.cell 1 _ rfl
  have z0 := HL6.out.l2.l1.bw.cell 0 _ rfl
  have z1 := HL6.out.l2.l1.bw.cell 1 _ rfl
  go_wp2_with fail
  clear y0 z0 y1 z1
  refine Calls.mono (laws_eqStore_same d _ _ _ HL6.out.og.read HL6.out.l2.l1.ow.read) ?_
  rintro e w7 ⟨rfl, hb⟩
  have HL7 := Lib.hid (HL6.out.step hb)
  have OX7 := Lib.hid (OX6.out.keeps (Keeps.of_below _ hb))
  clear hb HL6 OX6
  go_wp2_with fail
  have s0 := HL7.out.l2.l1.l0.bA.cell 0 _ rfl
  have s1 := HL7.out.l2.l1.l0.bA.cell 1 _ rfl
  have o0 := HL7.out.l2.bx.cell 0 _ rfl
  have o1 := HL7.out.l2.bx.cell 1 _ rfl
  have HD7 := Lib.hid (HL7.out.step (Below.drew (Below.refl _ _)))
  have OD7 := Lib.hid (OX7.out.keeps (Keeps.of_below _ (Below.drew (Below.refl _ _))))
  clear HL7 OX7
  go_region_held3 (fun W => (W.cell? ⟨w.heap.size, 0, none⟩ = some (.slice A1 s.envs.length a1) ∧ W.cell? ⟨w.heap.size, 1, none⟩ = some (.slice A2 s.promises.length a2) ∧ W.cell? ⟨w4.heap.size, 0, none⟩ = some (.slice X1 s.envs.length x1) ∧ W.cell? ⟨w4.heap.size, 1, none⟩ = some (.slice X2 s.promises.length x2)))
    (first | exact ⟨s0, s1, o0, o1⟩ | exact ⟨HL8.out.l2.l1.l0.bA.cell 0 _ rfl, HL8.out.l2.l1.l0.bA.cell 1 _ rfl, HL8.out.l2.bx.cell 0 _ rfl, HL8.out.l2.bx.cell 1 _ rfl⟩ | exact ⟨HL9.out.l2.l1.l0.bA.cell 0 _ rfl, HL9.out.l2.l1.l0.bA.cell 1 _ rfl, HL9.out.l2.bx.cell 0 _ rfl, HL9.out.l2.bx.cell 1 _ rfl⟩)
    (first | (go_at_call 12; refine Calls.mono (laws_toStore s _ _ (by exact HT.out.below HD7.out.l2.l1.l0.below) (by omega)) ?_; rintro e w8 ⟨cy, rfl, oy, hb⟩; have HL8 := Lib.hid (HD7.out.step hb); have OX8 := Lib.hid (OD7.out.keeps (Keeps.of_below _ hb)); have RY := Lib.hid oy.read; obtain ⟨Y1, y1, Y2, y2, rfl⟩ := oy.shape; clear hb oy) | (go_at_call 16; refine Calls.mono (laws_eqStore_same s _ _ _ OX8.out.read RY.out) ?_; rintro e w9 ⟨rfl, hb⟩; have HL9 := Lib.hid (HL8.out.step hb); have OX9 := Lib.hid (OX8.out.keeps (Keeps.of_below _ hb)); clear hb))
  clear s0 s1 o0 o1 HD7 OD7 HL8 OX8 RY
  have y0 := HL9.out.l2.bx.cell 0 _ rfl
  have y1 := HL9.out.l2.bx.cell 1 _ rfl
  go_wp2_with fail
  clear y0 y1
  refine Calls.mono (laws_markStore (Rng (w3.heap.size + 1) w4.heap.size) s _ 1 _ OX9.out (fun hb => by have := hb.2; have := HL9.out.l2.bx.lt; omega) (by decide) (by omega)) ?_
  rintro e w10 ⟨rfl, _, hk, h0⟩
  have HL10 := Lib.hid (HL9.out.markX hk h0)
  clear hk h0 HL9 OX9
  have y0 := HL10.out.bg.cell 0 _ rfl
  have y1 := HL10.out.bg.cell 1 _ rfl
  have z0 := HL10.out.l2.l1.bw.cell 0 _ rfl
  have z1 := HL10.out.l2.l1.bw.cell 1 _ rfl
  go_wp2_with fail
  clear y0 z0 y1 z1
  refine Calls.mono (laws_eqStore_same d _ _ _ HL10.out.og.read HL10.out.l2.l1.ow.read) ?_
  rintro e w11 ⟨rfl, hb⟩
  have HL11 := Lib.hid (HL10.out.step hb)
  clear hb HL10
  have y0 := HL11.out.bg.cell 0 _ rfl
  have y1 := HL11.out.bg.cell 1 _ rfl
  go_wp2_with fail
  clear y0 y1
  refine Calls.mono (laws_markStore (Rng (w4.heap.size + 1) w6.heap.size) d _ 1 _ HL11.out.og (fun hb => by have := hb.2; have := HL11.out.bg.lt; omega) (by decide) (by omega)) ?_
  rintro e w12 ⟨rfl, ho, hk, h0⟩
  have HL12 := Lib.hid (HL11.out.markG ho hk h0)
  clear ho hk h0 HL11
  have y0 := HL12.out.bg.cell 0 _ rfl
  have y1 := HL12.out.bg.cell 1 _ rfl
  go_wp2_with fail
  clear y0 y1
  refine Calls.mono (laws_heldStore d _ 1 _ HL12.out.og.read (by decide) (by omega)) ?_
  rintro e w13 ⟨rfl, hb⟩
  have HL13 := Lib.hid (HL12.out.step hb)
  clear hb HL12
  have y0 := HL13.out.l2.l1.l0.bA.cell 0 _ rfl
  have y1 := HL13.out.l2.l1.l0.bA.cell 1 _ rfl
  go_wp2_with fail
  clear y0 y1
  refine Calls.mono (laws_toStore s _ _ (HT.out.below HL13.out.l2.l1.l0.below) (by omega)) ?_
  rintro e w14 ⟨cz, rfl, oz, hb⟩
  have HL14 := Lib.hid (HL13.out.step hb)
  have RZ := Lib.hid oz.read
  obtain ⟨Z1, z1, Z2, z2, rfl⟩ := oz.shape
  clear hb HL13 oz
  go_wp2_with fail
  refine Calls.mono (HI1.out _ _ RZ.out) ?_
  rintro e w15 ⟨ch, rfl, oh, hb⟩
  obtain ⟨E1, f1, E2, f2, rfl⟩ := oh.shape2
  have b15 := (Below.refl w15.heap.size w15).alloc (Nat.le_refl _) (.cells [.slice E1 d.envs.length f1, .slice E2 d.promises.length f2].toArray 33)
  have HL15 := Lib.hid ((HL14.out.step hb).step b15)
  have OH := Lib.hid ((oh.keeps (Keeps.of_below _ b15)).read)
  have BH := Lib.hid (Blk.new w15 33 [.slice E1 d.envs.length f1, .slice E2 d.promises.length f2])
  clear hb HL14 RZ oh b15
  go_upto_region 25 with fail
  refine gen_w (G := fun W => L3 w [.slice A1 s.envs.length a1, .slice A2 s.promises.length a2] d w3.heap.size [.slice C1 d.envs.length c1, .slice C2 d.promises.length c2] w4.heap.size [.slice X1 s.envs.length x1, .slice X2 s.promises.length x2] w6.heap.size [.slice D1 d.envs.length e1, .slice D2 d.promises.length e2] (markStoreD d 1) W ∧ StoreR W [.slice E1 d.envs.length f1, .slice E2 d.promises.length f2] d ∧ Blk W w15.heap.size 33 [.slice E1 d.envs.length f1, .slice E2 d.promises.length f2]) (show Ok _ _ from ⟨HL15.out, OH.out, BH.out⟩) ?_
  clear HL15 OH BH
  rintro W15 ⟨g15, o15, b15⟩
  have HL15 := Lib.hid g15
  have OH := Lib.hid o15
  have BH := Lib.hid b15
  clear g15 o15 b15
  have y0 := BH.out.cell 0 _ rfl
  have y1 := BH.out.cell 1 _ rfl
  have z0 := HL15.out.l2.l1.bw.cell 0 _ rfl
  have z1 := HL15.out.l2.l1.bw.cell 1 _ rfl
  go_wp2_with fail
  clear y0 z0 y1 z1
  refine Calls.mono (laws_eqStore_same d _ _ _ OH.out HL15.out.l2.l1.ow.read) ?_
  rintro e w16 ⟨rfl, hb⟩
  have HL16 := Lib.hid (HL15.out.step hb)
  clear hb HL15 OH BH
  have y0 := HL16.out.bg.cell 0 _ rfl
  have y1 := HL16.out.bg.cell 1 _ rfl
  go_wp2_with fail
  clear y0 y1
  refine Calls.mono (laws_heldStore d _ 1 _ HL16.out.og.read (by decide) (by omega)) ?_
  rintro e w17 ⟨rfl, hb⟩
  have HL17 := Lib.hid (HL16.out.step hb)
  clear hb HL16
  go_wp2_with fail
  go_ret
  exact ⟨rfl, HL17.out.l2.l1.l0.below⟩
set_option maxRecDepth 100000 in
theorem lifted (os : Os) (started : os.Started) (H : Type) (enc : TypeId × Value → H) :
    ReturnsInHanded {} Tryz.checked os 5 .any (Rows.fnExactExtendStoreSpec.pre6 enc Tryz.prog Tryz.f5 Rows.fnExactExtendStoreRow.domain false) (Rows.fnExactExtendStoreSpec.post enc Tryz.prog Tryz.f5 false true false false) := by
  refine returnsInHanded_of_change (C := Tryz.checked) own started (by kernel_rfl) Tryz.func5
    (ChangeSpec.witness6 (enc := enc) (C := Tryz.checked) false ⟨#[], #[.agg #[.slice none 0 0, .slice none 0 0], .int .i64 0], []⟩ 8 (by kernel_rfl) (by kernel_rfl) (by kernel_rfl) (by kernel_rfl)) ?_
  intro W base args ds gs before hval0 hW hcnd _
  have hval : ∀ (j : Nat) t v, Tryz.f5.params[j]? = some t → args[j]? = some v → Value.okWide Tryz.prog W .any base t v := hval0
  have hW' := hW
  obtain ⟨p, q, hA0, hV, rfl, hfz, hnd⟩ := hW
  have hA : DataW.TrodAll enc Tryz.prog W 0 (fun _ => true) true Tryz.f5.params.toList args.toList ds p := hA0
  rw [Tryz.params5] at hA hval
  obtain ⟨v0, vs0, d0, ds0, p0, q0, hargs, rfl, rfl, h0, r0⟩ := trodAll_cons hA
  obtain ⟨v1, vs1, d1, ds1, p1, q1, rfl, rfl, rfl, h1, r1⟩ := trodAll_cons r0
  obtain ⟨rfl, rfl, rfl⟩ := trodAll_nil r1
  obtain rfl : args = #[v0, v1] := by cases args; simp_all
  obtain ⟨rfl, rfl⟩ := trodVars_none hV
  obtain ⟨x0, u0⟩ := open_store (hval 0 25 v0 rfl rfl) h0
  obtain ⟨x1, rfl, rfl, rfl, u1⟩ := open_int Tryz.underlying3 (hval 1 3 v1 rfl rfl) h1
  clear hA0 hval0
  refine (walk v0 x0 u0 x1 (i64_of_wf u1)).mono fun e W' ⟨he, hg⟩ => ?_
  subst he
  exact ⟨_, rfl, law_post laidOut hW' rfl rfl Tryz.underlying4 rfl rfl rfl (by intro t ht; rw [Tryz.params5] at ht; have ht2 : t ∈ [25, 3] := ht; simp only [List.mem_cons, List.not_mem_nil, or_false] at ht2; rcases ht2 with rfl | rfl <;> exact ⟨by kernel_rfl, of_decide_eq_true (by kernel_rfl)⟩) hg⟩

theorem fact0 : jf0 Tryz.prog 5 Tryz.f5 Rows.fnExactExtendStoreSpec Rows.fnExactExtendStoreRow = true := by kernel_rfl
theorem fact1 : jf1 Tryz.prog 5 Tryz.f5 Rows.fnExactExtendStoreSpec Rows.fnExactExtendStoreRow = true := by kernel_rfl
theorem fact2 : jf2 Tryz.prog 5 Tryz.f5 Rows.fnExactExtendStoreSpec Rows.fnExactExtendStoreRow = true := by kernel_rfl
theorem fact3 : jf3 Tryz.prog 5 Tryz.f5 Rows.fnExactExtendStoreSpec Rows.fnExactExtendStoreRow = true := by kernel_rfl
theorem fact4 : jf4 Tryz.prog 5 Tryz.f5 Rows.fnExactExtendStoreSpec Rows.fnExactExtendStoreRow = true := by kernel_rfl
theorem fact5 : jf5 Tryz.prog 5 Tryz.f5 Rows.fnExactExtendStoreSpec Rows.fnExactExtendStoreRow = true := by kernel_rfl
theorem fact6 : jf6 Tryz.prog 5 Tryz.f5 Rows.fnExactExtendStoreSpec Rows.fnExactExtendStoreRow = true := by kernel_rfl
theorem fact7 : jf7 Tryz.prog 5 Tryz.f5 Rows.fnExactExtendStoreSpec Rows.fnExactExtendStoreRow = true := by kernel_rfl
theorem fact8 : jf8 Tryz.prog 5 Tryz.f5 Rows.fnExactExtendStoreSpec Rows.fnExactExtendStoreRow = true := by kernel_rfl
theorem fact9 : jf9 Tryz.prog 5 Tryz.f5 Rows.fnExactExtendStoreSpec Rows.fnExactExtendStoreRow = true := by kernel_rfl
theorem fact10 : jf10 Tryz.prog 5 Tryz.f5 Rows.fnExactExtendStoreSpec Rows.fnExactExtendStoreRow = true := by kernel_rfl
theorem fact11 : jf11 Tryz.prog 5 Tryz.f5 Rows.fnExactExtendStoreSpec Rows.fnExactExtendStoreRow = true := by kernel_rfl
theorem fact12 : jf12 Tryz.prog 5 Tryz.f5 Rows.fnExactExtendStoreSpec Rows.fnExactExtendStoreRow = true := by kernel_rfl
theorem fact13 : jf13 Tryz.prog 5 Tryz.f5 Rows.fnExactExtendStoreSpec Rows.fnExactExtendStoreRow = true := by kernel_rfl
theorem fact14 : jf14 Tryz.prog 5 Tryz.f5 Rows.fnExactExtendStoreSpec Rows.fnExactExtendStoreRow = true := by kernel_rfl
theorem fact15 : jf15 Tryz.prog 5 Tryz.f5 Rows.fnExactExtendStoreSpec Rows.fnExactExtendStoreRow = true := by kernel_rfl
theorem fact16 : jf16 Tryz.prog 5 Tryz.f5 Rows.fnExactExtendStoreSpec Rows.fnExactExtendStoreRow = true := by kernel_rfl
theorem fact17 : jf17 Tryz.prog 5 Tryz.f5 Rows.fnExactExtendStoreSpec Rows.fnExactExtendStoreRow = true := by kernel_rfl
theorem fact18 : jf18 Tryz.prog 5 Tryz.f5 Rows.fnExactExtendStoreSpec Rows.fnExactExtendStoreRow = true := by kernel_rfl
theorem fact19 : jf19 Tryz.prog 5 Tryz.f5 Rows.fnExactExtendStoreSpec Rows.fnExactExtendStoreRow = true := by kernel_rfl
theorem fact20 : jf20 Tryz.prog 5 Tryz.f5 Rows.fnExactExtendStoreSpec Rows.fnExactExtendStoreRow = true := by kernel_rfl
theorem fact21 : jf21 Tryz.prog 5 Tryz.f5 Rows.fnExactExtendStoreSpec Rows.fnExactExtendStoreRow = true := by kernel_rfl
theorem fact22 : jf22 Tryz.prog 5 Tryz.f5 Rows.fnExactExtendStoreSpec Rows.fnExactExtendStoreRow = true := by kernel_rfl
theorem fact23 : jf23 Tryz.prog 5 Tryz.f5 Rows.fnExactExtendStoreSpec Rows.fnExactExtendStoreRow = true := by kernel_rfl
theorem fact24 : jf24 Tryz.prog 5 Tryz.f5 Rows.fnExactExtendStoreSpec Rows.fnExactExtendStoreRow = true := by kernel_rfl
theorem fact25 : jf25 Tryz.prog 5 Tryz.f5 Rows.fnExactExtendStoreSpec Rows.fnExactExtendStoreRow = true := by kernel_rfl
theorem fact26 : jf26 Tryz.prog 5 Tryz.f5 Rows.fnExactExtendStoreSpec Rows.fnExactExtendStoreRow = true := by kernel_rfl
theorem fact27 : jf27 Tryz.prog 5 Tryz.f5 Rows.fnExactExtendStoreSpec Rows.fnExactExtendStoreRow = true := by kernel_rfl
theorem fact28 : jf28 Tryz.prog 5 Tryz.f5 Rows.fnExactExtendStoreSpec Rows.fnExactExtendStoreRow = true := by kernel_rfl
theorem fact29 : jf29 Tryz.prog 5 Tryz.f5 Rows.fnExactExtendStoreSpec Rows.fnExactExtendStoreRow = true := by kernel_rfl
theorem fact30 : jf30 Tryz.prog 5 Tryz.f5 Rows.fnExactExtendStoreSpec Rows.fnExactExtendStoreRow = true := by kernel_rfl
theorem fact31 : jf31 Tryz.prog 5 Tryz.f5 Rows.fnExactExtendStoreSpec Rows.fnExactExtendStoreRow = true := by kernel_rfl
theorem over : Rows.fnExactExtendStoreRow.holds Tryz.pinned (OpenSpec.ofChange Rows.fnExactExtendStoreSpec) :=
  OpenClaim.holds_of_wide 5 Tryz.f5 rfl rfl rfl rfl rfl rfl rfl ⟨rfl, rfl, rfl, rfl, rfl⟩ rfl rfl rfl rfl rfl (by kernel_rfl) Tryz.func5 (joined fact0 fact1 fact2 fact3 fact4 fact5 fact6 fact7 fact8 fact9 fact10 fact11 fact12 fact13 fact14 fact15 fact16 fact17 fact18 fact19 fact20 fact21 fact22 fact23 fact24 fact25 fact26 fact27 fact28 fact29 fact30 fact31)
    (of_decide_eq_true (by kernel_rfl)) (by unfold Func.isWrapper; first | (rw [if_pos (by decide +kernel)]; kernel_rfl) | (rw [if_neg (by decide +kernel)]; exact ⟨rfl, rfl⟩))
    (fun os started H enc _ => lifted os started H enc)

/-- THE STATEMENT -/
theorem proved : Rows.FnExactExtendStoreSaid :=
  over
#print axioms proved
end fnExactExtendStore
end Go.Proofs.YtejieacdfjpfnaaGreat
