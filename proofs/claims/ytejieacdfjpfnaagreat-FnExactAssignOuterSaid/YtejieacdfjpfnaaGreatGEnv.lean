/-
  Env: what values of this type read as; contracts of the laws' helpers on them (written by wip/gen/gen3.py).
-/
import Derived.Test.YtejieacdfjpfnaaGreatGSlot
namespace Go.Proofs.YtejieacdfjpfnaaGreat
set_option maxRecDepth 100000
open Go.ChangeShapes Go.WideShapes Go.ChangeAt Go.RowKit Go.Deep

structure EnvD where
  used : Bool
  parent : Int
  names : List (List UInt8)
  slots : List SlotD

/-- the cells of a Env -/
def EnvR (w : World) (cs : List Value) (d : EnvD) : Prop :=
  ∃ v2 v3, cs = [.bool d.used, .int .i64 d.parent, v2, v3] ∧ True ∧ I64 d.parent ∧ Txts w v2 d.names ∧ Slots w v3 d.slots
theorem EnvR.below {w w' : World} {cs : List Value} {d : EnvD} (h : EnvR w cs d) (hb : Below w.heap.size w w') : EnvR w' cs d := by
  obtain ⟨v2, v3, rfl, h0, h1, h2, h3⟩ := h
  exact ⟨v2, v3, rfl, h0, h1, h2.below hb, h3.below hb⟩
theorem EnvR.shape {w : World} {cs : List Value} {d : EnvD} (h : EnvR w cs d) : ∃ v2 v3, cs = [.bool d.used, .int .i64 d.parent, v2, v3] := by
  obtain ⟨v2, v3, rfl, _⟩ := h
  exact ⟨v2, v3, rfl⟩
theorem EnvR.length {w : World} {cs : List Value} {d : EnvD} (h : EnvR w cs d) : cs.length = 4 := by
  obtain ⟨v2, v3, rfl, _⟩ := h
  rfl
/-- the cells of a Env whose slices lie in blocks of its own, in S -/
def EnvO (S : Nat → Prop) (w : World) (cs : List Value) (d : EnvD) : Prop :=
  ∃ (A2 : Option Addr) (c2 : Nat) (A3 : Option Addr) (c3 : Nat), ∃ f : Nat → Nat, cs = [.bool d.used, .int .i64 d.parent, .slice A2 d.names.length c2, .slice A3 d.slots.length c3] ∧ True ∧ I64 d.parent ∧ TxtO (fun b => S b ∧ f b = 2) w (.slice A2 d.names.length c2) d.names ∧ SlotsO (fun b => S b ∧ f b = 3) w (.slice A3 d.slots.length c3) d.slots
theorem EnvO.read {S : Nat → Prop} {w : World} {cs : List Value} {d : EnvD} (h : EnvO S w cs d) : EnvR w cs d := by
  obtain ⟨A2, c2, A3, c3, f, rfl, h0, h1, h2, h3⟩ := h
  exact ⟨_, _, rfl, h0, h1, h2.read, h3.read⟩
theorem EnvO.keeps {S : Nat → Prop} {w w' : World} {cs : List Value} {d : EnvD} (h : EnvO S w cs d) (hk : Keeps S w w') : EnvO S w' cs d := by
  obtain ⟨A2, c2, A3, c3, f, rfl, h0, h1, h2, h3⟩ := h
  exact ⟨A2, c2, A3, c3, f, rfl, h0, h1, h2.keeps (hk.mono fun _ h => h.1), h3.keeps (hk.mono fun _ h => h.1)⟩
theorem EnvO.mono {S S' : Nat → Prop} {w : World} {cs : List Value} {d : EnvD} (h : EnvO S w cs d) (hs : ∀ b, S b → S' b) : EnvO S' w cs d := by
  obtain ⟨A2, c2, A3, c3, f, rfl, h0, h1, h2, h3⟩ := h
  exact ⟨A2, c2, A3, c3, f, rfl, h0, h1, h2.mono (fun b h => ⟨hs b h.1, h.2⟩), h3.mono (fun b h => ⟨hs b h.1, h.2⟩)⟩
theorem EnvO.shape {S : Nat → Prop} {w : World} {cs : List Value} {d : EnvD} (h : EnvO S w cs d) : ∃ (A2 : Option Addr) (c2 : Nat) (A3 : Option Addr) (c3 : Nat), cs = [.bool d.used, .int .i64 d.parent, .slice A2 d.names.length c2, .slice A3 d.slots.length c3] := by
  obtain ⟨A2, c2, A3, c3, f, rfl, _⟩ := h
  exact ⟨A2, c2, A3, c3, rfl⟩
theorem EnvO.length {S : Nat → Prop} {w : World} {cs : List Value} {d : EnvD} (h : EnvO S w cs d) : cs.length = 4 := by
  obtain ⟨A2, c2, A3, c3, f, rfl, _⟩ := h
  rfl

def szEnv (d : EnvD) : Nat := szL d.names + szS szSlot d.slots

set_option maxHeartbeats 1000000 in
theorem laws_szEnv (d : EnvD) (cs : List Value) (left : Int) (w : World) (h : EnvR w cs d) (h0 : 0 ≤ left) (h1 : left ≤ 1048576) :
    Calls Tryz.prog 96 #[.agg cs.toArray, .int .i64 left] w fun e w' => e = .returned (.int .i64 (szR left (szEnv d))) ∧ Below w.heap.size w w' := by
  obtain ⟨v2, v3, rfl, _q0, _q1, q2, q3⟩ := h
  have Q2 := Lib.hid q2
  clear q2
  have Q3 := Lib.hid q3
  clear q3
  have hE : szEnv d = szL d.names + szS szSlot d.slots := rfl
  have HE := Lib.hid hE
  clear hE
  have HWB := Lib.hid (show Below w.heap.size w (w.alloc (.cells #[.bool d.used, .int .i64 d.parent, v2, v3] 126)) from (Below.refl _ _).alloc (Nat.le_refl _) _)
  have HWK := Lib.hid (Blk.new w 126 [.bool d.used, .int .i64 d.parent, v2, v3])
  go_enter Tryz.func96, Tryz.ntmps96
  go_wp2_with fail
  refine abs_w (fun W => Blk W w.heap.size 126 [.bool d.used, .int .i64 d.parent, v2, v3] ∧ Below w.heap.size w W) ⟨by exact HWK.out, by exact HWB.out⟩ ?_
  clear HWK HWB
  rintro W0 ⟨hK0, hB0⟩
  have HWK := Lib.hid hK0
  have HWB := Lib.hid hB0
  clear hK0 hB0
  refine (laws_szStringS_b d.names v2 (left) _ (Q2.out.below HWB.out) (by omega) (by omega)).mono ?_
  rintro e w2 ⟨rfl, hb2⟩
  replace HWK := Lib.hid (HWK.out.below hb2)
  replace HWB := Lib.hid (HWB.out.trans (hb2.mono HWB.out.size))
  clear hb2
  by_cases hz2 : ((szL d.names : Nat) : Int) ≤ left
  rotate_left
  · rw [szR_neg hz2]
    go_wp2_with fail
    go_ret
    exact ⟨ret_int (by have h9 := HE.out; rw [szR_neg (by omega)]), by exact HWB.out⟩
  rw [szR_pos hz2]
  have x0 := HWK.out.cell 0 _ rfl
  have x1 := HWK.out.cell 1 _ rfl
  have x2 := HWK.out.cell 2 _ rfl
  have x3 := HWK.out.cell 3 _ rfl
  go_wp2_with fail
  clear x0 x1 x2 x3
  refine (laws_szSlotS d.slots v3 (left - ((szL d.names : Nat) : Int)) _ (Q3.out.below HWB.out) (by omega) (by omega)).mono ?_
  rintro e w3 ⟨rfl, hb3⟩
  replace HWK := Lib.hid (HWK.out.below hb3)
  replace HWB := Lib.hid (HWB.out.trans (hb3.mono HWB.out.size))
  clear hb3
  by_cases hz3 : ((szS szSlot d.slots : Nat) : Int) ≤ left - ((szL d.names : Nat) : Int)
  rotate_left
  · rw [szR_neg hz3]
    go_wp2_with fail
    go_ret
    exact ⟨ret_int (by have h9 := HE.out; rw [szR_neg (by omega)]), by exact HWB.out⟩
  rw [szR_pos hz3]
  have x0 := HWK.out.cell 0 _ rfl
  have x1 := HWK.out.cell 1 _ rfl
  have x2 := HWK.out.cell 2 _ rfl
  have x3 := HWK.out.cell 3 _ rfl
  go_wp2_with fail
  go_ret
  exact ⟨ret_int (by have h9 := HE.out; rw [szR_pos (by omega)]; omega), by exact HWB.out⟩

def RetEnv (w : World) (d : EnvD) (e : Ending) (w' : World) : Prop := ∃ cs, e = .returned (.agg cs.toArray) ∧ EnvO (Rng w.heap.size w'.heap.size) w' cs d ∧ Below w.heap.size w w'
set_option maxHeartbeats 4000000 in
theorem laws_toEnv (d : EnvD) (cs : List Value) (w : World) (h : EnvR w cs d) (hz : szEnv d ≤ 1048576) :
    Calls Tryz.prog 99 #[.agg cs.toArray] w (RetEnv w d) := by
  obtain ⟨v2, v3, rfl, q0, q1, q2, q3⟩ := h
  have QQ := Lib.hid (show True ∧ True ∧ I64 d.parent from ⟨trivial, q0, q1⟩)
  clear q0 q1
  have Q2 := Lib.hid q2
  clear q2
  have Q3 := Lib.hid q3
  clear q3
  unfold szEnv at hz
  go_enter Tryz.func99, Tryz.ntmps99
  go_wp2_with fail
  refine abs_w (fun W => Blk W w.heap.size 126 [.bool d.used, .int .i64 d.parent, v2, v3] ∧ Blk W (w.heap.size + 1) 71 [.bool false, .int .i64 0, .slice none 0 0, .slice none 0 0] ∧ Blk W (w.heap.size + 1 + 1) 71 [.bool d.used, .int .i64 d.parent, .slice none 0 0, .slice none 0 0] ∧ w.heap.size + 3 ≤ W.heap.size ∧ Below w.heap.size w W) ⟨by exact ((Blk.new _ _ _).alloc _).alloc _, by exact (Blk.new_at _ _ _ _ (by simp)).alloc _, by exact Blk.new_at _ _ _ _ (by simp), by simp, by exact (((Below.refl _ _).alloc (Nat.le_refl _) _).alloc (by simp) _).alloc (by simp; omega) _⟩ ?_
  rintro W2 ⟨hS1, hR1, hO1, hN2, hB1⟩
  refine (laws_toStringS_own d.names v2 _ (Q2.out.below hB1) (by omega)).mono ?_
  rintro e w2 ⟨A2, c2, rfl, o1, hb1⟩
  have HS := Lib.hid (hS1.below hb1)
  have HR := Lib.hid (hR1.below hb1)
  have HO := Lib.hid (hO1.below hb1)
  have HB := Lib.hid (hB1.trans (hb1.mono hB1.size))
  have hM2 : W2.heap.size ≤ w2.heap.size := hb1.size
  have O2 := Lib.hid o1
  clear hS1 hR1 hO1 hB1 hb1 o1 
  have s0 := HS.out.cell 0 _ rfl
  have s1 := HS.out.cell 1 _ rfl
  have s2 := HS.out.cell 2 _ rfl
  have s3 := HS.out.cell 3 _ rfl
  have o0 := HO.out.cell 0 _ rfl
  have o1 := HO.out.cell 1 _ rfl
  have o2 := HO.out.cell 2 _ rfl
  have o3 := HO.out.cell 3 _ rfl
  have fz := HO.out.frozen
  go_wp2_with fail
  clear s0 s1 s2 s3 o0 o1 o2 o3 fz
  refine abs_w (fun W => Blk W w.heap.size 126 [.bool d.used, .int .i64 d.parent, v2, v3] ∧ Blk W (w.heap.size + 1) 71 [.bool false, .int .i64 0, .slice none 0 0, .slice none 0 0] ∧ Blk W (w.heap.size + 1 + 1) 71 [.bool d.used, .int .i64 d.parent, .slice A2 d.names.length c2, .slice none 0 0] ∧ w2.heap.size ≤ W.heap.size ∧ Below w.heap.size w W ∧ TxtO (Rng W2.heap.size w2.heap.size) W (.slice A2 d.names.length c2) d.names) ⟨by exact (HS.out.far _ (by simp; omega) _), by exact (HR.out.far _ (by simp) _), by exact (HO.out.set_ 2 _), by simp [World.setCell], by exact (below_sc HB.out (by omega) _), by exact O2.out.keeps ((Keeps.refl _ _).sc (fun h => by have := h.1; omega) _)⟩ ?_
  clear HS HR HO HB O2
  rintro W3 ⟨hS1, hR1, hO1, hN3, hB1, hP2⟩
  refine (laws_toSlotS d.slots v3 _ (Q3.out.below hB1) (by omega)).mono ?_
  rintro e w3 ⟨A3, c3, rfl, o1, hb1⟩
  have HS := Lib.hid (hS1.below hb1)
  have HR := Lib.hid (hR1.below hb1)
  have HO := Lib.hid (hO1.below hb1)
  have HB := Lib.hid (hB1.trans (hb1.mono hB1.size))
  have hM3 : W3.heap.size ≤ w3.heap.size := hb1.size
  have O3 := Lib.hid o1
  have O2 := Lib.hid (hP2.keeps (Keeps.of_below _ hb1))
  clear hS1 hR1 hO1 hB1 hb1 o1 hP2
  have s0 := HS.out.cell 0 _ rfl
  have s1 := HS.out.cell 1 _ rfl
  have s2 := HS.out.cell 2 _ rfl
  have s3 := HS.out.cell 3 _ rfl
  have o0 := HO.out.cell 0 _ rfl
  have o1 := HO.out.cell 1 _ rfl
  have o2 := HO.out.cell 2 _ rfl
  have o3 := HO.out.cell 3 _ rfl
  have fz := HO.out.frozen
  have r0 := HR.out.cell 0 _ rfl
  have r1 := HR.out.cell 1 _ rfl
  have r2 := HR.out.cell 2 _ rfl
  have r3 := HR.out.cell 3 _ rfl
  have fr := HR.out.frozen
  go_wp2_with fail
  refine bodyPost_ret (v := .agg #[.bool d.used, .int .i64 d.parent, .slice A2 d.names.length c2, .slice A3 d.slots.length c3]) (by simp [results, Tryz.results99, go_sem, r0, r1, r2, r3]) rfl ?_
  clear s0 s1 s2 s3 o0 o1 o2 o3 r0 r1 r2 r3 fz fr
  have bm1 : w.heap.size ≤ w.heap.size + 1 := by omega
  have bm2 : w.heap.size ≤ w.heap.size + 1 + 1 := by omega
  obtain ⟨_, q0, q1⟩ := QQ.out
  refine ⟨_, rfl, ⟨A2, c2, A3, c3, fun b => if b < w2.heap.size then 2 else 3, rfl, q0, q1, ?_, ?_⟩, (below_sc (below_sc (below_sc (below_sc (below_sc HB.out bm2 _) bm1 _) bm1 _) bm1 _) bm1 _)⟩
  · have m1x : ¬ Rng W2.heap.size w2.heap.size (w.heap.size + 1) := fun h => by have := h.1; omega
    have m2x : ¬ Rng W2.heap.size w2.heap.size (w.heap.size + 1 + 1) := fun h => by have := h.1; omega
    refine (O2.out.keeps ((((((Keeps.refl _ _).sc m2x _).sc m1x _).sc m1x _).sc m1x _).sc m1x _)).mono (fun b hb => ?_)
    obtain ⟨x1, x2⟩ := hb
    refine ⟨⟨by omega, by simp only [size_sc]; omega⟩, ?_⟩
    dsimp only
    repeat (first | rfl | rw [if_pos (by omega)] | rw [if_neg (by omega)])
  · have m1x : ¬ Rng W3.heap.size w3.heap.size (w.heap.size + 1) := fun h => by have := h.1; omega
    have m2x : ¬ Rng W3.heap.size w3.heap.size (w.heap.size + 1 + 1) := fun h => by have := h.1; omega
    refine (O3.out.keeps ((((((Keeps.refl _ _).sc m2x _).sc m1x _).sc m1x _).sc m1x _).sc m1x _)).mono (fun b hb => ?_)
    obtain ⟨x1, x2⟩ := hb
    refine ⟨⟨by omega, by simp only [size_sc]; omega⟩, ?_⟩
    dsimp only
    repeat (first | rfl | rw [if_pos (by omega)] | rw [if_neg (by omega)])

set_option maxHeartbeats 1000000 in
theorem laws_eqEnv_same (d : EnvD) (cs cs' : List Value) (w : World) (h : EnvR w cs d) (h' : EnvR w cs' d) :
    Calls Tryz.prog 104 #[.agg cs.toArray, .agg cs'.toArray] w fun e w' => e = .returned (.bool true) ∧ Below w.heap.size w w' := by
  obtain ⟨v2, v3, rfl, _q0, _q1, q2, q3⟩ := h
  obtain ⟨u2, u3, rfl, _p0, _p1, p2, p3⟩ := h'
  have Q2 := Lib.hid q2
  have P2 := Lib.hid p2
  clear q2 p2
  have Q3 := Lib.hid q3
  have P3 := Lib.hid p3
  clear q3 p3
  go_enter Tryz.func104, Tryz.ntmps104
  go_wp2_with fail
  refine abs_w (fun W => Blk W w.heap.size 71 [.bool d.used, .int .i64 d.parent, v2, v3] ∧ Blk W (w.heap.size + 1) 71 [.bool d.used, .int .i64 d.parent, u2, u3] ∧ Below w.heap.size w W) ⟨by exact (Blk.new _ _ _).alloc _, by exact Blk.new_at _ _ _ _ (by simp), by exact ((Below.refl _ _).alloc (Nat.le_refl _) _).alloc (by simp) _⟩ ?_
  rintro W0 ⟨hK0, hL0, hB0⟩
  have HK := Lib.hid hK0
  have HL := Lib.hid hL0
  have HB := Lib.hid hB0
  clear hK0 hL0 hB0
  refine (laws_eqStringS_same d.names v2 u2 _ (Q2.out.below HB.out) (P2.out.below HB.out)).mono ?_
  rintro e w2 ⟨rfl, hb2⟩
  replace HK := Lib.hid (HK.out.below hb2)
  replace HL := Lib.hid (HL.out.below hb2)
  replace HB := Lib.hid (HB.out.trans (hb2.mono HB.out.size))
  clear hb2
  have s0 := HK.out.cell 0 _ rfl
  have s1 := HK.out.cell 1 _ rfl
  have s2 := HK.out.cell 2 _ rfl
  have s3 := HK.out.cell 3 _ rfl
  have o0 := HL.out.cell 0 _ rfl
  have o1 := HL.out.cell 1 _ rfl
  have o2 := HL.out.cell 2 _ rfl
  have o3 := HL.out.cell 3 _ rfl
  go_wp2_with fail
  clear s0 s1 s2 s3 o0 o1 o2 o3
  refine (laws_eqSlotS_same d.slots v3 u3 _ (Q3.out.below HB.out) (P3.out.below HB.out)).mono ?_
  rintro e w3 ⟨rfl, hb3⟩
  replace HK := Lib.hid (HK.out.below hb3)
  replace HL := Lib.hid (HL.out.below hb3)
  replace HB := Lib.hid (HB.out.trans (hb3.mono HB.out.size))
  clear hb3
  have s0 := HK.out.cell 0 _ rfl
  have s1 := HK.out.cell 1 _ rfl
  have s2 := HK.out.cell 2 _ rfl
  have s3 := HK.out.cell 3 _ rfl
  have o0 := HL.out.cell 0 _ rfl
  have o1 := HL.out.cell 1 _ rfl
  have o2 := HL.out.cell 2 _ rfl
  have o3 := HL.out.cell 3 _ rfl
  go_wp2_with fail
  clear s0 s1 s2 s3 o0 o1 o2 o3
  go_ret
  exact ⟨rfl, HB.out⟩

theorem open_EnvR {H : Type} {enc : TypeId × Value → H} {w : World} {base : Nat} {spare : Nat → Bool} {held : Bool} {n : Nat} {cs : List Value} {x : DataW H × List MemPlace} (h : DataW.trod enc Tryz.prog w base spare held n 126 cs = some x) : ∃ d, EnvR w cs d := by
  obtain ⟨hlen, n', hn, hg⟩ := open_field Tryz.underlying126 h
  match cs, hlen.trans (show Tryz.prog.cellsOf 126 = 4 by kernel_rfl) with
  | [c0, c1, c2, c3], _ =>
    obtain ⟨y0, g0⟩ := hg 0 _ rfl
    rw [show List.take (Tryz.prog.cellsOf _) (List.drop _ [c0, c1, c2, c3]) = [c0] by simp [cells_bool]] at g0
    obtain ⟨d0, e0⟩ := open_boo Tryz.underlying4 g0
    obtain ⟨y1, g1⟩ := hg 1 _ rfl
    rw [show List.take (Tryz.prog.cellsOf _) (List.drop _ [c0, c1, c2, c3]) = [c1] by simp [cells_int]] at g1
    obtain ⟨d1, e1, r1⟩ := open_i64 Tryz.underlying3 g1
    obtain ⟨y2, g2⟩ := hg 2 _ rfl
    rw [show List.take (Tryz.prog.cellsOf _) (List.drop _ [c0, c1, c2, c3]) = [c2] by simp [cells_slice_string]] at g2
    obtain ⟨a2, d2, e2, r2⟩ := open_slr Tryz.underlying43 cells_string (by decide) StrR (fun _ _ _ _ _ h => open_str Tryz.underlying9 h) g2
    obtain ⟨y3, g3⟩ := hg 3 _ rfl
    rw [show List.take (Tryz.prog.cellsOf _) (List.drop _ [c0, c1, c2, c3]) = [c3] by simp [cells_slice_Slot]] at g3
    obtain ⟨a3, d3, e3, r3⟩ := open_slr Tryz.underlying124 (show Tryz.prog.cellsOf 174 = 12 by kernel_rfl) (by decide) (SlotR w) (fun _ _ _ _ _ h => open_SlotR h) g3
    have e0 := e0
    unfold BoolR at e0
    simp only [List.cons.injEq, and_true] at e0
    subst e0
    simp only [List.cons.injEq, and_true] at e1
    subst e1
    simp only [List.cons.injEq, and_true] at e2
    subst e2
    simp only [List.cons.injEq, and_true] at e3
    subst e3
    exact ⟨⟨d0, d1, d2, d3⟩, _, _, rfl, trivial, r1, r2, r3⟩

def Envs (w : World) (v : Value) (l : List EnvD) : Prop := SlR w 4 (EnvR w) v l
theorem Envs.below {w w' : World} {v : Value} {l : List EnvD} (h : Envs w v l) (hb : Below w.heap.size w w') : Envs w' v l := SlR.below h hb (fun _ _ h => h.below hb)
def EnvsO (S : Nat → Prop) (w : World) (v : Value) (l : List EnvD) : Prop := SlO S w 71 4 EnvO v l
theorem EnvsO.read {S : Nat → Prop} {w : World} {v : Value} {l : List EnvD} (h : EnvsO S w v l) : Envs w v l := SlO.read (fun _ h => h.read) h
theorem EnvsO.keeps {S : Nat → Prop} {w w' : World} {v : Value} {l : List EnvD} (h : EnvsO S w v l) (hk : Keeps S w w') : EnvsO S w' v l := SlO.keeps (fun _ h k => h.keeps k) h hk
theorem EnvsO.mono {S S' : Nat → Prop} {w : World} {v : Value} {l : List EnvD} (h : EnvsO S w v l) (hs : ∀ b, S b → S' b) : EnvsO S' w v l := SlO.mono (fun _ h k => h.mono k) h hs
theorem cells_slice_Env : Tryz.prog.cellsOf 22 = 1 := by kernel_rfl
theorem info_Env : (Tryz.prog.info? 71).map (fun i => (i.zero, i.size, i.bytes)) = some (some (.agg #[.bool false, .int .i64 0, .slice none 0 0, .slice none 0 0]), 4, 64) := by kernel_rfl
set_option maxHeartbeats 1000000 in
theorem laws_szEnvS (l : List EnvD) (v : Value) (left : Int) (w : World) (h : Envs w v l) (h0 : 0 ≤ left) (h1 : left ≤ 1048576) :
    Calls Tryz.prog 43 #[v, .int .i64 left] w fun e w' => e = .returned (.int .i64 (szR left (szS szEnv l))) ∧ Below w.heap.size w w' := by
  obtain ⟨A, c, rfl, hlc, hm, HC⟩ := SlR.open_ h
  clear h
  unfold maxLen at hm
  by_cases hle : (l.length : Int) ≤ left
  · go_enter Tryz.func43, Tryz.ntmps43
    go_wp2_with fail
    go_loopw [1, 5] (fun x i wr => ∃ k : Nat, k ≤ l.length ∧ i = .int .i64 k ∧ ∃ y : Int, x = .int .i64 y ∧ 0 ≤ y ∧ y ≤ 1048576 ∧ Hid (y = left - l.length - (szS szEnv (l.take k) - k : Int)) ∧ Below w.heap.size w wr) (fun _ i _ => l.length - (intOf i).toNat)
    case atStart => exact ⟨0, Nat.zero_le _, rfl, _, rfl, by omega, by omega, by show _ = _; rw [szS_zero]; simp, Below.refl _ _⟩
    case round =>
      obtain ⟨k, hk, rfl, y, rfl, hy0, hy1, hy, hb⟩ := hrel
      by_cases hlt : k < l.length
      · obtain ⟨b, off, cs, rfl, hbl, _, hat, hr⟩ := HC.out k hlt
        have HRK := Lib.hid (hr.below hb)
        obtain ⟨v2, v3, rfl⟩ := hr.shape
        have x0 := (hb.cell (p := ⟨b, off + k * 4, none⟩) hbl).trans (by simpa using hat 0 _ rfl)
        have x1 := (hb.cell (p := ⟨b, off + k * 4 + 1, none⟩) hbl).trans (hat 1 _ rfl)
        have x2 := (hb.cell (p := ⟨b, off + k * 4 + 2, none⟩) hbl).trans (hat 2 _ rfl)
        have x3 := (hb.cell (p := ⟨b, off + k * 4 + 3, none⟩) hbl).trans (hat 3 _ rfl)
        have HS := Lib.hid (szS_take_succ szEnv l k hlt)
        clear hat hr
        go_wp2_with fail
        refine (laws_szEnv l[k] _ y _ HRK.out hy0 hy1).mono ?_
        rintro e w1 ⟨rfl, hb1⟩
        have HB1 := Lib.hid (hb.trans (hb1.mono hb.size))
        clear hb1 x0 x1 x2 x3
        by_cases hle2 : (szEnv l[k] : Int) ≤ y
        · rw [szR_pos hle2]
          go_wp2_with fail
          go_roundw
          case rel => exact ⟨k + 1, by omega, by go_num, _, rfl, by omega, by omega, by have := hy.out; have := HS.out; show _ = _; omega, HB1.out⟩
          case measure => simp [intOf]; omega
        · rw [szR_neg hle2]
          go_wp2_with fail
          go_ret
          refine ⟨ret_int ?_, HB1.out⟩
          have h9 := szS_take_le szEnv l (k + 1)
          rw [List.length_drop] at h9
          have := hy.out
          have := HS.out
          rw [szR_neg (by omega)]
      · obtain rfl : k = l.length := by omega
        rw [List.take_length] at hy
        go_wp2_with fail
        go_ret
        refine ⟨ret_int ?_, hb⟩
        have := hy.out
        rw [szR_pos (by omega)]
        omega
  · have h9 := szS_length szEnv l
    have HR := Lib.hid (szR_neg (left := left) (n := szS szEnv l) (by omega))
    go_enter Tryz.func43, Tryz.ntmps43
    go_wp2
    go_ret
    exact ⟨ret_int HR.out.symm, Below.refl _ _⟩

set_option maxHeartbeats 2000000 in
theorem laws_toEnvS (l : List EnvD) (v : Value) (w : World) (h : Envs w v l) (hz : szS szEnv l ≤ 1048576) :
    Calls Tryz.prog 47 #[v] w fun e w' => ∃ A c, e = .returned (.slice A l.length c) ∧ EnvsO (Rng w.heap.size w'.heap.size) w' (.slice A l.length c) l ∧ Below w.heap.size w w' := by
  have hl := szS_length szEnv l
  obtain ⟨A, c, rfl, hlc, hm, HC⟩ := SlR.open_ h
  clear h
  unfold maxLen at hm
  have hmk := run_mk (P := Tryz.prog) w 30 71 _ 4 64 Tryz.underlying30 info_Env l.length (by omega) (by omega)
  go_enter Tryz.func47, Tryz.ntmps47
  go_wp2
  clear hmk
  go_loopw [4] (fun i wr => ∃ k : Nat, k ≤ l.length ∧ i = .int .i64 k ∧ CopyO wr w.heap.size 71 4 l.length k (EnvO) l ∧ Below w.heap.size w wr ∧ w.heap.size < wr.heap.size) (fun i _ => l.length - (intOf i).toNat)
  case atStart => exact ⟨0, Nat.zero_le _, rfl, CopyO.start _ _ _ _ _ _ _ (by simp [size_madeCells]), (Below.refl _ _).alloc (Nat.le_refl _) _, by simp⟩
  case round =>
    obtain ⟨k, hk, rfl, hf, hb, hgt⟩ := hrel
    by_cases hlt : k < l.length
    · obtain ⟨b, off, cs, rfl, hbl, _, hat, hr⟩ := HC.out k hlt
      have HRK := Lib.hid (hr.below hb)
      obtain ⟨v2, v3, rfl⟩ := hr.shape
      have x0 := (hb.cell (p := ⟨b, off + k * 4, none⟩) hbl).trans (by simpa using hat 0 _ rfl)
      have x1 := (hb.cell (p := ⟨b, off + k * 4 + 1, none⟩) hbl).trans (hat 1 _ rfl)
      have x2 := (hb.cell (p := ⟨b, off + k * 4 + 2, none⟩) hbl).trans (hat 2 _ rfl)
      have x3 := (hb.cell (p := ⟨b, off + k * 4 + 3, none⟩) hbl).trans (hat 3 _ rfl)
      clear hat hr
      have hsk := szS_at szEnv l k hlt
      go_wp2_with fail
      refine (laws_toEnv l[k] _ _ HRK.out (by omega)).mono ?_
      rintro e w1 ⟨cs1, rfl, ho1, hb1⟩
      have HST := Lib.hid (CopyO.step (fun _ h k => h.keeps k) (fun _ h k => h.mono k) hf hb1 hlt hlt cs1 ho1.length ho1)
      have HB1 := Lib.hid (hb.trans (hb1.mono hb.size))
      have hg1 : w.heap.size < w1.heap.size := Nat.lt_of_lt_of_le hgt hb1.size
      obtain ⟨_, _, _, hfl, _⟩ := hf
      have hf1 := hfl.keep (hb1.block _ hfl.lt)
      obtain ⟨A2, c2, A3, c3, rfl⟩ := ho1.shape
      clear hb1 x0 x1 x2 x3 hfl ho1
      obtain ⟨t0, ht0⟩ := hf1.cell (k * 4) (by omega)
      have hz0 := hf1.frozen (k * 4)
      obtain ⟨t1, ht1⟩ := hf1.cell (k * 4 + 1) (by omega)
      have hz1 := hf1.frozen (k * 4 + 1)
      obtain ⟨t2, ht2⟩ := hf1.cell (k * 4 + 2) (by omega)
      have hz2 := hf1.frozen (k * 4 + 2)
      obtain ⟨t3, ht3⟩ := hf1.cell (k * 4 + 3) (by omega)
      have hz3 := hf1.frozen (k * 4 + 3)
      have HF1 := Lib.hid hf1
      clear hf1
      go_wp2_with fail
      go_roundw
      case rel => exact ⟨k + 1, by omega, by go_num, by exact HST.out, by exact (below_sc (below_sc (below_sc (below_sc HB1.out (Nat.le_refl _) _) (Nat.le_refl _) _) (Nat.le_refl _) _) (Nat.le_refl _) _), by simp only [size_sc]; exact hg1⟩
      case measure => simp [intOf]; omega
    · obtain rfl : k = l.length := by omega
      have ho := Lib.hid (CopyO.own (fun _ h k => h.mono k) hf (by unfold maxLen; omega))
      clear hf
      go_wp2_with fail
      go_ret
      exact ⟨_, _, rfl, ho.out, hb⟩

set_option maxHeartbeats 1000000 in
theorem laws_eqEnvS_same (l : List EnvD) (v u : Value) (w : World) (h : Envs w v l) (h' : Envs w u l) :
    Calls Tryz.prog 52 #[v, u] w fun e w' => e = .returned (.bool true) ∧ Below w.heap.size w w' := by
  obtain ⟨A, c, rfl, hlc, hm, HC⟩ := SlR.open_ h
  obtain ⟨A', c', rfl, hlc', hm', HC'⟩ := SlR.open_ h'
  clear h h'
  unfold maxLen at hm hm'
  go_enter Tryz.func52, Tryz.ntmps52
  go_wp2
  go_loopw [5] (fun i wr => ∃ k : Nat, k ≤ l.length ∧ i = .int .i64 k ∧ Below w.heap.size w wr) (fun i _ => l.length - (intOf i).toNat)
  case atStart => exact ⟨0, Nat.zero_le _, rfl, Below.refl _ _⟩
  case round =>
    obtain ⟨k, hk, rfl, hb⟩ := hrel
    by_cases hlt : k < l.length
    · obtain ⟨b, off, cs, rfl, hbl, _, hat, hr⟩ := HC.out k hlt
      have HRK := Lib.hid (hr.below hb)
      obtain ⟨v2, v3, rfl⟩ := hr.shape
      have x0 := (hb.cell (p := ⟨b, off + k * 4, none⟩) hbl).trans (by simpa using hat 0 _ rfl)
      have x1 := (hb.cell (p := ⟨b, off + k * 4 + 1, none⟩) hbl).trans (hat 1 _ rfl)
      have x2 := (hb.cell (p := ⟨b, off + k * 4 + 2, none⟩) hbl).trans (hat 2 _ rfl)
      have x3 := (hb.cell (p := ⟨b, off + k * 4 + 3, none⟩) hbl).trans (hat 3 _ rfl)
      clear hat hr
      obtain ⟨b', off', cs', rfl, hbl', _, hat, hr⟩ := HC'.out k hlt
      have HRL := Lib.hid (hr.below hb)
      obtain ⟨u2, u3, rfl⟩ := hr.shape
      have y0 := (hb.cell (p := ⟨b', off' + k * 4, none⟩) hbl').trans (by simpa using hat 0 _ rfl)
      have y1 := (hb.cell (p := ⟨b', off' + k * 4 + 1, none⟩) hbl').trans (hat 1 _ rfl)
      have y2 := (hb.cell (p := ⟨b', off' + k * 4 + 2, none⟩) hbl').trans (hat 2 _ rfl)
      have y3 := (hb.cell (p := ⟨b', off' + k * 4 + 3, none⟩) hbl').trans (hat 3 _ rfl)
      clear hat hr
      go_wp2_with fail
      go_still_tail 8, (by kernel_rfl)
      change wpList _ _ _ _ _ wr.drew
      have hb2 : Below w.heap.size w wr.drew := hb.drew
      replace HRK := Lib.hid (show EnvR wr.drew _ _ from HRK.out.below (Below.drew (Below.refl _ _)))
      replace HRL := Lib.hid (show EnvR wr.drew _ _ from HRL.out.below (Below.drew (Below.refl _ _)))
      generalize wr.drew = w2 at *
      go_wp2_with fail
      refine (laws_eqEnv_same l[k] _ _ _ HRK.out HRL.out).mono ?_
      rintro e w3 ⟨rfl, hb3⟩
      have HB3 := Lib.hid (hb2.trans (hb3.mono hb2.size))
      clear hb3
      go_wp2_with fail
      go_roundw
      case rel => exact ⟨k + 1, by omega, by go_num, HB3.out⟩
      case measure => simp [intOf]; omega
    · go_wp2_with fail
      go_ret
      exact ⟨rfl, hb⟩

end Go.Proofs.YtejieacdfjpfnaaGreat
