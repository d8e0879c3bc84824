/-
  Promise: what values of this type read as; contracts of the laws' helpers on them (written by wip/gen/gen3.py).
-/
import Derived.Test.YtejieacdfjpfnaaGreatVecAll
import Derived.Test.YtejieacdfjpfnaaGreatIntS
namespace Go.Proofs.YtejieacdfjpfnaaGreat
set_option maxRecDepth 100000
open Go.ChangeShapes Go.WideShapes Go.ChangeAt Go.RowKit Go.Deep

structure PromD where
  used : Bool
  code : Int
  env : Int
  state : Int
  value : VecD

/-- the cells of a Promise -/
def PromiseR (w : World) (cs : List Value) (d : PromD) : Prop :=
  ∃ v41 v42 v43 v44 v45, cs = [.bool d.used, .int .i64 d.code, .int .i64 d.env, .int .i64 d.state, .int .i64 d.value.kind, v41, v42, v43, v44, v45, .int .i64 d.value.code, .int .i64 d.value.env] ∧ True ∧ I64 d.code ∧ I64 d.env ∧ I64 d.state ∧ VecR w [.int .i64 d.value.kind, v41, v42, v43, v44, v45, .int .i64 d.value.code, .int .i64 d.value.env] d.value
theorem PromiseR.below {w w' : World} {cs : List Value} {d : PromD} (h : PromiseR w cs d) (hb : Below w.heap.size w w') : PromiseR w' cs d := by
  obtain ⟨v41, v42, v43, v44, v45, rfl, h0, h1, h2, h3, h4⟩ := h
  exact ⟨v41, v42, v43, v44, v45, rfl, h0, h1, h2, h3, h4.below hb⟩
theorem PromiseR.shape {w : World} {cs : List Value} {d : PromD} (h : PromiseR w cs d) : ∃ v41 v42 v43 v44 v45, cs = [.bool d.used, .int .i64 d.code, .int .i64 d.env, .int .i64 d.state, .int .i64 d.value.kind, v41, v42, v43, v44, v45, .int .i64 d.value.code, .int .i64 d.value.env] := by
  obtain ⟨v41, v42, v43, v44, v45, rfl, _⟩ := h
  exact ⟨v41, v42, v43, v44, v45, rfl⟩
theorem PromiseR.length {w : World} {cs : List Value} {d : PromD} (h : PromiseR w cs d) : cs.length = 12 := by
  obtain ⟨v41, v42, v43, v44, v45, rfl, _⟩ := h
  rfl
/-- the cells of a Promise whose slices lie in blocks of its own, in S -/
def PromiseO (S : Nat → Prop) (w : World) (cs : List Value) (d : PromD) : Prop :=
  ∃ (A41 : Option Addr) (c41 : Nat) (A42 : Option Addr) (c42 : Nat) (A43 : Option Addr) (c43 : Nat) (A44 : Option Addr) (c44 : Nat) (A45 : Option Addr) (c45 : Nat), ∃ f : Nat → Nat, cs = [.bool d.used, .int .i64 d.code, .int .i64 d.env, .int .i64 d.state, .int .i64 d.value.kind, .slice A41 d.value.items.length c41, .slice A42 d.value.parts.length c42, .slice A43 d.value.names.length c43, .slice A44 d.value.cls.length c44, .slice A45 d.value.levels.length c45, .int .i64 d.value.code, .int .i64 d.value.env] ∧ True ∧ I64 d.code ∧ I64 d.env ∧ I64 d.state ∧ VecO (fun b => S b ∧ f b = 4) w [.int .i64 d.value.kind, .slice A41 d.value.items.length c41, .slice A42 d.value.parts.length c42, .slice A43 d.value.names.length c43, .slice A44 d.value.cls.length c44, .slice A45 d.value.levels.length c45, .int .i64 d.value.code, .int .i64 d.value.env] d.value
theorem PromiseO.read {S : Nat → Prop} {w : World} {cs : List Value} {d : PromD} (h : PromiseO S w cs d) : PromiseR w cs d := by
  obtain ⟨A41, c41, A42, c42, A43, c43, A44, c44, A45, c45, f, rfl, h0, h1, h2, h3, h4⟩ := h
  exact ⟨_, _, _, _, _, rfl, h0, h1, h2, h3, h4.read⟩
theorem PromiseO.keeps {S : Nat → Prop} {w w' : World} {cs : List Value} {d : PromD} (h : PromiseO S w cs d) (hk : Keeps S w w') : PromiseO S w' cs d := by
  obtain ⟨A41, c41, A42, c42, A43, c43, A44, c44, A45, c45, f, rfl, h0, h1, h2, h3, h4⟩ := h
  exact ⟨A41, c41, A42, c42, A43, c43, A44, c44, A45, c45, f, rfl, h0, h1, h2, h3, h4.keeps (hk.mono fun _ h => h.1)⟩
theorem PromiseO.mono {S S' : Nat → Prop} {w : World} {cs : List Value} {d : PromD} (h : PromiseO S w cs d) (hs : ∀ b, S b → S' b) : PromiseO S' w cs d := by
  obtain ⟨A41, c41, A42, c42, A43, c43, A44, c44, A45, c45, f, rfl, h0, h1, h2, h3, h4⟩ := h
  exact ⟨A41, c41, A42, c42, A43, c43, A44, c44, A45, c45, f, rfl, h0, h1, h2, h3, h4.mono (fun b h => ⟨hs b h.1, h.2⟩)⟩
theorem PromiseO.shape {S : Nat → Prop} {w : World} {cs : List Value} {d : PromD} (h : PromiseO S w cs d) : ∃ (A41 : Option Addr) (c41 : Nat) (A42 : Option Addr) (c42 : Nat) (A43 : Option Addr) (c43 : Nat) (A44 : Option Addr) (c44 : Nat) (A45 : Option Addr) (c45 : Nat), cs = [.bool d.used, .int .i64 d.code, .int .i64 d.env, .int .i64 d.state, .int .i64 d.value.kind, .slice A41 d.value.items.length c41, .slice A42 d.value.parts.length c42, .slice A43 d.value.names.length c43, .slice A44 d.value.cls.length c44, .slice A45 d.value.levels.length c45, .int .i64 d.value.code, .int .i64 d.value.env] := by
  obtain ⟨A41, c41, A42, c42, A43, c43, A44, c44, A45, c45, f, rfl, _⟩ := h
  exact ⟨A41, c41, A42, c42, A43, c43, A44, c44, A45, c45, rfl⟩
theorem PromiseO.length {S : Nat → Prop} {w : World} {cs : List Value} {d : PromD} (h : PromiseO S w cs d) : cs.length = 12 := by
  obtain ⟨A41, c41, A42, c42, A43, c43, A44, c44, A45, c45, f, rfl, _⟩ := h
  rfl

def szPromise (d : PromD) : Nat := szVector d.value

set_option maxHeartbeats 1000000 in
theorem laws_szPromise (d : PromD) (cs : List Value) (left : Int) (w : World) (h : PromiseR w cs d) (h0 : 0 ≤ left) (h1 : left ≤ 1048576) :
    Calls Tryz.prog 97 #[.agg cs.toArray, .int .i64 left] w fun e w' => e = .returned (.int .i64 (szR left (szPromise d))) ∧ Below w.heap.size w w' := by
  obtain ⟨v41, v42, v43, v44, v45, rfl, _q0, _q1, _q2, _q3, q4⟩ := h
  have Q4 := Lib.hid q4
  clear q4
  have hE : szPromise d = szVector d.value := rfl
  have HE := Lib.hid hE
  clear hE
  have HWB := Lib.hid (show Below w.heap.size w (w.alloc (.cells #[.bool d.used, .int .i64 d.code, .int .i64 d.env, .int .i64 d.state, .int .i64 d.value.kind, v41, v42, v43, v44, v45, .int .i64 d.value.code, .int .i64 d.value.env] 129)) from (Below.refl _ _).alloc (Nat.le_refl _) _)
  have HWK := Lib.hid (Blk.new w 129 [.bool d.used, .int .i64 d.code, .int .i64 d.env, .int .i64 d.state, .int .i64 d.value.kind, v41, v42, v43, v44, v45, .int .i64 d.value.code, .int .i64 d.value.env])
  go_enter Tryz.func97, Tryz.ntmps97
  go_wp2_with fail
  refine abs_w (fun W => Blk W w.heap.size 129 [.bool d.used, .int .i64 d.code, .int .i64 d.env, .int .i64 d.state, .int .i64 d.value.kind, v41, v42, v43, v44, v45, .int .i64 d.value.code, .int .i64 d.value.env] ∧ Below w.heap.size w W) ⟨by exact HWK.out, by exact HWB.out⟩ ?_
  clear HWK HWB
  rintro W0 ⟨hK0, hB0⟩
  have HWK := Lib.hid hK0
  have HWB := Lib.hid hB0
  clear hK0 hB0
  refine (laws_szVec d.value _ (left) _ (Q4.out.below HWB.out) (by omega) (by omega)).mono ?_
  rintro e w4 ⟨rfl, hb4⟩
  replace HWK := Lib.hid (HWK.out.below hb4)
  replace HWB := Lib.hid (HWB.out.trans (hb4.mono HWB.out.size))
  clear hb4
  by_cases hz4 : ((szVector d.value : Nat) : Int) ≤ left
  rotate_left
  · rw [szR_neg hz4]
    go_wp2_with fail
    go_ret
    exact ⟨ret_int (by have h9 := HE.out; rw [szR_neg (by omega)]), by exact HWB.out⟩
  rw [szR_pos hz4]
  have x0 := HWK.out.cell 0 _ rfl
  have x1 := HWK.out.cell 1 _ rfl
  have x2 := HWK.out.cell 2 _ rfl
  have x3 := HWK.out.cell 3 _ rfl
  have x4 := HWK.out.cell 4 _ rfl
  have x5 := HWK.out.cell 5 _ rfl
  have x6 := HWK.out.cell 6 _ rfl
  have x7 := HWK.out.cell 7 _ rfl
  have x8 := HWK.out.cell 8 _ rfl
  have x9 := HWK.out.cell 9 _ rfl
  have x10 := HWK.out.cell 10 _ rfl
  have x11 := HWK.out.cell 11 _ rfl
  go_wp2_with fail
  go_ret
  exact ⟨ret_int (by have h9 := HE.out; rw [szR_pos (by omega)]; omega), by exact HWB.out⟩

def RetPromise (w : World) (d : PromD) (e : Ending) (w' : World) : Prop := ∃ cs, e = .returned (.agg cs.toArray) ∧ PromiseO (Rng w.heap.size w'.heap.size) w' cs d ∧ Below w.heap.size w w'
set_option maxHeartbeats 4000000 in
theorem laws_toPromise (d : PromD) (cs : List Value) (w : World) (h : PromiseR w cs d) (hz : szPromise d ≤ 1048576) :
    Calls Tryz.prog 100 #[.agg cs.toArray] w (RetPromise w d) := by
  obtain ⟨v41, v42, v43, v44, v45, rfl, q0, q1, q2, q3, q4⟩ := h
  have QQ := Lib.hid (show True ∧ True ∧ I64 d.code ∧ I64 d.env ∧ I64 d.state from ⟨trivial, q0, q1, q2, q3⟩)
  clear q0 q1 q2 q3
  have Q4 := Lib.hid q4
  clear q4
  unfold szPromise at hz
  go_enter Tryz.func100, Tryz.ntmps100
  go_wp2_with fail
  refine abs_w (fun W => Blk W w.heap.size 129 [.bool d.used, .int .i64 d.code, .int .i64 d.env, .int .i64 d.state, .int .i64 d.value.kind, v41, v42, v43, v44, v45, .int .i64 d.value.code, .int .i64 d.value.env] ∧ Blk W (w.heap.size + 1) 74 [.bool false, .int .i64 0, .int .i64 0, .int .i64 0, .int .i64 0, .slice none 0 0, .slice none 0 0, .slice none 0 0, .slice none 0 0, .slice none 0 0, .int .i64 0, .int .i64 0] ∧ Blk W (w.heap.size + 1 + 1) 74 [.bool d.used, .int .i64 d.code, .int .i64 d.env, .int .i64 d.state, .int .i64 0, .slice none 0 0, .slice none 0 0, .slice none 0 0, .slice none 0 0, .slice none 0 0, .int .i64 0, .int .i64 0] ∧ w.heap.size + 3 ≤ W.heap.size ∧ Below w.heap.size w W) ⟨by exact ((Blk.new _ _ _).alloc _).alloc _, by exact (Blk.new_at _ _ _ _ (by simp)).alloc _, by exact Blk.new_at _ _ _ _ (by simp), by simp, by exact (((Below.refl _ _).alloc (Nat.le_refl _) _).alloc (by simp) _).alloc (by simp; omega) _⟩ ?_
  rintro W4 ⟨hS1, hR1, hO1, hN4, hB1⟩
  refine (laws_toVec d.value _ _ (Q4.out.below hB1) (by omega)).mono ?_
  rintro e w4 ⟨cv, rfl, o1, hb1⟩
  obtain ⟨A41, c41, A42, c42, A43, c43, A44, c44, A45, c45, rfl⟩ := o1.shape
  have HS := Lib.hid (hS1.below hb1)
  have HR := Lib.hid (hR1.below hb1)
  have HO := Lib.hid (hO1.below hb1)
  have HB := Lib.hid (hB1.trans (hb1.mono hB1.size))
  have hM4 : W4.heap.size ≤ w4.heap.size := hb1.size
  have O4 := Lib.hid o1
  clear hS1 hR1 hO1 hB1 hb1 o1 
  have s0 := HS.out.cell 0 _ rfl
  have s1 := HS.out.cell 1 _ rfl
  have s2 := HS.out.cell 2 _ rfl
  have s3 := HS.out.cell 3 _ rfl
  have s4 := HS.out.cell 4 _ rfl
  have s5 := HS.out.cell 5 _ rfl
  have s6 := HS.out.cell 6 _ rfl
  have s7 := HS.out.cell 7 _ rfl
  have s8 := HS.out.cell 8 _ rfl
  have s9 := HS.out.cell 9 _ rfl
  have s10 := HS.out.cell 10 _ rfl
  have s11 := HS.out.cell 11 _ rfl
  have o0 := HO.out.cell 0 _ rfl
  have o1 := HO.out.cell 1 _ rfl
  have o2 := HO.out.cell 2 _ rfl
  have o3 := HO.out.cell 3 _ rfl
  have o4 := HO.out.cell 4 _ rfl
  have o5 := HO.out.cell 5 _ rfl
  have o6 := HO.out.cell 6 _ rfl
  have o7 := HO.out.cell 7 _ rfl
  have o8 := HO.out.cell 8 _ rfl
  have o9 := HO.out.cell 9 _ rfl
  have o10 := HO.out.cell 10 _ rfl
  have o11 := HO.out.cell 11 _ rfl
  have fz := HO.out.frozen
  have r0 := HR.out.cell 0 _ rfl
  have r1 := HR.out.cell 1 _ rfl
  have r2 := HR.out.cell 2 _ rfl
  have r3 := HR.out.cell 3 _ rfl
  have r4 := HR.out.cell 4 _ rfl
  have r5 := HR.out.cell 5 _ rfl
  have r6 := HR.out.cell 6 _ rfl
  have r7 := HR.out.cell 7 _ rfl
  have r8 := HR.out.cell 8 _ rfl
  have r9 := HR.out.cell 9 _ rfl
  have r10 := HR.out.cell 10 _ rfl
  have r11 := HR.out.cell 11 _ rfl
  have fr := HR.out.frozen
  go_wp2_with fail
  refine bodyPost_ret (v := .agg #[.bool d.used, .int .i64 d.code, .int .i64 d.env, .int .i64 d.state, .int .i64 d.value.kind, .slice A41 d.value.items.length c41, .slice A42 d.value.parts.length c42, .slice A43 d.value.names.length c43, .slice A44 d.value.cls.length c44, .slice A45 d.value.levels.length c45, .int .i64 d.value.code, .int .i64 d.value.env]) (by simp [results, Tryz.results100, go_sem, r0, r1, r2, r3, r4, r5, r6, r7, r8, r9, r10, r11]) rfl ?_
  clear s0 s1 s2 s3 s4 s5 s6 s7 s8 s9 s10 s11 o0 o1 o2 o3 o4 o5 o6 o7 o8 o9 o10 o11 r0 r1 r2 r3 r4 r5 r6 r7 r8 r9 r10 r11 fz fr
  have bm1 : w.heap.size ≤ w.heap.size + 1 := by omega
  have bm2 : w.heap.size ≤ w.heap.size + 1 + 1 := by omega
  obtain ⟨_, q0, q1, q2, q3⟩ := QQ.out
  refine ⟨_, rfl, ⟨A41, c41, A42, c42, A43, c43, A44, c44, A45, c45, fun _ => 4, rfl, q0, q1, q2, q3, ?_⟩, (below_sc (below_sc (below_sc (below_sc (below_sc (below_sc (below_sc (below_sc (below_sc (below_sc (below_sc (below_sc (below_sc (below_sc (below_sc (below_sc (below_sc (below_sc (below_sc (below_sc HB.out bm2 _) bm2 _) bm2 _) bm2 _) bm2 _) bm2 _) bm2 _) bm2 _) bm1 _) bm1 _) bm1 _) bm1 _) bm1 _) bm1 _) bm1 _) bm1 _) bm1 _) bm1 _) bm1 _) bm1 _)⟩
  · have m1x : ¬ Rng W4.heap.size w4.heap.size (w.heap.size + 1) := fun h => by have := h.1; omega
    have m2x : ¬ Rng W4.heap.size w4.heap.size (w.heap.size + 1 + 1) := fun h => by have := h.1; omega
    refine (O4.out.keeps (((((((((((((((((((((Keeps.refl _ _).sc m2x _).sc m2x _).sc m2x _).sc m2x _).sc m2x _).sc m2x _).sc m2x _).sc m2x _).sc m1x _).sc m1x _).sc m1x _).sc m1x _).sc m1x _).sc m1x _).sc m1x _).sc m1x _).sc m1x _).sc m1x _).sc m1x _).sc m1x _)).mono (fun b hb => ?_)
    obtain ⟨x1, x2⟩ := hb
    refine ⟨⟨by omega, by simp only [size_sc]; omega⟩, ?_⟩
    rfl

set_option maxHeartbeats 1000000 in
theorem laws_eqPromise_same (d : PromD) (cs cs' : List Value) (w : World) (h : PromiseR w cs d) (h' : PromiseR w cs' d) :
    Calls Tryz.prog 105 #[.agg cs.toArray, .agg cs'.toArray] w fun e w' => e = .returned (.bool true) ∧ Below w.heap.size w w' := by
  obtain ⟨v41, v42, v43, v44, v45, rfl, _q0, _q1, _q2, _q3, q4⟩ := h
  obtain ⟨u41, u42, u43, u44, u45, rfl, _p0, _p1, _p2, _p3, p4⟩ := h'
  have Q4 := Lib.hid q4
  have P4 := Lib.hid p4
  clear q4 p4
  go_enter Tryz.func105, Tryz.ntmps105
  go_wp2_with fail
  refine abs_w (fun W => Blk W w.heap.size 74 [.bool d.used, .int .i64 d.code, .int .i64 d.env, .int .i64 d.state, .int .i64 d.value.kind, v41, v42, v43, v44, v45, .int .i64 d.value.code, .int .i64 d.value.env] ∧ Blk W (w.heap.size + 1) 74 [.bool d.used, .int .i64 d.code, .int .i64 d.env, .int .i64 d.state, .int .i64 d.value.kind, u41, u42, u43, u44, u45, .int .i64 d.value.code, .int .i64 d.value.env] ∧ Below w.heap.size w W) ⟨by exact (Blk.new _ _ _).alloc _, by exact Blk.new_at _ _ _ _ (by simp), by exact ((Below.refl _ _).alloc (Nat.le_refl _) _).alloc (by simp) _⟩ ?_
  rintro W0 ⟨hK0, hL0, hB0⟩
  have HK := Lib.hid hK0
  have HL := Lib.hid hL0
  have HB := Lib.hid hB0
  clear hK0 hL0 hB0
  refine (laws_eqVec_same d.value _ _ _ (Q4.out.below HB.out) (P4.out.below HB.out)).mono ?_
  rintro e w4 ⟨rfl, hb4⟩
  replace HK := Lib.hid (HK.out.below hb4)
  replace HL := Lib.hid (HL.out.below hb4)
  replace HB := Lib.hid (HB.out.trans (hb4.mono HB.out.size))
  clear hb4
  have s0 := HK.out.cell 0 _ rfl
  have s1 := HK.out.cell 1 _ rfl
  have s2 := HK.out.cell 2 _ rfl
  have s3 := HK.out.cell 3 _ rfl
  have s4 := HK.out.cell 4 _ rfl
  have s5 := HK.out.cell 5 _ rfl
  have s6 := HK.out.cell 6 _ rfl
  have s7 := HK.out.cell 7 _ rfl
  have s8 := HK.out.cell 8 _ rfl
  have s9 := HK.out.cell 9 _ rfl
  have s10 := HK.out.cell 10 _ rfl
  have s11 := HK.out.cell 11 _ rfl
  have o0 := HL.out.cell 0 _ rfl
  have o1 := HL.out.cell 1 _ rfl
  have o2 := HL.out.cell 2 _ rfl
  have o3 := HL.out.cell 3 _ rfl
  have o4 := HL.out.cell 4 _ rfl
  have o5 := HL.out.cell 5 _ rfl
  have o6 := HL.out.cell 6 _ rfl
  have o7 := HL.out.cell 7 _ rfl
  have o8 := HL.out.cell 8 _ rfl
  have o9 := HL.out.cell 9 _ rfl
  have o10 := HL.out.cell 10 _ rfl
  have o11 := HL.out.cell 11 _ rfl
  go_wp2_with fail
  clear s0 s1 s2 s3 s4 s5 s6 s7 s8 s9 s10 s11 o0 o1 o2 o3 o4 o5 o6 o7 o8 o9 o10 o11
  go_ret
  exact ⟨rfl, HB.out⟩

theorem open_PromiseR {H : Type} {enc : TypeId × Value → H} {w : World} {base : Nat} {spare : Nat → Bool} {held : Bool} {n : Nat} {cs : List Value} {x : DataW H × List MemPlace} (h : DataW.trod enc Tryz.prog w base spare held n 129 cs = some x) : ∃ d, PromiseR w cs d := by
  obtain ⟨hlen, n', hn, hg⟩ := open_field Tryz.underlying129 h
  match cs, hlen.trans (show Tryz.prog.cellsOf 129 = 12 by kernel_rfl) with
  | [c0, c1, c2, c3, c4, c5, c6, c7, c8, c9, c10, c11], _ =>
    obtain ⟨y0, g0⟩ := hg 0 _ rfl
    rw [show List.take (Tryz.prog.cellsOf _) (List.drop _ [c0, c1, c2, c3, c4, c5, c6, c7, c8, c9, c10, c11]) = [c0] by simp [cells_bool]] at g0
    obtain ⟨d0, e0⟩ := open_boo Tryz.underlying4 g0
    obtain ⟨y1, g1⟩ := hg 1 _ rfl
    rw [show List.take (Tryz.prog.cellsOf _) (List.drop _ [c0, c1, c2, c3, c4, c5, c6, c7, c8, c9, c10, c11]) = [c1] by simp [cells_int]] at g1
    obtain ⟨d1, e1, r1⟩ := open_i64 Tryz.underlying3 g1
    obtain ⟨y2, g2⟩ := hg 2 _ rfl
    rw [show List.take (Tryz.prog.cellsOf _) (List.drop _ [c0, c1, c2, c3, c4, c5, c6, c7, c8, c9, c10, c11]) = [c2] by simp [cells_int]] at g2
    obtain ⟨d2, e2, r2⟩ := open_i64 Tryz.underlying3 g2
    obtain ⟨y3, g3⟩ := hg 3 _ rfl
    rw [show List.take (Tryz.prog.cellsOf _) (List.drop _ [c0, c1, c2, c3, c4, c5, c6, c7, c8, c9, c10, c11]) = [c3] by simp [cells_int]] at g3
    obtain ⟨d3, e3, r3⟩ := open_i64 Tryz.underlying3 g3
    obtain ⟨y4, g4⟩ := hg 4 _ rfl
    rw [show List.take (Tryz.prog.cellsOf _) (List.drop _ [c0, c1, c2, c3, c4, c5, c6, c7, c8, c9, c10, c11]) = [c4, c5, c6, c7, c8, c9, c10, c11] by simp [cells_Vector]] at g4
    obtain ⟨d4, r4⟩ := open_VecR g4
    have e0 := e0
    unfold BoolR at e0
    simp only [List.cons.injEq, and_true] at e0
    subst e0
    simp only [List.cons.injEq, and_true] at e1
    subst e1
    simp only [List.cons.injEq, and_true] at e2
    subst e2
    simp only [List.cons.injEq, and_true] at e3
    subst e3
    obtain ⟨b41, b42, b43, b44, b45, hs4⟩ := r4.shape
    simp only [List.cons.injEq, and_true] at hs4
    obtain ⟨rfl, rfl, rfl, rfl, rfl, rfl, rfl, rfl⟩ := hs4
    exact ⟨⟨d0, d1, d2, d3, d4⟩, _, _, _, _, _, rfl, trivial, r1, r2, r3, r4⟩

def Promises (w : World) (v : Value) (l : List PromD) : Prop := SlR w 12 (PromiseR w) v l
theorem Promises.below {w w' : World} {v : Value} {l : List PromD} (h : Promises w v l) (hb : Below w.heap.size w w') : Promises w' v l := SlR.below h hb (fun _ _ h => h.below hb)
def PromisesO (S : Nat → Prop) (w : World) (v : Value) (l : List PromD) : Prop := SlO S w 74 12 PromiseO v l
theorem PromisesO.read {S : Nat → Prop} {w : World} {v : Value} {l : List PromD} (h : PromisesO S w v l) : Promises w v l := SlO.read (fun _ h => h.read) h
theorem PromisesO.keeps {S : Nat → Prop} {w w' : World} {v : Value} {l : List PromD} (h : PromisesO S w v l) (hk : Keeps S w w') : PromisesO S w' v l := SlO.keeps (fun _ h k => h.keeps k) h hk
theorem PromisesO.mono {S S' : Nat → Prop} {w : World} {v : Value} {l : List PromD} (h : PromisesO S w v l) (hs : ∀ b, S b → S' b) : PromisesO S' w v l := SlO.mono (fun _ h k => h.mono k) h hs
theorem cells_slice_Promise : Tryz.prog.cellsOf 23 = 1 := by kernel_rfl
theorem info_Promise : (Tryz.prog.info? 74).map (fun i => (i.zero, i.size, i.bytes)) = some (some (.agg #[.bool false, .int .i64 0, .int .i64 0, .int .i64 0, .int .i64 0, .slice none 0 0, .slice none 0 0, .slice none 0 0, .slice none 0 0, .slice none 0 0, .int .i64 0, .int .i64 0]), 12, 176) := by kernel_rfl
set_option maxHeartbeats 1000000 in
theorem laws_szPromiseS (l : List PromD) (v : Value) (left : Int) (w : World) (h : Promises w v l) (h0 : 0 ≤ left) (h1 : left ≤ 1048576) :
    Calls Tryz.prog 44 #[v, .int .i64 left] w fun e w' => e = .returned (.int .i64 (szR left (szS szPromise l))) ∧ Below w.heap.size w w' := by
  obtain ⟨A, c, rfl, hlc, hm, HC⟩ := SlR.open_ h
  clear h
  unfold maxLen at hm
  by_cases hle : (l.length : Int) ≤ left
  · go_enter Tryz.func44, Tryz.ntmps44
    go_wp2_with fail
    go_loopw [1, 5] (fun x i wr => ∃ k : Nat, k ≤ l.length ∧ i = .int .i64 k ∧ ∃ y : Int, x = .int .i64 y ∧ 0 ≤ y ∧ y ≤ 1048576 ∧ Hid (y = left - l.length - (szS szPromise (l.take k) - k : Int)) ∧ Below w.heap.size w wr) (fun _ i _ => l.length - (intOf i).toNat)
    case atStart => exact ⟨0, Nat.zero_le _, rfl, _, rfl, by omega, by omega, by show _ = _; rw [szS_zero]; simp, Below.refl _ _⟩
    case round =>
      obtain ⟨k, hk, rfl, y, rfl, hy0, hy1, hy, hb⟩ := hrel
      by_cases hlt : k < l.length
      · obtain ⟨b, off, cs, rfl, hbl, _, hat, hr⟩ := HC.out k hlt
        have HRK := Lib.hid (hr.below hb)
        obtain ⟨v41, v42, v43, v44, v45, rfl⟩ := hr.shape
        have x0 := (hb.cell (p := ⟨b, off + k * 12, none⟩) hbl).trans (by simpa using hat 0 _ rfl)
        have x1 := (hb.cell (p := ⟨b, off + k * 12 + 1, none⟩) hbl).trans (hat 1 _ rfl)
        have x2 := (hb.cell (p := ⟨b, off + k * 12 + 2, none⟩) hbl).trans (hat 2 _ rfl)
        have x3 := (hb.cell (p := ⟨b, off + k * 12 + 3, none⟩) hbl).trans (hat 3 _ rfl)
        have x4 := (hb.cell (p := ⟨b, off + k * 12 + 4, none⟩) hbl).trans (hat 4 _ rfl)
        have x5 := (hb.cell (p := ⟨b, off + k * 12 + 5, none⟩) hbl).trans (hat 5 _ rfl)
        have x6 := (hb.cell (p := ⟨b, off + k * 12 + 6, none⟩) hbl).trans (hat 6 _ rfl)
        have x7 := (hb.cell (p := ⟨b, off + k * 12 + 7, none⟩) hbl).trans (hat 7 _ rfl)
        have x8 := (hb.cell (p := ⟨b, off + k * 12 + 8, none⟩) hbl).trans (hat 8 _ rfl)
        have x9 := (hb.cell (p := ⟨b, off + k * 12 + 9, none⟩) hbl).trans (hat 9 _ rfl)
        have x10 := (hb.cell (p := ⟨b, off + k * 12 + 10, none⟩) hbl).trans (hat 10 _ rfl)
        have x11 := (hb.cell (p := ⟨b, off + k * 12 + 11, none⟩) hbl).trans (hat 11 _ rfl)
        have HS := Lib.hid (szS_take_succ szPromise l k hlt)
        clear hat hr
        go_wp2_with fail
        refine (laws_szPromise l[k] _ y _ HRK.out hy0 hy1).mono ?_
        rintro e w1 ⟨rfl, hb1⟩
        have HB1 := Lib.hid (hb.trans (hb1.mono hb.size))
        clear hb1 x0 x1 x2 x3 x4 x5 x6 x7 x8 x9 x10 x11
        by_cases hle2 : (szPromise l[k] : Int) ≤ y
        · rw [szR_pos hle2]
          go_wp2_with fail
          go_roundw
          case rel => exact ⟨k + 1, by omega, by go_num, _, rfl, by omega, by omega, by have := hy.out; have := HS.out; show _ = _; omega, HB1.out⟩
          case measure => simp [intOf]; omega
        · rw [szR_neg hle2]
          go_wp2_with fail
          go_ret
          refine ⟨ret_int ?_, HB1.out⟩
          have h9 := szS_take_le szPromise l (k + 1)
          rw [List.length_drop] at h9
          have := hy.out
          have := HS.out
          rw [szR_neg (by omega)]
      · obtain rfl : k = l.length := by omega
        rw [List.take_length] at hy
        go_wp2_with fail
        go_ret
        refine ⟨ret_int ?_, hb⟩
        have := hy.out
        rw [szR_pos (by omega)]
        omega
  · have h9 := szS_length szPromise l
    have HR := Lib.hid (szR_neg (left := left) (n := szS szPromise l) (by omega))
    go_enter Tryz.func44, Tryz.ntmps44
    go_wp2
    go_ret
    exact ⟨ret_int HR.out.symm, Below.refl _ _⟩

set_option maxHeartbeats 2000000 in
theorem laws_toPromiseS (l : List PromD) (v : Value) (w : World) (h : Promises w v l) (hz : szS szPromise l ≤ 1048576) :
    Calls Tryz.prog 48 #[v] w fun e w' => ∃ A c, e = .returned (.slice A l.length c) ∧ PromisesO (Rng w.heap.size w'.heap.size) w' (.slice A l.length c) l ∧ Below w.heap.size w w' := by
  have hl := szS_length szPromise l
  obtain ⟨A, c, rfl, hlc, hm, HC⟩ := SlR.open_ h
  clear h
  unfold maxLen at hm
  have hmk := run_mk (P := Tryz.prog) w 31 74 _ 12 176 Tryz.underlying31 info_Promise l.length (by omega) (by omega)
  go_enter Tryz.func48, Tryz.ntmps48
  go_wp2
  clear hmk
  go_loopw [4] (fun i wr => ∃ k : Nat, k ≤ l.length ∧ i = .int .i64 k ∧ CopyO wr w.heap.size 74 12 l.length k (PromiseO) l ∧ Below w.heap.size w wr ∧ w.heap.size < wr.heap.size) (fun i _ => l.length - (intOf i).toNat)
  case atStart => exact ⟨0, Nat.zero_le _, rfl, CopyO.start _ _ _ _ _ _ _ (by simp [size_madeCells]), (Below.refl _ _).alloc (Nat.le_refl _) _, by simp⟩
  case round =>
    obtain ⟨k, hk, rfl, hf, hb, hgt⟩ := hrel
    by_cases hlt : k < l.length
    · obtain ⟨b, off, cs, rfl, hbl, _, hat, hr⟩ := HC.out k hlt
      have HRK := Lib.hid (hr.below hb)
      obtain ⟨v41, v42, v43, v44, v45, rfl⟩ := hr.shape
      have x0 := (hb.cell (p := ⟨b, off + k * 12, none⟩) hbl).trans (by simpa using hat 0 _ rfl)
      have x1 := (hb.cell (p := ⟨b, off + k * 12 + 1, none⟩) hbl).trans (hat 1 _ rfl)
      have x2 := (hb.cell (p := ⟨b, off + k * 12 + 2, none⟩) hbl).trans (hat 2 _ rfl)
      have x3 := (hb.cell (p := ⟨b, off + k * 12 + 3, none⟩) hbl).trans (hat 3 _ rfl)
      have x4 := (hb.cell (p := ⟨b, off + k * 12 + 4, none⟩) hbl).trans (hat 4 _ rfl)
      have x5 := (hb.cell (p := ⟨b, off + k * 12 + 5, none⟩) hbl).trans (hat 5 _ rfl)
      have x6 := (hb.cell (p := ⟨b, off + k * 12 + 6, none⟩) hbl).trans (hat 6 _ rfl)
      have x7 := (hb.cell (p := ⟨b, off + k * 12 + 7, none⟩) hbl).trans (hat 7 _ rfl)
      have x8 := (hb.cell (p := ⟨b, off + k * 12 + 8, none⟩) hbl).trans (hat 8 _ rfl)
      have x9 := (hb.cell (p := ⟨b, off + k * 12 + 9, none⟩) hbl).trans (hat 9 _ rfl)
      have x10 := (hb.cell (p := ⟨b, off + k * 12 + 10, none⟩) hbl).trans (hat 10 _ rfl)
      have x11 := (hb.cell (p := ⟨b, off + k * 12 + 11, none⟩) hbl).trans (hat 11 _ rfl)
      clear hat hr
      have hsk := szS_at szPromise l k hlt
      go_wp2_with fail
      refine (laws_toPromise l[k] _ _ HRK.out (by omega)).mono ?_
      rintro e w1 ⟨cs1, rfl, ho1, hb1⟩
      have HST := Lib.hid (CopyO.step (fun _ h k => h.keeps k) (fun _ h k => h.mono k) hf hb1 hlt hlt cs1 ho1.length ho1)
      have HB1 := Lib.hid (hb.trans (hb1.mono hb.size))
      have hg1 : w.heap.size < w1.heap.size := Nat.lt_of_lt_of_le hgt hb1.size
      obtain ⟨_, _, _, hfl, _⟩ := hf
      have hf1 := hfl.keep (hb1.block _ hfl.lt)
      obtain ⟨A41, c41, A42, c42, A43, c43, A44, c44, A45, c45, rfl⟩ := ho1.shape
      clear hb1 x0 x1 x2 x3 x4 x5 x6 x7 x8 x9 x10 x11 hfl ho1
      obtain ⟨t0, ht0⟩ := hf1.cell (k * 12) (by omega)
      have hz0 := hf1.frozen (k * 12)
      obtain ⟨t1, ht1⟩ := hf1.cell (k * 12 + 1) (by omega)
      have hz1 := hf1.frozen (k * 12 + 1)
      obtain ⟨t2, ht2⟩ := hf1.cell (k * 12 + 2) (by omega)
      have hz2 := hf1.frozen (k * 12 + 2)
      obtain ⟨t3, ht3⟩ := hf1.cell (k * 12 + 3) (by omega)
      have hz3 := hf1.frozen (k * 12 + 3)
      obtain ⟨t4, ht4⟩ := hf1.cell (k * 12 + 4) (by omega)
      have hz4 := hf1.frozen (k * 12 + 4)
      obtain ⟨t5, ht5⟩ := hf1.cell (k * 12 + 5) (by omega)
      have hz5 := hf1.frozen (k * 12 + 5)
      obtain ⟨t6, ht6⟩ := hf1.cell (k * 12 + 6) (by omega)
      have hz6 := hf1.frozen (k * 12 + 6)
      obtain ⟨t7, ht7⟩ := hf1.cell (k * 12 + 7) (by omega)
      have hz7 := hf1.frozen (k * 12 + 7)
      obtain ⟨t8, ht8⟩ := hf1.cell (k * 12 + 8) (by omega)
      have hz8 := hf1.frozen (k * 12 + 8)
      obtain ⟨t9, ht9⟩ := hf1.cell (k * 12 + 9) (by omega)
      have hz9 := hf1.frozen (k * 12 + 9)
      obtain ⟨t10, ht10⟩ := hf1.cell (k * 12 + 10) (by omega)
      have hz10 := hf1.frozen (k * 12 + 10)
      obtain ⟨t11, ht11⟩ := hf1.cell (k * 12 + 11) (by omega)
      have hz11 := hf1.frozen (k * 12 + 11)
      have HF1 := Lib.hid hf1
      clear hf1
      go_wp2_with fail
      go_roundw
      case rel => exact ⟨k + 1, by omega, by go_num, by exact HST.out, by exact (below_sc (below_sc (below_sc (below_sc (below_sc (below_sc (below_sc (below_sc (below_sc (below_sc (below_sc (below_sc HB1.out (Nat.le_refl _) _) (Nat.le_refl _) _) (Nat.le_refl _) _) (Nat.le_refl _) _) (Nat.le_refl _) _) (Nat.le_refl _) _) (Nat.le_refl _) _) (Nat.le_refl _) _) (Nat.le_refl _) _) (Nat.le_refl _) _) (Nat.le_refl _) _) (Nat.le_refl _) _), by simp only [size_sc]; exact hg1⟩
      case measure => simp [intOf]; omega
    · obtain rfl : k = l.length := by omega
      have ho := Lib.hid (CopyO.own (fun _ h k => h.mono k) hf (by unfold maxLen; omega))
      clear hf
      go_wp2_with fail
      go_ret
      exact ⟨_, _, rfl, ho.out, hb⟩

set_option maxHeartbeats 1000000 in
theorem laws_eqPromiseS_same (l : List PromD) (v u : Value) (w : World) (h : Promises w v l) (h' : Promises w u l) :
    Calls Tryz.prog 53 #[v, u] w fun e w' => e = .returned (.bool true) ∧ Below w.heap.size w w' := by
  obtain ⟨A, c, rfl, hlc, hm, HC⟩ := SlR.open_ h
  obtain ⟨A', c', rfl, hlc', hm', HC'⟩ := SlR.open_ h'
  clear h h'
  unfold maxLen at hm hm'
  go_enter Tryz.func53, Tryz.ntmps53
  go_wp2
  go_loopw [5] (fun i wr => ∃ k : Nat, k ≤ l.length ∧ i = .int .i64 k ∧ Below w.heap.size w wr) (fun i _ => l.length - (intOf i).toNat)
  case atStart => exact ⟨0, Nat.zero_le _, rfl, Below.refl _ _⟩
  case round =>
    obtain ⟨k, hk, rfl, hb⟩ := hrel
    by_cases hlt : k < l.length
    · obtain ⟨b, off, cs, rfl, hbl, _, hat, hr⟩ := HC.out k hlt
      have HRK := Lib.hid (hr.below hb)
      obtain ⟨v41, v42, v43, v44, v45, rfl⟩ := hr.shape
      have x0 := (hb.cell (p := ⟨b, off + k * 12, none⟩) hbl).trans (by simpa using hat 0 _ rfl)
      have x1 := (hb.cell (p := ⟨b, off + k * 12 + 1, none⟩) hbl).trans (hat 1 _ rfl)
      have x2 := (hb.cell (p := ⟨b, off + k * 12 + 2, none⟩) hbl).trans (hat 2 _ rfl)
      have x3 := (hb.cell (p := ⟨b, off + k * 12 + 3, none⟩) hbl).trans (hat 3 _ rfl)
      have x4 := (hb.cell (p := ⟨b, off + k * 12 + 4, none⟩) hbl).trans (hat 4 _ rfl)
      have x5 := (hb.cell (p := ⟨b, off + k * 12 + 5, none⟩) hbl).trans (hat 5 _ rfl)
      have x6 := (hb.cell (p := ⟨b, off + k * 12 + 6, none⟩) hbl).trans (hat 6 _ rfl)
      have x7 := (hb.cell (p := ⟨b, off + k * 12 + 7, none⟩) hbl).trans (hat 7 _ rfl)
      have x8 := (hb.cell (p := ⟨b, off + k * 12 + 8, none⟩) hbl).trans (hat 8 _ rfl)
      have x9 := (hb.cell (p := ⟨b, off + k * 12 + 9, none⟩) hbl).trans (hat 9 _ rfl)
      have x10 := (hb.cell (p := ⟨b, off + k * 12 + 10, none⟩) hbl).trans (hat 10 _ rfl)
      have x11 := (hb.cell (p := ⟨b, off + k * 12 + 11, none⟩) hbl).trans (hat 11 _ rfl)
      clear hat hr
      obtain ⟨b', off', cs', rfl, hbl', _, hat, hr⟩ := HC'.out k hlt
      have HRL := Lib.hid (hr.below hb)
      obtain ⟨u41, u42, u43, u44, u45, rfl⟩ := hr.shape
      have y0 := (hb.cell (p := ⟨b', off' + k * 12, none⟩) hbl').trans (by simpa using hat 0 _ rfl)
      have y1 := (hb.cell (p := ⟨b', off' + k * 12 + 1, none⟩) hbl').trans (hat 1 _ rfl)
      have y2 := (hb.cell (p := ⟨b', off' + k * 12 + 2, none⟩) hbl').trans (hat 2 _ rfl)
      have y3 := (hb.cell (p := ⟨b', off' + k * 12 + 3, none⟩) hbl').trans (hat 3 _ rfl)
      have y4 := (hb.cell (p := ⟨b', off' + k * 12 + 4, none⟩) hbl').trans (hat 4 _ rfl)
      have y5 := (hb.cell (p := ⟨b', off' + k * 12 + 5, none⟩) hbl').trans (hat 5 _ rfl)
      have y6 := (hb.cell (p := ⟨b', off' + k * 12 + 6, none⟩) hbl').trans (hat 6 _ rfl)
      have y7 := (hb.cell (p := ⟨b', off' + k * 12 + 7, none⟩) hbl').trans (hat 7 _ rfl)
      have y8 := (hb.cell (p := ⟨b', off' + k * 12 + 8, none⟩) hbl').trans (hat 8 _ rfl)
      have y9 := (hb.cell (p := ⟨b', off' + k * 12 + 9, none⟩) hbl').trans (hat 9 _ rfl)
      have y10 := (hb.cell (p := ⟨b', off' + k * 12 + 10, none⟩) hbl').trans (hat 10 _ rfl)
      have y11 := (hb.cell (p := ⟨b', off' + k * 12 + 11, none⟩) hbl').trans (hat 11 _ rfl)
      clear hat hr
      go_wp2_with fail
      go_still_tail 8, (by kernel_rfl)
      change wpList _ _ _ _ _ wr.drew
      have hb2 : Below w.heap.size w wr.drew := hb.drew
      replace HRK := Lib.hid (show PromiseR wr.drew _ _ from HRK.out.below (Below.drew (Below.refl _ _)))
      replace HRL := Lib.hid (show PromiseR wr.drew _ _ from HRL.out.below (Below.drew (Below.refl _ _)))
      generalize wr.drew = w2 at *
      go_wp2_with fail
      refine (laws_eqPromise_same l[k] _ _ _ HRK.out HRL.out).mono ?_
      rintro e w3 ⟨rfl, hb3⟩
      have HB3 := Lib.hid (hb2.trans (hb3.mono hb2.size))
      clear hb3
      go_wp2_with fail
      go_roundw
      case rel => exact ⟨k + 1, by omega, by go_num, HB3.out⟩
      case measure => simp [intOf]; omega
    · go_wp2_with fail
      go_ret
      exact ⟨rfl, hb⟩

end Go.Proofs.YtejieacdfjpfnaaGreat
