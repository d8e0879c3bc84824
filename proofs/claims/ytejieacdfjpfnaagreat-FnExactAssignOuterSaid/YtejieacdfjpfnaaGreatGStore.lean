/-
  Store: what values of this type read as; contracts of the laws' helpers on them (written by wip/gen/gen3.py).
-/
import Derived.Test.YtejieacdfjpfnaaGreatGEnv
import Derived.Test.YtejieacdfjpfnaaGreatGPromise
namespace Go.Proofs.YtejieacdfjpfnaaGreat
set_option maxRecDepth 100000
open Go.ChangeShapes Go.WideShapes Go.ChangeAt Go.RowKit Go.Deep

structure StoreD where
  envs : List EnvD
  promises : List PromD

/-- the cells of a Store -/
def StoreR (w : World) (cs : List Value) (d : StoreD) : Prop :=
  ∃ v0 v1, cs = [v0, v1] ∧ Envs w v0 d.envs ∧ Promises w v1 d.promises
theorem StoreR.below {w w' : World} {cs : List Value} {d : StoreD} (h : StoreR w cs d) (hb : Below w.heap.size w w') : StoreR w' cs d := by
  obtain ⟨v0, v1, rfl, h0, h1⟩ := h
  exact ⟨v0, v1, rfl, h0.below hb, h1.below hb⟩
theorem StoreR.shape {w : World} {cs : List Value} {d : StoreD} (h : StoreR w cs d) : ∃ v0 v1, cs = [v0, v1] := by
  obtain ⟨v0, v1, rfl, _⟩ := h
  exact ⟨v0, v1, rfl⟩
theorem StoreR.length {w : World} {cs : List Value} {d : StoreD} (h : StoreR w cs d) : cs.length = 2 := by
  obtain ⟨v0, v1, rfl, _⟩ := h
  rfl
/-- the cells of a Store whose slices lie in blocks of its own, in S -/
def StoreO (S : Nat → Prop) (w : World) (cs : List Value) (d : StoreD) : Prop :=
  ∃ (A0 : Option Addr) (c0 : Nat) (A1 : Option Addr) (c1 : Nat), ∃ f : Nat → Nat, cs = [.slice A0 d.envs.length c0, .slice A1 d.promises.length c1] ∧ EnvsO (fun b => S b ∧ f b = 0) w (.slice A0 d.envs.length c0) d.envs ∧ PromisesO (fun b => S b ∧ f b = 1) w (.slice A1 d.promises.length c1) d.promises
theorem StoreO.read {S : Nat → Prop} {w : World} {cs : List Value} {d : StoreD} (h : StoreO S w cs d) : StoreR w cs d := by
  obtain ⟨A0, c0, A1, c1, f, rfl, h0, h1⟩ := h
  exact ⟨_, _, rfl, h0.read, h1.read⟩
theorem StoreO.keeps {S : Nat → Prop} {w w' : World} {cs : List Value} {d : StoreD} (h : StoreO S w cs d) (hk : Keeps S w w') : StoreO S w' cs d := by
  obtain ⟨A0, c0, A1, c1, f, rfl, h0, h1⟩ := h
  exact ⟨A0, c0, A1, c1, f, rfl, h0.keeps (hk.mono fun _ h => h.1), h1.keeps (hk.mono fun _ h => h.1)⟩
theorem StoreO.mono {S S' : Nat → Prop} {w : World} {cs : List Value} {d : StoreD} (h : StoreO S w cs d) (hs : ∀ b, S b → S' b) : StoreO S' w cs d := by
  obtain ⟨A0, c0, A1, c1, f, rfl, h0, h1⟩ := h
  exact ⟨A0, c0, A1, c1, f, rfl, h0.mono (fun b h => ⟨hs b h.1, h.2⟩), h1.mono (fun b h => ⟨hs b h.1, h.2⟩)⟩
theorem StoreO.shape {S : Nat → Prop} {w : World} {cs : List Value} {d : StoreD} (h : StoreO S w cs d) : ∃ (A0 : Option Addr) (c0 : Nat) (A1 : Option Addr) (c1 : Nat), cs = [.slice A0 d.envs.length c0, .slice A1 d.promises.length c1] := by
  obtain ⟨A0, c0, A1, c1, f, rfl, _⟩ := h
  exact ⟨A0, c0, A1, c1, rfl⟩
theorem StoreO.length {S : Nat → Prop} {w : World} {cs : List Value} {d : StoreD} (h : StoreO S w cs d) : cs.length = 2 := by
  obtain ⟨A0, c0, A1, c1, f, rfl, _⟩ := h
  rfl

def szStore (d : StoreD) : Nat := szS szEnv d.envs + szS szPromise d.promises

set_option maxHeartbeats 1000000 in
theorem laws_szStore (d : StoreD) (cs : List Value) (left : Int) (w : World) (h : StoreR w cs d) (h0 : 0 ≤ left) (h1 : left ≤ 1048576) :
    Calls Tryz.prog 10 #[.agg cs.toArray, .int .i64 left] w fun e w' => e = .returned (.int .i64 (szR left (szStore d))) ∧ Below w.heap.size w w' := by
  obtain ⟨v0, v1, rfl, q0, q1⟩ := h
  have Q0 := Lib.hid q0
  clear q0
  have Q1 := Lib.hid q1
  clear q1
  have hE : szStore d = szS szEnv d.envs + szS szPromise d.promises := rfl
  have HE := Lib.hid hE
  clear hE
  have HWB := Lib.hid (show Below w.heap.size w (w.alloc (.cells #[v0, v1] 25)) from (Below.refl _ _).alloc (Nat.le_refl _) _)
  have HWK := Lib.hid (Blk.new w 25 [v0, v1])
  go_enter Tryz.func10, Tryz.ntmps10
  go_wp2_with fail
  refine abs_w (fun W => Blk W w.heap.size 25 [v0, v1] ∧ Below w.heap.size w W) ⟨by exact HWK.out, by exact HWB.out⟩ ?_
  clear HWK HWB
  rintro W0 ⟨hK0, hB0⟩
  have HWK := Lib.hid hK0
  have HWB := Lib.hid hB0
  clear hK0 hB0
  refine (laws_szEnvS d.envs v0 (left) _ (Q0.out.below HWB.out) (by omega) (by omega)).mono ?_
  rintro e w0 ⟨rfl, hb0⟩
  replace HWK := Lib.hid (HWK.out.below hb0)
  replace HWB := Lib.hid (HWB.out.trans (hb0.mono HWB.out.size))
  clear hb0
  by_cases hz0 : ((szS szEnv d.envs : Nat) : Int) ≤ left
  rotate_left
  · rw [szR_neg hz0]
    go_wp2_with fail
    go_ret
    exact ⟨ret_int (by have h9 := HE.out; rw [szR_neg (by omega)]), by exact HWB.out⟩
  rw [szR_pos hz0]
  have x0 := HWK.out.cell 0 _ rfl
  have x1 := HWK.out.cell 1 _ rfl
  go_wp2_with fail
  clear x0 x1
  refine (laws_szPromiseS d.promises v1 (left - ((szS szEnv d.envs : Nat) : Int)) _ (Q1.out.below HWB.out) (by omega) (by omega)).mono ?_
  rintro e w1 ⟨rfl, hb1⟩
  replace HWK := Lib.hid (HWK.out.below hb1)
  replace HWB := Lib.hid (HWB.out.trans (hb1.mono HWB.out.size))
  clear hb1
  by_cases hz1 : ((szS szPromise d.promises : Nat) : Int) ≤ left - ((szS szEnv d.envs : Nat) : Int)
  rotate_left
  · rw [szR_neg hz1]
    go_wp2_with fail
    go_ret
    exact ⟨ret_int (by have h9 := HE.out; rw [szR_neg (by omega)]), by exact HWB.out⟩
  rw [szR_pos hz1]
  have x0 := HWK.out.cell 0 _ rfl
  have x1 := HWK.out.cell 1 _ rfl
  go_wp2_with fail
  go_ret
  exact ⟨ret_int (by have h9 := HE.out; rw [szR_pos (by omega)]; omega), by exact HWB.out⟩

def RetStore (w : World) (d : StoreD) (e : Ending) (w' : World) : Prop := ∃ cs, e = .returned (.agg cs.toArray) ∧ StoreO (Rng w.heap.size w'.heap.size) w' cs d ∧ Below w.heap.size w w'
set_option maxHeartbeats 4000000 in
theorem laws_toStore (d : StoreD) (cs : List Value) (w : World) (h : StoreR w cs d) (hz : szStore d ≤ 1048576) :
    Calls Tryz.prog 12 #[.agg cs.toArray] w (RetStore w d) := by
  obtain ⟨v0, v1, rfl, q0, q1⟩ := h
  have QQ := Lib.hid trivial
  have Q0 := Lib.hid q0
  clear q0
  have Q1 := Lib.hid q1
  clear q1
  unfold szStore at hz
  go_enter Tryz.func12, Tryz.ntmps12
  go_wp2_with fail
  refine abs_w (fun W => Blk W w.heap.size 25 [v0, v1] ∧ Blk W (w.heap.size + 1) 33 [.slice none 0 0, .slice none 0 0] ∧ Blk W (w.heap.size + 1 + 1) 33 [.slice none 0 0, .slice none 0 0] ∧ w.heap.size + 3 ≤ W.heap.size ∧ Below w.heap.size w W) ⟨by exact ((Blk.new _ _ _).alloc _).alloc _, by exact (Blk.new_at _ _ _ _ (by simp)).alloc _, by exact Blk.new_at _ _ _ _ (by simp), by simp, by exact (((Below.refl _ _).alloc (Nat.le_refl _) _).alloc (by simp) _).alloc (by simp; omega) _⟩ ?_
  rintro W0 ⟨hS1, hR1, hO1, hN0, hB1⟩
  refine (laws_toEnvS d.envs v0 _ (Q0.out.below hB1) (by omega)).mono ?_
  rintro e w0 ⟨A0, c0, rfl, o1, hb1⟩
  have HS := Lib.hid (hS1.below hb1)
  have HR := Lib.hid (hR1.below hb1)
  have HO := Lib.hid (hO1.below hb1)
  have HB := Lib.hid (hB1.trans (hb1.mono hB1.size))
  have hM0 : W0.heap.size ≤ w0.heap.size := hb1.size
  have O0 := Lib.hid o1
  clear hS1 hR1 hO1 hB1 hb1 o1 
  have s0 := HS.out.cell 0 _ rfl
  have s1 := HS.out.cell 1 _ rfl
  have o0 := HO.out.cell 0 _ rfl
  have o1 := HO.out.cell 1 _ rfl
  have fz := HO.out.frozen
  go_wp2_with fail
  clear s0 s1 o0 o1 fz
  refine abs_w (fun W => Blk W w.heap.size 25 [v0, v1] ∧ Blk W (w.heap.size + 1) 33 [.slice none 0 0, .slice none 0 0] ∧ Blk W (w.heap.size + 1 + 1) 33 [.slice A0 d.envs.length c0, .slice none 0 0] ∧ w0.heap.size ≤ W.heap.size ∧ Below w.heap.size w W ∧ EnvsO (Rng W0.heap.size w0.heap.size) W (.slice A0 d.envs.length c0) d.envs) ⟨by exact (HS.out.far _ (by simp; omega) _), by exact (HR.out.far _ (by simp) _), by exact (HO.out.set_ 0 _), by simp [World.setCell], by exact (below_sc HB.out (by omega) _), by exact O0.out.keeps ((Keeps.refl _ _).sc (fun h => by have := h.1; omega) _)⟩ ?_
  clear HS HR HO HB O0
  rintro W1 ⟨hS1, hR1, hO1, hN1, hB1, hP0⟩
  refine (laws_toPromiseS d.promises v1 _ (Q1.out.below hB1) (by omega)).mono ?_
  rintro e w1 ⟨A1, c1, rfl, o1, hb1⟩
  have HS := Lib.hid (hS1.below hb1)
  have HR := Lib.hid (hR1.below hb1)
  have HO := Lib.hid (hO1.below hb1)
  have HB := Lib.hid (hB1.trans (hb1.mono hB1.size))
  have hM1 : W1.heap.size ≤ w1.heap.size := hb1.size
  have O1 := Lib.hid o1
  have O0 := Lib.hid (hP0.keeps (Keeps.of_below _ hb1))
  clear hS1 hR1 hO1 hB1 hb1 o1 hP0
  have s0 := HS.out.cell 0 _ rfl
  have s1 := HS.out.cell 1 _ rfl
  have o0 := HO.out.cell 0 _ rfl
  have o1 := HO.out.cell 1 _ rfl
  have fz := HO.out.frozen
  have r0 := HR.out.cell 0 _ rfl
  have r1 := HR.out.cell 1 _ rfl
  have fr := HR.out.frozen
  go_wp2_with fail
  refine bodyPost_ret (v := .agg #[.slice A0 d.envs.length c0, .slice A1 d.promises.length c1]) (by simp [results, Tryz.results12, go_sem, r0, r1]) rfl ?_
  clear s0 s1 o0 o1 r0 r1 fz fr
  have bm1 : w.heap.size ≤ w.heap.size + 1 := by omega
  have bm2 : w.heap.size ≤ w.heap.size + 1 + 1 := by omega
  refine ⟨_, rfl, ⟨A0, c0, A1, c1, fun b => if b < w0.heap.size then 0 else 1, rfl, ?_, ?_⟩, (below_sc (below_sc (below_sc HB.out bm2 _) bm1 _) bm1 _)⟩
  · have m1x : ¬ Rng W0.heap.size w0.heap.size (w.heap.size + 1) := fun h => by have := h.1; omega
    have m2x : ¬ Rng W0.heap.size w0.heap.size (w.heap.size + 1 + 1) := fun h => by have := h.1; omega
    refine (O0.out.keeps ((((Keeps.refl _ _).sc m2x _).sc m1x _).sc m1x _)).mono (fun b hb => ?_)
    obtain ⟨x1, x2⟩ := hb
    refine ⟨⟨by omega, by simp only [size_sc]; omega⟩, ?_⟩
    dsimp only
    repeat (first | rfl | rw [if_pos (by omega)] | rw [if_neg (by omega)])
  · have m1x : ¬ Rng W1.heap.size w1.heap.size (w.heap.size + 1) := fun h => by have := h.1; omega
    have m2x : ¬ Rng W1.heap.size w1.heap.size (w.heap.size + 1 + 1) := fun h => by have := h.1; omega
    refine (O1.out.keeps ((((Keeps.refl _ _).sc m2x _).sc m1x _).sc m1x _)).mono (fun b hb => ?_)
    obtain ⟨x1, x2⟩ := hb
    refine ⟨⟨by omega, by simp only [size_sc]; omega⟩, ?_⟩
    dsimp only
    repeat (first | rfl | rw [if_pos (by omega)] | rw [if_neg (by omega)])

set_option maxHeartbeats 1000000 in
theorem laws_eqStore_same (d : StoreD) (cs cs' : List Value) (w : World) (h : StoreR w cs d) (h' : StoreR w cs' d) :
    Calls Tryz.prog 16 #[.agg cs.toArray, .agg cs'.toArray] w fun e w' => e = .returned (.bool true) ∧ Below w.heap.size w w' := by
  obtain ⟨v0, v1, rfl, q0, q1⟩ := h
  obtain ⟨u0, u1, rfl, p0, p1⟩ := h'
  have Q0 := Lib.hid q0
  have P0 := Lib.hid p0
  clear q0 p0
  have Q1 := Lib.hid q1
  have P1 := Lib.hid p1
  clear q1 p1
  go_enter Tryz.func16, Tryz.ntmps16
  go_wp2_with fail
  refine abs_w (fun W => Blk W w.heap.size 33 [v0, v1] ∧ Blk W (w.heap.size + 1) 33 [u0, u1] ∧ Below w.heap.size w W) ⟨by exact (Blk.new _ _ _).alloc _, by exact Blk.new_at _ _ _ _ (by simp), by exact ((Below.refl _ _).alloc (Nat.le_refl _) _).alloc (by simp) _⟩ ?_
  rintro W0 ⟨hK0, hL0, hB0⟩
  have HK := Lib.hid hK0
  have HL := Lib.hid hL0
  have HB := Lib.hid hB0
  clear hK0 hL0 hB0
  refine (laws_eqEnvS_same d.envs v0 u0 _ (Q0.out.below HB.out) (P0.out.below HB.out)).mono ?_
  rintro e w0 ⟨rfl, hb0⟩
  replace HK := Lib.hid (HK.out.below hb0)
  replace HL := Lib.hid (HL.out.below hb0)
  replace HB := Lib.hid (HB.out.trans (hb0.mono HB.out.size))
  clear hb0
  have s0 := HK.out.cell 0 _ rfl
  have s1 := HK.out.cell 1 _ rfl
  have o0 := HL.out.cell 0 _ rfl
  have o1 := HL.out.cell 1 _ rfl
  go_wp2_with fail
  clear s0 s1 o0 o1
  refine (laws_eqPromiseS_same d.promises v1 u1 _ (Q1.out.below HB.out) (P1.out.below HB.out)).mono ?_
  rintro e w1 ⟨rfl, hb1⟩
  replace HK := Lib.hid (HK.out.below hb1)
  replace HL := Lib.hid (HL.out.below hb1)
  replace HB := Lib.hid (HB.out.trans (hb1.mono HB.out.size))
  clear hb1
  have s0 := HK.out.cell 0 _ rfl
  have s1 := HK.out.cell 1 _ rfl
  have o0 := HL.out.cell 0 _ rfl
  have o1 := HL.out.cell 1 _ rfl
  go_wp2_with fail
  clear s0 s1 o0 o1
  go_ret
  exact ⟨rfl, HB.out⟩

theorem open_StoreR {H : Type} {enc : TypeId × Value → H} {w : World} {base : Nat} {spare : Nat → Bool} {held : Bool} {n : Nat} {cs : List Value} {x : DataW H × List MemPlace} (h : DataW.trod enc Tryz.prog w base spare held n 25 cs = some x) : ∃ d, StoreR w cs d := by
  obtain ⟨hlen, n', hn, hg⟩ := open_field Tryz.underlying25 h
  match cs, hlen.trans (show Tryz.prog.cellsOf 25 = 2 by kernel_rfl) with
  | [c0, c1], _ =>
    obtain ⟨y0, g0⟩ := hg 0 _ rfl
    rw [show List.take (Tryz.prog.cellsOf _) (List.drop _ [c0, c1]) = [c0] by simp [cells_slice_Env]] at g0
    obtain ⟨a0, d0, e0, r0⟩ := open_slr Tryz.underlying22 (show Tryz.prog.cellsOf 126 = 4 by kernel_rfl) (by decide) (EnvR w) (fun _ _ _ _ _ h => open_EnvR h) g0
    obtain ⟨y1, g1⟩ := hg 1 _ rfl
    rw [show List.take (Tryz.prog.cellsOf _) (List.drop _ [c0, c1]) = [c1] by simp [cells_slice_Promise]] at g1
    obtain ⟨a1, d1, e1, r1⟩ := open_slr Tryz.underlying23 (show Tryz.prog.cellsOf 129 = 12 by kernel_rfl) (by decide) (PromiseR w) (fun _ _ _ _ _ h => open_PromiseR h) g1
    simp only [List.cons.injEq, and_true] at e0
    subst e0
    simp only [List.cons.injEq, and_true] at e1
    subst e1
    exact ⟨⟨d0, d1⟩, _, _, rfl, r0, r1⟩

theorem open_store {H : Type} {enc : TypeId × Value → H} {w : World} {base : Nat} {spare : Nat → Bool} {held : Bool} {v : Value} {d : DataW H} {p : List MemPlace} {r : Reach} {b0 : Nat} (hv : Value.okWide Tryz.prog w r b0 25 v) (h : DataW.Trod enc Tryz.prog w base spare held 25 v d p) : ∃ x : List Value × StoreD, v = .agg x.1.toArray ∧ StoreR w x.1 x.2 := by
  obtain ⟨cs, rfl, _⟩ := okWide_struct Tryz.underlying25 hv
  obtain ⟨fuel, hf⟩ := h
  obtain ⟨d, hd⟩ := open_StoreR hf
  exact ⟨(cs.toList, d), by simp, by simpa [Value.cells] using hd⟩

end Go.Proofs.YtejieacdfjpfnaaGreat
