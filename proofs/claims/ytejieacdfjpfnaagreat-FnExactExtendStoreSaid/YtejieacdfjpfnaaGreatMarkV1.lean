/-
  Marking a vector that is handed over by value, and what is held of the marks.
-/
import Derived.Test.YtejieacdfjpfnaaGreatHeldVec
import Derived.Deep.DeepCutAuto
namespace Go.Proofs.YtejieacdfjpfnaaGreat
set_option maxRecDepth 100000
open Go.ChangeShapes Go.WideShapes Go.ChangeAt Go.RowKit Go.Deep
set_option linter.unusedVariables false

def cV1 (d : VecD) : Nat := cntL cItem d.items + cntL cVec d.parts + d.names.length + d.cls.length + d.levels.length
def markV (d : VecD) (k : Int) : VecD := .mk d.kind (mkL mkItem cItem d.items (k)) (mkL mkVec cVec d.parts (k + ↑(cntL cItem d.items))) (markL (k + ↑(cntL cItem d.items) + ↑(cntL cVec d.parts)).toNat d.names.length) (markL (k + ↑(cntL cItem d.items) + ↑(cntL cVec d.parts) + ↑d.names.length).toNat d.cls.length) (markL (k + ↑(cntL cItem d.items) + ↑(cntL cVec d.parts) + ↑d.names.length + ↑d.cls.length).toNat d.levels.length) d.code d.env

set_option maxHeartbeats 4000000 in
theorem laws_markVector (S : Nat → Prop) (d : VecD) (cs : List Value) (k : Int) (w : World) (h : VecO S w cs d) (hS : ¬ S w.heap.size) (h0 : 0 < k) (h1 : k + cV1 d ≤ 4611686018427387904) :
    Calls Tryz.prog 23 #[.agg cs.toArray, .int .i64 k] w (RetMark S w (k + cV1 d) fun w' => VecO S w' cs (markV d k)) := by
  obtain ⟨n, h⟩ := h
  obtain ⟨m, rfl⟩ : ∃ m, n = m + 1 := by
    cases n with
    | zero => exact h.elim
    | succ m => exact ⟨m, rfl⟩
  obtain ⟨A1, c1, A2, c2, A3, c3, A4, c4, A5, c5, f1, rfl, i0, o1, o2, o3, o4, o5, i6, i7⟩ := h
  have HS := Lib.hid hS
  have HI := Lib.hid (And.intro i0 (And.intro i6 i7))
  have hk1 : k + ↑(cntL cItem d.items) + ↑(cntL cVec d.parts) + ↑d.names.length + ↑d.cls.length + ↑d.levels.length ≤ 4611686018427387904 := by unfold cV1 at h1; omega
  have HKT := Lib.hid (show ((k + (cV1 d : Nat) : Int)) = k + ↑(cntL cItem d.items) + ↑(cntL cVec d.parts) + ↑d.names.length + ↑d.cls.length + ↑d.levels.length by unfold cV1; omega)
  have O1_0 := Lib.hid o1
  have O2_0 := Lib.hid (show VectorsO m _ w _ _ from o2)
  have O3_0 := Lib.hid o3
  have O4_0 := Lib.hid o4
  have O5_0 := Lib.hid o5
  have HK0 := Lib.hid (Keeps.of_below (fun b => ¬ S b) ((Below.refl w.heap.size w).alloc (Nat.le_refl _) (.cells [.int .i64 d.kind, .slice A1 d.items.length c1, .slice A2 d.parts.length c2, .slice A3 d.names.length c3, .slice A4 d.cls.length c4, .slice A5 d.levels.length c5, .int .i64 d.code, .int .i64 d.env].toArray 45)))
  have HB0 := Lib.hid (Blk.new w 45 [.int .i64 d.kind, .slice A1 d.items.length c1, .slice A2 d.parts.length c2, .slice A3 d.names.length c3, .slice A4 d.cls.length c4, .slice A5 d.levels.length c5, .int .i64 d.code, .int .i64 d.env])
  clear o1 o2 o3 o4 o5 hS h1 i0 i6 i7
  go_enter Tryz.func23, Tryz.ntmps23
  go_upto_region 1 with fail
  refine gen_w (G := fun W => Blk W w.heap.size 45 [.int .i64 d.kind, .slice A1 d.items.length c1, .slice A2 d.parts.length c2, .slice A3 d.names.length c3, .slice A4 d.cls.length c4, .slice A5 d.levels.length c5, .int .i64 d.code, .int .i64 d.env] ∧ Keeps (fun b => ¬ S b) w W ∧ Below 0 w W ∧ ItemsO (fun b => S b ∧ f1 b = 1) W (.slice A1 d.items.length c1) d.items ∧ VectorsO m (fun b => S b ∧ f1 b = 2) W (.slice A2 d.parts.length c2) d.parts ∧ TxtO (fun b => S b ∧ f1 b = 3) W (.slice A3 d.names.length c3) d.names ∧ TxtO (fun b => S b ∧ f1 b = 4) W (.slice A4 d.cls.length c4) d.cls ∧ TxtO (fun b => S b ∧ f1 b = 5) W (.slice A5 d.levels.length c5) d.levels) (show Ok _ _ from ⟨HB0.out, HK0.out, (Below.refl 0 w).alloc (Nat.zero_le _) _, ItemsO.keeps O1_0.out (Keeps.of_below _ ((Below.refl w.heap.size w).alloc (Nat.le_refl _) _)), VectorsO.keeps O2_0.out (Keeps.of_below _ ((Below.refl w.heap.size w).alloc (Nat.le_refl _) _)), TxtO.keeps O3_0.out (Keeps.of_below _ ((Below.refl w.heap.size w).alloc (Nat.le_refl _) _)), TxtO.keeps O4_0.out (Keeps.of_below _ ((Below.refl w.heap.size w).alloc (Nat.le_refl _) _)), TxtO.keeps O5_0.out (Keeps.of_below _ ((Below.refl w.heap.size w).alloc (Nat.le_refl _) _))⟩) ?_
  clear HB0 HK0 O1_0 O2_0 O3_0 O4_0 O5_0
  rintro W1 ⟨hq0, hq1, hq2, ho1, ho2, ho3, ho4, ho5⟩
  have HB1 := Lib.hid hq0
  have HK1 := Lib.hid hq1
  have HZ1 := Lib.hid hq2
  have O1_1 := Lib.hid ho1
  have O2_1 := Lib.hid ho2
  have O3_1 := Lib.hid ho3
  have O4_1 := Lib.hid ho4
  have O5_1 := Lib.hid ho5
  clear hq0 hq1 hq2 ho1 ho2 ho3 ho4 ho5
  have y1 := HB1.out.cell 1 _ rfl
  have hkc : 0 < k := by omega
  have hkb : k ≤ 4611686018427387904 := by omega
  go_wp2_with fail
  have hh := laws_markItemS (fun b => S b ∧ f1 b = 1) d.items _ (k) _ O1_1.out (by omega) (by omega)
  refine Calls.mono hh ?_
  clear hh y1 hkc hkb
  rintro e w2 ⟨rfl, ho, hk, hz⟩
  have HB2 := Lib.hid (HB1.out.keeps hk (fun hq => HS.out hq.1))
  have HZ2 := Lib.hid (HZ1.out.trans hz)
  have HK2 := Lib.hid (HK1.out.trans (hk.mono fun b hb hq => hb hq.1))
  have O1_2 := Lib.hid ho
  have O2_2 := Lib.hid (VectorsO.keeps O2_1.out (hk.mono fun b hb hq => by have h5 := hb.2; have h6 := hq.2; omega))
  have O3_2 := Lib.hid (TxtO.keeps O3_1.out (hk.mono fun b hb hq => by have h5 := hb.2; have h6 := hq.2; omega))
  have O4_2 := Lib.hid (TxtO.keeps O4_1.out (hk.mono fun b hb hq => by have h5 := hb.2; have h6 := hq.2; omega))
  have O5_2 := Lib.hid (TxtO.keeps O5_1.out (hk.mono fun b hb hq => by have h5 := hb.2; have h6 := hq.2; omega))
  clear ho hk hz
  have y2 := HB2.out.cell 2 _ rfl
  have hkc : 0 < k + ↑(cntL cItem d.items) := by omega
  have hkb : k + ↑(cntL cItem d.items) ≤ 4611686018427387904 := by omega
  go_wp2_with fail
  have hh := markVec_all m (fun b => S b ∧ f1 b = 2) d.parts _ (k + ↑(cntL cItem d.items)) _ O2_2.out (by omega) (by omega)
  refine Calls.mono hh ?_
  clear hh y2 hkc hkb
  rintro e w3 ⟨rfl, ho, hk, hz⟩
  have HB3 := Lib.hid (HB2.out.keeps hk (fun hq => HS.out hq.1))
  have HZ3 := Lib.hid (HZ2.out.trans hz)
  have HK3 := Lib.hid (HK2.out.trans (hk.mono fun b hb hq => hb hq.1))
  have O1_3 := Lib.hid (ItemsO.keeps O1_2.out (hk.mono fun b hb hq => by have h5 := hb.2; have h6 := hq.2; omega))
  have O2_3 := Lib.hid ho
  have O3_3 := Lib.hid (TxtO.keeps O3_2.out (hk.mono fun b hb hq => by have h5 := hb.2; have h6 := hq.2; omega))
  have O4_3 := Lib.hid (TxtO.keeps O4_2.out (hk.mono fun b hb hq => by have h5 := hb.2; have h6 := hq.2; omega))
  have O5_3 := Lib.hid (TxtO.keeps O5_2.out (hk.mono fun b hb hq => by have h5 := hb.2; have h6 := hq.2; omega))
  clear ho hk hz
  have y3 := HB3.out.cell 3 _ rfl
  have hkc : 0 < k + ↑(cntL cItem d.items) + ↑(cntL cVec d.parts) := by omega
  have hkb : k + ↑(cntL cItem d.items) + ↑(cntL cVec d.parts) ≤ 4611686018427387904 := by omega
  go_wp2_with fail
  have hh := laws_markTxt (fun b => S b ∧ f1 b = 3) d.names _ (k + ↑(cntL cItem d.items) + ↑(cntL cVec d.parts)) _ O3_3.out (by omega) (by omega)
  refine Calls.mono hh ?_
  clear hh y3 hkc hkb
  rintro e w4 ⟨rfl, ho, hk, hz⟩
  have HB4 := Lib.hid (HB3.out.keeps hk (fun hq => HS.out hq.1))
  have HZ4 := Lib.hid (HZ3.out.trans hz)
  have HK4 := Lib.hid (HK3.out.trans (hk.mono fun b hb hq => hb hq.1))
  have O1_4 := Lib.hid (ItemsO.keeps O1_3.out (hk.mono fun b hb hq => by have h5 := hb.2; have h6 := hq.2; omega))
  have O2_4 := Lib.hid (VectorsO.keeps O2_3.out (hk.mono fun b hb hq => by have h5 := hb.2; have h6 := hq.2; omega))
  have O3_4 := Lib.hid ho
  have O4_4 := Lib.hid (TxtO.keeps O4_3.out (hk.mono fun b hb hq => by have h5 := hb.2; have h6 := hq.2; omega))
  have O5_4 := Lib.hid (TxtO.keeps O5_3.out (hk.mono fun b hb hq => by have h5 := hb.2; have h6 := hq.2; omega))
  clear ho hk hz
  have y4 := HB4.out.cell 4 _ rfl
  have hkc : 0 < k + ↑(cntL cItem d.items) + ↑(cntL cVec d.parts) + ↑d.names.length := by omega
  have hkb : k + ↑(cntL cItem d.items) + ↑(cntL cVec d.parts) + ↑d.names.length ≤ 4611686018427387904 := by omega
  go_wp2_with fail
  have hh := laws_markTxt (fun b => S b ∧ f1 b = 4) d.cls _ (k + ↑(cntL cItem d.items) + ↑(cntL cVec d.parts) + ↑d.names.length) _ O4_4.out (by omega) (by omega)
  refine Calls.mono hh ?_
  clear hh y4 hkc hkb
  rintro e w5 ⟨rfl, ho, hk, hz⟩
  have HB5 := Lib.hid (HB4.out.keeps hk (fun hq => HS.out hq.1))
  have HZ5 := Lib.hid (HZ4.out.trans hz)
  have HK5 := Lib.hid (HK4.out.trans (hk.mono fun b hb hq => hb hq.1))
  have O1_5 := Lib.hid (ItemsO.keeps O1_4.out (hk.mono fun b hb hq => by have h5 := hb.2; have h6 := hq.2; omega))
  have O2_5 := Lib.hid (VectorsO.keeps O2_4.out (hk.mono fun b hb hq => by have h5 := hb.2; have h6 := hq.2; omega))
  have O3_5 := Lib.hid (TxtO.keeps O3_4.out (hk.mono fun b hb hq => by have h5 := hb.2; have h6 := hq.2; omega))
  have O4_5 := Lib.hid ho
  have O5_5 := Lib.hid (TxtO.keeps O5_4.out (hk.mono fun b hb hq => by have h5 := hb.2; have h6 := hq.2; omega))
  clear ho hk hz
  have y5 := HB5.out.cell 5 _ rfl
  have hkc : 0 < k + ↑(cntL cItem d.items) + ↑(cntL cVec d.parts) + ↑d.names.length + ↑d.cls.length := by omega
  have hkb : k + ↑(cntL cItem d.items) + ↑(cntL cVec d.parts) + ↑d.names.length + ↑d.cls.length ≤ 4611686018427387904 := by omega
  go_wp2_with fail
  have hh := laws_markTxt (fun b => S b ∧ f1 b = 5) d.levels _ (k + ↑(cntL cItem d.items) + ↑(cntL cVec d.parts) + ↑d.names.length + ↑d.cls.length) _ O5_5.out (by omega) (by omega)
  refine Calls.mono hh ?_
  clear hh y5 hkc hkb
  rintro e w6 ⟨rfl, ho, hk, hz⟩
  have HB6 := Lib.hid (HB5.out.keeps hk (fun hq => HS.out hq.1))
  have HZ6 := Lib.hid (HZ5.out.trans hz)
  have HK6 := Lib.hid (HK5.out.trans (hk.mono fun b hb hq => hb hq.1))
  have O1_6 := Lib.hid (ItemsO.keeps O1_5.out (hk.mono fun b hb hq => by have h5 := hb.2; have h6 := hq.2; omega))
  have O2_6 := Lib.hid (VectorsO.keeps O2_5.out (hk.mono fun b hb hq => by have h5 := hb.2; have h6 := hq.2; omega))
  have O3_6 := Lib.hid (TxtO.keeps O3_5.out (hk.mono fun b hb hq => by have h5 := hb.2; have h6 := hq.2; omega))
  have O4_6 := Lib.hid (TxtO.keeps O4_5.out (hk.mono fun b hb hq => by have h5 := hb.2; have h6 := hq.2; omega))
  have O5_6 := Lib.hid ho
  clear ho hk hz
  go_wp2_with fail
  go_ret
  refine ⟨ret_int HKT.out.symm, ⟨m + 1, A1, c1, A2, c2, A3, c3, A4, c4, A5, c5, f1, ?_, HI.out.1, ?_, ?_, ?_, ?_, ?_, HI.out.2.1, HI.out.2.2⟩, HK6.out, HZ6.out⟩
  · simp only [markV, kind_mk, items_mk, parts_mk, names_mk, cls_mk, levels_mk, code_mk, env_mk, mkL_length, markL_length]
  · have hO := O1_6.out
    simpa only [markV, items_mk, mkL_length] using hO
  · have hO := O2_6.out
    unfold VectorsO at hO
    simpa only [markV, parts_mk, mkL_length] using hO
  · have hO := O3_6.out
    simpa only [markV, names_mk, markL_length] using hO
  · have hO := O4_6.out
    simpa only [markV, cls_mk, markL_length] using hO
  · have hO := O5_6.out
    simpa only [markV, levels_mk, markL_length] using hO

set_option maxHeartbeats 4000000 in
theorem laws_heldVector (d : VecD) (cs : List Value) (k : Int) (w : World) (h : VecR w cs (markV d k)) (h0 : 0 < k) (h1 : k + cV1 d ≤ 4611686018427387904) :
    Calls Tryz.prog 24 #[.agg cs.toArray, .int .i64 k] w (RetHeld w (k + cV1 d)) := by
  obtain ⟨n, h⟩ := h
  obtain ⟨m, rfl⟩ : ∃ m, n = m + 1 := by
    cases n with
    | zero => exact h.elim
    | succ m => exact ⟨m, rfl⟩
  obtain ⟨v1, v2, v3, v4, v5, rfl, _, h2, h3, h4, h5, h6, _, _⟩ := h
  simp only [markV, kind_mk, items_mk, parts_mk, names_mk, cls_mk, levels_mk, code_mk, env_mk] at h2 h3 h4 h5 h6 ⊢
  have hk1 : k + ↑(cntL cItem d.items) + ↑(cntL cVec d.parts) + ↑d.names.length + ↑d.cls.length + ↑d.levels.length ≤ 4611686018427387904 := by unfold cV1 at h1; omega
  have HKT := Lib.hid (show ((k + (cV1 d : Nat) : Int)) = k + ↑(cntL cItem d.items) + ↑(cntL cVec d.parts) + ↑d.names.length + ↑d.cls.length + ↑d.levels.length by unfold cV1; omega)
  obtain ⟨G, g0, HG, B1⟩ := good1 w 45 [.int .i64 d.kind, v1, v2, v3, v4, v5, .int .i64 d.code, .int .i64 d.env]
  have H1 := Lib.hid h2
  have H2 := Lib.hid (show Vectors m w v2 _ from h3)
  have H3 := Lib.hid h4
  have H4 := Lib.hid h5
  have H5 := Lib.hid h6
  clear h2 h3 h4 h5 h6 h1
  have x0 := fun W (h : Ok G W) => (B1.out W h).cell 0 _ rfl
  have x1 := fun W (h : Ok G W) => (B1.out W h).cell 1 _ rfl
  have x2 := fun W (h : Ok G W) => (B1.out W h).cell 2 _ rfl
  have x3 := fun W (h : Ok G W) => (B1.out W h).cell 3 _ rfl
  have x4 := fun W (h : Ok G W) => (B1.out W h).cell 4 _ rfl
  have x5 := fun W (h : Ok G W) => (B1.out W h).cell 5 _ rfl
  have x6 := fun W (h : Ok G W) => (B1.out W h).cell 6 _ rfl
  have x7 := fun W (h : Ok G W) => (B1.out W h).cell 7 _ rfl
  go_enter Tryz.func24, Tryz.ntmps24
  go_upto_region 1 with fail
  refine gen_w g0 ?_
  clear g0
  intro W0 g0
  have hkc : 0 < k := by omega
  have hkb : k ≤ 4611686018427387904 := by omega
  go_wp2_with fail
  have hh := laws_heldItemS d.items _ (k) _ (Items.below H1.out (HG.out.below g0)) (by omega) (by omega)
  refine Calls.mono hh ?_
  clear hh hkc hkb
  rintro e w2 ⟨rfl, hb⟩
  replace g0 := HG.out.step g0 hb
  clear hb
  have hkc : 0 < k + ↑(cntL cItem d.items) := by omega
  have hkb : k + ↑(cntL cItem d.items) ≤ 4611686018427387904 := by omega
  go_wp2_with fail
  have hh := heldVec_all m d.parts _ (k + ↑(cntL cItem d.items)) _ (Vectors.below H2.out (HG.out.below g0)) (by omega) (by omega)
  refine Calls.mono hh ?_
  clear hh hkc hkb
  rintro e w2 ⟨rfl, hb⟩
  replace g0 := HG.out.step g0 hb
  clear hb
  have hkc : 0 < k + ↑(cntL cItem d.items) + ↑(cntL cVec d.parts) := by omega
  have hkb : k + ↑(cntL cItem d.items) + ↑(cntL cVec d.parts) ≤ 4611686018427387904 := by omega
  go_wp2_with fail
  have hh := laws_heldTxt d.names _ (k + ↑(cntL cItem d.items) + ↑(cntL cVec d.parts)) _ (Txts.below H3.out (HG.out.below g0)) (by omega) (by omega)
  refine Calls.mono hh ?_
  clear hh hkc hkb
  rintro e w2 ⟨rfl, hb⟩
  replace g0 := HG.out.step g0 hb
  clear hb
  have hkc : 0 < k + ↑(cntL cItem d.items) + ↑(cntL cVec d.parts) + ↑d.names.length := by omega
  have hkb : k + ↑(cntL cItem d.items) + ↑(cntL cVec d.parts) + ↑d.names.length ≤ 4611686018427387904 := by omega
  go_wp2_with fail
  have hh := laws_heldTxt d.cls _ (k + ↑(cntL cItem d.items) + ↑(cntL cVec d.parts) + ↑d.names.length) _ (Txts.below H4.out (HG.out.below g0)) (by omega) (by omega)
  refine Calls.mono hh ?_
  clear hh hkc hkb
  rintro e w2 ⟨rfl, hb⟩
  replace g0 := HG.out.step g0 hb
  clear hb
  have hkc : 0 < k + ↑(cntL cItem d.items) + ↑(cntL cVec d.parts) + ↑d.names.length + ↑d.cls.length := by omega
  have hkb : k + ↑(cntL cItem d.items) + ↑(cntL cVec d.parts) + ↑d.names.length + ↑d.cls.length ≤ 4611686018427387904 := by omega
  go_wp2_with fail
  have hh := laws_heldTxt d.levels _ (k + ↑(cntL cItem d.items) + ↑(cntL cVec d.parts) + ↑d.names.length + ↑d.cls.length) _ (Txts.below H5.out (HG.out.below g0)) (by omega) (by omega)
  refine Calls.mono hh ?_
  clear hh hkc hkb
  rintro e w2 ⟨rfl, hb⟩
  replace g0 := HG.out.step g0 hb
  clear hb
  have hkc : 0 < k + ↑(cntL cItem d.items) + ↑(cntL cVec d.parts) + ↑d.names.length + ↑d.cls.length + ↑d.levels.length := by omega
  go_wp2_with fail
  go_ret
  exact ⟨ret_int HKT.out.symm, HG.out.below g0⟩
end Go.Proofs.YtejieacdfjpfnaaGreat
