/-
  Marking a segment that is handed over by value.
-/
import Derived.Test.YtaliiodngekahaaMarkInstr
import Derived.Test.YtaliiodngekahaaMarkInt
import Derived.Test.YtaliiodngekahaaGSegment
import Derived.Deep.DeepCutAuto
namespace Go.Proofs.Ytaliiodngekahaa
set_option maxRecDepth 100000
open Go.ChangeShapes Go.WideShapes Go.ChangeAt Go.RowKit Go.Deep
set_option linter.unusedVariables false

def cSeg (d : SegD) : Nat := d.labels.length + d.defaults.length + cntL cInstr d.instrs
def markSeg (d : SegD) (k : Int) : SegD := ⟨(markL (k).toNat d.labels.length), (markI (k + ↑d.labels.length).toNat d.defaults.length), (mkL mkInstr cInstr d.instrs (k + ↑d.labels.length + ↑d.defaults.length))⟩

set_option maxHeartbeats 4000000 in
theorem laws_markSegment (S : Nat → Prop) (d : SegD) (cs : List Value) (k : Int) (w : World) (h : SegmentO S w cs d) (hS : ¬ S w.heap.size) (h0 : 0 < k) (h1 : k + cSeg d ≤ 4611686018427387904) :
    Calls Try.prog 23 #[.agg cs.toArray, .int .i64 k] w (RetMark S w (k + cSeg d) fun w' => SegmentO S w' cs (markSeg d k)) := by
  obtain ⟨A0, c0, A1, c1, A2, c2, f, rfl, o0, o1, o2⟩ := h
  have HS := Lib.hid hS
  have hk1 : k + ↑d.labels.length + ↑d.defaults.length + ↑(cntL cInstr d.instrs) ≤ 4611686018427387904 := by unfold cSeg at h1; omega
  have HKT := Lib.hid (show ((k + (cSeg d : Nat) : Int)) = k + ↑d.labels.length + ↑d.defaults.length + ↑(cntL cInstr d.instrs) by unfold cSeg; omega)
  have O0_0 := Lib.hid o0
  have O1_0 := Lib.hid o1
  have O2_0 := Lib.hid o2
  have HK0 := Lib.hid (Keeps.of_below (fun b => ¬ S b) ((Below.refl w.heap.size w).alloc (Nat.le_refl _) (.cells [.slice A0 d.labels.length c0, .slice A1 d.defaults.length c1, .slice A2 d.instrs.length c2].toArray 51)))
  have HB0 := Lib.hid (Blk.new w 51 [.slice A0 d.labels.length c0, .slice A1 d.defaults.length c1, .slice A2 d.instrs.length c2])
  clear o0 o1 o2 hS h1
  go_enter Try.func23, Try.ntmps23
  go_upto_region 1 with fail
  refine gen_w (G := fun W => Blk W w.heap.size 51 [.slice A0 d.labels.length c0, .slice A1 d.defaults.length c1, .slice A2 d.instrs.length c2] ∧ Keeps (fun b => ¬ S b) w W ∧ Below 0 w W ∧ TxtO (fun b => S b ∧ f b = 0) W (.slice A0 d.labels.length c0) d.labels ∧ IntO (fun b => S b ∧ f b = 1) W (.slice A1 d.defaults.length c1) d.defaults ∧ InstrsO (fun b => S b ∧ f b = 2) W (.slice A2 d.instrs.length c2) d.instrs) (show Ok _ _ from ⟨HB0.out, HK0.out, (Below.refl 0 w).alloc (Nat.zero_le _) _, TxtO.keeps O0_0.out (Keeps.of_below _ ((Below.refl w.heap.size w).alloc (Nat.le_refl _) _)), IntO.keeps O1_0.out (Keeps.of_below _ ((Below.refl w.heap.size w).alloc (Nat.le_refl _) _)), InstrsO.keeps O2_0.out (Keeps.of_below _ ((Below.refl w.heap.size w).alloc (Nat.le_refl _) _))⟩) ?_
  clear HB0 HK0 O0_0 O1_0 O2_0
  rintro W1 ⟨hq0, hq1, hq2, ho0, ho1, ho2⟩
  have HB1 := Lib.hid hq0
  have HK1 := Lib.hid hq1
  have HZ1 := Lib.hid hq2
  have O0_1 := Lib.hid ho0
  have O1_1 := Lib.hid ho1
  have O2_1 := Lib.hid ho2
  clear hq0 hq1 hq2 ho0 ho1 ho2
  have y0 := HB1.out.cell 0 _ rfl
  have hkc : 0 < k := by omega
  have hkb : k ≤ 4611686018427387904 := by omega
  go_wp2_with fail
  have hh := laws_markTxt (fun b => S b ∧ f b = 0) d.labels _ (k) _ O0_1.out (by omega) (by omega)
  refine Calls.mono hh ?_
  clear hh y0 hkc hkb
  rintro e w2 ⟨rfl, ho, hk, hz⟩
  have HB2 := Lib.hid (HB1.out.keeps hk (fun hq => HS.out hq.1))
  have HZ2 := Lib.hid (HZ1.out.trans hz)
  have HK2 := Lib.hid (HK1.out.trans (hk.mono fun b hb hq => hb hq.1))
  have O0_2 := Lib.hid ho
  have O1_2 := Lib.hid (IntO.keeps O1_1.out (hk.mono fun b hb hq => by have h5 := hb.2; have h6 := hq.2; omega))
  have O2_2 := Lib.hid (InstrsO.keeps O2_1.out (hk.mono fun b hb hq => by have h5 := hb.2; have h6 := hq.2; omega))
  clear ho hk hz
  have y1 := HB2.out.cell 1 _ rfl
  have hkc : 0 < k + ↑d.labels.length := by omega
  have hkb : k + ↑d.labels.length ≤ 4611686018427387904 := by omega
  go_wp2_with fail
  have hh := laws_markInts (fun b => S b ∧ f b = 1) d.defaults _ (k + ↑d.labels.length) _ O1_2.out (by omega) (by omega)
  refine Calls.mono hh ?_
  clear hh y1 hkc hkb
  rintro e w3 ⟨rfl, ho, hk, hz⟩
  have HB3 := Lib.hid (HB2.out.keeps hk (fun hq => HS.out hq.1))
  have HZ3 := Lib.hid (HZ2.out.trans hz)
  have HK3 := Lib.hid (HK2.out.trans (hk.mono fun b hb hq => hb hq.1))
  have O0_3 := Lib.hid (TxtO.keeps O0_2.out (hk.mono fun b hb hq => by have h5 := hb.2; have h6 := hq.2; omega))
  have O1_3 := Lib.hid ho
  have O2_3 := Lib.hid (InstrsO.keeps O2_2.out (hk.mono fun b hb hq => by have h5 := hb.2; have h6 := hq.2; omega))
  clear ho hk hz
  have y2 := HB3.out.cell 2 _ rfl
  have hkc : 0 < k + ↑d.labels.length + ↑d.defaults.length := by omega
  have hkb : k + ↑d.labels.length + ↑d.defaults.length ≤ 4611686018427387904 := by omega
  go_wp2_with fail
  have hh := laws_markInstrS (fun b => S b ∧ f b = 2) d.instrs _ (k + ↑d.labels.length + ↑d.defaults.length) _ O2_3.out (by omega) (by omega)
  refine Calls.mono hh ?_
  clear hh y2 hkc hkb
  rintro e w4 ⟨rfl, ho, hk, hz⟩
  have HB4 := Lib.hid (HB3.out.keeps hk (fun hq => HS.out hq.1))
  have HZ4 := Lib.hid (HZ3.out.trans hz)
  have HK4 := Lib.hid (HK3.out.trans (hk.mono fun b hb hq => hb hq.1))
  have O0_4 := Lib.hid (TxtO.keeps O0_3.out (hk.mono fun b hb hq => by have h5 := hb.2; have h6 := hq.2; omega))
  have O1_4 := Lib.hid (IntO.keeps O1_3.out (hk.mono fun b hb hq => by have h5 := hb.2; have h6 := hq.2; omega))
  have O2_4 := Lib.hid ho
  clear ho hk hz
  go_wp2_with fail
  go_ret
  refine ⟨ret_int HKT.out.symm, ⟨A0, c0, A1, c1, A2, c2, f, ?_, ?_, ?_, ?_⟩, HK4.out, HZ4.out⟩
  · simp only [markSeg, mkL_length, markL_length, markI_length]
  · simpa only [markSeg, markL_length] using O0_4.out
  · simpa only [markSeg, markI_length] using O1_4.out
  · have hO := O2_4.out
    unfold InstrsO at hO
    unfold InstrsO
    simpa only [markSeg, mkL_length] using hO
end Go.Proofs.Ytaliiodngekahaa
