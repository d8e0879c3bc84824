/-
  Transcript: what values of this type read as; contracts of the laws' helpers on them (written by wip/gen/gen.py).
-/
import Derived.Test.YtclcljibdhkkoaaSlOwn
namespace Go.Proofs.Ytclcljibdhkkoaa
open Go.ChangeShapes Go.WideShapes Go.ChangeAt Go.RowKit Go.Deep

structure TranD where
  code : Int
  lines : List (List UInt8)
  forced : List (List UInt8)
  events : Int
  live : Int
  deriving DecidableEq

/-- the cells of a Transcript -/
def TranscriptR (w : World) (cs : List Value) (d : TranD) : Prop :=
  ∃ v1 v2, cs = [.int .i64 d.code, v1, v2, .int .i64 d.events, .int .i64 d.live] ∧ I64 d.code ∧ Txts w v1 d.lines ∧ Txts w v2 d.forced ∧ I64 d.events ∧ I64 d.live
theorem TranscriptR.below {w w' : World} {cs : List Value} {d : TranD} (h : TranscriptR w cs d) (hb : Below w.heap.size w w') : TranscriptR w' cs d := by
  obtain ⟨v1, v2, rfl, h0, h1, h2, h3, h4⟩ := h
  exact ⟨v1, v2, rfl, h0, h1.below hb, h2.below hb, h3, h4⟩
theorem TranscriptR.length {w : World} {cs : List Value} {d : TranD} (h : TranscriptR w cs d) : cs.length = 5 := by
  obtain ⟨v1, v2, rfl, _⟩ := h
  rfl
/-- the cells of a Transcript whose slices lie in blocks of its own, in S -/
def TranscriptO (S : Nat → Prop) (w : World) (cs : List Value) (d : TranD) : Prop :=
  ∃ (A1 : Option Addr) (c1 : Nat) (A2 : Option Addr) (c2 : Nat), ∃ f : Nat → Nat, cs = [.int .i64 d.code, .slice A1 d.lines.length c1, .slice A2 d.forced.length c2, .int .i64 d.events, .int .i64 d.live] ∧ I64 d.code ∧ TxtO (fun b => S b ∧ f b = 1) w (.slice A1 d.lines.length c1) d.lines ∧ TxtO (fun b => S b ∧ f b = 2) w (.slice A2 d.forced.length c2) d.forced ∧ I64 d.events ∧ I64 d.live
theorem TranscriptO.read {S : Nat → Prop} {w : World} {cs : List Value} {d : TranD} (h : TranscriptO S w cs d) : TranscriptR w cs d := by
  obtain ⟨A1, c1, A2, c2, f, rfl, h0, h1, h2, h3, h4⟩ := h
  exact ⟨_, _, rfl, h0, h1.read, h2.read, h3, h4⟩
theorem TranscriptO.keeps {S : Nat → Prop} {w w' : World} {cs : List Value} {d : TranD} (h : TranscriptO S w cs d) (hk : Keeps S w w') : TranscriptO S w' cs d := by
  obtain ⟨A1, c1, A2, c2, f, rfl, h0, h1, h2, h3, h4⟩ := h
  exact ⟨A1, c1, A2, c2, f, rfl, h0, h1.keeps (hk.mono fun _ h => h.1), h2.keeps (hk.mono fun _ h => h.1), h3, h4⟩
theorem TranscriptO.mono {S S' : Nat → Prop} {w : World} {cs : List Value} {d : TranD} (h : TranscriptO S w cs d) (hs : ∀ b, S b → S' b) : TranscriptO S' w cs d := by
  obtain ⟨A1, c1, A2, c2, f, rfl, h0, h1, h2, h3, h4⟩ := h
  exact ⟨A1, c1, A2, c2, f, rfl, h0, h1.mono (fun b h => ⟨hs b h.1, h.2⟩), h2.mono (fun b h => ⟨hs b h.1, h.2⟩), h3, h4⟩
theorem TranscriptO.length {S : Nat → Prop} {w : World} {cs : List Value} {d : TranD} (h : TranscriptO S w cs d) : cs.length = 5 := by
  obtain ⟨A1, c1, A2, c2, f, rfl, _⟩ := h
  rfl

def szTranscript (d : TranD) : Nat := szL d.lines + szL d.forced

set_option maxHeartbeats 400000 in
theorem laws_szTranscript (d : TranD) (cs : List Value) (left : Int) (w : World) (h : TranscriptR w cs d) (h0 : 0 ≤ left) (h1 : left ≤ 1048576) :
    Calls Try.prog 29 #[.agg cs.toArray, .int .i64 left] w fun e w' => e = .returned (.int .i64 (szR left (szTranscript d))) ∧ Below w.heap.size w w' := by
  obtain ⟨v1, v2, rfl, _q0, q1, q2, _q3, _q4⟩ := h
  have Q1 := Lib.hid q1
  clear q1
  have Q2 := Lib.hid q2
  clear q2
  have hE : szTranscript d = szL d.lines + szL d.forced := rfl
  have HE := Lib.hid hE
  clear hE
  have HWB := Lib.hid (show Below w.heap.size w (w.alloc (.cells #[.int .i64 d.code, v1, v2, .int .i64 d.events, .int .i64 d.live] 44)) from (Below.refl _ _).alloc (Nat.le_refl _) _)
  have HWK := Lib.hid (Blk.new w 44 [.int .i64 d.code, v1, v2, .int .i64 d.events, .int .i64 d.live])
  go_enter Try.func29, Try.ntmps29
  go_wp2_with fail
  refine abs_w (fun W => Blk W w.heap.size 44 [.int .i64 d.code, v1, v2, .int .i64 d.events, .int .i64 d.live] ∧ Below w.heap.size w W) ⟨by exact HWK.out, by exact HWB.out⟩ ?_
  clear HWK HWB
  rintro W0 ⟨hK0, hB0⟩
  have HWK := Lib.hid hK0
  have HWB := Lib.hid hB0
  clear hK0 hB0
  refine (laws_szStringS_b d.lines v1 (left) _ (Q1.out.below HWB.out) (by omega) (by omega)).mono ?_
  rintro e w1 ⟨rfl, hb1⟩
  replace HWK := Lib.hid (HWK.out.below hb1)
  replace HWB := Lib.hid (HWB.out.trans (hb1.mono HWB.out.size))
  clear hb1
  by_cases hz1 : ((szL d.lines : Nat) : Int) ≤ left
  rotate_left
  · rw [szR_neg hz1]
    go_wp2_with fail
    go_ret
    exact ⟨ret_int (by have h9 := HE.out; rw [szR_neg (by omega)]), by exact HWB.out⟩
  rw [szR_pos hz1]
  have x0 := HWK.out.cell 0 _ rfl
  have x1 := HWK.out.cell 1 _ rfl
  have x2 := HWK.out.cell 2 _ rfl
  have x3 := HWK.out.cell 3 _ rfl
  have x4 := HWK.out.cell 4 _ rfl
  go_wp2_with fail
  clear x0 x1 x2 x3 x4
  refine (laws_szStringS_b d.forced v2 (left - ((szL d.lines : Nat) : Int)) _ (Q2.out.below HWB.out) (by omega) (by omega)).mono ?_
  rintro e w2 ⟨rfl, hb2⟩
  replace HWK := Lib.hid (HWK.out.below hb2)
  replace HWB := Lib.hid (HWB.out.trans (hb2.mono HWB.out.size))
  clear hb2
  by_cases hz2 : ((szL d.forced : Nat) : Int) ≤ left - ((szL d.lines : Nat) : Int)
  rotate_left
  · rw [szR_neg hz2]
    go_wp2_with fail
    go_ret
    exact ⟨ret_int (by have h9 := HE.out; rw [szR_neg (by omega)]), by exact HWB.out⟩
  rw [szR_pos hz2]
  have x0 := HWK.out.cell 0 _ rfl
  have x1 := HWK.out.cell 1 _ rfl
  have x2 := HWK.out.cell 2 _ rfl
  have x3 := HWK.out.cell 3 _ rfl
  have x4 := HWK.out.cell 4 _ rfl
  go_wp2_with fail
  go_ret
  exact ⟨ret_int (by have h9 := HE.out; rw [szR_pos (by omega)]; omega), by exact HWB.out⟩

def RetTranscript (w : World) (d : TranD) (e : Ending) (w' : World) : Prop := ∃ cs, e = .returned (.agg cs.toArray) ∧ TranscriptO (Rng w.heap.size w'.heap.size) w' cs d ∧ Below w.heap.size w w'
set_option maxHeartbeats 1000000 in
theorem laws_toTranscript (d : TranD) (cs : List Value) (w : World) (h : TranscriptR w cs d) (hz : szTranscript d ≤ 1048576) :
    Calls Try.prog 31 #[.agg cs.toArray] w (RetTranscript w d) := by
  obtain ⟨v1, v2, rfl, q0, q1, q2, q3, q4⟩ := h
  have QQ := Lib.hid (And.intro trivial (show True ∧ I64 d.code ∧ I64 d.events ∧ I64 d.live from ⟨trivial, q0, q3, q4⟩))
  clear q0 q3 q4
  have Q1 := Lib.hid q1
  clear q1
  have Q2 := Lib.hid q2
  clear q2
  unfold szTranscript at hz
  go_enter Try.func31, Try.ntmps31
  go_wp2_with fail
  refine abs_w (fun W => Blk W w.heap.size 44 [.int .i64 d.code, v1, v2, .int .i64 d.events, .int .i64 d.live] ∧ Blk W (w.heap.size + 1) 47 [.int .i64 0, .slice none 0 0, .slice none 0 0, .int .i64 0, .int .i64 0] ∧ Blk W (w.heap.size + 1 + 1) 47 [.int .i64 d.code, .slice none 0 0, .slice none 0 0, .int .i64 0, .int .i64 0] ∧ w.heap.size + 3 ≤ W.heap.size ∧ Below w.heap.size w W) ⟨by exact ((Blk.new _ _ _).alloc _).alloc _, by exact (Blk.new_at _ _ _ _ (by simp)).alloc _, by exact Blk.new_at _ _ _ _ (by simp), by simp, by exact (((Below.refl _ _).alloc (Nat.le_refl _) _).alloc (by simp) _).alloc (by simp; omega) _⟩ ?_
  rintro W1 ⟨hS1, hR1, hO1, hN1, hB1⟩
  refine (laws_toStringS_own d.lines v1 _ (Q1.out.below hB1) (by omega)).mono ?_
  rintro e w1 ⟨A1, c1, rfl, o1, hb1⟩
  have HS := Lib.hid (hS1.below hb1)
  have HR := Lib.hid (hR1.below hb1)
  have HO := Lib.hid (hO1.below hb1)
  have HB := Lib.hid (hB1.trans (hb1.mono hB1.size))
  have hM1 : W1.heap.size ≤ w1.heap.size := hb1.size
  have O1 := Lib.hid o1
  clear hS1 hR1 hO1 hB1 hb1 o1 
  have s0 := HS.out.cell 0 _ rfl
  have o0 := HO.out.cell 0 _ rfl
  have s1 := HS.out.cell 1 _ rfl
  have o1 := HO.out.cell 1 _ rfl
  have s2 := HS.out.cell 2 _ rfl
  have o2 := HO.out.cell 2 _ rfl
  have s3 := HS.out.cell 3 _ rfl
  have o3 := HO.out.cell 3 _ rfl
  have s4 := HS.out.cell 4 _ rfl
  have o4 := HO.out.cell 4 _ rfl
  have fz := HO.out.frozen
  go_wp2_with fail
  clear s0 o0 s1 o1 s2 o2 s3 o3 s4 o4 fz
  refine abs_w (fun W => Blk W w.heap.size 44 [.int .i64 d.code, v1, v2, .int .i64 d.events, .int .i64 d.live] ∧ Blk W (w.heap.size + 1) 47 [.int .i64 0, .slice none 0 0, .slice none 0 0, .int .i64 0, .int .i64 0] ∧ Blk W (w.heap.size + 1 + 1) 47 [.int .i64 d.code, .slice A1 d.lines.length c1, .slice none 0 0, .int .i64 0, .int .i64 0] ∧ w1.heap.size ≤ W.heap.size ∧ Below w.heap.size w W ∧ TxtO (Rng W1.heap.size w1.heap.size) W (.slice A1 d.lines.length c1) d.lines) ⟨by exact (HS.out.far _ (by simp; omega) _), by exact (HR.out.far _ (by simp) _), by exact (HO.out.set_ 1 _), by simp [World.setCell], by exact (below_sc HB.out (by omega) _), by exact O1.out.keeps ((Keeps.refl _ _).sc (fun h => by have := h.1; omega) _)⟩ ?_
  clear HS HR HO HB O1
  rintro W2 ⟨hS1, hR1, hO1, hN2, hB1, hP1⟩
  refine (laws_toStringS_own d.forced v2 _ (Q2.out.below hB1) (by omega)).mono ?_
  rintro e w2 ⟨A2, c2, rfl, o1, hb1⟩
  have HS := Lib.hid (hS1.below hb1)
  have HR := Lib.hid (hR1.below hb1)
  have HO := Lib.hid (hO1.below hb1)
  have HB := Lib.hid (hB1.trans (hb1.mono hB1.size))
  have hM2 : W2.heap.size ≤ w2.heap.size := hb1.size
  have O2 := Lib.hid o1
  have O1 := Lib.hid (hP1.keeps (Keeps.of_below _ hb1))
  clear hS1 hR1 hO1 hB1 hb1 o1 hP1
  have s0 := HS.out.cell 0 _ rfl
  have o0 := HO.out.cell 0 _ rfl
  have s1 := HS.out.cell 1 _ rfl
  have o1 := HO.out.cell 1 _ rfl
  have s2 := HS.out.cell 2 _ rfl
  have o2 := HO.out.cell 2 _ rfl
  have s3 := HS.out.cell 3 _ rfl
  have o3 := HO.out.cell 3 _ rfl
  have s4 := HS.out.cell 4 _ rfl
  have o4 := HO.out.cell 4 _ rfl
  have fz := HO.out.frozen
  have r0 := HR.out.cell 0 _ rfl
  have r1 := HR.out.cell 1 _ rfl
  have r2 := HR.out.cell 2 _ rfl
  have r3 := HR.out.cell 3 _ rfl
  have r4 := HR.out.cell 4 _ rfl
  have fr := HR.out.frozen
  go_wp2_with fail
  refine bodyPost_ret (v := .agg #[.int .i64 d.code, .slice A1 d.lines.length c1, .slice A2 d.forced.length c2, .int .i64 d.events, .int .i64 d.live]) (by simp [results, Try.results31, go_sem, r0, r1, r2, r3, r4]) rfl ?_
  clear s0 o0 r0 s1 o1 r1 s2 o2 r2 s3 o3 r3 s4 o4 r4 fz fr
  have bm1 : w.heap.size ≤ w.heap.size + 1 := by omega
  have bm2 : w.heap.size ≤ w.heap.size + 1 + 1 := by omega
  have qq := QQ.out.2
  obtain ⟨_, q0, q3, q4⟩ := qq
  refine ⟨_, rfl, ⟨A1, c1, A2, c2, fun b => if b < w1.heap.size then 1 else 2, rfl, q0, ?_, ?_, q3, q4⟩, (below_sc (below_sc (below_sc (below_sc (below_sc (below_sc (below_sc (below_sc HB.out bm2 _) bm2 _) bm2 _) bm1 _) bm1 _) bm1 _) bm1 _) bm1 _)⟩
  · have m1x : ¬ Rng W1.heap.size w1.heap.size (w.heap.size + 1) := fun h => by have := h.1; omega
    have m2x : ¬ Rng W1.heap.size w1.heap.size (w.heap.size + 1 + 1) := fun h => by have := h.1; omega
    refine (O1.out.keeps (((((((((Keeps.refl _ _).sc m2x _).sc m2x _).sc m2x _).sc m1x _).sc m1x _).sc m1x _).sc m1x _).sc m1x _)).mono (fun b hb => ?_)
    obtain ⟨x1, x2⟩ := hb
    refine ⟨⟨by omega, by simp only [size_sc]; omega⟩, ?_⟩
    dsimp only
    repeat (first | rfl | rw [if_pos (by omega)] | rw [if_neg (by omega)])
  · have m1x : ¬ Rng W2.heap.size w2.heap.size (w.heap.size + 1) := fun h => by have := h.1; omega
    have m2x : ¬ Rng W2.heap.size w2.heap.size (w.heap.size + 1 + 1) := fun h => by have := h.1; omega
    refine (O2.out.keeps (((((((((Keeps.refl _ _).sc m2x _).sc m2x _).sc m2x _).sc m1x _).sc m1x _).sc m1x _).sc m1x _).sc m1x _)).mono (fun b hb => ?_)
    obtain ⟨x1, x2⟩ := hb
    refine ⟨⟨by omega, by simp only [size_sc]; omega⟩, ?_⟩
    dsimp only
    repeat (first | rfl | rw [if_pos (by omega)] | rw [if_neg (by omega)])

set_option maxHeartbeats 400000 in
theorem laws_eqTranscript_same (d : TranD) (cs cs' : List Value) (w : World) (h : TranscriptR w cs d) (h' : TranscriptR w cs' d) :
    Calls Try.prog 33 #[.agg cs.toArray, .agg cs'.toArray] w fun e w' => e = .returned (.bool true) ∧ Below w.heap.size w w' := by
  obtain ⟨v1, v2, rfl, _q0, q1, q2, _q3, _q4⟩ := h
  obtain ⟨u1, u2, rfl, _p0, p1, p2, _p3, _p4⟩ := h'
  have Q1 := Lib.hid q1
  have P1 := Lib.hid p1
  clear q1 p1
  have Q2 := Lib.hid q2
  have P2 := Lib.hid p2
  clear q2 p2
  go_enter Try.func33, Try.ntmps33
  go_wp2_with fail
  refine abs_w (fun W => Blk W w.heap.size 47 [.int .i64 d.code, v1, v2, .int .i64 d.events, .int .i64 d.live] ∧ Blk W (w.heap.size + 1) 47 [.int .i64 d.code, u1, u2, .int .i64 d.events, .int .i64 d.live] ∧ Below w.heap.size w W) ⟨by exact (Blk.new _ _ _).alloc _, by exact Blk.new_at _ _ _ _ (by simp), by exact ((Below.refl _ _).alloc (Nat.le_refl _) _).alloc (by simp) _⟩ ?_
  rintro W0 ⟨hK0, hL0, hB0⟩
  have HK := Lib.hid hK0
  have HL := Lib.hid hL0
  have HB := Lib.hid hB0
  clear hK0 hL0 hB0
  refine (laws_eqStringS_same d.lines v1 u1 _ (Q1.out.below HB.out) (P1.out.below HB.out)).mono ?_
  rintro e w1 ⟨rfl, hb1⟩
  replace HK := Lib.hid (HK.out.below hb1)
  replace HL := Lib.hid (HL.out.below hb1)
  replace HB := Lib.hid (HB.out.trans (hb1.mono HB.out.size))
  clear hb1
  have s0 := HK.out.cell 0 _ rfl
  have o0 := HL.out.cell 0 _ rfl
  have s1 := HK.out.cell 1 _ rfl
  have o1 := HL.out.cell 1 _ rfl
  have s2 := HK.out.cell 2 _ rfl
  have o2 := HL.out.cell 2 _ rfl
  have s3 := HK.out.cell 3 _ rfl
  have o3 := HL.out.cell 3 _ rfl
  have s4 := HK.out.cell 4 _ rfl
  have o4 := HL.out.cell 4 _ rfl
  go_wp2_with fail
  clear s0 o0 s1 o1 s2 o2 s3 o3 s4 o4
  refine (laws_eqStringS_same d.forced v2 u2 _ (Q2.out.below HB.out) (P2.out.below HB.out)).mono ?_
  rintro e w2 ⟨rfl, hb2⟩
  replace HK := Lib.hid (HK.out.below hb2)
  replace HL := Lib.hid (HL.out.below hb2)
  replace HB := Lib.hid (HB.out.trans (hb2.mono HB.out.size))
  clear hb2
  have s0 := HK.out.cell 0 _ rfl
  have o0 := HL.out.cell 0 _ rfl
  have s1 := HK.out.cell 1 _ rfl
  have o1 := HL.out.cell 1 _ rfl
  have s2 := HK.out.cell 2 _ rfl
  have o2 := HL.out.cell 2 _ rfl
  have s3 := HK.out.cell 3 _ rfl
  have o3 := HL.out.cell 3 _ rfl
  have s4 := HK.out.cell 4 _ rfl
  have o4 := HL.out.cell 4 _ rfl
  go_wp2_with fail
  clear s0 o0 s1 o1 s2 o2 s3 o3 s4 o4
  go_ret
  exact ⟨rfl, HB.out⟩

theorem open_TranscriptR {H : Type} {enc : TypeId × Value → H} {w : World} {base : Nat} {spare : Nat → Bool} {held : Bool} {n : Nat} {cs : List Value} {x : DataW H × List MemPlace} (h : DataW.trod enc Try.prog w base spare held n 44 cs = some x) : ∃ d, TranscriptR w cs d := by
  obtain ⟨hlen, n', hn, hg⟩ := open_field Try.underlying44 h
  match cs, hlen.trans (show Try.prog.cellsOf 44 = 5 by kernel_rfl) with
  | [c0, c1, c2, c3, c4], _ =>
    obtain ⟨y0, g0⟩ := hg 0 _ rfl
    obtain ⟨d0, e0, r0⟩ := open_i64 Try.underlying3 g0
    obtain ⟨y1, g1⟩ := hg 1 _ rfl
    obtain ⟨a1, d1, e1, r1⟩ := open_slr Try.underlying30 cells_string (by decide) StrR (fun _ _ _ _ _ h => open_str Try.underlying9 h) g1
    obtain ⟨y2, g2⟩ := hg 2 _ rfl
    obtain ⟨a2, d2, e2, r2⟩ := open_slr Try.underlying30 cells_string (by decide) StrR (fun _ _ _ _ _ h => open_str Try.underlying9 h) g2
    obtain ⟨y3, g3⟩ := hg 3 _ rfl
    obtain ⟨d3, e3, r3⟩ := open_i64 Try.underlying3 g3
    obtain ⟨y4, g4⟩ := hg 4 _ rfl
    obtain ⟨d4, e4, r4⟩ := open_i64 Try.underlying3 g4
    rw [show List.take (Try.prog.cellsOf _) (List.drop _ [c0, c1, c2, c3, c4]) = [c0] by simp [cells_int]] at e0
    rw [show List.take (Try.prog.cellsOf _) (List.drop _ [c0, c1, c2, c3, c4]) = [c1] by simp [cells_slice_string]] at e1
    rw [show List.take (Try.prog.cellsOf _) (List.drop _ [c0, c1, c2, c3, c4]) = [c2] by simp [cells_slice_string]] at e2
    rw [show List.take (Try.prog.cellsOf _) (List.drop _ [c0, c1, c2, c3, c4]) = [c3] by simp [cells_int]] at e3
    rw [show List.take (Try.prog.cellsOf _) (List.drop _ [c0, c1, c2, c3, c4]) = [c4] by simp [cells_int]] at e4
    simp only [List.cons.injEq, and_true] at e0 e1 e2 e3 e4
    subst e0 e1 e2 e3 e4
    exact ⟨⟨d0, d1, d2, d3, d4⟩, _, _, rfl, r0, r1, r2, r3, r4⟩

theorem open_transcript {H : Type} {enc : TypeId × Value → H} {w : World} {base : Nat} {spare : Nat → Bool} {held : Bool} {v : Value} {d : DataW H} {p : List MemPlace} {r : Reach} {b0 : Nat} (hv : Value.okWide Try.prog w r b0 44 v) (h : DataW.Trod enc Try.prog w base spare held 44 v d p) : ∃ x : List Value × TranD, v = .agg x.1.toArray ∧ TranscriptR w x.1 x.2 := by
  obtain ⟨cs, rfl, _⟩ := okWide_struct Try.underlying44 hv
  obtain ⟨fuel, hf⟩ := h
  obtain ⟨d, hd⟩ := open_TranscriptR hf
  exact ⟨(cs.toList, d), by simp, by simpa [Value.cells] using hd⟩

end Go.Proofs.Ytclcljibdhkkoaa
