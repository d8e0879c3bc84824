/-
  Contract: code is optimized by the program (impl.OptimizeCode).
-/
import Derived.Test.YtjdfancbmjnjfaaGreatOptH
namespace Go.Proofs.YtjdfancbmjnjfaaGreat
set_option maxRecDepth 100000
open Go.ChangeShapes Go.WideShapes Go.ChangeAt Go.RowKit Go.Deep
set_option linter.unusedVariables false
set_option linter.unusedSimpArgs false
set_option maxRecDepth 100000

/-- the segments of code of one's own, in the midst of being optimized; v1 is the world behind the copy and its box -/
structure OS (v1 : World) (S0 : Nat -> Prop) (g cap : Nat) (ms : List SegD) (W : World) : Prop where
 mid : ∃ f post ys, MidO (fun b => S0 b \/ Rng v1.heap.size W.heap.size b) f W 49 3 SegmentO g post ys ms /\ ms.length * 3 + post.length = cap * 3
 keeps : Keeps (fun b => ¬ S0 b) v1 W
 below : Below 0 v1 W
 old : ∀ b, S0 b -> b < v1.heap.size
 gold : S0 g
def setI (ms : List SegD) (k : Nat) (l : List InstrD) : List SegD := match ms[k]? with | some x => ms.set k { x with instrs := l } | none => ms
theorem setI_len (ms : List SegD) (k : Nat) (l : List InstrD) : (setI ms k l).length = ms.length := by unfold setI; split <;> simp
theorem setI_eq (ms : List SegD) (k : Nat) (l : List InstrD) (h : k < ms.length) : setI ms k l = ms.set k { ms[k] with instrs := l } := by unfold setI; rw [List.getElem?_eq_getElem h]
theorem setI_at (ms : List SegD) (k : Nat) (l : List InstrD) (h : k < ms.length) (h2 : k < (setI ms k l).length) : (setI ms k l)[k] = { ms[k] with instrs := l } := by simp only [setI_eq ms k l h, List.getElem_set_self]
theorem setI_twice (ms : List SegD) (k : Nat) (l l' : List InstrD) (h : k < ms.length) : setI (setI ms k l) k l' = setI ms k l' := by
 rw [setI_eq (setI ms k l) k l' (by rw [setI_len]; exact h), setI_at ms k l h, setI_eq ms k l h, setI_eq ms k l' h, List.set_set]
theorem setI_self (ms : List SegD) (k : Nat) (h : k < ms.length) : setI ms k ms[k].instrs = ms := by
 rw [setI_eq ms k _ h]
 have : ({ ms[k] with instrs := ms[k].instrs } : SegD) = ms[k] := rfl
 rw [this, List.set_getElem_self]
/-- what is known of one segment, and how the state goes on from it -/
theorem OS.seg {v1 W : World} {S0 : Nat -> Prop} {g cap : Nat} {ms : List SegD} (h : OS v1 S0 g cap ms W) (k : Nat) (hk : k < ms.length) :
  ∃ (Sx : Nat -> Prop) (lv dv iv : Value) (pre rest : List Value), pre.length = k * 3 /\ Blk W g 49 (pre ++ [lv, dv, iv] ++ rest) /\ InstrsO Sx W iv ms[k].instrs /\ (∀ b, Sx b -> b < W.heap.size) /\ ¬ Sx g /\
   (∀ W' l', InstrsO Sx W' iv l' -> l'.length = ms[k].instrs.length -> Keeps (fun b => ¬ Sx b) W W' -> Below 0 W W' -> OS v1 S0 g cap (setI ms k l') W' /\ Blk W' g 49 (pre ++ [lv, dv, iv] ++ rest)) /\
   (∀ W' iv' l', Blk W' g 49 (pre ++ [lv, dv, iv'] ++ rest) -> InstrsO (fun b => Sx b \/ Rng W.heap.size W'.heap.size b) W' iv' l' -> Keeps (fun b => b ≠ g) W W' -> Below 0 W W' -> OS v1 S0 g cap (setI ms k l') W') := by
 obtain ⟨f, post, ys, hM, hl⟩ := h.mid
 obtain ⟨hy, pre, rest, h1, h2, h3, h4⟩ := hM.at_ k hk
 have h4' := h4
 obtain ⟨L, lc, D, dc, I, ic, f2, hcs, a0, a1, a2⟩ := h4
 have hz := h.keeps.1
 have hfg := hM.own.2
 have hSlt : ∀ b, (S0 b \/ Rng v1.heap.size W.heap.size b) -> b < W.heap.size := fun b hb => by
  rcases hb with hb | hb
  ·have := h.old b hb; omega
  ·exact hb.2
 rw [hcs] at h2
 refine ⟨fun b => ((S0 b \/ Rng v1.heap.size W.heap.size b) /\ f b = k + 1) /\ f2 b = 2, _, _, _, pre, rest, h1, h2, a2, fun b hb => hSlt b hb.1.1, fun hb => by have := hb.1.2; omega, fun W' l' ho hll hk' h0 => ?_, fun W' iv' l' hB ho hk' h0 => ?_⟩
 ·have hz' := hk'.1
  have hblk := hk'.2 g hM.blk.lt (fun hb => by have := hb.1.2; omega)
  refine ⟨⟨⟨f, post, ys, ⟨⟨?_, hfg⟩, hblk.trans hM.blk, by rw [setI_len]; exact hM.len, fun i a b => ?_⟩, by rw [setI_len]; exact hl⟩, ⟨by omega, fun b hb hS => (hk'.2 b (by omega) (fun hx => by rcases hx.1.1 with hx | hx; exact hS hx; have := hx.1; omega)).trans (h.keeps.2 b hb hS)⟩, h.below.trans (h0.mono (Nat.zero_le _)), h.old, h.gold⟩, hblk.trans h2⟩
  ·exact .inl h.gold
  ·have hb' : i < ms.length := by rw [setI_len] at b; exact b
   obtain ⟨q1, q2⟩ := hM.elem i a hb'
   refine ⟨q1, ?_⟩
   by_cases e : i = k
   ·subst e
    rw [setI_at ms i l' hb', hcs]
    have hil : ({ ms[i] with instrs := l' } : SegD).instrs.length = ms[i].instrs.length := hll
    refine ⟨L, lc, D, dc, I, ic, f2, by rw [hil], ?_, ?_, ?_⟩
    ·exact (TxtO.keeps a0 (hk'.mono fun b hb hx => by have := hb.2; have := hx.2; omega)).mono fun b hb => ⟨⟨hb.1.1.elim .inl (fun hr => .inr ⟨hr.1, by have := hr.2; omega⟩), hb.1.2⟩, hb.2⟩
    ·exact (IntO.keeps a1 (hk'.mono fun b hb hx => by have := hb.2; have := hx.2; omega)).mono fun b hb => ⟨⟨hb.1.1.elim .inl (fun hr => .inr ⟨hr.1, by have := hr.2; omega⟩), hb.1.2⟩, hb.2⟩
    ·rw [hil]
     exact SlO.mono (fun _ h k => h.mono k) ho fun b hb => ⟨⟨hb.1.1.elim .inl (fun hr => .inr ⟨hr.1, by have := hr.2; omega⟩), hb.1.2⟩, hb.2⟩
   ·have e2 : (setI ms k l')[i] = ms[i] := by simp only [setI_eq ms k l' hk, List.getElem_set_ne (Ne.symm e)]
    rw [e2]
    exact (SegmentO.keeps q2 (hk'.mono fun b hb hx => by have := hb.2; have := hx.1.2; omega)).mono fun b hb => ⟨hb.1.elim .inl (fun hr => .inr ⟨hr.1, by have := hr.2; omega⟩), hb.2⟩
 ·have hz' := hk'.1
  have hgW := hM.blk.lt
  obtain ⟨I', ic', rfl⟩ := ho.shape
  refine ⟨⟨fun b => if b < W.heap.size then f b else k + 1, post, ys.set k [.slice L ms[k].labels.length lc, .slice D ms[k].defaults.length dc, .slice I' l'.length ic'], ⟨⟨.inl h.gold, ?_⟩, ?_, by simp [setI_len, hM.len], fun i a b => ?_⟩, by rw [setI_len]; exact hl⟩, ⟨by omega, fun b hb hS => (hk'.2 b (by omega) (fun e => hS (e ▸ h.gold))).trans (h.keeps.2 b hb hS)⟩, h.below.trans (h0.mono (Nat.zero_le _)), h.old, h.gold⟩
  ·(try dsimp only); rw [if_pos hgW]; exact hfg
  ·rw [<- h3]; exact hB
  ·have hb' : i < ms.length := by rw [setI_len] at b; exact b
   have ha' : i < ys.length := by simpa using a
   obtain ⟨q1, q2⟩ := hM.elem i ha' hb'
   by_cases e : i = k
   ·subst e
    simp only [List.getElem_set_self]
    rw [setI_at ms i l' hb']
    refine ⟨rfl, L, lc, D, dc, I', ic', fun b => if b < W.heap.size then f2 b else 2, rfl, ?_, ?_, ?_⟩
    ·exact (TxtO.keeps a0 (hk'.mono fun b hb hx => by subst hx; have := hb.1.2; omega)).mono fun b hb => by
      have hb2 := hSlt b hb.1.1
      refine ⟨⟨hb.1.1.elim .inl (fun hr => .inr ⟨hr.1, by have := hr.2; omega⟩), ?_⟩, ?_⟩
      ·(try dsimp only); rw [if_pos hb2]; exact hb.1.2
      ·(try dsimp only); rw [if_pos hb2]; exact hb.2
    ·exact (IntO.keeps a1 (hk'.mono fun b hb hx => by subst hx; have := hb.1.2; omega)).mono fun b hb => by
      have hb2 := hSlt b hb.1.1
      refine ⟨⟨hb.1.1.elim .inl (fun hr => .inr ⟨hr.1, by have := hr.2; omega⟩), ?_⟩, ?_⟩
      ·(try dsimp only); rw [if_pos hb2]; exact hb.1.2
      ·(try dsimp only); rw [if_pos hb2]; exact hb.2
    ·exact SlO.mono (fun _ h k => h.mono k) ho fun b hb => by
      rcases hb with hb | hb
      ·have hb2 := hSlt b hb.1.1
       refine ⟨⟨hb.1.1.elim .inl (fun hr => .inr ⟨hr.1, by have := hr.2; omega⟩), ?_⟩, ?_⟩
       ·(try dsimp only); rw [if_pos hb2]; exact hb.1.2
       ·(try dsimp only); rw [if_pos hb2]; exact hb.2
      ·have hn : ¬ b < W.heap.size := by have := hb.1; omega
       refine ⟨⟨.inr ⟨by have := hb.1; omega, hb.2⟩, ?_⟩, ?_⟩
       ·(try dsimp only); rw [if_neg hn]
       ·(try dsimp only); rw [if_neg hn]
   ·have e2 : (setI ms k l')[i] = ms[i] := by simp only [setI_eq ms k l' hk, List.getElem_set_ne (Ne.symm e)]
    rw [e2, List.getElem_set_ne (Ne.symm e)]
    refine ⟨q1, (SegmentO.keeps q2 (hk'.mono fun b hb hx => by subst hx; have := hb.2; omega)).mono fun b hb => ?_⟩
    have hb2 := hSlt b hb.1
    refine ⟨hb.1.elim .inl (fun hr => .inr ⟨hr.1, by have := hr.2; omega⟩), ?_⟩
    try dsimp only
    rw [if_pos hb2]
    exact hb.2

/-- a round of the program on one segment: where it stands -/
def RoundOk (l c : List InstrD) : Prop := (∃ f, c.length <= f /\ optL l = optF (f + 1) c) /\ ArgOk c /\ BackOk c /\ (∀ x ∈ c, 0 <= x.op /\ x.op <= 33) /\ c.length <= 1000
theorem RoundOk.stop {l c : List InstrD} (h : RoundOk l c) (e : (dropF (thrF c)).length = c.length) : optL l = dropF (thrF c) := by
 obtain ⟨⟨f, _, h2⟩, _⟩ := h
 rw [h2, optF, if_pos e]
theorem RoundOk.next {l c : List InstrD} (h : RoundOk l c) (e : ¬ (dropF (thrF c)).length = c.length) : RoundOk l (dropF (thrF c)) /\ (dropF (thrF c)).length < c.length := by
 obtain ⟨⟨f, h1, h2⟩, h3, h4, h5, h6⟩ := h
 have hle := dropF_le (thrF c)
 rw [thrF_len] at hle
 refine ⟨⟨⟨f - 1, by omega, ?_⟩, dropF_ok (thrF_ok h3), dropF_back (thrF_ok h3) (thrF_back h3 h4), dropF_ops (thrF_ops h3 h5), by omega⟩, by omega⟩
 rw [h2, optF, if_neg e]
 congr 1
 omega
theorem RoundOk.start {l : List InstrD} (h3 : ArgOk l) (h4 : BackOk l) (h5 : ∀ x ∈ l, 0 <= x.op /\ x.op <= 33) (h6 : l.length <= 1000) : RoundOk l l := ⟨⟨l.length, Nat.le_refl _, rfl⟩, h3, h4, h5, h6⟩
def msK (ss : List SegD) (k : Nat) : List SegD := (ss.take k).map optS ++ ss.drop k
theorem msK_len (ss : List SegD) (k : Nat) : (msK ss k).length = ss.length := by simp [msK]; omega
theorem msK_at (ss : List SegD) (k : Nat) (h : k < ss.length) (h2 : k < (msK ss k).length) : (msK ss k)[k] = ss[k] := by
 have e : (msK ss k)[k]? = some ss[k] := by
  unfold msK
  rw [List.getElem?_append_right (by simp; omega), List.length_map, List.length_take, Nat.min_eq_left (by omega), Nat.sub_self, List.getElem?_drop, Nat.add_zero, List.getElem?_eq_getElem h]
 rw [List.getElem?_eq_getElem h2] at e
 exact Option.some.inj e
theorem msK_next (ss : List SegD) (k : Nat) (h : k < ss.length) : setI (msK ss k) k (optL ss[k].instrs) = msK ss (k + 1) := by
 have hl : k < (msK ss k).length := by rw [msK_len]; exact h
 rw [setI_eq _ _ _ hl, msK_at ss k h hl]
 unfold msK
 rw [List.set_append_right _ _ (by simp; omega), List.take_succ_eq_append_getElem h, List.map_append, List.drop_eq_getElem_cons h]
 have e : k - ((ss.take k).map optS).length = 0 := by simp; omega
 rw [e, List.set_cons_zero, List.append_assoc]
 rfl
theorem msK_zero (ss : List SegD) : msK ss 0 = ss := by simp [msK]
theorem msK_all (ss : List SegD) : msK ss ss.length = ss.map optS := by simp [msK]
theorem OS.out {v1 W : World} {S0 : Nat -> Prop} {g cap : Nat} {ms : List SegD} (h : OS v1 S0 g cap ms W) (hn : ms.length <= cap) (hc : cap <= maxLen) : SegmentsO (fun b => S0 b \/ Rng v1.heap.size W.heap.size b) W (.slice (some ⟨g, 0, none⟩) ms.length cap) ms := by
 obtain ⟨f, post, ys, hM, hl⟩ := h.mid
 exact hM.back hn hc hl
set_option maxHeartbeats 32000000 in
theorem impl_OptimizeCode (d : CodeD) (cs : List Value) (w : World) (h : BytecodeR w cs d) (hz : szBytecode d <= 1048576) :
  Calls Tryz.prog 14 #[.agg cs.toArray] w (RetOC w (optC d) (checkB d)) := by
 have HR := Lib.hid h
 obtain ⟨v0, v1, v2, rfl⟩ := h.shape
 clear h
 obtain ⟨G, g0, HG, BX, BY⟩ := good2 w 31 [v0, v1, v2] 31 zB
 obtain ⟨x0, x1, x2⟩ := pk_f3 BX
 obtain ⟨y0, y1, y2⟩ := pk_f3 BY
 go_enter Tryz.func14, Tryz.ntmps14
 go_upto_region 1 with fail
 refine gen_w g0 ?_
 clear g0
 intro W0 g0
 go_wp2_with fail
 refine Calls.mono (impl_CheckCode d _ _ (HR.out.below (HG.out.below g0)) hz) ?_
 rintro e w1 ⟨rfl, hb⟩
 replace g0 := HG.out.step g0 hb
 clear hb
 cases q : checkB d
 ·have HN := Lib.hid (show optC d = zCode by unfold optC; rw [q]; rfl)
  have HQ := Lib.hid q
  clear q
  have r0 := (BY.out w1 g0).cell 0 _ rfl
  have z0 := (BY.out w1 g0).frozen 0
  have r1 := (BY.out w1 g0).cell 1 _ rfl
  have z1 := (BY.out w1 g0).frozen 1
  have r2 := (BY.out w1 g0).cell 2 _ rfl
  have z2 := (BY.out w1 g0).frozen 2
  have HB := Lib.hid (HG.out.below g0)
  have HY := Lib.hid (BY.out w1 g0)
  go_wp2_with fail
  refine gen_w (G := fun V => Blk V (w.heap.size + 1) 31 zB /\ Below w.heap.size w V) (show Ok _ _ from ⟨(((HY.out.set_ 0 (.slice none 0 0)).set_ 1 (.slice none 0 0)).set_ 2 (.slice none 0 0)), (below_sc (b := w.heap.size + 1) (o := 2) (below_sc (b := w.heap.size + 1) (o := 1) (below_sc (b := w.heap.size + 1) (o := 0) HB.out (by omega) (.slice none 0 0)) (by omega) (.slice none 0 0)) (by omega) (.slice none 0 0))⟩) ?_
  clear HB HY r0 r1 r2 z0 z1 z2 g0 x0 x1 x2 y0 y1 y2
  rintro V ⟨hbl, hbv⟩
  have HBV := Lib.hid hbv
  have q0 := hbl.cell 0 _ rfl
  have q1 := hbl.cell 1 _ rfl
  have q2 := hbl.cell 2 _ rfl
  clear hbv hbl
  refine bodyPost_ret (v := .tuple #[.agg #[.slice none 0 0, .slice none 0 0, .slice none 0 0], .bool false]) (by simp [results, Tryz.results14, go_sem, q0, q1, q2]) rfl ?_
  rw [HN.out, HQ.out]
  exact ⟨zB, rfl, zero_code _ _, HBV.out⟩
 ·have HN := Lib.hid (show optC d = optD d by unfold optC; rw [q]; rfl)
  have HC := Lib.hid (check_ok q)
  have HQ := Lib.hid q
  clear q
  go_wp2_with fail
  refine Calls.mono (impl_copyCode d _ _ (HR.out.below (HG.out.below g0)) hz) ?_
  rintro e w2 ⟨cs, rfl, ho, hb⟩
  have hw1 := (BY.out w1 g0).lt
  have hw2 := hb.size
  replace g0 := HG.out.step g0 hb
  obtain ⟨U, u, P, p, R, r, f, rfl, o0, o1, o2⟩ := ho
  have O0 := Lib.hid o0
  have O1 := Lib.hid o1
  have O2 := Lib.hid o2
  have HBC := Lib.hid hb
  clear o0 o1 o2 hb x0 x1 x2 y0 y1 y2
  go_upto_region 4 with fail
  have hbA := (Below.refl w2.heap.size w2).alloc (Nat.le_refl _) (.cells #[.slice U d.segments.length u, .slice P d.main.length p, .slice R d.quiet.length r] 31)
  refine gen_w (G := fun V => Ok G V /\ Blk V w2.heap.size 31 [.slice U d.segments.length u, .slice P d.main.length p, .slice R d.quiet.length r] /\ Below w2.heap.size w2 V /\ V.heap.size = w2.heap.size + 1) ⟨HG.out.step g0 hbA, Blk.new w2 _ [_, _, _], hbA, by simp⟩ ?_
  clear g0 hbA
  rintro V1 ⟨g1, hBX, hbV, hsz⟩
  have HBX := Lib.hid hBX
  have HBV := Lib.hid hbV
  have HSZ := Lib.hid hsz
  have HYV := Lib.hid (BY.out V1 g1)
  have HBW := Lib.hid (HG.out.below g1)
  have hwV := HBW.out.size
  have hV1 : w2.heap.size < V1.heap.size := by omega
  clear hBX hbV hsz g1
  have hmid := SlO.mid O0.out
  rcases hmid with ⟨hU, hnil⟩ | ⟨g, cap, f0, post, ys, hU, hn, hc, hp, hM⟩
  ·rw [hnil] at hU
   injection hU with hU1 hU2 hU3
   subst hU1 hU3
   have hl0 : d.segments.length = 0 := by rw [hnil]; rfl
   rw [hl0] at HBX
   have HNIL := Lib.hid hnil
   clear hnil hU2
   have t0 := HBX.out.cell 0 _ rfl
   rw [hl0]
   go_wp2_with fail
   go_loopw [15] (fun i wr => i = .int .i64 0 /\ wr = V1) (fun i _ => 0)
   case atStart => exact ⟨rfl, rfl⟩
   case round =>
    obtain ⟨rfl, rfl⟩ := hrel
    clear t0
    have HOUT := Lib.hid (show BytecodeO (fun b => Rng w1.heap.size w2.heap.size b) wr [.slice none 0 0, .slice P d.main.length p, .slice R d.quiet.length r] (optD d) from
     ⟨none, 0, P, p, R, r, f, by unfold optD; simp [HNIL.out], by unfold optD; simp only [HNIL.out]; exact SlO.nil_ _ _ _ _ _, IntO.keeps O1.out (Keeps.of_below _ HBV.out), BoolO.keeps O2.out (Keeps.of_below _ HBV.out)⟩)
    have HX := HBX
    have HZ := HYV
    have HW := HBW
    have hbc := HBC.out.size
    have HNS := Lib.hid (show ¬ Rng w1.heap.size w2.heap.size (w.heap.size + 1) from fun h => by have := h.1; omega)
    have HNB := Lib.hid (show ∀ b, Rng w1.heap.size w2.heap.size b -> w.heap.size <= b /\ b < wr.heap.size from fun b hb => ⟨by have := hb.1; omega, by have := hb.2; omega⟩)
    have y0 := HX.out.cell 0 _ rfl
    have y1 := HX.out.cell 1 _ rfl
    have y2 := HX.out.cell 2 _ rfl
    have r0 := HZ.out.cell 0 _ rfl
    have z0 := HZ.out.frozen 0
    have r1 := HZ.out.cell 1 _ rfl
    have z1 := HZ.out.frozen 1
    have r2 := HZ.out.cell 2 _ rfl
    have z2 := HZ.out.frozen 2
    go_wp2_with fail
    refine gen_w (G := fun V => Blk V (w.heap.size + 1) 31 [.slice none 0 0, .slice P d.main.length p, .slice R d.quiet.length r] /\ Below w.heap.size w V /\ BytecodeO (Rng w.heap.size V.heap.size) V [.slice none 0 0, .slice P d.main.length p, .slice R d.quiet.length r] (optD d))
     (show Ok _ _ from ⟨(((HZ.out.set_ 0 (.slice none 0 0)).set_ 1 (.slice P d.main.length p)).set_ 2 (.slice R d.quiet.length r)), (below_sc (b := w.heap.size + 1) (o := 2) (below_sc (b := w.heap.size + 1) (o := 1) (below_sc (b := w.heap.size + 1) (o := 0) HW.out (by omega) (.slice none 0 0)) (by omega) (.slice P d.main.length p)) (by omega) (.slice R d.quiet.length r)), (BytecodeO.keeps HOUT.out ((((Keeps.refl _ wr).sc (b := w.heap.size + 1) (o := 0) (HNS.out) (.slice none 0 0)).sc (b := w.heap.size + 1) (o := 1) (HNS.out) (.slice P d.main.length p)).sc (b := w.heap.size + 1) (o := 2) (HNS.out) (.slice R d.quiet.length r))).mono (fun b hb => ⟨(HNB.out b hb).1, by have := (HNB.out b hb).2; simpa [World.setCell] using this⟩)⟩) ?_
    clear y0 y1 y2 r0 r1 r2 z0 z1 z2 HOUT HX HZ HW
    rintro V ⟨hbl, hbv, ho⟩
    have HV := Lib.hid ho
    have HBV := Lib.hid hbv
    have y0 := hbl.cell 0 _ rfl
    have y1 := hbl.cell 1 _ rfl
    have y2 := hbl.cell 2 _ rfl
    clear ho hbv hbl
    refine bodyPost_ret (v := .tuple #[.agg #[.slice none 0 0, .slice P d.main.length p, .slice R d.quiet.length r], .bool true]) (by simp [results, Tryz.results14, go_sem, y0, y1, y2]) rfl ?_
    rw [HN.out, HQ.out]
    exact ⟨_, rfl, HV.out, HBV.out⟩
  ·injection hU with hU1 hU2 hU3
   subst hU1 hU3
   clear hU2
   have hgl := hM.blk.lt
   have HOS := Lib.hid (show OS V1 (fun b => Rng w1.heap.size w2.heap.size b /\ f b = 0) g u (msK d.segments 0) V1 from by
    rw [msK_zero]
    exact ⟨⟨f0, post, ys, ⟨⟨.inl hM.own.1, hM.own.2⟩, hM.blk.below HBV.out, hM.len, fun k a b => ⟨(hM.elem k a b).1, ((hM.elem k a b).2.keeps (Keeps.of_below _ HBV.out)).mono fun b hb => ⟨.inl hb.1, hb.2⟩⟩⟩, hp⟩, Keeps.refl _ _, Below.refl _ _, fun b hb => by have := hb.1.2; omega, hM.own.1⟩)
   clear hM hp
   have HS0 := Lib.hid (show ∀ b, (Rng w1.heap.size w2.heap.size b /\ f b = 0) -> w1.heap.size <= b /\ b < w2.heap.size from fun b hb => hb.1)
   have HSX := Lib.hid (fun (ms : List SegD) (V : World) (h : OS V1 (fun b => Rng w1.heap.size w2.heap.size b /\ f b = 0) g u ms V) => show Blk V w2.heap.size 31 [.slice (some ⟨g, 0, none⟩) d.segments.length u, .slice P d.main.length p, .slice R d.quiet.length r] from
    (h.keeps.2 w2.heap.size (by omega) (fun hx => by have := hx.1.2; omega)).trans HBX.out)
   have t0 := HBX.out.cell 0 _ rfl
   unfold maxLen at hc
   have hwb := HBC.out.size
   go_wp2_with fail
   clear t0
   go_loopw [15] (fun i wr => ∃ j : Nat, j <= d.segments.length /\ i = .int .i64 j /\ Hid (OS V1 (fun b => Rng w1.heap.size w2.heap.size b /\ f b = 0) g u (msK d.segments j) wr)) (fun i _ => d.segments.length - (intOf i).toNat)
   case atStart => exact ⟨0, Nat.zero_le _, rfl, HOS.out⟩
   case round =>
    clear HOS
    obtain ⟨j, hj, rfl, HOS⟩ := hrel
    by_cases hlt : j < d.segments.length
    ·have HCJ := Lib.hid (HC.out _ (List.getElem_mem hlt))
     have hlm : j < (msK d.segments j).length := by rw [msK_len]; exact hlt
     have HNX := Lib.hid (msK_next d.segments j hlt)
     have HST := Lib.hid (show setI (msK d.segments j) j d.segments[j].instrs = msK d.segments j by have h9 := setI_self (msK d.segments j) j hlm; rw [msK_at d.segments j hlt hlm] at h9; exact h9)
     have HTW := Lib.hid (fun (c c' : List InstrD) => setI_twice (msK d.segments j) j c c' hlm)
     have HAT := Lib.hid (fun (c : List InstrD) => setI_at (msK d.segments j) j c hlm)
     have HLE := Lib.hid (fun (c : List InstrD) => setI_len (msK d.segments j) j c)
     generalize msK d.segments j = ms at HOS hlm HST HTW HAT HLE HNX
     go_wp2_with fail
     go_loopg [] (d.segments[j].instrs.length) (fun gk wi => ∃ c : List InstrD, Hid (c.length <= gk) /\ Hid (RoundOk d.segments[j].instrs c) /\ Hid (OS V1 (fun b => Rng w1.heap.size w2.heap.size b /\ f b = 0) g u (setI ms j c) wi))
     case atStart => exact ⟨_, Nat.le_refl _, RoundOk.start HCJ.out.1.1 HCJ.out.2 HCJ.out.1.2.1 HCJ.out.1.2.2.1, show OS _ _ _ _ _ _ by rw [HST.out]; exact HOS.out⟩
     case round =>
      clear HOS
      obtain ⟨c, HG, HRO, HOS⟩ := hrel
      obtain ⟨Sx, lv, dv, iv, pre, rest, hpre, hB, hI, hSl, hSg, hthr, _⟩ := HOS.out.seg j (by rw [HLE.out]; exact hlm)
      have hej := HAT.out c (by rw [HLE.out]; exact hlm)
      rw [hej] at hI
      have hI' : InstrsO Sx wr iv c := hI
      obtain ⟨I, ic, rfl⟩ := hI'.shape
      have z2 := hB.mid hpre 2 _ rfl
      have t0 := (HSX.out _ _ HOS.out).cell 0 _ rfl
      have HTH := Lib.hid (impl_thread Sx c _ wr hI' HRO.out.2.1 HRO.out.2.2.2.2)
      have HTR := Lib.hid (fun (W' : World) (ho : InstrsO Sx W' (.slice I c.length ic) (thrF c)) (hk : Keeps (fun b => ¬ Sx b) wr W') (h0 : Below 0 wr W') => (hthr W' (thrF c) ho (by rw [hej]; exact thrF_len c) hk h0).1)
      have hjm : (j : Int) < (d.segments.length : Int) := by omega
      clear hB hI hI' hthr hpre hej
      go_wp2_with fail
      refine Calls.mono HTH.out ?_
      rintro e w4 ⟨rfl, ho, hk, h0⟩
      have HO4 := Lib.hid (show OS V1 (fun b => Rng w1.heap.size w2.heap.size b /\ f b = 0) g u (setI ms j (thrF c)) w4 from by
       have h9 := HTR.out w4 ho hk h0
       rw [HTW.out] at h9
       exact h9)
      clear ho hk h0 z2 t0 HTH HTR hSl hSg
      have HA4 := Lib.hid (thrF_ok HRO.out.2.1)
      have HB4 := Lib.hid (thrF_back HRO.out.2.1 HRO.out.2.2.1)
      have HP4 := Lib.hid (thrF_ops HRO.out.2.1 HRO.out.2.2.2.1)
      have HL4 := Lib.hid (show (thrF c).length <= 1000 by rw [thrF_len]; exact HRO.out.2.2.2.2)
      obtain ⟨Sy, lv, dv, iv, pre, rest, hpre, hB, hI, hSl, hSg, _, hsh⟩ := HO4.out.seg j (by rw [HLE.out]; exact hlm)
      have hej := HAT.out (thrF c) (by rw [HLE.out]; exact hlm)
      rw [hej] at hI
      have hI' : InstrsO Sy w4 iv (thrF c) := hI
      have HSH := Lib.hid (impl_shorten Sy (thrF c) iv lv dv g (j * 3) pre rest w4 hB hpre hI' hSl hSg HA4.out HB4.out HP4.out HL4.out)
      have HSR := Lib.hid hsh
      have t0 := (HSX.out _ _ HO4.out).cell 0 _ rfl
      clear hB hI hI' hsh hpre hej hSl hSg
      go_wp2_with fail
      refine Calls.mono HSH.out ?_
      rintro e w5 ⟨rfl, iv', hB5, hI5, hk5, h05⟩
      have HO5 := Lib.hid (show OS V1 (fun b => Rng w1.heap.size w2.heap.size b /\ f b = 0) g u (setI ms j (dropF (thrF c))) w5 from by
       have h9 := HSR.out w5 iv' _ hB5 hI5 hk5 h05
       rw [HTW.out] at h9
       exact h9)
      clear hB5 hI5 hk5 h05 HSH HSR t0
      by_cases hq : (dropF (thrF c)).length = (thrF c).length
      ·rw [decide_eq_true hq]
       have HF := Lib.hid (HRO.out.stop (by rw [hq, thrF_len]))
       clear hq
       go_wp2_with fail
       go_roundw
       case rel => exact ⟨j + 1, by omega, by go_num, show OS _ _ _ _ _ _ by rw [<- HNX.out, HF.out]; exact HO5.out⟩
       case measure => simp [intOf] <;> omega
      ·rw [decide_eq_false hq]
       have HF := Lib.hid (HRO.out.next (by rw [<- thrF_len c]; exact hq))
       clear hq
       go_wp2_with fail
       go_roundg ((dropF (thrF c)).length)
       case measure => have h1 := HG.out; have h2 := HF.out.2; omega
       case rel => exact ⟨_, Nat.le_refl _, HF.out.1, HO5.out⟩
    ·obtain rfl : j = d.segments.length := by omega
     rw [msK_all] at HOS
     have hwr := HOS.out.keeps.1
     have HX := Lib.hid (HSX.out _ _ HOS.out)
     have HZ := Lib.hid (show Blk wr (w.heap.size + 1) 31 zB from (HOS.out.keeps.2 _ (by omega) (fun hx => by have := hx.1.1; omega)).trans HYV.out)
     have HW := Lib.hid (show Below w.heap.size w wr from HBW.out.trans ⟨HOS.out.below.os, HOS.out.below.tape, HOS.out.below.output, hwr, fun b hb => HOS.out.keeps.2 b (by omega) (fun hx => by have := hx.1.1; omega)⟩)
     have HSO := Lib.hid (HOS.out.out (by rw [List.length_map]; exact hn) (by unfold maxLen; omega))
     rw [List.length_map] at HSO
     have HOUT := Lib.hid (show BytecodeO (fun b => Rng w1.heap.size w2.heap.size b \/ Rng V1.heap.size wr.heap.size b) wr [.slice (some ⟨g, 0, none⟩) d.segments.length u, .slice P d.main.length p, .slice R d.quiet.length r] (optD d) from
      ⟨some ⟨g, 0, none⟩, u, P, p, R, r, fun b => if b < w2.heap.size then f b else 0, by unfold optD; simp,
       by
        show SegmentsO _ _ (.slice (some ⟨g, 0, none⟩) (optD d).segments.length u) (optD d).segments
        unfold optD
        simp only [List.length_map]
        refine SlO.mono (fun _ h k => h.mono k) HSO.out fun b hb => ?_
        rcases hb with hb | hb
        ·exact ⟨.inl hb.1, by (try dsimp only); rw [if_pos hb.1.2]; exact hb.2⟩
        ·exact ⟨.inr hb, by (try dsimp only); rw [if_neg (by have := hb.1; omega)]⟩,
       (IntO.keeps (IntO.keeps O1.out (Keeps.of_below _ HBV.out)) (HOS.out.keeps.mono fun b hb hx => by have := hb.2; have := hx.2; omega)).mono fun b hb => ⟨.inl hb.1, by (try dsimp only); rw [if_pos hb.1.2]; exact hb.2⟩,
       (BoolO.keeps (BoolO.keeps O2.out (Keeps.of_below _ HBV.out)) (HOS.out.keeps.mono fun b hb hx => by have := hb.2; have := hx.2; omega)).mono fun b hb => ⟨.inl hb.1, by (try dsimp only); rw [if_pos hb.1.2]; exact hb.2⟩⟩)
     have HNS := Lib.hid (show ¬ (Rng w1.heap.size w2.heap.size (w.heap.size + 1) \/ Rng V1.heap.size wr.heap.size (w.heap.size + 1)) from fun h => by rcases h with h | h <;> (have := h.1; omega))
     have HNB := Lib.hid (show ∀ b, (Rng w1.heap.size w2.heap.size b \/ Rng V1.heap.size wr.heap.size b) -> w.heap.size <= b /\ b < wr.heap.size from fun b hb => by rcases hb with hb | hb <;> (have h1 := hb.1; have h2 := hb.2; exact ⟨by omega, by omega⟩))
     have y0 := HX.out.cell 0 _ rfl
     have y1 := HX.out.cell 1 _ rfl
     have y2 := HX.out.cell 2 _ rfl
     have r0 := HZ.out.cell 0 _ rfl
     have z0 := HZ.out.frozen 0
     have r1 := HZ.out.cell 1 _ rfl
     have z1 := HZ.out.frozen 1
     have r2 := HZ.out.cell 2 _ rfl
     have z2 := HZ.out.frozen 2
     go_wp2_with fail
     refine gen_w (G := fun V => Blk V (w.heap.size + 1) 31 [.slice (some ⟨g, 0, none⟩) d.segments.length u, .slice P d.main.length p, .slice R d.quiet.length r] /\ Below w.heap.size w V /\ BytecodeO (Rng w.heap.size V.heap.size) V [.slice (some ⟨g, 0, none⟩) d.segments.length u, .slice P d.main.length p, .slice R d.quiet.length r] (optD d))
      (show Ok _ _ from ⟨(((HZ.out.set_ 0 (.slice (some ⟨g, 0, none⟩) d.segments.length u)).set_ 1 (.slice P d.main.length p)).set_ 2 (.slice R d.quiet.length r)), (below_sc (b := w.heap.size + 1) (o := 2) (below_sc (b := w.heap.size + 1) (o := 1) (below_sc (b := w.heap.size + 1) (o := 0) HW.out (by omega) (.slice (some ⟨g, 0, none⟩) d.segments.length u)) (by omega) (.slice P d.main.length p)) (by omega) (.slice R d.quiet.length r)), (BytecodeO.keeps HOUT.out ((((Keeps.refl _ wr).sc (b := w.heap.size + 1) (o := 0) (HNS.out) (.slice (some ⟨g, 0, none⟩) d.segments.length u)).sc (b := w.heap.size + 1) (o := 1) (HNS.out) (.slice P d.main.length p)).sc (b := w.heap.size + 1) (o := 2) (HNS.out) (.slice R d.quiet.length r))).mono (fun b hb => ⟨(HNB.out b hb).1, by have := (HNB.out b hb).2; simpa [World.setCell] using this⟩)⟩) ?_
     clear y0 y1 y2 r0 r1 r2 z0 z1 z2 HOUT HX HZ HW
     rintro V ⟨hbl, hbv, ho⟩
     have HV := Lib.hid ho
     have HBV := Lib.hid hbv
     have y0 := hbl.cell 0 _ rfl
     have y1 := hbl.cell 1 _ rfl
     have y2 := hbl.cell 2 _ rfl
     clear ho hbv hbl
     refine bodyPost_ret (v := .tuple #[.agg #[.slice (some ⟨g, 0, none⟩) d.segments.length u, .slice P d.main.length p, .slice R d.quiet.length r], .bool true]) (by simp [results, Tryz.results14, go_sem, y0, y1, y2]) rfl ?_
     rw [HN.out, HQ.out]
     exact ⟨_, rfl, HV.out, HBV.out⟩

end Go.Proofs.YtjdfancbmjnjfaaGreat
