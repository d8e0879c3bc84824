/-
  Contract: code is copied by the program (impl.copyCode).
-/
import Derived.Test.YtjdfancbmjnjfaaGreatOptG
namespace Go.Proofs.YtjdfancbmjnjfaaGreat
set_option maxRecDepth 100000
open Go.ChangeShapes Go.WideShapes Go.ChangeAt Go.RowKit Go.Deep
set_option linter.unusedVariables false
set_option linter.unusedSimpArgs false
set_option maxRecDepth 100000

def zSg : List Value := [.slice none 0 0, .slice none 0 0, .slice none 0 0]
def sgR (B : Nat) (x : SegD) (L D : Option Addr) (ll dd : Nat) : Nat -> (Nat -> Nat -> Prop) -> (Nat -> Value) -> World -> Prop
 | 0, T, vs, W => vs 0 = .pointer (some ⟨B, 0, none⟩)
 | 1, T, vs, W => vs 1 = .slice L x.labels.length ll
 | 2, T, vs, W => ∃ A c, vs 2 = .slice A x.labels.length c /\ TxtO (T 1) W (.slice A x.labels.length c) x.labels
 | 3, T, vs, W => EmptyO (T 2) W 3 1 (vs 3)
 | 4, T, vs, W => vs 4 = .pointer (some ⟨B, 1, none⟩)
 | 5, T, vs, W => vs 5 = .slice D x.defaults.length dd
 | 6, T, vs, W => ∃ A c, vs 6 = .slice A x.defaults.length c /\ IntO (T 2) W (.slice A x.defaults.length c) x.defaults
 | 7, T, vs, W => vs 7 = .agg #[vs 2, vs 6, .slice none 0 0]
 | 8, T, vs, W => ∃ g, vs 8 = .pointer (some ⟨g, 0, none⟩) /\ T 9 g /\ Blk W g 49 zSg
 | _, _, _, _ => True
def sgD : Nat -> List Nat
 | 7 => [7, 2, 6]
 | i => [i]
def sgL : Nat -> Nat
 | 2 => 1
 | 3 => 2
 | 6 => 2
 | 8 => 9
 | _ => 0
theorem sgK (B : Nat) (x : SegD) (L D : Option Addr) (ll dd : Nat) (i : Nat) (T T' : Nat -> Nat -> Prop) (vs vs' : Nat -> Value) (W W' : World) (hv : ∀ j ∈ sgD i, vs' j = vs j) (hT : ∀ l b, T l b -> T' l b) (hb : Below W.heap.size W W') (h : sgR B x L D ll dd i T vs W) : sgR B x L D ll dd i T' vs' W' :=
 match i, hv, h with
 | 0, hv, h => (hv 0 (List.mem_cons_self)).trans h
 | 1, hv, h => (hv 1 (List.mem_cons_self)).trans h
 | 2, hv, h => by
  obtain ⟨A, c, e, o⟩ := h
  exact ⟨A, c, (hv 2 List.mem_cons_self).trans e, (TxtO.keeps o (Keeps.of_below _ hb)).mono (hT 1)⟩
 | 3, hv, h => by
  show EmptyO (T' 2) W' _ _ (vs' 3)
  rw [hv 3 List.mem_cons_self]
  exact EmptyO.keeps h hb (hT 2)
 | 4, hv, h => (hv 4 (List.mem_cons_self)).trans h
 | 5, hv, h => (hv 5 (List.mem_cons_self)).trans h
 | 6, hv, h => by
  obtain ⟨A, c, e, o⟩ := h
  exact ⟨A, c, (hv 6 List.mem_cons_self).trans e, (IntO.keeps o (Keeps.of_below _ hb)).mono (hT 2)⟩
 | 7, hv, h => by
  show vs' 7 = _
  rw [hv 7 (by decide), hv 2 (by decide), hv 6 (by decide)]
  exact h
 | 8, hv, h => by
  obtain ⟨g, e, t, b⟩ := h
  exact ⟨g, (hv 8 List.mem_cons_self).trans e, hT 9 g t, b.below hb⟩
 | _ + 9, _, _ => trivial
/-- the boxes in the midst of a copy of a segment -/
structure CS (w : World) (x : SegD) (C0 : List Value) (go lo Bp : Nat) (f : Nat -> Nat) (L : Option Addr) (m : Nat) (D : Option Addr) (q : Nat) (u : Value) (W : World) : Prop where
 b : Blk W w.heap.size 49 C0
 o : Blk W go 49 [.slice L x.labels.length m, .slice D x.defaults.length q, u]
 o1 : TxtO (fun b => Rng lo Bp b /\ f b = 1) W (.slice L x.labels.length m) x.labels
 o2 : IntO (fun b => Rng lo Bp b /\ f b = 2) W (.slice D x.defaults.length q) x.defaults
 fg : f go = 9
 gin : lo <= go /\ go < Bp
 low : w.heap.size < lo
 top : Bp <= W.heap.size
 below : Below w.heap.size w W
section
variable {w : World} {x : SegD} {C0 : List Value} {go lo Bp : Nat} {f : Nat -> Nat} {L D : Option Addr} {m q : Nat} {u u' : Value} {W W' : World}
theorem CS.stepB (h : CS w x C0 go lo Bp f L m D q u W) (hb : Below Bp W W') : CS w x C0 go lo Bp f L m D q u W' :=
 have h1 := h.low
 have h2 := h.gin
 ⟨(hb.block _ (by omega)).trans h.b, (hb.block _ h.gin.2).trans h.o, TxtO.keeps h.o1 ⟨hb.size, fun b _ hs => hb.block b hs.1.2⟩, IntO.keeps h.o2 ⟨hb.size, fun b _ hs => hb.block b hs.1.2⟩, h.fg, h.gin, h.low, Nat.le_trans h.top hb.size, h.below.trans (hb.mono (by omega))⟩
theorem CS.step (h : CS w x C0 go lo Bp f L m D q u W) (hb : Below W.heap.size W W') : CS w x C0 go lo Bp f L m D q u W' := h.stepB (hb.mono h.top)
theorem CS.put (h : CS w x C0 go lo Bp f L m D q u W) : CS w x C0 go lo Bp f L m D q u' (W.setCell ⟨go, 2, none⟩ u') :=
 have h1 := h.low
 have h2 := h.gin
 ⟨h.b.far ⟨go, 2, none⟩ (by simp; omega) u', h.o.set_ 2 u', TxtO.keeps h.o1 ((Keeps.refl _ _).sc (fun hs => by have := hs.2.symm.trans h.fg; omega) _), IntO.keeps h.o2 ((Keeps.refl _ _).sc (fun hs => by have := hs.2.symm.trans h.fg; omega) _), h.fg, h.gin, h.low, by simpa [World.setCell] using h.top, below_sc h.below (by omega) u'⟩
end
theorem CS.out {w W : World} {x : SegD} {C0 : List Value} {go lo Bp : Nat} {f : Nat -> Nat} {L D : Option Addr} {m q : Nat} {U : Option Addr} {c : Nat} (h : CS w x C0 go lo Bp f L m D q (.slice U x.instrs.length c) W) (hs : InstrsO (Rng Bp W.heap.size) W (.slice U x.instrs.length c) x.instrs) :
  SegmentO (Rng w.heap.size W.heap.size) W [.slice L x.labels.length m, .slice D x.defaults.length q, .slice U x.instrs.length c] x := by
 have h1 := h.low
 have h2 := h.gin
 have h3 := h.top
 refine ⟨L, m, D, q, U, c, fun b => if Bp <= b then 2 else if f b = 1 then 0 else 1, rfl, h.o1.mono fun b hb => ⟨⟨by have := hb.1.1; omega, by have := hb.1.2; omega⟩, ?_⟩, h.o2.mono fun b hb => ⟨⟨by have := hb.1.1; omega, by have := hb.1.2; omega⟩, ?_⟩, SlO.mono (fun _ h k => h.mono k) hs fun b hb => ⟨⟨by have := hb.1; omega, hb.2⟩, by dsimp only; rw [if_pos hb.1]⟩⟩
 ·dsimp only; rw [if_neg (by have := hb.1.2; omega), if_pos hb.2]
 ·dsimp only; rw [if_neg (by have := hb.1.2; omega), if_neg (by have := hb.2; omega)]
set_option maxHeartbeats 32000000 in
theorem impl_copyCode (d : CodeD) (cs : List Value) (w : World) (h : BytecodeR w cs d) (hz : szBytecode d <= 1048576) :
  Calls Tryz.prog 39 #[.agg cs.toArray] w (RetCode w d) := by
 have hz1 : szS szSegment d.segments <= 1048576 := by unfold szBytecode at hz; omega
 have hz2 : d.main.length <= 1048576 := by unfold szBytecode at hz; omega
 have hz3 : d.quiet.length <= 1048576 := by unfold szBytecode at hz; omega
 have hz4 := szS_length szSegment d.segments
 clear hz
 obtain ⟨v0, v1, v2, rfl, h0, h1, h2⟩ := h
 obtain ⟨A0, a0, rfl, la0, ma0, HC⟩ := SlR.open_ h0
 obtain ⟨M0, m0, rfl, lm0, mm0, _⟩ := Ints.open_ h1
 obtain ⟨Q0, q0, rfl, lq0, mq0, _⟩ := Bools.open_ h2
 have HM := Lib.hid h1
 have HQ := Lib.hid h2
 clear h0 h1 h2
 unfold maxLen at ma0 mm0 mq0
 obtain ⟨G, g0, HG, BX, BY⟩ := good2 w 31 [.slice A0 d.segments.length a0, .slice M0 d.main.length m0, .slice Q0 d.quiet.length q0] 31 zB
 obtain ⟨x0, x1, x2⟩ := pk_f3 BX
 go_enter Tryz.func39, Tryz.ntmps39
 go_upto_region 1 with fail
 refine gen_w g0 ?_
 clear g0
 intro W0 g0
 have hW0 := (HG.out.below g0).size
 have hlt0 := (BY.out W0 g0).lt
 refine wp_region_free (by kernel_rfl) (by kernel_rfl) (Ok G) o1L o1D (o1R w.heap.size d M0 Q0 m0 q0) (fun vs => ⟨#[.agg #[.slice A0 d.segments.length a0, .slice M0 d.main.length m0, .slice Q0 d.quiet.length q0], .pointer (some ⟨w.heap.size, 0, none⟩), .pointer (some ⟨w.heap.size + 1, 0, none⟩), vs 9, undef, undef, undef, undef, undef, vs 0, vs 1, vs 2, vs 3, vs 4, vs 5, vs 6, vs 7, vs 8, undef, undef, undef, undef, undef, undef, undef, undef, undef, undef, undef, undef, undef, undef, undef, undef, undef, undef, undef, undef, undef, undef, undef, undef, undef, undef, undef, undef, undef, undef, undef, undef, undef, undef, undef, undef, undef, undef, undef, undef, undef, undef, undef, undef, undef], []⟩) (fun vs => by kernel_rfl) (by kernel_rfl) (HG.out.drew g0) (o1K w.heap.size d M0 Q0 m0 q0) ?_ ?_
 ·intro i o ho hi vs T W hS hd
  have h9 : i + 1 < 11 := by simpa using hi
  have hi' : i = 0 \/ i = 1 \/ i = 2 \/ i = 3 \/ i = 4 \/ i = 5 \/ i = 6 \/ i = 7 \/ i = 8 \/ i = 9 := by omega
  clear h9 hi
  rcases hi' with rfl | rfl | rfl | rfl | rfl | rfl | rfl | rfl | rfl | rfl
  ·obtain rfl := Option.some.inj ho
   refine oper_ok (by go_simp; exact ⟨rfl, rfl⟩) ⟨_, rfl, (Below.refl _ _).alloc (Nat.le_refl _) _, HG.out.alloc hS _, ?_⟩
   show EmptyO _ _ _ _ (upd vs 0 _ 0)
   rw [upd_same]
   exact EmptyO.keeps (EmptyO.new _ _ _) (Below.refl _ _) (fun b hb => .inr ⟨rfl, hb.1, hb.2⟩)
  ·obtain rfl := Option.some.inj ho
   exact oper_ok (by go_simp) ⟨_, rfl, Below.refl _ _, hS, upd_same _ _ _⟩
  ·obtain rfl := Option.some.inj ho
   have d : vs 1 = _ := hd ⟨1, .data⟩ (by simp) rfl
   exact oper_ok (by go_simp) ⟨_, rfl, Below.refl _ _, hS, upd_same _ _ _⟩
  ·obtain rfl := Option.some.inj ho
   obtain ⟨g, e, o2⟩ := (show EmptyO (T 1) W _ _ (vs 0) from hd ⟨0, .data⟩ (by simp) rfl)
   have dx : vs 2 = _ := hd ⟨2, .data⟩ (by simp) rfl
   rw [e] at o2
   refine wp_cat0 (.tmp 9) (.tmp 11) 23 rfl 3 (.int .i64 0) 1 8 Tryz.underlying23 info_int rfl (by decide) W g (by exact e) M0 d.main.length m0 _ (by exact dx) (Ints.src (HM.out.below (HG.out.below hS))).2 (by omega) (by omega) ?_
   intro A' c' W' hb hown
   refine ⟨_, rfl, hb, HG.out.step hS hb, A', c', upd_same _ _ _, ?_⟩
   exact ⟨cat0_own o2 (fun b hb => .inl hb) (fun b h1 h2 => .inr ⟨rfl, h1, h2⟩) hown, Ints.small HM.out⟩
  ·obtain rfl := Option.some.inj ho
   refine oper_ok (by go_simp; exact ⟨rfl, rfl⟩) ⟨_, rfl, (Below.refl _ _).alloc (Nat.le_refl _) _, HG.out.alloc hS _, ?_⟩
   show EmptyO _ _ _ _ (upd vs 4 _ 4)
   rw [upd_same]
   exact EmptyO.keeps (EmptyO.new _ _ _) (Below.refl _ _) (fun b hb => .inr ⟨rfl, hb.1, hb.2⟩)
  ·obtain rfl := Option.some.inj ho
   exact oper_ok (by go_simp) ⟨_, rfl, Below.refl _ _, hS, upd_same _ _ _⟩
  ·obtain rfl := Option.some.inj ho
   have d : vs 5 = _ := hd ⟨5, .data⟩ (by simp) rfl
   exact oper_ok (by go_simp) ⟨_, rfl, Below.refl _ _, hS, upd_same _ _ _⟩
  ·obtain rfl := Option.some.inj ho
   obtain ⟨g, e, o2⟩ := (show EmptyO (T 2) W _ _ (vs 4) from hd ⟨4, .data⟩ (by simp) rfl)
   have dx : vs 6 = _ := hd ⟨6, .data⟩ (by simp) rfl
   rw [e] at o2
   refine wp_cat0 (.tmp 13) (.tmp 15) 24 rfl 4 (.bool false) 1 1 Tryz.underlying24 info_bool rfl (by decide) W g (by exact e) Q0 d.quiet.length q0 _ (by exact dx) (Bools.src (HQ.out.below (HG.out.below hS))).2 (by omega) (by omega) ?_
   intro A' c' W' hb hown
   refine ⟨_, rfl, hb, HG.out.step hS hb, A', c', upd_same _ _ _, ?_⟩
   exact cat0_own o2 (fun b hb => .inl hb) (fun b h1 h2 => .inr ⟨rfl, h1, h2⟩) hown
  ·obtain rfl := Option.some.inj ho
   obtain ⟨_, _, e3, _⟩ := (show o1R w.heap.size d M0 Q0 m0 q0 3 T vs W from hd ⟨3, .data⟩ (by simp) rfl)
   obtain ⟨_, _, e7, _⟩ := (show o1R w.heap.size d M0 Q0 m0 q0 7 T vs W from hd ⟨7, .data⟩ (by simp) rfl)
   refine oper_ok (by go_simp; rfl) ⟨_, rfl, Below.refl _ _, hS, ?_⟩
   show upd vs 8 _ 8 = .agg #[.slice none 0 0, upd vs 8 _ 3, upd vs 8 _ 7]
   simp [upd, e3, e7]
  ·obtain rfl := Option.some.inj ho
   exact oper_ok (by go_simp; first | exact ⟨rfl, rfl⟩ | rfl) ⟨_, rfl, (Below.refl _ _).alloc (Nat.le_refl _) _, HG.out.alloc hS _, W.heap.size, upd_same _ _ _, .inr ⟨rfl, Nat.le_refl _, by simp⟩, Blk.new W _ zB⟩
 ·intro o ho vs T W hS hsz hT1 hT2 hR
  obtain ⟨od, oo, ot, opos, oa, og⟩ := o
  obtain ⟨rfl, rfl⟩ : od = none /\ oo = .store 31 (.tmp 3) (.tmp 17) := ⟨(congrArg Oper.dst (Option.some.inj ho)).symm, (congrArg Oper.op (Option.some.inj ho)).symm⟩
  clear ho
  obtain ⟨P, p, e3, o1⟩ := hR 3 (by decide)
  obtain ⟨R, r, e7, o2⟩ := hR 7 (by decide)
  have e8 : vs 8 = .agg #[.slice none 0 0, vs 3, vs 7] := hR 8 (by decide)
  obtain ⟨g, e9, tg, bg⟩ := hR 9 (by decide)
  rw [e3, e7] at e8
  obtain ⟨f, hf⟩ := labels T hT2
  have hg1 := hT1 9 g tg
  have hTr : ∀ l b, T l b -> Rng W0.heap.size W.heap.size b /\ f b = l := fun l b hb => ⟨hT1 l b hb, hf l b hb⟩
  have FG := Lib.hid (hf 9 g tg)
  have O1 := Lib.hid (IntO.mono o1 (hTr 1))
  have O2 := Lib.hid (BoolO.mono o2 (hTr 2))
  have HB := Lib.hid (HG.out.below hS)
  have BXW := Lib.hid (BX.out W hS)
  have BYW := Lib.hid (BY.out W hS)
  have BG := Lib.hid bg
  have hWs := HB.out.size
  clear o1 o2 hR hT1 hT2 hTr hf tg bg
  have y0 := BG.out.cell 0 _ rfl
  have z0 := BG.out.frozen 0
  have y1 := BG.out.cell 1 _ rfl
  have z1 := BG.out.frozen 1
  have y2 := BG.out.cell 2 _ rfl
  have z2 := BG.out.frozen 2
  refine oper_gen (fun K hK => ?_)
  go_wp2_with fail
  refine hK.out _ _ ?_
  clear hK y0 y1 y2 z0 z1 z2
  refine gen_w (G := CC w d [.slice A0 d.segments.length a0, .slice M0 d.main.length m0, .slice Q0 d.quiet.length q0] g W0.heap.size W.heap.size f P p R r (.slice none 0 0))
   (show Ok _ _ from ⟨(((BXW.out.far ⟨g, 0, none⟩ (by simp <;> omega) (.slice none 0 0)).far ⟨g, 1, none⟩ (by simp <;> omega) (.slice P d.main.length p)).far ⟨g, 2, none⟩ (by simp <;> omega) (.slice R d.quiet.length r)), (((BYW.out.far ⟨g, 0, none⟩ (by simp <;> omega) (.slice none 0 0)).far ⟨g, 1, none⟩ (by simp <;> omega) (.slice P d.main.length p)).far ⟨g, 2, none⟩ (by simp <;> omega) (.slice R d.quiet.length r)), (((BG.out.set_ 0 (.slice none 0 0)).set_ 1 (.slice P d.main.length p)).set_ 2 (.slice R d.quiet.length r)), IntO.keeps O1.out ((((Keeps.refl _ W).sc (b := g) (o := 0) (fun h => by have := h.2; have := FG.out; omega) (.slice none 0 0)).sc (b := g) (o := 1) (fun h => by have := h.2; have := FG.out; omega) (.slice P d.main.length p)).sc (b := g) (o := 2) (fun h => by have := h.2; have := FG.out; omega) (.slice R d.quiet.length r)), BoolO.keeps O2.out ((((Keeps.refl _ W).sc (b := g) (o := 0) (fun h => by have := h.2; have := FG.out; omega) (.slice none 0 0)).sc (b := g) (o := 1) (fun h => by have := h.2; have := FG.out; omega) (.slice P d.main.length p)).sc (b := g) (o := 2) (fun h => by have := h.2; have := FG.out; omega) (.slice R d.quiet.length r)), FG.out, hg1, hlt0, by simp [World.setCell], (below_sc (b := g) (o := 2) (below_sc (b := g) (o := 1) (below_sc (b := g) (o := 0) HB.out (by omega) (.slice none 0 0)) (by omega) (.slice P d.main.length p)) (by omega) (.slice R d.quiet.length r))⟩) ?_
  clear O1 O2 HB BYW BXW BG FG hS e3 e7
  intro V hv
  try simp only [e8, e9]
  clear e8 e9
  have HV := Lib.hid hv
  clear hv g0
  have y0 := HV.out.x.cell 0 _ rfl
  go_wp2_with fail
  clear y0
  go_loopw [21] (fun i wr => ∃ (j : Nat) (U : Option Addr) (q : Nat), j <= d.segments.length /\ i = .int .i64 j /\ Hid (CC w d [.slice A0 d.segments.length a0, .slice M0 d.main.length m0, .slice Q0 d.quiet.length q0] g W0.heap.size W.heap.size f P p R r (.slice U j q) wr) /\ Hid (SegmentsO (Rng W.heap.size wr.heap.size) wr (.slice U j q) (d.segments.take j))) (fun i _ => d.segments.length - (intOf i).toNat)
  case atStart => exact ⟨0, none, 0, Nat.zero_le _, rfl, HV.out, SlO.nil_ _ _ _ _ _⟩
  case round =>
   clear HV
   obtain ⟨j, U, q, hj, rfl, HT, HO⟩ := hrel
   obtain ⟨wo, hwo⟩ : ∃ wo, wo = wr := ⟨_, rfl⟩
   subst hwo
   have htop := HT.out.top
   have hgin := HT.out.gin
   have hlow := HT.out.low
   by_cases hlt : j < d.segments.length
   rotate_left
   ·obtain rfl : j = d.segments.length := by omega
    rw [List.take_length] at HO
    have HB := Lib.hid HT.out.below
    have y0 := HT.out.o.cell 0 _ rfl
    have r0 := HT.out.r.cell 0 _ rfl
    have z0 := HT.out.r.frozen 0
    have y1 := HT.out.o.cell 1 _ rfl
    have r1 := HT.out.r.cell 1 _ rfl
    have z1 := HT.out.r.frozen 1
    have y2 := HT.out.o.cell 2 _ rfl
    have r2 := HT.out.r.cell 2 _ rfl
    have z2 := HT.out.r.frozen 2
    have HOUT := Lib.hid (CC.out HT.out d.segments rfl HO.out)
    go_wp2_with fail
    refine gen_w (G := fun V => Blk V (w.heap.size + 1) 31 [.slice U d.segments.length q, .slice P d.main.length p, .slice R d.quiet.length r] /\ Below w.heap.size w V /\ BytecodeO (Rng w.heap.size V.heap.size) V [.slice U d.segments.length q, .slice P d.main.length p, .slice R d.quiet.length r] d)
     (show Ok _ _ from ⟨(((HT.out.r.set_ 0 (.slice U d.segments.length q)).set_ 1 (.slice P d.main.length p)).set_ 2 (.slice R d.quiet.length r)), (below_sc (b := w.heap.size + 1) (o := 2) (below_sc (b := w.heap.size + 1) (o := 1) (below_sc (b := w.heap.size + 1) (o := 0) HB.out (by omega) (.slice U d.segments.length q)) (by omega) (.slice P d.main.length p)) (by omega) (.slice R d.quiet.length r)), ?_⟩) ?_
    ·exact (BytecodeO.keeps HOUT.out ((((Keeps.refl _ wo).sc (b := w.heap.size + 1) (o := 0) (fun h => by have := h.1; omega) (.slice U d.segments.length q)).sc (b := w.heap.size + 1) (o := 1) (fun h => by have := h.1; omega) (.slice P d.main.length p)).sc (b := w.heap.size + 1) (o := 2) (fun h => by have := h.1; omega) (.slice R d.quiet.length r))).mono (fun b hb => ⟨by have := hb.1; omega, by simpa [World.setCell] using hb.2⟩)
    clear HB y0 y1 y2 r0 r1 r2 z0 z1 z2 HOUT
    rintro V ⟨hbl, hbv, ho⟩
    have HV := Lib.hid ho
    have HBV := Lib.hid hbv
    have y0 := hbl.cell 0 _ rfl
    have y1 := hbl.cell 1 _ rfl
    have y2 := hbl.cell 2 _ rfl
    clear ho hbv hbl
    refine bodyPost_ret (v := .agg #[.slice U d.segments.length q, .slice P d.main.length p, .slice R d.quiet.length r]) (by simp [results, Tryz.results39, go_sem, y0, y1, y2]) rfl ?_
    exact ⟨_, rfl, HV.out, HBV.out⟩
   have HTK := Lib.hid (show d.segments.take (j + 1) = d.segments.take j ++ [d.segments[j]] by rw [List.take_succ_eq_append_getElem hlt])
   have hlj : (d.segments.take j).length = j := by rw [List.length_take]; omega
   have HLJ := Lib.hid hlj
   clear hlj
   obtain ⟨b, off, cs, rfl, hbl, hcs, hat, hr⟩ := HC.out j hlt
   obtain ⟨s0, s1, s2, rfl, k0, k1, k2⟩ := hr
   obtain ⟨LA, lc, rfl, _, hlm, _⟩ := Txts.open_ k0
   obtain ⟨DA, dc, rfl, _, hdm, _⟩ := Ints.open_ k1
   obtain ⟨IA, ic, rfl, _, him, HIN⟩ := SlR.open_ k2
   have HL := Lib.hid k0
   have HD := Lib.hid k1
   have hzj := szS_at szSegment d.segments j hlt
   have hzx : szSegment d.segments[j] = szL d.segments[j].labels + List.length d.segments[j].defaults + szS szInstr d.segments[j].instrs := rfl
   have hzl := szL_length d.segments[j].labels
   have hz5 : d.segments[j].labels.length <= 1048576 := by omega
   have hz6 : d.segments[j].defaults.length <= 1048576 := by omega
   have hz7 : szS szInstr d.segments[j].instrs <= 1048576 := by omega
   have hz8 := szS_length szInstr d.segments[j].instrs
   unfold maxLen at him
   clear k0 k1 k2 hcs hzj hzx hzl hlm hdm
   have hwr := HT.out.below.size
   obtain ⟨z0, z1, z2⟩ := pk_c3 HT.out.below hbl hat
   clear hat
   obtain ⟨G5, g5, HG5, BX5⟩ := good1 wo 49 [.slice LA d.segments[j].labels.length lc, .slice DA d.segments[j].defaults.length dc, .slice IA d.segments[j].instrs.length ic]
   obtain ⟨ef0, ef1, ef2⟩ := pk_f3 BX5
   go_upto_region 5 with fail
   refine gen_w g5 ?_
   clear g5 z0 z1 z2
   intro W1 g5
   have hW1 := (HG5.out.below g5).size
   have hlt1 := (BX5.out W1 g5).lt
   refine wp_region_free (by kernel_rfl) (by kernel_rfl) (Ok G5) sgL sgD (sgR wo.heap.size d.segments[j] LA DA lc dc) (fun ws => ⟨#[Value.agg #[Value.slice (some { block := b, off := off }) d.segments.length a0, Value.slice M0 d.main.length m0, Value.slice Q0 d.quiet.length q0], Value.pointer (some { block := w.heap.size, off := 0 }), Value.pointer (some { block := w.heap.size + 1, off := 0 }), Value.pointer (some { block := g, off := 0 }), undef, Value.pointer (some { block := wo.heap.size, off := 0 }), ws 8, undef, u8, vs 0, vs 1, vs 2, Value.slice P d.main.length p, vs 4, vs 5, vs 6, Value.slice R d.quiet.length r, Value.agg #[Value.slice none 0 0, Value.slice P d.main.length p, Value.slice R d.quiet.length r], Value.pointer (some { block := w.heap.size, off := 0 }), Value.slice (some { block := b, off := off }) d.segments.length a0, Value.int IntKind.i64 ↑d.segments.length, Value.int IntKind.i64 ↑j, Value.bool true, Value.pointer (some { block := b, off := off + j * 3 }), Value.agg #[Value.slice LA d.segments[j].labels.length lc, Value.slice DA d.segments[j].defaults.length dc, Value.slice IA d.segments[j].instrs.length ic], ws 0, ws 1, ws 2, ws 3, ws 4, ws 5, ws 6, ws 7, u33, u34, u35, u36, u37, u38, u39, u40, u41, u42, u43, u44, u45, u46, u47, u48, u49, u50, u51, u52, u53, u54, u55, u56, u57, u58, u59, u60, u61, undef], []⟩) (fun ws => by kernel_rfl) (by kernel_rfl) (HG5.out.drew g5) (sgK wo.heap.size d.segments[j] LA DA lc dc) ?_ ?_
   ·intro i o ho hi ws T W' hS hd
    have h9 : i + 1 < 10 := by simpa using hi
    have hi' : i = 0 \/ i = 1 \/ i = 2 \/ i = 3 \/ i = 4 \/ i = 5 \/ i = 6 \/ i = 7 \/ i = 8 := by omega
    clear h9 hi
    rcases hi' with rfl | rfl | rfl | rfl | rfl | rfl | rfl | rfl | rfl
    ·obtain rfl := Option.some.inj ho
     exact oper_ok (by go_simp) ⟨_, rfl, Below.refl _ _, hS, upd_same _ _ _⟩
    ·obtain rfl := Option.some.inj ho
     have d : ws 0 = _ := hd ⟨0, .data⟩ (by simp) rfl
     exact oper_ok (by go_simp) ⟨_, rfl, Below.refl _ _, hS, upd_same _ _ _⟩
    ·obtain rfl := Option.some.inj ho
     have dx : ws 1 = _ := hd ⟨1, .data⟩ (by simp) rfl
     refine oper_call (by go_simp) (impl_copyTexts d.segments[j].labels _ W' (HL.out.below (HT.out.below.trans ((HG5.out.below hS).mono hwr))) (by omega)) ?_
     rintro e W9 ⟨A, c, rfl, ho, hb⟩
     exact ⟨_, rfl, _, rfl, hb, HG5.out.step hS hb, A, c, upd_same _ _ _, TxtO.mono ho fun b hb => .inr ⟨rfl, hb.1, hb.2⟩⟩
    ·obtain rfl := Option.some.inj ho
     refine oper_ok (by go_simp; exact ⟨rfl, rfl⟩) ⟨_, rfl, (Below.refl _ _).alloc (Nat.le_refl _) _, HG5.out.alloc hS _, ?_⟩
     show EmptyO _ _ _ _ (upd ws 3 _ 3)
     rw [upd_same]
     exact EmptyO.keeps (EmptyO.new _ _ _) (Below.refl _ _) (fun b hb => .inr ⟨rfl, hb.1, hb.2⟩)
    ·obtain rfl := Option.some.inj ho
     exact oper_ok (by go_simp) ⟨_, rfl, Below.refl _ _, hS, upd_same _ _ _⟩
    ·obtain rfl := Option.some.inj ho
     have d : ws 4 = _ := hd ⟨4, .data⟩ (by simp) rfl
     exact oper_ok (by go_simp) ⟨_, rfl, Below.refl _ _, hS, upd_same _ _ _⟩
    ·obtain rfl := Option.some.inj ho
     obtain ⟨g', e, o2⟩ := (show EmptyO (T 2) W' _ _ (ws 3) from hd ⟨3, .data⟩ (by simp) rfl)
     have dx : ws 5 = _ := hd ⟨5, .data⟩ (by simp) rfl
     rw [e] at o2
     refine wp_cat0 (.tmp 28) (.tmp 30) 23 rfl 3 (.int .i64 0) 1 8 Tryz.underlying23 info_int rfl (by decide) W' g' (by exact e) DA d.segments[j].defaults.length dc _ (by exact dx) (Ints.src (HD.out.below (HT.out.below.trans ((HG5.out.below hS).mono hwr)))).2 (by omega) (by omega) ?_
     intro A' c' W9 hb hown
     refine ⟨_, rfl, hb, HG5.out.step hS hb, A', c', upd_same _ _ _, ?_⟩
     exact ⟨cat0_own o2 (fun b hb => .inl hb) (fun b h1 h2 => .inr ⟨rfl, h1, h2⟩) hown, Ints.small HD.out⟩
    ·obtain rfl := Option.some.inj ho
     obtain ⟨_, _, e2, _⟩ := (show sgR wo.heap.size d.segments[j] LA DA lc dc 2 T ws W' from hd ⟨2, .data⟩ (by simp) rfl)
     obtain ⟨_, _, e6, _⟩ := (show sgR wo.heap.size d.segments[j] LA DA lc dc 6 T ws W' from hd ⟨6, .data⟩ (by simp) rfl)
     refine oper_ok (by go_simp; rfl) ⟨_, rfl, Below.refl _ _, hS, ?_⟩
     show upd ws 7 _ 7 = .agg #[upd ws 7 _ 2, upd ws 7 _ 6, .slice none 0 0]
     simp [upd, e2, e6]
    ·obtain rfl := Option.some.inj ho
     exact oper_ok (by go_simp; first | exact ⟨rfl, rfl⟩ | rfl) ⟨_, rfl, (Below.refl _ _).alloc (Nat.le_refl _) _, HG5.out.alloc hS _, W'.heap.size, upd_same _ _ _, .inr ⟨rfl, Nat.le_refl _, by simp⟩, Blk.new W' _ zSg⟩
   intro o ho ws T W2 hS hsz hT1 hT2 hR
   obtain ⟨od, oo, ot, opos, oa, og⟩ := o
   obtain ⟨rfl, rfl⟩ : od = none /\ oo = .store 49 (.tmp 6) (.tmp 32) := ⟨(congrArg Oper.dst (Option.some.inj ho)).symm, (congrArg Oper.op (Option.some.inj ho)).symm⟩
   clear ho
   obtain ⟨LB, lb, e2, o1⟩ := hR 2 (by decide)
   obtain ⟨DB, db, e6, o2⟩ := hR 6 (by decide)
   have e7 : ws 7 = .agg #[ws 2, ws 6, .slice none 0 0] := hR 7 (by decide)
   obtain ⟨gx, e8, tg, bg⟩ := hR 8 (by decide)
   rw [e2, e6] at e7
   obtain ⟨f5, hf⟩ := labels T hT2
   have hg1 := hT1 9 gx tg
   have hTr : ∀ l b, T l b -> Rng W1.heap.size W2.heap.size b /\ f5 b = l := fun l b hb => ⟨hT1 l b hb, hf l b hb⟩
   have FG := Lib.hid (hf 9 gx tg)
   have O1 := Lib.hid (TxtO.mono o1 (hTr 1))
   have O2 := Lib.hid (IntO.mono o2 (hTr 2))
   have HB := Lib.hid (HG5.out.below hS)
   have BXW := Lib.hid (BX5.out W2 hS)
   have BG := Lib.hid bg
   have hWs := HB.out.size
   clear o1 o2 hR hT1 hT2 hTr hf tg bg ef0 ef1 ef2 g5
   have y0 := BG.out.cell 0 _ rfl
   have z0 := BG.out.frozen 0
   have y1 := BG.out.cell 1 _ rfl
   have z1 := BG.out.frozen 1
   have y2 := BG.out.cell 2 _ rfl
   have z2 := BG.out.frozen 2
   refine oper_gen (fun K hK => ?_)
   go_wp2_with fail
   refine hK.out _ _ ?_
   clear hK y0 y1 y2 z0 z1 z2
   refine gen_w (G := CS wo d.segments[j] [.slice LA d.segments[j].labels.length lc, .slice DA d.segments[j].defaults.length dc, .slice IA d.segments[j].instrs.length ic] gx W1.heap.size W2.heap.size f5 LB lb DB db (.slice none 0 0))
    (show Ok _ _ from ⟨(((BXW.out.far ⟨gx, 0, none⟩ (by simp <;> omega) (.slice LB d.segments[j].labels.length lb)).far ⟨gx, 1, none⟩ (by simp <;> omega) (.slice DB d.segments[j].defaults.length db)).far ⟨gx, 2, none⟩ (by simp <;> omega) (.slice none 0 0)), (((BG.out.set_ 0 (.slice LB d.segments[j].labels.length lb)).set_ 1 (.slice DB d.segments[j].defaults.length db)).set_ 2 (.slice none 0 0)), TxtO.keeps O1.out ((((Keeps.refl _ W2).sc (b := gx) (o := 0) (fun h => by have := h.2; have := FG.out; omega) (.slice LB d.segments[j].labels.length lb)).sc (b := gx) (o := 1) (fun h => by have := h.2; have := FG.out; omega) (.slice DB d.segments[j].defaults.length db)).sc (b := gx) (o := 2) (fun h => by have := h.2; have := FG.out; omega) (.slice none 0 0)), IntO.keeps O2.out ((((Keeps.refl _ W2).sc (b := gx) (o := 0) (fun h => by have := h.2; have := FG.out; omega) (.slice LB d.segments[j].labels.length lb)).sc (b := gx) (o := 1) (fun h => by have := h.2; have := FG.out; omega) (.slice DB d.segments[j].defaults.length db)).sc (b := gx) (o := 2) (fun h => by have := h.2; have := FG.out; omega) (.slice none 0 0)), FG.out, hg1, hlt1, by simp [World.setCell], (below_sc (b := gx) (o := 2) (below_sc (b := gx) (o := 1) (below_sc (b := gx) (o := 0) HB.out (by omega) (.slice LB d.segments[j].labels.length lb)) (by omega) (.slice DB d.segments[j].defaults.length db)) (by omega) (.slice none 0 0))⟩) ?_
   clear O1 O2 HB BXW BG FG hS e2 e6
   intro V5 hv
   try simp only [e7, e8]
   clear e7 e8
   have HV := Lib.hid hv
   clear hv
   have y2 := HV.out.b.cell 2 _ rfl
   go_wp2_with fail
   clear y2
   go_loopw [36] (fun k wr => ∃ (i : Nat) (X : Option Addr) (xq : Nat), i <= d.segments[j].instrs.length /\ k = .int .i64 i /\ Hid (CS wo d.segments[j] [.slice LA d.segments[j].labels.length lc, .slice DA d.segments[j].defaults.length dc, .slice IA d.segments[j].instrs.length ic] gx W1.heap.size W2.heap.size f5 LB lb DB db (.slice X i xq) wr) /\ Hid (InstrsO (Rng W2.heap.size wr.heap.size) wr (.slice X i xq) (d.segments[j].instrs.take i))) (fun k _ => d.segments[j].instrs.length - (intOf k).toNat)
   case atStart => exact ⟨0, none, 0, Nat.zero_le _, rfl, HV.out, SlO.nil_ _ _ _ _ _⟩
   case round =>
    clear HV
    obtain ⟨i, X, xq, hi, rfl, HS, HX⟩ := hrel
    have stop := HS.out.top
    have sgin := HS.out.gin
    have slow := HS.out.low
    have hwi := HS.out.below.size
    by_cases hil : i < d.segments[j].instrs.length
    rotate_left
    ·obtain rfl : i = d.segments[j].instrs.length := by omega
     rw [List.take_length] at HX
     have HEL := Lib.hid (CS.out HS.out HX.out)
     have HT2 := Lib.hid (HT.out.step HS.out.below)
     obtain ⟨xs, hown, hpush⟩ := SlO.push (fun h k => h.keeps k) (fun h k => h.mono k) HO.out htop HS.out.below d.segments[j] _ rfl HEL.out
     have HPU := Lib.hid hpush
     have HOW := Lib.hid hown
     clear hpush hown
     rw [HLJ.out] at HPU HOW
     have t0 := HT2.out.o.cell 0 _ rfl
     have q0 := HS.out.o.cell 0 _ rfl
     have q1 := HS.out.o.cell 1 _ rfl
     have q2 := HS.out.o.cell 2 _ rfl
     have hlo : W.heap.size <= wr.heap.size := HT2.out.top
     go_wp2_with (at_builtin; go_must (refine wpList_push rfl _ _ 29 rfl W.heap.size 49 (.agg #[.slice none 0 0, .slice none 0 0, .slice none 0 0]) 3 72 Tryz.underlying29 info_Segment rfl (by decide) _ _ _ _ _ rfl rfl (by exact HOW.out) rfl (by simp [Value.oneCell']) (by omega) (by omega) hlo ?_); intro v5 w5 ho5 hg5 hbk5 hb5; obtain ⟨U5, u5c, rfl⟩ := own_shp' ho5; have HP5 := Lib.hid (HPU.out _ _ (by simpa using ho5) hg5 hbk5); have HT5 := Lib.hid (HT2.out.stepB hb5); have t5 := HT5.out.o.cell 0 _ rfl; have tf5 := HT5.out.o.frozen 0; clear ho5 hg5 hbk5 hb5)
     go_roundw
     case rel => exact ⟨j + 1, U5, u5c, by omega, by go_num, HT5.out.put, show SegmentsO _ _ _ _ by
      rw [HTK.out]
      exact SegmentsO.mono (SegmentsO.keeps HP5.out ((Keeps.refl _ _).sc (fun h => by have := h.1; omega) _)) (fun b h => ⟨h.1, by simpa [World.setCell] using h.2⟩)⟩
     case measure => simp [intOf] <;> omega
    have HTI := Lib.hid (show d.segments[j].instrs.take (i + 1) = d.segments[j].instrs.take i ++ [d.segments[j].instrs[i]] by rw [List.take_succ_eq_append_getElem hil])
    have HLI := Lib.hid (show (d.segments[j].instrs.take i).length = i by rw [List.length_take]; omega)
    obtain ⟨ib, ioff, ics, rfl, hibl, hics, hiat, hir⟩ := HIN.out i hil
    obtain ⟨A4, c4, A1, c1, A2, c2, A3, c3, A5, c5, A6, c6, rfl, i0, i1, i2, i3, kL, kV⟩ := hir.slices9
    have HII := Lib.hid (And.intro i0 (And.intro i1 (And.intro i2 i3)))
    have HKL := Lib.hid kL
    have HKV := Lib.hid kV
    have zzj := szS_at szInstr d.segments[j].instrs i hil
    have zzx : szInstr d.segments[j].instrs[i] = d.segments[j].instrs[i].text.length + szL d.segments[j].instrs[i].labels + szVector d.segments[j].instrs[i].value := rfl
    have zzl := szL_length d.segments[j].instrs[i].labels
    have hzl5 : d.segments[j].instrs[i].labels.length <= 1048576 := by omega
    have hzv5 : szVector d.segments[j].instrs[i].value <= 1048576 := by omega
    clear hir hics i0 i1 i2 i3 kL kV zzj zzx zzl
    have HWI := Lib.hid (HT.out.below.trans (HS.out.below.mono hwr))
    obtain ⟨z0, z1, z2, z3, z4, z5, z6, z7, z8, z9, z10, z11, z12⟩ := pk_c13 HWI.out hibl hiat
    clear hiat
    -- the box
    go_upto_region 9 with fail
    have hbA := (Below.refl wr.heap.size wr).alloc (Nat.le_refl _) (.cells #[.int .i64 d.segments[j].instrs[i].op, .int .i64 d.segments[j].instrs[i].arg, .int .i64 d.segments[j].instrs[i].count, .string (str d.segments[j].instrs[i].text), .slice A4 d.segments[j].instrs[i].labels.length c4, .int .i64 d.segments[j].instrs[i].value.kind, .slice A1 d.segments[j].instrs[i].value.items.length c1, .slice A2 d.segments[j].instrs[i].value.parts.length c2, .slice A3 d.segments[j].instrs[i].value.names.length c3, .slice A5 d.segments[j].instrs[i].value.cls.length c5, .slice A6 d.segments[j].instrs[i].value.levels.length c6, .int .i64 d.segments[j].instrs[i].value.code, .int .i64 d.segments[j].instrs[i].value.env] 63)
    refine gen_w (G := fun V => Blk V wr.heap.size 63 [.int .i64 d.segments[j].instrs[i].op, .int .i64 d.segments[j].instrs[i].arg, .int .i64 d.segments[j].instrs[i].count, .string (str d.segments[j].instrs[i].text), .slice A4 d.segments[j].instrs[i].labels.length c4, .int .i64 d.segments[j].instrs[i].value.kind, .slice A1 d.segments[j].instrs[i].value.items.length c1, .slice A2 d.segments[j].instrs[i].value.parts.length c2, .slice A3 d.segments[j].instrs[i].value.names.length c3, .slice A5 d.segments[j].instrs[i].value.cls.length c5, .slice A6 d.segments[j].instrs[i].value.levels.length c6, .int .i64 d.segments[j].instrs[i].value.code, .int .i64 d.segments[j].instrs[i].value.env] /\ Below wr.heap.size wr V) ⟨Blk.new wr _ [.int .i64 d.segments[j].instrs[i].op, .int .i64 d.segments[j].instrs[i].arg, .int .i64 d.segments[j].instrs[i].count, .string (str d.segments[j].instrs[i].text), .slice A4 d.segments[j].instrs[i].labels.length c4, .int .i64 d.segments[j].instrs[i].value.kind, .slice A1 d.segments[j].instrs[i].value.items.length c1, .slice A2 d.segments[j].instrs[i].value.parts.length c2, .slice A3 d.segments[j].instrs[i].value.names.length c3, .slice A5 d.segments[j].instrs[i].value.cls.length c5, .slice A6 d.segments[j].instrs[i].value.levels.length c6, .int .i64 d.segments[j].instrs[i].value.code, .int .i64 d.segments[j].instrs[i].value.env], hbA⟩ ?_
    clear hbA z0 z1 z2 z3 z4 z5 z6 z7 z8 z9 z10 z11 z12
    rintro V1 ⟨hB1, hb1⟩
    have HB1 := Lib.hid hB1
    have HV1 := Lib.hid hb1
    have hV1 := HB1.out.lt
    clear hB1 hb1
    have q4 := HB1.out.cell 4 _ rfl
    go_wp2_with fail
    refine Calls.mono (impl_copyTexts d.segments[j].instrs[i].labels _ _ (HKL.out.below (HWI.out.trans (HV1.out.mono HWI.out.size))) (by omega)) ?_
    rintro e w3 ⟨LN, ln, rfl, ho, hb⟩
    have HTL := Lib.hid ho
    have HB3 := Lib.hid hb
    have hw3 := hb.size
    have HBX := Lib.hid (HB1.out.below hb)
    clear ho hb q4 HB1
    have q4 := HBX.out.cell 4 _ rfl
    have f4 := HBX.out.frozen 4
    go_upto_region 10 with fail
    have hV13 := HV1.out.trans (HB3.out.mono (by omega))
    refine gen_w (G := fun V => Blk V wr.heap.size 63 [.int .i64 d.segments[j].instrs[i].op, .int .i64 d.segments[j].instrs[i].arg, .int .i64 d.segments[j].instrs[i].count, .string (str d.segments[j].instrs[i].text), .slice LN d.segments[j].instrs[i].labels.length ln, .int .i64 d.segments[j].instrs[i].value.kind, .slice A1 d.segments[j].instrs[i].value.items.length c1, .slice A2 d.segments[j].instrs[i].value.parts.length c2, .slice A3 d.segments[j].instrs[i].value.names.length c3, .slice A5 d.segments[j].instrs[i].value.cls.length c5, .slice A6 d.segments[j].instrs[i].value.levels.length c6, .int .i64 d.segments[j].instrs[i].value.code, .int .i64 d.segments[j].instrs[i].value.env] /\ Below wr.heap.size wr V /\ TxtO (Rng V1.heap.size w3.heap.size) V (.slice LN d.segments[j].instrs[i].labels.length ln) d.segments[j].instrs[i].labels /\ w3.heap.size <= V.heap.size)
     ⟨HBX.out.set_ 4 (.slice LN d.segments[j].instrs[i].labels.length ln), below_sc hV13 (Nat.le_refl _) _, TxtO.keeps HTL.out ((Keeps.refl _ w3).sc (b := wr.heap.size) (o := 4) (fun h => by have := h.1; omega) _), by simp [World.setCell]⟩ ?_
    clear HTL HB3 HBX q4 f4 HV1 hV13
    rintro V3 ⟨hB1, hb1, hl1, hs1⟩
    have HB1 := Lib.hid hB1
    have HV3 := Lib.hid hb1
    have HTL := Lib.hid hl1
    have hV3 := HB1.out.lt
    clear hB1 hb1 hl1
    have q5 := HB1.out.cell 5 _ rfl
    have q6 := HB1.out.cell 6 _ rfl
    have q7 := HB1.out.cell 7 _ rfl
    have q8 := HB1.out.cell 8 _ rfl
    have q9 := HB1.out.cell 9 _ rfl
    have q10 := HB1.out.cell 10 _ rfl
    have q11 := HB1.out.cell 11 _ rfl
    have q12 := HB1.out.cell 12 _ rfl
    go_wp2_with fail
    clear q5 q6 q7 q8 q9 q10 q11 q12
    refine Calls.mono (impl_copyVectorV d.segments[j].instrs[i].value _ _ (HKV.out.below (HWI.out.trans (HV3.out.mono HWI.out.size))) (by omega)) ?_
    rintro e w4 ⟨ncs, rfl, ho, hb⟩
    obtain ⟨E1, e1, E2, e2, E3, e3, E4, e4, E5, e5, rfl⟩ := ho.shape
    have HVO := Lib.hid ho
    have HB4 := Lib.hid hb
    have hw4 := hb.size
    have HBX := Lib.hid (HB1.out.below hb)
    have HTL4 := Lib.hid (TxtO.keeps HTL.out (Keeps.of_below _ hb))
    clear ho hb HB1 HTL
    have q5 := HBX.out.cell 5 _ rfl
    have q6 := HBX.out.cell 6 _ rfl
    have q7 := HBX.out.cell 7 _ rfl
    have q8 := HBX.out.cell 8 _ rfl
    have q9 := HBX.out.cell 9 _ rfl
    have q10 := HBX.out.cell 10 _ rfl
    have q11 := HBX.out.cell 11 _ rfl
    have q12 := HBX.out.cell 12 _ rfl
    have f5' := HBX.out.frozen 5
    have f6' := HBX.out.frozen 6
    have f7' := HBX.out.frozen 7
    have f8' := HBX.out.frozen 8
    have f9' := HBX.out.frozen 9
    have f10' := HBX.out.frozen 10
    have f11' := HBX.out.frozen 11
    have f12' := HBX.out.frozen 12
    go_upto_region 11 with fail
    have hV4 := HV3.out.trans (HB4.out.mono (by omega))
    refine gen_w (G := fun V => Blk V wr.heap.size 63 [.int .i64 d.segments[j].instrs[i].op, .int .i64 d.segments[j].instrs[i].arg, .int .i64 d.segments[j].instrs[i].count, .string (str d.segments[j].instrs[i].text), .slice LN d.segments[j].instrs[i].labels.length ln, .int .i64 d.segments[j].instrs[i].value.kind, .slice E1 d.segments[j].instrs[i].value.items.length e1, .slice E2 d.segments[j].instrs[i].value.parts.length e2, .slice E3 d.segments[j].instrs[i].value.names.length e3, .slice E4 d.segments[j].instrs[i].value.cls.length e4, .slice E5 d.segments[j].instrs[i].value.levels.length e5, .int .i64 d.segments[j].instrs[i].value.code, .int .i64 d.segments[j].instrs[i].value.env] /\ Below wr.heap.size wr V /\ InstrO (Rng wr.heap.size V.heap.size) V [.int .i64 d.segments[j].instrs[i].op, .int .i64 d.segments[j].instrs[i].arg, .int .i64 d.segments[j].instrs[i].count, .string (str d.segments[j].instrs[i].text), .slice LN d.segments[j].instrs[i].labels.length ln, .int .i64 d.segments[j].instrs[i].value.kind, .slice E1 d.segments[j].instrs[i].value.items.length e1, .slice E2 d.segments[j].instrs[i].value.parts.length e2, .slice E3 d.segments[j].instrs[i].value.names.length e3, .slice E4 d.segments[j].instrs[i].value.cls.length e4, .slice E5 d.segments[j].instrs[i].value.levels.length e5, .int .i64 d.segments[j].instrs[i].value.code, .int .i64 d.segments[j].instrs[i].value.env] d.segments[j].instrs[i])
     ⟨((((((((HBX.out.set_ 5 (.int .i64 d.segments[j].instrs[i].value.kind)).set_ 6 (.slice E1 d.segments[j].instrs[i].value.items.length e1)).set_ 7 (.slice E2 d.segments[j].instrs[i].value.parts.length e2)).set_ 8 (.slice E3 d.segments[j].instrs[i].value.names.length e3)).set_ 9 (.slice E4 d.segments[j].instrs[i].value.cls.length e4)).set_ 10 (.slice E5 d.segments[j].instrs[i].value.levels.length e5)).set_ 11 (.int .i64 d.segments[j].instrs[i].value.code)).set_ 12 (.int .i64 d.segments[j].instrs[i].value.env)), (below_sc (b := wr.heap.size) (o := 12) (below_sc (b := wr.heap.size) (o := 11) (below_sc (b := wr.heap.size) (o := 10) (below_sc (b := wr.heap.size) (o := 9) (below_sc (b := wr.heap.size) (o := 8) (below_sc (b := wr.heap.size) (o := 7) (below_sc (b := wr.heap.size) (o := 6) (below_sc (b := wr.heap.size) (o := 5) hV4 (by omega) (.int .i64 d.segments[j].instrs[i].value.kind)) (by omega) (.slice E1 d.segments[j].instrs[i].value.items.length e1)) (by omega) (.slice E2 d.segments[j].instrs[i].value.parts.length e2)) (by omega) (.slice E3 d.segments[j].instrs[i].value.names.length e3)) (by omega) (.slice E4 d.segments[j].instrs[i].value.cls.length e4)) (by omega) (.slice E5 d.segments[j].instrs[i].value.levels.length e5)) (by omega) (.int .i64 d.segments[j].instrs[i].value.code)) (by omega) (.int .i64 d.segments[j].instrs[i].value.env)), ?_⟩ ?_
    ·exact ⟨_, _, _, _, _, _, _, _, _, _, _, _, fun z => if z < w3.heap.size then 4 else 5, rfl, HII.out.1, HII.out.2.1, HII.out.2.2.1, HII.out.2.2.2,
      (TxtO.keeps HTL4.out (((((((((Keeps.refl _ w4).sc (b := wr.heap.size) (o := 5) (fun h => by have := h.1; omega) (.int .i64 d.segments[j].instrs[i].value.kind)).sc (b := wr.heap.size) (o := 6) (fun h => by have := h.1; omega) (.slice E1 d.segments[j].instrs[i].value.items.length e1)).sc (b := wr.heap.size) (o := 7) (fun h => by have := h.1; omega) (.slice E2 d.segments[j].instrs[i].value.parts.length e2)).sc (b := wr.heap.size) (o := 8) (fun h => by have := h.1; omega) (.slice E3 d.segments[j].instrs[i].value.names.length e3)).sc (b := wr.heap.size) (o := 9) (fun h => by have := h.1; omega) (.slice E4 d.segments[j].instrs[i].value.cls.length e4)).sc (b := wr.heap.size) (o := 10) (fun h => by have := h.1; omega) (.slice E5 d.segments[j].instrs[i].value.levels.length e5)).sc (b := wr.heap.size) (o := 11) (fun h => by have := h.1; omega) (.int .i64 d.segments[j].instrs[i].value.code)).sc (b := wr.heap.size) (o := 12) (fun h => by have := h.1; omega) (.int .i64 d.segments[j].instrs[i].value.env))).mono (fun z hz => ⟨⟨by have := hz.1; omega, by have := hz.2; simp [World.setCell]; omega⟩, by dsimp only; rw [if_pos hz.2]⟩),
      (VecO.keeps HVO.out (((((((((Keeps.refl _ w4).sc (b := wr.heap.size) (o := 5) (fun h => by have := h.1; omega) (.int .i64 d.segments[j].instrs[i].value.kind)).sc (b := wr.heap.size) (o := 6) (fun h => by have := h.1; omega) (.slice E1 d.segments[j].instrs[i].value.items.length e1)).sc (b := wr.heap.size) (o := 7) (fun h => by have := h.1; omega) (.slice E2 d.segments[j].instrs[i].value.parts.length e2)).sc (b := wr.heap.size) (o := 8) (fun h => by have := h.1; omega) (.slice E3 d.segments[j].instrs[i].value.names.length e3)).sc (b := wr.heap.size) (o := 9) (fun h => by have := h.1; omega) (.slice E4 d.segments[j].instrs[i].value.cls.length e4)).sc (b := wr.heap.size) (o := 10) (fun h => by have := h.1; omega) (.slice E5 d.segments[j].instrs[i].value.levels.length e5)).sc (b := wr.heap.size) (o := 11) (fun h => by have := h.1; omega) (.int .i64 d.segments[j].instrs[i].value.code)).sc (b := wr.heap.size) (o := 12) (fun h => by have := h.1; omega) (.int .i64 d.segments[j].instrs[i].value.env))).mono (fun z hz => ⟨⟨by have := hz.1; omega, by have := hz.2; simpa [World.setCell] using this⟩, by dsimp only; rw [if_neg (by have := hz.1; omega)]⟩)⟩
    clear HTL4 HBX HVO HB4 hV4 q5 q6 q7 q8 q9 q10 q11 q12 f5' f6' f7' f8' f9' f10' f11' f12' HV3
    rintro V4 ⟨hB1, hb1, hel⟩
    have HB1 := Lib.hid hB1
    have HV4 := Lib.hid hb1
    have HEL := Lib.hid hel
    have hV4 := HB1.out.lt
    clear hB1 hb1 hel
    have HS4 := Lib.hid (HS.out.step HV4.out)
    obtain ⟨xs, hown, hpush⟩ := SlO.push (fun h k => h.keeps k) (fun h k => h.mono k) HX.out stop HV4.out d.segments[j].instrs[i] _ rfl HEL.out
    have HPU := Lib.hid hpush
    have HOW := Lib.hid hown
    clear hpush hown
    rw [HLI.out] at HPU HOW
    have t2 := HS4.out.o.cell 2 _ rfl
    have hlo : W2.heap.size <= V4.heap.size := HS4.out.top
    have q0 := HB1.out.cell 0 _ rfl
    have q1 := HB1.out.cell 1 _ rfl
    have q2 := HB1.out.cell 2 _ rfl
    have q3 := HB1.out.cell 3 _ rfl
    have q4 := HB1.out.cell 4 _ rfl
    have q5 := HB1.out.cell 5 _ rfl
    have q6 := HB1.out.cell 6 _ rfl
    have q7 := HB1.out.cell 7 _ rfl
    have q8 := HB1.out.cell 8 _ rfl
    have q9 := HB1.out.cell 9 _ rfl
    have q10 := HB1.out.cell 10 _ rfl
    have q11 := HB1.out.cell 11 _ rfl
    have q12 := HB1.out.cell 12 _ rfl
    go_wp2_with (at_builtin; go_must (refine wpList_push rfl _ _ 47 rfl W2.heap.size 63 (.agg #[.int .i64 0, .int .i64 0, .int .i64 0, .string ByteArray.empty, .slice none 0 0, .int .i64 0, .slice none 0 0, .slice none 0 0, .slice none 0 0, .slice none 0 0, .slice none 0 0, .int .i64 0, .int .i64 0]) 13 208 Tryz.underlying47 info_Instr rfl (by decide) _ _ _ _ _ rfl rfl (by exact HOW.out) rfl (by simp [Value.oneCell']) (by omega) (by omega) hlo ?_); intro v5 w5 ho5 hg5 hbk5 hb5; obtain ⟨U5, u5c, rfl⟩ := own_shp' ho5; have HP5 := Lib.hid (HPU.out _ _ (by simpa using ho5) hg5 hbk5); have HS5 := Lib.hid (HS4.out.stepB hb5); have t5 := HS5.out.o.cell 2 _ rfl; have tf5 := HS5.out.o.frozen 2; clear ho5 hg5 hbk5 hb5)
    go_roundw
    case rel => exact ⟨i + 1, U5, u5c, by omega, by go_num, HS5.out.put, show InstrsO _ _ _ _ by
     rw [HTI.out]
     exact SlO.mono (fun _ h k => h.mono k) (InstrsO.keeps HP5.out ((Keeps.refl _ _).sc (fun h => by have := h.1; omega) _)) (fun b h => ⟨h.1, by simpa [World.setCell] using h.2⟩)⟩
    case measure => simp [intOf] <;> omega
end Go.Proofs.YtjdfancbmjnjfaaGreat
