/-
  Contracts: code is optimized by the reference (spec.l34Optimize, spec.OptimizeCode).
-/
import Derived.Test.YtjdfancbmjnjfaaGreatOptF
import Derived.Test.YtjdfancbmjnjfaaGreatChk15
namespace Go.Proofs.YtjdfancbmjnjfaaGreat
set_option maxRecDepth 100000
open Go.ChangeShapes Go.WideShapes Go.ChangeAt Go.RowKit Go.Deep
set_option linter.unusedVariables false
set_option linter.unusedSimpArgs false
set_option maxRecDepth 100000

def optS (g : SegD) : SegD := { g with instrs := optL g.instrs }
def optD (d : CodeD) : CodeD := { d with segments := d.segments.map optS }
def zB : List Value := [.slice none 0 0, .slice none 0 0, .slice none 0 0]
theorem info_strG : (Tryz.prog.info? 9).map (fun i => (i.zero, i.size, i.bytes)) = some (some (.string ByteArray.empty), 1, 16) := by kernel_rfl
theorem Bools.src {w : World} {A : Option Addr} {m c : Nat} {l : List Bool} (h : Bools w (.slice A m c) l) : m = l.length /\ Src w 1 A l.length (l.map fun n => Value.bool n) := by
 have := SlR.src h (fun n => [Value.bool n]) (by omega) (fun cs x hc => hc) (fun x _ u hu => by simp at hu; subst hu; rfl)
 rw [map_flat]
 exact this

/-- what the regions' first part gives: values of the operations in whatever order they come -/
def o1R (B : Nat) (d : CodeD) (M Q : Option Addr) (mm qq : Nat) : Nat -> (Nat -> Nat -> Prop) -> (Nat -> Value) -> World -> Prop
 | 0, T, vs, W => EmptyO (T 1) W 3 1 (vs 0)
 | 1, T, vs, W => vs 1 = .pointer (some ⟨B, 1, none⟩)
 | 2, T, vs, W => vs 2 = .slice M d.main.length mm
 | 3, T, vs, W => ∃ A c, vs 3 = .slice A d.main.length c /\ IntO (T 1) W (.slice A d.main.length c) d.main
 | 4, T, vs, W => EmptyO (T 2) W 4 1 (vs 4)
 | 5, T, vs, W => vs 5 = .pointer (some ⟨B, 2, none⟩)
 | 6, T, vs, W => vs 6 = .slice Q d.quiet.length qq
 | 7, T, vs, W => ∃ A c, vs 7 = .slice A d.quiet.length c /\ BoolO (T 2) W (.slice A d.quiet.length c) d.quiet
 | 8, T, vs, W => vs 8 = .agg #[.slice none 0 0, vs 3, vs 7]
 | 9, T, vs, W => ∃ g, vs 9 = .pointer (some ⟨g, 0, none⟩) /\ T 9 g /\ Blk W g 31 zB
 | _, _, _, _ => True
def o1D : Nat -> List Nat
 | 8 => [8, 3, 7]
 | i => [i]
def o1L : Nat -> Nat
 | 0 => 1
 | 3 => 1
 | 4 => 2
 | 7 => 2
 | 9 => 9
 | _ => 0
theorem o1K (B : Nat) (d : CodeD) (M Q : Option Addr) (mm qq : Nat) (i : Nat) (T T' : Nat -> Nat -> Prop) (vs vs' : Nat -> Value) (W W' : World) (hv : ∀ j ∈ o1D i, vs' j = vs j) (hT : ∀ l b, T l b -> T' l b) (hb : Below W.heap.size W W') (h : o1R B d M Q mm qq i T vs W) : o1R B d M Q mm qq i T' vs' W' :=
 match i, hv, h with
 | 0, hv, h => by
  show EmptyO (T' 1) W' _ _ (vs' 0)
  rw [hv 0 List.mem_cons_self]
  exact EmptyO.keeps h hb (hT 1)
 | 1, hv, h => (hv 1 (List.mem_cons_self)).trans h
 | 2, hv, h => (hv 2 (List.mem_cons_self)).trans h
 | 3, hv, h => by
  obtain ⟨A, c, e, o⟩ := h
  exact ⟨A, c, (hv 3 List.mem_cons_self).trans e, (IntO.keeps o (Keeps.of_below _ hb)).mono (hT 1)⟩
 | 4, hv, h => by
  show EmptyO (T' 2) W' _ _ (vs' 4)
  rw [hv 4 List.mem_cons_self]
  exact EmptyO.keeps h hb (hT 2)
 | 5, hv, h => (hv 5 (List.mem_cons_self)).trans h
 | 6, hv, h => (hv 6 (List.mem_cons_self)).trans h
 | 7, hv, h => by
  obtain ⟨A, c, e, o⟩ := h
  exact ⟨A, c, (hv 7 List.mem_cons_self).trans e, (BoolO.keeps o (Keeps.of_below _ hb)).mono (hT 2)⟩
 | 8, hv, h => by
  show vs' 8 = _
  rw [hv 8 (by decide), hv 3 (by decide), hv 7 (by decide)]
  exact h
 | 9, hv, h => by
  obtain ⟨g, e, t, b⟩ := h
  exact ⟨g, (hv 9 List.mem_cons_self).trans e, hT 9 g t, b.below hb⟩
 | _ + 10, _, _ => trivial

/-- the boxes in the midst of a copy of code -/
structure CC (w : World) (d : CodeD) (C0 : List Value) (go lo Bp : Nat) (f : Nat -> Nat) (M : Option Addr) (m : Nat) (Q : Option Addr) (q : Nat) (u : Value) (W : World) : Prop where
 x : Blk W w.heap.size 31 C0
 r : Blk W (w.heap.size + 1) 31 zB
 o : Blk W go 31 [u, .slice M d.main.length m, .slice Q d.quiet.length q]
 o1 : IntO (fun b => Rng lo Bp b /\ f b = 1) W (.slice M d.main.length m) d.main
 o2 : BoolO (fun b => Rng lo Bp b /\ f b = 2) W (.slice Q d.quiet.length q) d.quiet
 fg : f go = 9
 gin : lo <= go /\ go < Bp
 low : w.heap.size + 1 < lo
 top : Bp <= W.heap.size
 below : Below w.heap.size w W
section
variable {w : World} {d : CodeD} {C0 : List Value} {go lo Bp : Nat} {f : Nat -> Nat} {M Q : Option Addr} {m q : Nat} {u u' : Value} {W W' : World}
theorem CC.stepB (h : CC w d C0 go lo Bp f M m Q q u W) (hb : Below Bp W W') : CC w d C0 go lo Bp f M m Q q u W' :=
 have h1 := h.low
 have h2 := h.gin
 ⟨(hb.block _ (by omega)).trans h.x, (hb.block _ (by omega)).trans h.r, (hb.block _ h.gin.2).trans h.o, IntO.keeps h.o1 ⟨hb.size, fun b _ hs => hb.block b hs.1.2⟩, BoolO.keeps h.o2 ⟨hb.size, fun b _ hs => hb.block b hs.1.2⟩, h.fg, h.gin, h.low, Nat.le_trans h.top hb.size, h.below.trans (hb.mono (by omega))⟩
theorem CC.step (h : CC w d C0 go lo Bp f M m Q q u W) (hb : Below W.heap.size W W') : CC w d C0 go lo Bp f M m Q q u W' := h.stepB (hb.mono h.top)
theorem CC.put (h : CC w d C0 go lo Bp f M m Q q u W) : CC w d C0 go lo Bp f M m Q q u' (W.setCell ⟨go, 0, none⟩ u') :=
 have h1 := h.low
 have h2 := h.gin
 ⟨h.x.far ⟨go, 0, none⟩ (by simp; omega) u', h.r.far ⟨go, 0, none⟩ (by simp; omega) u', h.o.set_ 0 u', IntO.keeps h.o1 ((Keeps.refl _ _).sc (fun hs => by have := hs.2.symm.trans h.fg; omega) _), BoolO.keeps h.o2 ((Keeps.refl _ _).sc (fun hs => by have := hs.2.symm.trans h.fg; omega) _), h.fg, h.gin, h.low, by simpa [World.setCell] using h.top, below_sc h.below (by omega) u'⟩
end
theorem SegmentO.make {a b c e : Nat} {W : World} {LA DA IA : Option Addr} {lc dc ic : Nat} {x : SegD} (h1 : TxtO (Rng a b) W (.slice LA x.labels.length lc) x.labels) (h2 : IntO (Rng b c) W (.slice DA x.defaults.length dc) x.defaults) (h3 : InstrsO (Rng c e) W (.slice IA x.instrs.length ic) x.instrs) (hab : a <= b) (hbc : b <= c) (hce : c <= e) :
  SegmentO (Rng a e) W [.slice LA x.labels.length lc, .slice DA x.defaults.length dc, .slice IA x.instrs.length ic] x :=
 ⟨LA, lc, DA, dc, IA, ic, fun z => if z < b then 0 else if z < c then 1 else 2, rfl,
  h1.mono fun z hz => ⟨⟨hz.1, by have := hz.2; omega⟩, by dsimp only; rw [if_pos hz.2]⟩,
  h2.mono fun z hz => ⟨⟨by have := hz.1; omega, by have := hz.2; omega⟩, by dsimp only; rw [if_neg (by have := hz.1; omega), if_pos hz.2]⟩,
  SlO.mono (fun _ h k => h.mono k) h3 fun z hz => ⟨⟨by have := hz.1; omega, hz.2⟩, by dsimp only; rw [if_neg (by have := hz.1; omega), if_neg (by have := hz.1; omega)]⟩⟩
def RetCode (w : World) (d : CodeD) (e : Ending) (w' : World) : Prop := ∃ cs, e = .returned (.agg cs.toArray) /\ BytecodeO (Rng w.heap.size w'.heap.size) w' cs d /\ Below w.heap.size w w'
theorem CC.out {w W : World} {d : CodeD} {C0 : List Value} {go lo Bp : Nat} {f : Nat -> Nat} {M Q : Option Addr} {m q : Nat} {U : Option Addr} {c n : Nat} (h : CC w d C0 go lo Bp f M m Q q (.slice U n c) W) (ss : List SegD) (hn : n = ss.length) (hs : SegmentsO (Rng Bp W.heap.size) W (.slice U n c) ss) :
  BytecodeO (Rng lo W.heap.size) W [.slice U n c, .slice M d.main.length m, .slice Q d.quiet.length q] { d with segments := ss } := by
 subst hn
 have h1 := h.low
 have h2 := h.gin
 have h3 := h.top
 refine ⟨U, c, M, m, Q, q, fun b => if Bp <= b then 0 else f b, rfl, SlO.mono (fun _ h k => h.mono k) hs fun b hb => ⟨⟨by have := hb.1; omega, hb.2⟩, by dsimp only; rw [if_pos hb.1]⟩, h.o1.mono fun b hb => ⟨⟨by have := hb.1.1; omega, by have := hb.1.2; omega⟩, ?_⟩, h.o2.mono fun b hb => ⟨⟨by have := hb.1.1; omega, by have := hb.1.2; omega⟩, ?_⟩⟩
 ·dsimp only; rw [if_neg (by have := hb.1.2; omega)]; exact hb.2
 ·dsimp only; rw [if_neg (by have := hb.1.2; omega)]; exact hb.2

set_option maxHeartbeats 16000000 in
theorem spec_l34Optimize (d : CodeD) (cs : List Value) (w : World) (h : BytecodeR w cs d) (hz : szBytecode d <= 1048576) (hok : ∀ g ∈ d.segments, ArgOk g.instrs /\ (∀ x ∈ g.instrs, 0 <= x.op /\ x.op <= 33) /\ g.instrs.length <= 1000 /\ ∀ x ∈ g.instrs, okN 3 x.value = true) :
  Calls Tryz.prog 38 #[.agg cs.toArray] w (RetCode w (optD d)) := by
 have HOK := Lib.hid hok
 clear hok
 have hz1 : szS szSegment d.segments <= 1048576 := by unfold szBytecode at hz; omega
 have hz2 : d.main.length <= 1048576 := by unfold szBytecode at hz; omega
 have hz3 : d.quiet.length <= 1048576 := by unfold szBytecode at hz; omega
 have hz4 := szS_length szSegment d.segments
 clear hz
 obtain ⟨v0, v1, v2, rfl, h0, h1, h2⟩ := h
 obtain ⟨A0, a0, rfl, la0, ma0, HC⟩ := SlR.open_ h0
 obtain ⟨M0, m0, rfl, lm0, mm0, _⟩ := Ints.open_ h1
 obtain ⟨Q0, q0, rfl, lq0, mq0, _⟩ := Bools.open_ h2
 have HM := Lib.hid h1
 have HQ := Lib.hid h2
 clear h0 h1 h2
 unfold maxLen at ma0 mm0 mq0
 obtain ⟨G, g0, HG, BX, BY⟩ := good2 w 31 [.slice A0 d.segments.length a0, .slice M0 d.main.length m0, .slice Q0 d.quiet.length q0] 31 zB
 obtain ⟨x0, x1, x2⟩ := pk_f3 BX
 go_enter Tryz.func38, Tryz.ntmps38
 go_upto_region 1 with fail
 refine gen_w g0 ?_
 clear g0
 intro W0 g0
 have hW0 := (HG.out.below g0).size
 have hlt0 := (BY.out W0 g0).lt
 refine wp_region_free (by kernel_rfl) (by kernel_rfl) (Ok G) o1L o1D (o1R w.heap.size d M0 Q0 m0 q0) (fun vs => ⟨#[.agg #[.slice A0 d.segments.length a0, .slice M0 d.main.length m0, .slice Q0 d.quiet.length q0], .pointer (some ⟨w.heap.size, 0, none⟩), .pointer (some ⟨w.heap.size + 1, 0, none⟩), vs 9, undef, undef, undef, undef, vs 0, vs 1, vs 2, vs 3, vs 4, vs 5, vs 6, vs 7, vs 8, undef, undef, undef, undef, undef, undef, undef, undef, undef, undef, undef, undef, undef, undef, undef, undef, undef, undef, undef, undef, undef, undef, undef, undef, undef, undef, undef, undef, undef, undef, undef, undef, undef, undef, undef, undef, undef, undef, undef, undef, undef], []⟩) (fun vs => by kernel_rfl) (by kernel_rfl) (HG.out.drew g0) (o1K w.heap.size d M0 Q0 m0 q0) ?_ ?_
 ·intro i o ho hi vs T W hS hd
  have h9 : i + 1 < 11 := by simpa using hi
  have hi' : i = 0 \/ i = 1 \/ i = 2 \/ i = 3 \/ i = 4 \/ i = 5 \/ i = 6 \/ i = 7 \/ i = 8 \/ i = 9 := by omega
  clear h9 hi
  rcases hi' with rfl | rfl | rfl | rfl | rfl | rfl | rfl | rfl | rfl | rfl
  ·obtain rfl := Option.some.inj ho
   refine oper_ok (by go_simp; exact ⟨rfl, rfl⟩) ⟨_, rfl, (Below.refl _ _).alloc (Nat.le_refl _) _, HG.out.alloc hS _, ?_⟩
   show EmptyO _ _ _ _ (upd vs 0 _ 0)
   rw [upd_same]
   exact EmptyO.keeps (EmptyO.new _ _ _) (Below.refl _ _) (fun b hb => .inr ⟨rfl, hb.1, hb.2⟩)
  ·obtain rfl := Option.some.inj ho
   exact oper_ok (by go_simp) ⟨_, rfl, Below.refl _ _, hS, upd_same _ _ _⟩
  ·obtain rfl := Option.some.inj ho
   have d : vs 1 = _ := hd ⟨1, .data⟩ (by simp) rfl
   exact oper_ok (by go_simp) ⟨_, rfl, Below.refl _ _, hS, upd_same _ _ _⟩
  ·obtain rfl := Option.some.inj ho
   obtain ⟨g, e, o2⟩ := (show EmptyO (T 1) W _ _ (vs 0) from hd ⟨0, .data⟩ (by simp) rfl)
   have dx : vs 2 = _ := hd ⟨2, .data⟩ (by simp) rfl
   rw [e] at o2
   refine wp_cat0 (.tmp 8) (.tmp 10) 23 rfl 3 (.int .i64 0) 1 8 Tryz.underlying23 info_int rfl (by decide) W g (by exact e) M0 d.main.length m0 _ (by exact dx) (Ints.src (HM.out.below (HG.out.below hS))).2 (by omega) (by omega) ?_
   intro A' c' W' hb hown
   refine ⟨_, rfl, hb, HG.out.step hS hb, A', c', upd_same _ _ _, ?_⟩
   exact ⟨cat0_own o2 (fun b hb => .inl hb) (fun b h1 h2 => .inr ⟨rfl, h1, h2⟩) hown, Ints.small HM.out⟩
  ·obtain rfl := Option.some.inj ho
   refine oper_ok (by go_simp; exact ⟨rfl, rfl⟩) ⟨_, rfl, (Below.refl _ _).alloc (Nat.le_refl _) _, HG.out.alloc hS _, ?_⟩
   show EmptyO _ _ _ _ (upd vs 4 _ 4)
   rw [upd_same]
   exact EmptyO.keeps (EmptyO.new _ _ _) (Below.refl _ _) (fun b hb => .inr ⟨rfl, hb.1, hb.2⟩)
  ·obtain rfl := Option.some.inj ho
   exact oper_ok (by go_simp) ⟨_, rfl, Below.refl _ _, hS, upd_same _ _ _⟩
  ·obtain rfl := Option.some.inj ho
   have d : vs 5 = _ := hd ⟨5, .data⟩ (by simp) rfl
   exact oper_ok (by go_simp) ⟨_, rfl, Below.refl _ _, hS, upd_same _ _ _⟩
  ·obtain rfl := Option.some.inj ho
   obtain ⟨g, e, o2⟩ := (show EmptyO (T 2) W _ _ (vs 4) from hd ⟨4, .data⟩ (by simp) rfl)
   have dx : vs 6 = _ := hd ⟨6, .data⟩ (by simp) rfl
   rw [e] at o2
   refine wp_cat0 (.tmp 12) (.tmp 14) 24 rfl 4 (.bool false) 1 1 Tryz.underlying24 info_bool rfl (by decide) W g (by exact e) Q0 d.quiet.length q0 _ (by exact dx) (Bools.src (HQ.out.below (HG.out.below hS))).2 (by omega) (by omega) ?_
   intro A' c' W' hb hown
   refine ⟨_, rfl, hb, HG.out.step hS hb, A', c', upd_same _ _ _, ?_⟩
   exact cat0_own o2 (fun b hb => .inl hb) (fun b h1 h2 => .inr ⟨rfl, h1, h2⟩) hown
  ·obtain rfl := Option.some.inj ho
   obtain ⟨_, _, e3, _⟩ := (show o1R w.heap.size d M0 Q0 m0 q0 3 T vs W from hd ⟨3, .data⟩ (by simp) rfl)
   obtain ⟨_, _, e7, _⟩ := (show o1R w.heap.size d M0 Q0 m0 q0 7 T vs W from hd ⟨7, .data⟩ (by simp) rfl)
   refine oper_ok (by go_simp; rfl) ⟨_, rfl, Below.refl _ _, hS, ?_⟩
   show upd vs 8 _ 8 = .agg #[.slice none 0 0, upd vs 8 _ 3, upd vs 8 _ 7]
   simp [upd, e3, e7]
  ·obtain rfl := Option.some.inj ho
   exact oper_ok (by go_simp; first | exact ⟨rfl, rfl⟩ | rfl) ⟨_, rfl, (Below.refl _ _).alloc (Nat.le_refl _) _, HG.out.alloc hS _, W.heap.size, upd_same _ _ _, .inr ⟨rfl, Nat.le_refl _, by simp⟩, Blk.new W _ zB⟩
 ·intro o ho vs T W hS hsz hT1 hT2 hR
  obtain ⟨od, oo, ot, opos, oa, og⟩ := o
  obtain ⟨rfl, rfl⟩ : od = none /\ oo = .store 31 (.tmp 3) (.tmp 16) := ⟨(congrArg Oper.dst (Option.some.inj ho)).symm, (congrArg Oper.op (Option.some.inj ho)).symm⟩
  clear ho
  obtain ⟨P, p, e3, o1⟩ := hR 3 (by decide)
  obtain ⟨R, r, e7, o2⟩ := hR 7 (by decide)
  have e8 : vs 8 = .agg #[.slice none 0 0, vs 3, vs 7] := hR 8 (by decide)
  obtain ⟨g, e9, tg, bg⟩ := hR 9 (by decide)
  rw [e3, e7] at e8
  obtain ⟨f, hf⟩ := labels T hT2
  have hg1 := hT1 9 g tg
  have hTr : ∀ l b, T l b -> Rng W0.heap.size W.heap.size b /\ f b = l := fun l b hb => ⟨hT1 l b hb, hf l b hb⟩
  have FG := Lib.hid (hf 9 g tg)
  have O1 := Lib.hid (IntO.mono o1 (hTr 1))
  have O2 := Lib.hid (BoolO.mono o2 (hTr 2))
  have HB := Lib.hid (HG.out.below hS)
  have BXW := Lib.hid (BX.out W hS)
  have BYW := Lib.hid (BY.out W hS)
  have BG := Lib.hid bg
  have hWs := HB.out.size
  clear o1 o2 hR hT1 hT2 hTr hf tg bg
  have y0 := BG.out.cell 0 _ rfl
  have z0 := BG.out.frozen 0
  have y1 := BG.out.cell 1 _ rfl
  have z1 := BG.out.frozen 1
  have y2 := BG.out.cell 2 _ rfl
  have z2 := BG.out.frozen 2
  refine oper_gen (fun K hK => ?_)
  go_wp2_with fail
  refine hK.out _ _ ?_
  clear hK y0 y1 y2 z0 z1 z2
  refine gen_w (G := CC w d [.slice A0 d.segments.length a0, .slice M0 d.main.length m0, .slice Q0 d.quiet.length q0] g W0.heap.size W.heap.size f P p R r (.slice none 0 0))
   (show Ok _ _ from ⟨(((BXW.out.far ⟨g, 0, none⟩ (by simp <;> omega) (.slice none 0 0)).far ⟨g, 1, none⟩ (by simp <;> omega) (.slice P d.main.length p)).far ⟨g, 2, none⟩ (by simp <;> omega) (.slice R d.quiet.length r)), (((BYW.out.far ⟨g, 0, none⟩ (by simp <;> omega) (.slice none 0 0)).far ⟨g, 1, none⟩ (by simp <;> omega) (.slice P d.main.length p)).far ⟨g, 2, none⟩ (by simp <;> omega) (.slice R d.quiet.length r)), (((BG.out.set_ 0 (.slice none 0 0)).set_ 1 (.slice P d.main.length p)).set_ 2 (.slice R d.quiet.length r)), IntO.keeps O1.out ((((Keeps.refl _ W).sc (b := g) (o := 0) (fun h => by have := h.2; have := FG.out; omega) (.slice none 0 0)).sc (b := g) (o := 1) (fun h => by have := h.2; have := FG.out; omega) (.slice P d.main.length p)).sc (b := g) (o := 2) (fun h => by have := h.2; have := FG.out; omega) (.slice R d.quiet.length r)), BoolO.keeps O2.out ((((Keeps.refl _ W).sc (b := g) (o := 0) (fun h => by have := h.2; have := FG.out; omega) (.slice none 0 0)).sc (b := g) (o := 1) (fun h => by have := h.2; have := FG.out; omega) (.slice P d.main.length p)).sc (b := g) (o := 2) (fun h => by have := h.2; have := FG.out; omega) (.slice R d.quiet.length r)), FG.out, hg1, hlt0, by simp [World.setCell], (below_sc (b := g) (o := 2) (below_sc (b := g) (o := 1) (below_sc (b := g) (o := 0) HB.out (by omega) (.slice none 0 0)) (by omega) (.slice P d.main.length p)) (by omega) (.slice R d.quiet.length r))⟩) ?_
  clear O1 O2 HB BYW BXW BG FG hS e3 e7
  intro V hv
  try simp only [e8, e9]
  clear e8 e9
  have HV := Lib.hid hv
  clear hv g0
  have y0 := HV.out.x.cell 0 _ rfl
  go_wp2_with fail
  go_loopw [4] (fun i wr => ∃ (j : Nat) (U : Option Addr) (q : Nat), j <= d.segments.length /\ i = .int .i64 j /\ Hid (CC w d [.slice A0 d.segments.length a0, .slice M0 d.main.length m0, .slice Q0 d.quiet.length q0] g W0.heap.size W.heap.size f P p R r (.slice U j q) wr) /\ Hid (SegmentsO (Rng W.heap.size wr.heap.size) wr (.slice U j q) ((d.segments.take j).map optS))) (fun i _ => d.segments.length - (intOf i).toNat)
  case atStart => exact ⟨0, none, 0, Nat.zero_le _, rfl, HV.out, SlO.nil_ _ _ _ _ _⟩
  case round =>
   clear HV y0
   obtain ⟨j, U, q, hj, rfl, HT, HO⟩ := hrel
   have htop := HT.out.top
   have hgin := HT.out.gin
   have hlow := HT.out.low
   have y0 := HT.out.x.cell 0 _ rfl
   by_cases hlt : j < d.segments.length
   ·have HTK := Lib.hid (show (d.segments.take (j + 1)).map optS = (d.segments.take j).map optS ++ [optS d.segments[j]] by rw [List.take_succ_eq_append_getElem hlt, List.map_append]; rfl)
    have hlj : ((d.segments.take j).map optS).length = j := by rw [List.length_map, List.length_take]; omega
    have HLJ := Lib.hid hlj
    clear hlj
    obtain ⟨b, off, cs, rfl, hbl, hcs, hat, hr⟩ := HC.out j hlt
    obtain ⟨s0, s1, s2, rfl, k0, k1, k2⟩ := hr
    obtain ⟨LA, lc, rfl, _, hlm, _⟩ := Txts.open_ k0
    obtain ⟨DA, dc, rfl, _, hdm, _⟩ := Ints.open_ k1
    obtain ⟨IA, ic, rfl, _, him, _⟩ := SlR.open_ k2
    have HL := Lib.hid k0
    have HD := Lib.hid k1
    have HN := Lib.hid k2
    have hzj := szS_at szSegment d.segments j hlt
    have hzx : szSegment d.segments[j] = szL d.segments[j].labels + List.length d.segments[j].defaults + szS szInstr d.segments[j].instrs := rfl
    have hzl := szL_length d.segments[j].labels
    have hz5 : d.segments[j].labels.length <= 1048576 := by omega
    have hz6 : d.segments[j].defaults.length <= 1048576 := by omega
    have hz7 : szS szInstr d.segments[j].instrs <= 1048576 := by omega
    have HOKJ := Lib.hid (HOK.out _ (List.getElem_mem hlt))
    clear k0 k1 k2 hcs hzj hzx hzl hlm hdm him
    have hwr := HT.out.below.size
    -- the labels
    have hb0 := (Below.refl wr.heap.size wr).alloc (Nat.le_refl _) (.cells #[] 9)
    have HE := Lib.hid (owns_new wr 9 1 0 #[] 0 [] (by simp) (Nat.le_refl _) (by unfold maxLen; omega) (by simp) (by simp))
    have HT0 := Lib.hid (HT.out.step hb0)
    have HSR := Lib.hid (Txts.src (HL.out.below HT0.out.below)).2
    have HB0 := Lib.hid hb0
    have ya := HT0.out.x.cell 0 _ rfl
    have zl := (HT0.out.below.cell (p := ⟨b, off + j * 3, none⟩) hbl).trans (by simpa using hat 0 _ rfl)
    clear hb0
    go_upto_region 6 with (at_builtin; go_must (refine wpList_cat rfl _ _ 46 rfl wr.heap.size 9 (.string ByteArray.empty) 1 16 Tryz.underlying46 info_strG rfl (by decide) _ _ 0 [] rfl (by exact HE.out) _ _ _ _ rfl (by exact HSR.out) (by omega) (by omega) (by simp) ?_); intro v1 w1 ho1 hg1 hbk1 hb1; rw [Nat.zero_add, List.nil_append] at ho1; obtain ⟨L9, l9, rfl⟩ := own_shp' ho1)
    have HBW1 := Lib.hid (HB0.out.trans hb1)
    have hw1 := HBW1.out.size
    have HT1 := Lib.hid (HT.out.step HBW1.out)
    have HTL := Lib.hid (show TxtO (Rng wr.heap.size w1.heap.size) w1 (.slice L9 d.segments[j].labels.length l9) d.segments[j].labels from ⟨FlO.of_own ho1, Txts.small HL.out⟩)
    clear ho1 hg1 hbk1 hb1 HE HSR HB0 HT0 y0 ya zl
    -- the defaults
    have hb0 := (Below.refl w1.heap.size w1).alloc (Nat.le_refl _) (.cells #[] 3)
    have HE := Lib.hid (owns_new w1 3 1 0 #[] 0 [] (by simp) (Nat.le_refl _) (by unfold maxLen; omega) (by simp) (by simp))
    have HT0 := Lib.hid (HT1.out.step hb0)
    have HSR := Lib.hid (Ints.src (HD.out.below HT0.out.below)).2
    have HB0 := Lib.hid hb0
    have y0 := HT0.out.x.cell 0 _ rfl
    have zl := (HT0.out.below.cell (p := ⟨b, off + j * 3 + 1, none⟩) hbl).trans (hat 1 _ rfl)
    clear hb0
    go_upto_region 7 with (at_builtin; go_must (refine wpList_cat rfl _ _ 23 rfl w1.heap.size 3 (.int .i64 0) 1 8 Tryz.underlying23 info_int rfl (by decide) _ _ 0 [] rfl (by exact HE.out) _ _ _ _ rfl (by exact HSR.out) (by omega) (by omega) (by simp) ?_); intro v2 w2 ho1 hg1 hbk1 hb1; rw [Nat.zero_add, List.nil_append] at ho1; obtain ⟨D9, d9, rfl⟩ := own_shp' ho1)
    have HBW2 := Lib.hid (HB0.out.trans hb1)
    have hw2 := HBW2.out.size
    have HT2 := Lib.hid (HT1.out.step HBW2.out)
    have HTD := Lib.hid (show IntO (Rng w1.heap.size w2.heap.size) w2 (.slice D9 d.segments[j].defaults.length d9) d.segments[j].defaults from ⟨FlO.of_own ho1, Ints.small HD.out⟩)
    clear ho1 hg1 hbk1 hb1 HE HSR HB0 HT0 y0 zl
    -- the instructions
    have y0 := HT2.out.x.cell 0 _ rfl
    have zl := (HT2.out.below.cell (p := ⟨b, off + j * 3 + 2, none⟩) hbl).trans (hat 2 _ rfl)
    go_wp2_with fail
    refine Calls.mono (spec_l34Fresh d.segments[j].instrs _ _ (HN.out.below HT2.out.below) HOKJ.out.2.2.2 hz7) ?_
    rintro e w3 ⟨iv, rfl, ho, hb⟩
    have HF3 := Lib.hid ho
    have HB3 := Lib.hid hb
    have hw3 := hb.size
    obtain ⟨IB, ib, rfl⟩ := ho.shape
    clear ho hb y0 zl
    go_wp2_with fail
    refine Calls.mono (spec_l34Instrs w2.heap.size d.segments[j].instrs _ _ HF3.out hw3 HOKJ.out.1 HOKJ.out.2.1 HOKJ.out.2.2.1) ?_
    rintro e w4 ⟨iv, rfl, ho, hb⟩
    have HF4 := Lib.hid ho
    have HB4 := Lib.hid (HB3.out.trans hb)
    have hw4 := HB4.out.size
    obtain ⟨IC, icc, rfl⟩ := ho.shape
    clear ho hb HF3 HB3
    have HT4 := Lib.hid (HT2.out.step HB4.out)
    have HEL := Lib.hid (show SegmentO (Rng wr.heap.size w4.heap.size) w4 [.slice L9 d.segments[j].labels.length l9, .slice D9 d.segments[j].defaults.length d9, .slice IC (optL d.segments[j].instrs).length icc] (optS d.segments[j]) from
     SegmentO.make (x := optS d.segments[j]) (HTL.out.keeps (Keeps.of_below _ (HBW2.out.trans (HB4.out.mono hw2)))) (HTD.out.keeps (Keeps.of_below _ HB4.out)) HF4.out hw1 hw2 hw4)
    obtain ⟨xs, hown, hpush⟩ := SlO.push (fun h k => h.keeps k) (fun h k => h.mono k) HO.out htop (HBW1.out.trans ((HBW2.out.mono hw1).trans (HB4.out.mono (by omega)))) (optS d.segments[j]) _ rfl HEL.out
    have HPU := Lib.hid hpush
    have HOW := Lib.hid hown
    clear hpush hown
    rw [HLJ.out] at HPU HOW
    have t0 := HT4.out.o.cell 0 _ rfl
    have hlo : W.heap.size <= w4.heap.size := HT4.out.top
    go_wp2_with (at_builtin; go_must (refine wpList_push rfl _ _ 29 rfl W.heap.size 49 (.agg #[.slice none 0 0, .slice none 0 0, .slice none 0 0]) 3 72 Tryz.underlying29 info_Segment rfl (by decide) _ _ _ _ _ rfl rfl (by exact HOW.out) rfl (by simp [Value.oneCell']) (by omega) (by omega) hlo ?_); intro v5 w5 ho5 hg5 hbk5 hb5; obtain ⟨U5, u5c, rfl⟩ := own_shp' ho5; have HP5 := Lib.hid (HPU.out _ _ (by simpa using ho5) hg5 hbk5); have HT5 := Lib.hid (HT4.out.stepB hb5); have t5 := HT5.out.o.cell 0 _ rfl; have f5 := HT5.out.o.frozen 0; clear ho5 hg5 hbk5 hb5)
    go_roundw
    case rel => exact ⟨j + 1, U5, u5c, by omega, by go_num, HT5.out.put, show SegmentsO _ _ _ _ by
     rw [HTK.out]
     exact SegmentsO.mono (SegmentsO.keeps HP5.out ((Keeps.refl _ _).sc (fun h => by have := h.1; omega) _)) (fun b h => ⟨h.1, by simpa [World.setCell] using h.2⟩)⟩
    case measure => simp [intOf] <;> omega
   ·obtain rfl : j = d.segments.length := by omega
    rw [List.take_length] at HO
    have HB := Lib.hid HT.out.below
    clear y0
    have y0 := HT.out.o.cell 0 _ rfl
    have r0 := HT.out.r.cell 0 _ rfl
    have z0 := HT.out.r.frozen 0
    have y1 := HT.out.o.cell 1 _ rfl
    have r1 := HT.out.r.cell 1 _ rfl
    have z1 := HT.out.r.frozen 1
    have y2 := HT.out.o.cell 2 _ rfl
    have r2 := HT.out.r.cell 2 _ rfl
    have z2 := HT.out.r.frozen 2
    have x0 := HT.out.x.cell 0 _ rfl
    have HOUT := Lib.hid (CC.out HT.out (d.segments.map optS) (by simp) HO.out)
    go_wp2_with fail
    refine gen_w (G := fun V => Blk V (w.heap.size + 1) 31 [.slice U d.segments.length q, .slice P d.main.length p, .slice R d.quiet.length r] /\ Below w.heap.size w V /\ BytecodeO (Rng w.heap.size V.heap.size) V [.slice U d.segments.length q, .slice P d.main.length p, .slice R d.quiet.length r] (optD d))
     (show Ok _ _ from ⟨(((HT.out.r.set_ 0 (.slice U d.segments.length q)).set_ 1 (.slice P d.main.length p)).set_ 2 (.slice R d.quiet.length r)), (below_sc (b := w.heap.size + 1) (o := 2) (below_sc (b := w.heap.size + 1) (o := 1) (below_sc (b := w.heap.size + 1) (o := 0) HB.out (by omega) (.slice U d.segments.length q)) (by omega) (.slice P d.main.length p)) (by omega) (.slice R d.quiet.length r)), ?_⟩) ?_
    ·exact (BytecodeO.keeps HOUT.out ((((Keeps.refl _ wr).sc (b := w.heap.size + 1) (o := 0) (fun h => by have := h.1; omega) (.slice U d.segments.length q)).sc (b := w.heap.size + 1) (o := 1) (fun h => by have := h.1; omega) (.slice P d.main.length p)).sc (b := w.heap.size + 1) (o := 2) (fun h => by have := h.1; omega) (.slice R d.quiet.length r))).mono (fun b hb => ⟨by have := hb.1; omega, by simpa [World.setCell] using hb.2⟩)
    clear HB y0 y1 y2 r0 r1 r2 z0 z1 z2 x0 HOUT
    rintro V ⟨hbl, hbv, ho⟩
    have HV := Lib.hid ho
    have HBV := Lib.hid hbv
    have y0 := hbl.cell 0 _ rfl
    have y1 := hbl.cell 1 _ rfl
    have y2 := hbl.cell 2 _ rfl
    clear ho hbv hbl
    refine bodyPost_ret (v := .agg #[.slice U d.segments.length q, .slice P d.main.length p, .slice R d.quiet.length r]) (by simp [results, Tryz.results38, go_sem, y0, y1, y2]) rfl ?_
    exact ⟨_, rfl, HV.out, HBV.out⟩

def RetOC (w : World) (d : CodeD) (b : Bool) (e : Ending) (w' : World) : Prop := ∃ cs, e = .returned (.tuple #[.agg cs.toArray, .bool b]) /\ BytecodeO (Rng w.heap.size w'.heap.size) w' cs d /\ Below w.heap.size w w'
def zCode : CodeD := ⟨[], [], []⟩
def optC (d : CodeD) : CodeD := if checkB d then optD d else zCode
theorem zero_code (S : Nat -> Prop) (w : World) : BytecodeO S w zB zCode := ⟨none, 0, none, 0, none, 0, fun _ => 0, rfl, SlO.nil_ _ _ _ _ _, ⟨FlO.nil_ _ _ _ _, fun n h => by simp [zCode] at h⟩, FlO.nil_ _ _ _ _⟩
theorem vecOk_okN {d : VecD} (h : vecOk d = true) : okN 3 d = true := by
 unfold vecOk at h
 simp only [Bool.and_eq_true] at h
 simp_all
theorem check_ok {d : CodeD} (h : checkB d = true) : ∀ g ∈ d.segments, (ArgOk g.instrs /\ (∀ x ∈ g.instrs, 0 <= x.op /\ x.op <= 33) /\ g.instrs.length <= 1000 /\ ∀ x ∈ g.instrs, okN 3 x.value = true) /\ BackOk g.instrs := by
 intro g hg
 simp only [checkB, mainB, Bool.and_eq_true, decide_eq_true_eq] at h
 obtain ⟨⟨⟨⟨⟨⟨_, hsz⟩, _⟩, _⟩, _⟩, hs⟩, _⟩ := h
 obtain ⟨i, hi, rfl⟩ := List.getElem_of_mem hg
 have h1 := segsB_at hs i hi
 have h2 := (segB_refs h1).2.1
 have h3 := size_at d.segments i hi
 unfold segB at h1
 simp only [Bool.and_eq_true] at h1
 have h4 := insAll_ok h1.1.2
 refine ⟨⟨h4, h2, by omega, fun x hx => ?_⟩, flow_back h4 h1.2⟩
 obtain ⟨p, hp, rfl⟩ := List.getElem_of_mem hx
 have h5 := of_decide_eq_true h1.1.2 p hp
 simp only [insB, insR, Bool.and_eq_true, valB] at h5
 exact vecOk_okN h5.1.2.1.1
set_option maxHeartbeats 2000000 in
theorem spec_OptimizeCode (d : CodeD) (cs : List Value) (w : World) (h : BytecodeR w cs d) (hz : szBytecode d <= 1048576) :
  Calls Tryz.prog 13 #[.agg cs.toArray] w (RetOC w (optC d) (checkB d)) := by
 have HR := Lib.hid h
 obtain ⟨v0, v1, v2, rfl⟩ := h.shape
 clear h
 obtain ⟨G, g0, HG, BX, BY⟩ := good2 w 31 [v0, v1, v2] 31 zB
 obtain ⟨x0, x1, x2⟩ := pk_f3 BX
 obtain ⟨y0, y1, y2⟩ := pk_f3 BY
 go_enter Tryz.func13, Tryz.ntmps13
 go_upto_region 1 with fail
 refine gen_w g0 ?_
 clear g0
 intro W0 g0
 go_wp2_with fail
 refine Calls.mono (spec_CheckCode d _ _ (HR.out.below (HG.out.below g0)) hz) ?_
 rintro e w1 ⟨rfl, hb⟩
 replace g0 := HG.out.step g0 hb
 clear hb
 cases q : checkB d
 ·have HN := Lib.hid (show optC d = zCode by unfold optC; rw [q]; rfl)
  have HQ := Lib.hid q
  clear q
  have r0 := (BY.out w1 g0).cell 0 _ rfl
  have z0 := (BY.out w1 g0).frozen 0
  have r1 := (BY.out w1 g0).cell 1 _ rfl
  have z1 := (BY.out w1 g0).frozen 1
  have r2 := (BY.out w1 g0).cell 2 _ rfl
  have z2 := (BY.out w1 g0).frozen 2
  have HB := Lib.hid (HG.out.below g0)
  have HY := Lib.hid (BY.out w1 g0)
  go_wp2_with fail
  refine gen_w (G := fun V => Blk V (w.heap.size + 1) 31 zB /\ Below w.heap.size w V) (show Ok _ _ from ⟨(((HY.out.set_ 0 (.slice none 0 0)).set_ 1 (.slice none 0 0)).set_ 2 (.slice none 0 0)), (below_sc (b := w.heap.size + 1) (o := 2) (below_sc (b := w.heap.size + 1) (o := 1) (below_sc (b := w.heap.size + 1) (o := 0) HB.out (by omega) (.slice none 0 0)) (by omega) (.slice none 0 0)) (by omega) (.slice none 0 0))⟩) ?_
  clear HB HY r0 r1 r2 z0 z1 z2 g0 x0 x1 x2 y0 y1 y2
  rintro V ⟨hbl, hbv⟩
  have HBV := Lib.hid hbv
  have q0 := hbl.cell 0 _ rfl
  have q1 := hbl.cell 1 _ rfl
  have q2 := hbl.cell 2 _ rfl
  clear hbv hbl
  refine bodyPost_ret (v := .tuple #[.agg #[.slice none 0 0, .slice none 0 0, .slice none 0 0], .bool false]) (by simp [results, Tryz.results13, go_sem, q0, q1, q2]) rfl ?_
  rw [HN.out, HQ.out]
  exact ⟨zB, rfl, zero_code _ _, HBV.out⟩
 ·have HN := Lib.hid (show optC d = optD d by unfold optC; rw [q]; rfl)
  have HC := Lib.hid (fun g hg => (check_ok q g hg).1)
  have HQ := Lib.hid q
  clear q
  go_wp2_with fail
  refine Calls.mono (spec_l34Optimize d _ _ (HR.out.below (HG.out.below g0)) hz HC.out) ?_
  rintro e w2 ⟨cs, rfl, ho, hb⟩
  have hw1 := (BY.out w1 g0).lt
  have hw2 := hb.size
  replace g0 := HG.out.step g0 hb
  obtain ⟨U, u, P, p, R, r, rfl⟩ := ho.shape
  have HO := Lib.hid ho
  clear ho hb
  have r0 := (BY.out w2 g0).cell 0 _ rfl
  have z0 := (BY.out w2 g0).frozen 0
  have r1 := (BY.out w2 g0).cell 1 _ rfl
  have z1 := (BY.out w2 g0).frozen 1
  have r2 := (BY.out w2 g0).cell 2 _ rfl
  have z2 := (BY.out w2 g0).frozen 2
  have HB := Lib.hid (HG.out.below g0)
  have HY := Lib.hid (BY.out w2 g0)
  have hws := HB.out.size
  clear x0 x1 x2 y0 y1 y2
  go_wp2_with fail
  refine gen_w (G := fun V => Blk V (w.heap.size + 1) 31 [.slice U (optD d).segments.length u, .slice P (optD d).main.length p, .slice R (optD d).quiet.length r] /\ Below w.heap.size w V /\ BytecodeO (Rng w.heap.size V.heap.size) V [.slice U (optD d).segments.length u, .slice P (optD d).main.length p, .slice R (optD d).quiet.length r] (optD d))
   (show Ok _ _ from ⟨(((HY.out.set_ 0 (.slice U (optD d).segments.length u)).set_ 1 (.slice P (optD d).main.length p)).set_ 2 (.slice R (optD d).quiet.length r)), (below_sc (b := w.heap.size + 1) (o := 2) (below_sc (b := w.heap.size + 1) (o := 1) (below_sc (b := w.heap.size + 1) (o := 0) HB.out (by omega) (.slice U (optD d).segments.length u)) (by omega) (.slice P (optD d).main.length p)) (by omega) (.slice R (optD d).quiet.length r)),
    (BytecodeO.keeps HO.out ((((Keeps.refl _ w2).sc (b := w.heap.size + 1) (o := 0) (fun h => by have := h.1; omega) (.slice U (optD d).segments.length u)).sc (b := w.heap.size + 1) (o := 1) (fun h => by have := h.1; omega) (.slice P (optD d).main.length p)).sc (b := w.heap.size + 1) (o := 2) (fun h => by have := h.1; omega) (.slice R (optD d).quiet.length r))).mono (fun b hb => ⟨by have := hb.1; omega, by simpa [World.setCell] using hb.2⟩)⟩) ?_
  clear HB HY HO r0 r1 r2 z0 z1 z2 g0
  rintro V ⟨hbl, hbv, ho⟩
  have HBV := Lib.hid hbv
  have HO := Lib.hid ho
  have q0 := hbl.cell 0 _ rfl
  have q1 := hbl.cell 1 _ rfl
  have q2 := hbl.cell 2 _ rfl
  clear hbv hbl ho
  refine bodyPost_ret (v := .tuple #[.agg #[.slice U (optD d).segments.length u, .slice P (optD d).main.length p, .slice R (optD d).quiet.length r], .bool true]) (by simp [results, Tryz.results13, go_sem, q0, q1, q2]) rfl ?_
  rw [HN.out, HQ.out]
  exact ⟨_, rfl, HO.out, HBV.out⟩

end Go.Proofs.YtjdfancbmjnjfaaGreat
