/-
  Contracts: classes that are assigned, of the program and of the reference.
-/
import Derived.Test.YtjdimlhdkmkmbaaAttrA
namespace Go.Proofs.Ytjdimlhdkmkmbaa
set_option maxRecDepth 100000
open Go.ChangeShapes Go.WideShapes Go.ChangeAt Go.RowKit Go.Deep
set_option linter.unusedVariables false

def RetVM (p : VecD × List UInt8) (w : World) (e : Ending) (w' : World) : Prop :=
  ∃ cs, e = .returned (.tuple #[.agg cs.toArray, .string (str p.2)]) ∧ VecO (Rng w.heap.size w'.heap.size) w' cs p.1 ∧ Below w.heap.size w w'
theorem vecR_shape {w : World} {cs : List Value} {d : VecD} (h : VecR w cs d) : ∃ (A1 : Option Addr) (c1 : Nat) (A2 : Option Addr) (c2 : Nat) (A3 : Option Addr) (c3 : Nat) (A4 : Option Addr) (c4 : Nat) (A5 : Option Addr) (c5 : Nat), cs = [.int .i64 d.kind, .slice A1 d.items.length c1, .slice A2 d.parts.length c2, .slice A3 d.names.length c3, .slice A4 d.cls.length c4, .slice A5 d.levels.length c5, .int .i64 d.code, .int .i64 d.env] := by
  obtain ⟨n, A1, c1, A2, c2, A3, c3, A4, c4, A5, c5, e, _⟩ := h.open_
  exact ⟨A1, c1, A2, c2, A3, c3, A4, c4, A5, c5, e⟩
/-- the boxes of an assignment: both arguments, the result -/
structure AB (w : World) (vcs ucs : List Value) (W : World) : Prop where
  bv : Blk W w.heap.size 28 vcs
  bu : Blk W (w.heap.size + 1) 28 ucs
  br : Blk W (w.heap.size + 2) 28 nvZ
  bl : Below w.heap.size w W
section
variable {w : World} {vcs ucs : List Value} {W W' : World}
theorem AB.step (h : AB w vcs ucs W) (hb : Below W.heap.size W W') : AB w vcs ucs W' := ⟨h.bv.below hb, h.bu.below hb, h.br.below hb, h.bl.trans (hb.mono h.bl.size)⟩
theorem AB.above (h : AB w vcs ucs W) (hb : Below (w.heap.size + 3) W W') : AB w vcs ucs W' :=
  ⟨(hb.block _ (by omega)).trans h.bv, (hb.block _ (by omega)).trans h.bu, (hb.block _ (by omega)).trans h.br, h.bl.trans (hb.mono (by omega))⟩
theorem AB.start (w : World) (vcs ucs : List Value) : AB w vcs ucs (((w.alloc (.cells vcs.toArray 28)).alloc (.cells ucs.toArray 28)).alloc (.cells nvZ.toArray 28)) :=
  ⟨((Blk.new w 28 vcs).alloc _).alloc _, (Blk.new_at _ 28 ucs _ (by simp)).alloc _, Blk.new_at _ 28 nvZ _ (by simp), (((Below.refl _ _).alloc (Nat.le_refl _) _).alloc (by simp) _).alloc (by simp; omega) _⟩
/-- nothing is given back but a reason -/
theorem AB.zero (h : AB w vcs ucs W) (m : List UInt8) (hb : Below (w.heap.size + 2) W W') : RetVM (nulV, m) w (.returned (.tuple #[.agg zV.toArray, .string (str m)])) W' :=
  ⟨zV, rfl, zeroOD _ _, h.bl.trans (hb.mono (by omega))⟩
end
/-- the copy that is edited -/
structure AX (w : World) (vcs ucs : List Value) (b : Nat) (xcs : List Value) (p q : Nat) (d : VecD) (W : World) : Prop where
  ab : AB w vcs ucs W
  bx : Blk W b 28 xcs
  st : VecO (fun x => Rng p q x ∧ x ≠ b) W xcs d
  lp : w.heap.size + 3 ≤ p
  lo : w.heap.size + 3 ≤ b
  rq : b < q
  qs : q ≤ W.heap.size
section
variable {w : World} {vcs ucs xcs : List Value} {b p q : Nat} {d : VecD} {W W' : World}
theorem AX.step (h : AX w vcs ucs b xcs p q d W) (hb : Below W.heap.size W W') : AX w vcs ucs b xcs p q d W' :=
  ⟨h.ab.step hb, h.bx.below hb, h.st.keeps (Keeps.of_below _ hb), h.lp, h.lo, h.rq, Nat.le_trans h.qs hb.size⟩
theorem AX.rebase (h : AX w vcs ucs b xcs p q d W) : AX w vcs ucs b xcs p W.heap.size d W :=
  ⟨h.ab, h.bx, h.st.mono fun x hb => ⟨⟨hb.1.1, Nat.lt_of_lt_of_le hb.1.2 h.qs⟩, hb.2⟩, h.lp, h.lo, Nat.lt_of_lt_of_le h.rq h.qs, Nat.le_refl _⟩
theorem AX.make (h : AB w vcs ucs W) (hp : w.heap.size + 3 ≤ p) (hv : VecO (Rng p W.heap.size) W xcs d) : AX w vcs ucs W.heap.size xcs p (W.heap.size + 1) d (W.alloc (.cells xcs.toArray 28)) :=
  have hb := (Below.refl W.heap.size W).alloc (Nat.le_refl _) (.cells xcs.toArray 28)
  ⟨h.step hb, Blk.new W _ xcs, (hv.keeps (Keeps.of_below _ hb)).mono fun x hx => ⟨⟨hx.1, by have := hx.2; omega⟩, by have := hx.2; omega⟩, hp, h.br.lt, by omega, by simp⟩
theorem AX.put (h : AB w vcs ucs W) (hbx : Blk W b 28 xcs) (hp : w.heap.size + 3 ≤ p) (hlo : w.heap.size + 3 ≤ b) (i : Nat) (u : Value) {d' : VecD} (hv : VecO (fun x => Rng p W.heap.size x ∧ x ≠ b) W (xcs.set i u) d') :
    AX w vcs ucs b (xcs.set i u) p W.heap.size d' (W.setCell ⟨b, i, none⟩ u) :=
  ⟨h.above (below_sc (Below.refl _ _) hlo u), hbx.set_ i u, hv.keeps ((Keeps.refl _ _).sc (fun hb => hb.2 rfl) _), hp, hlo, hbx.lt, by rw [size_sc]; exact Nat.le_refl _⟩
theorem AX.done (h : AX w vcs ucs b xcs p q d W) (hk : Keeps (fun x => x ≠ w.heap.size + 2) W W') (hb : Below w.heap.size W W') : RetVM (d, []) w (.returned (.tuple #[.agg xcs.toArray, .string (str [])])) W' :=
  have hs := hb.size
  have hp := h.lp
  ⟨xcs, rfl, (h.st.keeps (hk.mono fun x hx => by have := hx.1.1; omega)).mono fun x hx => ⟨by have := hx.1.1; omega, by have := hx.1.2; have := h.qs; omega⟩, h.ab.bl.trans hb⟩
end
theorem class_ed {w : World} {vcs ucs : List Value} {b p q : Nat} {d : VecD} {W : World} {k co ev : Int} {v1 v2 v3 v5 : Value} {A : Option Addr} {n c : Nat} (h : AX w vcs ucs b [.int .i64 k, v1, v2, v3, .slice A n c, v5, .int .i64 co, .int .i64 ev] p q d W)
    {T : Nat → Prop} {A' : Option Addr} {c' m : Nat} {l : List (List UInt8)} (ht : TxtO T W (.slice A' m c') l) (hm : m = l.length) (hT : ∀ x, T x → w.heap.size + 3 ≤ x ∧ x < W.heap.size ∧ x ≠ b ∧ ¬ (p ≤ x ∧ x < q)) :
    AX w vcs ucs b [.int .i64 k, v1, v2, v3, .slice A' m c', v5, .int .i64 co, .int .i64 ev] (w.heap.size + 3) W.heap.size (setC d l) (W.setCell ⟨b, 4, none⟩ (.slice A' m c')) := by
  subst hm
  obtain ⟨S3, h3, rfl, hS3, hcl⟩ := h.st.ed4
  have hq := h.qs
  have hp := h.lp
  have hv := hcl W (fun x => Rng (w.heap.size + 3) W.heap.size x ∧ x ≠ b) T A' c' l (Keeps.refl _ _) ht (fun x hx => ⟨⟨⟨(hT x hx).1, (hT x hx).2.1⟩, (hT x hx).2.2.1⟩, .inr fun hs => (hT x hx).2.2.2 ⟨hs.1.1, hs.1.2⟩⟩) (fun x hx _ => ⟨⟨by have := hx.1.1; omega, by have := hx.1.2; omega⟩, hx.2⟩)
  exact AX.put h.ab h.bx (Nat.le_refl _) h.lo 4 _ hv
theorem sz_txts (u : VecD) : szL (txtsOf u) ≤ szVector u := by
  have h : szL (txtsOf u) = szS szItem u.items := by
    simp only [szL, szS, txtsOf, List.map_map, List.length_map]
    rfl
  rw [szVector_eq]
  omega

set_option maxHeartbeats 8000000 in
theorem impl_AssignClass (v u : VecD) (vs us : List Value) (w : World) (h : VecR w vs v) (k : VecR w us u) (hz : szVector v ≤ 400000000000) (kz : szVector u ≤ 400000000000) :
    Calls Try.prog 11 #[.agg vs.toArray, .agg us.toArray] w (RetVM (asgC v u) w) := by
  have HI := Lib.hid h
  have KI := Lib.hid k
  obtain ⟨A1, a1, A2, a2, A3, a3, A4, a4, A5, a5, rfl⟩ := vecR_shape h
  obtain ⟨B1, b1, B2, b2, B3, b3, B4, b4, B5, b5, rfl⟩ := vecR_shape k
  clear h k
  go_enter Try.func11, Try.ntmps11
  go_upto_region 1 with fail
  refine gen_w (G := AB w [.int .i64 v.kind, .slice A1 v.items.length a1, .slice A2 v.parts.length a2, .slice A3 v.names.length a3, .slice A4 v.cls.length a4, .slice A5 v.levels.length a5, .int .i64 v.code, .int .i64 v.env] [.int .i64 u.kind, .slice B1 u.items.length b1, .slice B2 u.parts.length b2, .slice B3 u.names.length b3, .slice B4 u.cls.length b4, .slice B5 u.levels.length b5, .int .i64 u.code, .int .i64 u.env]) (show Ok _ _ from AB.start w _ _) ?_
  intro w0 h0
  have HB := Lib.hid (show AB w [.int .i64 v.kind, .slice A1 v.items.length a1, .slice A2 v.parts.length a2, .slice A3 v.names.length a3, .slice A4 v.cls.length a4, .slice A5 v.levels.length a5, .int .i64 v.code, .int .i64 v.env] [.int .i64 u.kind, .slice B1 u.items.length b1, .slice B2 u.parts.length b2, .slice B3 u.names.length b3, .slice B4 u.cls.length b4, .slice B5 u.levels.length b5, .int .i64 u.code, .int .i64 u.env] w0 from h0)
  clear h0
  have x0 := HB.out.bv.cell 0 _ rfl
  have x1 := HB.out.bv.cell 1 _ rfl
  have x2 := HB.out.bv.cell 2 _ rfl
  have x3 := HB.out.bv.cell 3 _ rfl
  have x4 := HB.out.bv.cell 4 _ rfl
  have x5 := HB.out.bv.cell 5 _ rfl
  have x6 := HB.out.bv.cell 6 _ rfl
  have x7 := HB.out.bv.cell 7 _ rfl
  go_wp2_with fail
  refine Calls.mono (impl_IsVector v _ _ (by exact HI.out.below HB.out.bl) (by omega)) ?_
  rintro e w1 ⟨rfl, hb⟩
  have HB1 := Lib.hid (HB.out.step hb)
  clear hb HB x0 x1 x2 x3 x4 x5 x6 x7
  cases hv : vecOk v
  · have HV := Lib.hid (show asgC v u = (nulV, msgVec) by unfold asgC; rw [if_neg (fun h => by rw [h.1] at hv; cases hv)])
    have r0 := HB1.out.br.cell 0 _ rfl
    have r1 := HB1.out.br.cell 1 _ rfl
    have r2 := HB1.out.br.cell 2 _ rfl
    have r3 := HB1.out.br.cell 3 _ rfl
    have r4 := HB1.out.br.cell 4 _ rfl
    have r5 := HB1.out.br.cell 5 _ rfl
    have r6 := HB1.out.br.cell 6 _ rfl
    have r7 := HB1.out.br.cell 7 _ rfl
    have z0 := HB1.out.br.frozen 0
    have z1 := HB1.out.br.frozen 1
    have z2 := HB1.out.br.frozen 2
    have z3 := HB1.out.br.frozen 3
    have z4 := HB1.out.br.frozen 4
    have z5 := HB1.out.br.frozen 5
    have z6 := HB1.out.br.frozen 6
    have z7 := HB1.out.br.frozen 7
    go_wp2_with fail
    rw [HV.out]
    exact bodyPost_ret (v := .tuple #[.agg #[.int .i64 0, .slice none 0 0, .slice none 0 0, .slice none 0 0, .slice none 0 0, .slice none 0 0, .int .i64 0, .int .i64 0], .string (str msgVec)]) (by simp [results, Try.results11, go_sem, r0, r1, r2, r3, r4, r5, r6, r7, msgVec, str]; try rfl) rfl (HB1.out.zero msgVec (below_sc (b := w.heap.size + 2) (o := 7) (below_sc (b := w.heap.size + 2) (o := 6) (below_sc (b := w.heap.size + 2) (o := 5) (below_sc (b := w.heap.size + 2) (o := 4) (below_sc (b := w.heap.size + 2) (o := 3) (below_sc (b := w.heap.size + 2) (o := 2) (below_sc (b := w.heap.size + 2) (o := 1) (below_sc (b := w.heap.size + 2) (o := 0) (Below.refl (w.heap.size + 2) w1) (Nat.le_refl _) (.int .i64 0)) (Nat.le_refl _) (.slice none 0 0)) (Nat.le_refl _) (.slice none 0 0)) (Nat.le_refl _) (.slice none 0 0)) (Nat.le_refl _) (.slice none 0 0)) (Nat.le_refl _) (.slice none 0 0)) (Nat.le_refl _) (.int .i64 0)) (Nat.le_refl _) (.int .i64 0)))
  have HVO := Lib.hid hv
  clear hv
  have y0 := HB1.out.bu.cell 0 _ rfl
  have y1 := HB1.out.bu.cell 1 _ rfl
  have y2 := HB1.out.bu.cell 2 _ rfl
  have y3 := HB1.out.bu.cell 3 _ rfl
  have y4 := HB1.out.bu.cell 4 _ rfl
  have y5 := HB1.out.bu.cell 5 _ rfl
  have y6 := HB1.out.bu.cell 6 _ rfl
  have y7 := HB1.out.bu.cell 7 _ rfl
  go_wp2_with fail
  refine Calls.mono (impl_IsVector u _ _ (by exact KI.out.below HB1.out.bl) (by omega)) ?_
  rintro e w2 ⟨rfl, hb⟩
  have HB2 := Lib.hid (HB1.out.step hb)
  clear hb HB1 y0 y1 y2 y3 y4 y5 y6 y7
  cases hu : vecOk u
  · have HV := Lib.hid (show asgC v u = (nulV, msgVec) by unfold asgC; rw [if_neg (fun h => by rw [h.2] at hu; cases hu)])
    have r0 := HB2.out.br.cell 0 _ rfl
    have r1 := HB2.out.br.cell 1 _ rfl
    have r2 := HB2.out.br.cell 2 _ rfl
    have r3 := HB2.out.br.cell 3 _ rfl
    have r4 := HB2.out.br.cell 4 _ rfl
    have r5 := HB2.out.br.cell 5 _ rfl
    have r6 := HB2.out.br.cell 6 _ rfl
    have r7 := HB2.out.br.cell 7 _ rfl
    have z0 := HB2.out.br.frozen 0
    have z1 := HB2.out.br.frozen 1
    have z2 := HB2.out.br.frozen 2
    have z3 := HB2.out.br.frozen 3
    have z4 := HB2.out.br.frozen 4
    have z5 := HB2.out.br.frozen 5
    have z6 := HB2.out.br.frozen 6
    have z7 := HB2.out.br.frozen 7
    go_wp2_with fail
    rw [HV.out]
    exact bodyPost_ret (v := .tuple #[.agg #[.int .i64 0, .slice none 0 0, .slice none 0 0, .slice none 0 0, .slice none 0 0, .slice none 0 0, .int .i64 0, .int .i64 0], .string (str msgVec)]) (by simp [results, Try.results11, go_sem, r0, r1, r2, r3, r4, r5, r6, r7, msgVec, str]; try rfl) rfl (HB2.out.zero msgVec (below_sc (b := w.heap.size + 2) (o := 7) (below_sc (b := w.heap.size + 2) (o := 6) (below_sc (b := w.heap.size + 2) (o := 5) (below_sc (b := w.heap.size + 2) (o := 4) (below_sc (b := w.heap.size + 2) (o := 3) (below_sc (b := w.heap.size + 2) (o := 2) (below_sc (b := w.heap.size + 2) (o := 1) (below_sc (b := w.heap.size + 2) (o := 0) (Below.refl (w.heap.size + 2) w2) (Nat.le_refl _) (.int .i64 0)) (Nat.le_refl _) (.slice none 0 0)) (Nat.le_refl _) (.slice none 0 0)) (Nat.le_refl _) (.slice none 0 0)) (Nat.le_refl _) (.slice none 0 0)) (Nat.le_refl _) (.slice none 0 0)) (Nat.le_refl _) (.int .i64 0)) (Nat.le_refl _) (.int .i64 0)))
  have HUO := Lib.hid hu
  clear hu
  have y0 := HB2.out.bu.cell 0 _ rfl
  have y1 := HB2.out.bu.cell 1 _ rfl
  have y2 := HB2.out.bu.cell 2 _ rfl
  have y3 := HB2.out.bu.cell 3 _ rfl
  have y4 := HB2.out.bu.cell 4 _ rfl
  have y5 := HB2.out.bu.cell 5 _ rfl
  have y6 := HB2.out.bu.cell 6 _ rfl
  have y7 := HB2.out.bu.cell 7 _ rfl
  go_wp2_with fail
  refine Calls.mono (impl_labelsOf u _ _ (by exact KI.out.below HB2.out.bl) (by omega)) ?_
  rintro e w3 ⟨L, m, q, rfl, hT, hF, hb⟩
  have HB3 := Lib.hid (HB2.out.step hb)
  have hr2 := HB2.out.br.lt
  have HT := Lib.hid (fun h => (⟨(hT h).1.mono (S' := Rng (w.heap.size + 3) w3.heap.size) (fun x hx => ⟨by have := hx.1; omega, hx.2⟩), (hT h).2⟩ : TxtO (Rng (w.heap.size + 3) w3.heap.size) w3 (.slice L m q) (txtsOf u) ∧ m = (txtsOf u).length))
  have HF := Lib.hid hF
  clear hb HB2 hT hF y0 y1 y2 y3 y4 y5 y6 y7
  have x0 := HB3.out.bv.cell 0 _ rfl
  have x1 := HB3.out.bv.cell 1 _ rfl
  have x2 := HB3.out.bv.cell 2 _ rfl
  have x3 := HB3.out.bv.cell 3 _ rfl
  have x4 := HB3.out.bv.cell 4 _ rfl
  have x5 := HB3.out.bv.cell 5 _ rfl
  have x6 := HB3.out.bv.cell 6 _ rfl
  have x7 := HB3.out.bv.cell 7 _ rfl
  go_wp2_with fail
  refine Calls.mono (impl_copyVec v _ _ (by exact HI.out.below HB3.out.bl) (by omega)) ?_
  rintro e w4 ⟨xcs, rfl, hV, hb⟩
  obtain ⟨X1, e1, X2, e2, X3, e3, X4, e4, X5, e5, rfl⟩ := hV.shape
  have HB4 := Lib.hid (HB3.out.step hb)
  have hr3 := HB3.out.br.lt
  have hs34 := hb.size
  have HT4 := Lib.hid (fun h => (⟨((HT.out h).1.keeps ⟨hb.size, fun x _ hx => hb.block x hx.2⟩), (HT.out h).2⟩ : TxtO (Rng (w.heap.size + 3) w3.heap.size) w4 (.slice L m q) (txtsOf u) ∧ m = (txtsOf u).length))
  have HX := Lib.hid (show AX w [.int .i64 v.kind, .slice A1 v.items.length a1, .slice A2 v.parts.length a2, .slice A3 v.names.length a3, .slice A4 v.cls.length a4, .slice A5 v.levels.length a5, .int .i64 v.code, .int .i64 v.env] [.int .i64 u.kind, .slice B1 u.items.length b1, .slice B2 u.parts.length b2, .slice B3 u.names.length b3, .slice B4 u.cls.length b4, .slice B5 u.levels.length b5, .int .i64 u.code, .int .i64 u.env] w4.heap.size _ w3.heap.size (w4.heap.size + 1) v _ ∧ (txtsOk u = true → TxtO (Rng (w.heap.size + 3) w3.heap.size) _ (.slice L m q) (txtsOf u)) from ⟨AX.make HB4.out hr3 hV, fun h => (HT4.out h).1.keeps (Keeps.of_below _ ((Below.refl _ _).alloc (Nat.le_refl _) (.cells #[.int .i64 v.kind, .slice X1 v.items.length e1, .slice X2 v.parts.length e2, .slice X3 v.names.length e3, .slice X4 v.cls.length e4, .slice X5 v.levels.length e5, .int .i64 v.code, .int .i64 v.env] 28))) |>.mono fun x hx => hx⟩)
  have HML := Lib.hid (fun h => (HT4.out h).2)
  clear hb HB3 HB4 hV HT HT4 x0 x1 x2 x3 x4 x5 x6 x7
  go_upto_region 5 with fail
  generalize w4.heap.size = bx at HX hs34 ⊢
  generalize w3.heap.size = p3 at HX hs34
  refine gen_w (G := fun W => AX w [.int .i64 v.kind, .slice A1 v.items.length a1, .slice A2 v.parts.length a2, .slice A3 v.names.length a3, .slice A4 v.cls.length a4, .slice A5 v.levels.length a5, .int .i64 v.code, .int .i64 v.env] [.int .i64 u.kind, .slice B1 u.items.length b1, .slice B2 u.parts.length b2, .slice B3 u.names.length b3, .slice B4 u.cls.length b4, .slice B5 u.levels.length b5, .int .i64 u.code, .int .i64 u.env] bx [.int .i64 v.kind, .slice X1 v.items.length e1, .slice X2 v.parts.length e2, .slice X3 v.names.length e3, .slice X4 v.cls.length e4, .slice X5 v.levels.length e5, .int .i64 v.code, .int .i64 v.env] p3 (bx + 1) v W ∧ (txtsOk u = true → TxtO (Rng (w.heap.size + 3) p3) W (.slice L m q) (txtsOf u))) HX.out ?_
  rintro w5 ⟨hX, hT⟩
  have HX5 := Lib.hid hX
  have HT5 := Lib.hid hT
  have C4 := hX.bx.cell 4 _ rfl
  have F4 := hX.bx.frozen 4
  clear HX hX hT
  cases ht : txtsOk u
  · have HV := Lib.hid (show asgC v u = (nulV, msgCls) by unfold asgC; rw [if_pos ⟨HVO.out, HUO.out⟩, if_neg (fun h => by rw [h.1] at ht; cases ht)])
    obtain ⟨rfl, rfl, rfl⟩ := HF.out ht
    have HB6 := Lib.hid (HX5.out.ab.above (below_sc (Below.refl _ w5) HX5.out.lo (.slice none 0 0) (o := 4)))
    clear ht
    go_upto_region 6 with fail
    refine gen_w (G := AB w [.int .i64 v.kind, .slice A1 v.items.length a1, .slice A2 v.parts.length a2, .slice A3 v.names.length a3, .slice A4 v.cls.length a4, .slice A5 v.levels.length a5, .int .i64 v.code, .int .i64 v.env] [.int .i64 u.kind, .slice B1 u.items.length b1, .slice B2 u.parts.length b2, .slice B3 u.names.length b3, .slice B4 u.cls.length b4, .slice B5 u.levels.length b5, .int .i64 u.code, .int .i64 u.env]) HB6.out ?_
    intro w6 h6
    have HB7 := Lib.hid (show AB w [.int .i64 v.kind, .slice A1 v.items.length a1, .slice A2 v.parts.length a2, .slice A3 v.names.length a3, .slice A4 v.cls.length a4, .slice A5 v.levels.length a5, .int .i64 v.code, .int .i64 v.env] [.int .i64 u.kind, .slice B1 u.items.length b1, .slice B2 u.parts.length b2, .slice B3 u.names.length b3, .slice B4 u.cls.length b4, .slice B5 u.levels.length b5, .int .i64 u.code, .int .i64 u.env] w6 from h6)
    clear h6 HB6 C4 F4
    have r0 := HB7.out.br.cell 0 _ rfl
    have r1 := HB7.out.br.cell 1 _ rfl
    have r2 := HB7.out.br.cell 2 _ rfl
    have r3 := HB7.out.br.cell 3 _ rfl
    have r4 := HB7.out.br.cell 4 _ rfl
    have r5 := HB7.out.br.cell 5 _ rfl
    have r6 := HB7.out.br.cell 6 _ rfl
    have r7 := HB7.out.br.cell 7 _ rfl
    have z0 := HB7.out.br.frozen 0
    have z1 := HB7.out.br.frozen 1
    have z2 := HB7.out.br.frozen 2
    have z3 := HB7.out.br.frozen 3
    have z4 := HB7.out.br.frozen 4
    have z5 := HB7.out.br.frozen 5
    have z6 := HB7.out.br.frozen 6
    have z7 := HB7.out.br.frozen 7
    go_wp2_with fail
    rw [HV.out]
    exact bodyPost_ret (v := .tuple #[.agg #[.int .i64 0, .slice none 0 0, .slice none 0 0, .slice none 0 0, .slice none 0 0, .slice none 0 0, .int .i64 0, .int .i64 0], .string (str msgCls)]) (by simp [results, Try.results11, go_sem, r0, r1, r2, r3, r4, r5, r6, r7, msgCls, str]; try rfl) rfl (HB7.out.zero msgCls (below_sc (b := w.heap.size + 2) (o := 7) (below_sc (b := w.heap.size + 2) (o := 6) (below_sc (b := w.heap.size + 2) (o := 5) (below_sc (b := w.heap.size + 2) (o := 4) (below_sc (b := w.heap.size + 2) (o := 3) (below_sc (b := w.heap.size + 2) (o := 2) (below_sc (b := w.heap.size + 2) (o := 1) (below_sc (b := w.heap.size + 2) (o := 0) (Below.refl (w.heap.size + 2) w6) (Nat.le_refl _) (.int .i64 0)) (Nat.le_refl _) (.slice none 0 0)) (Nat.le_refl _) (.slice none 0 0)) (Nat.le_refl _) (.slice none 0 0)) (Nat.le_refl _) (.slice none 0 0)) (Nat.le_refl _) (.slice none 0 0)) (Nat.le_refl _) (.int .i64 0)) (Nat.le_refl _) (.int .i64 0)))
  have HTK := Lib.hid ht
  have HE := Lib.hid (class_ed HX5.out (HT5.out ht) (HML.out ht) (fun x hx => ⟨hx.1, by have := hx.2; have := HX5.out.qs; omega, by have := hx.2; omega, by have := hx.2; omega⟩))
  clear ht
  go_upto_region 6 with fail
  refine gen_w (G := AX w [.int .i64 v.kind, .slice A1 v.items.length a1, .slice A2 v.parts.length a2, .slice A3 v.names.length a3, .slice A4 v.cls.length a4, .slice A5 v.levels.length a5, .int .i64 v.code, .int .i64 v.env] [.int .i64 u.kind, .slice B1 u.items.length b1, .slice B2 u.parts.length b2, .slice B3 u.names.length b3, .slice B4 u.cls.length b4, .slice B5 u.levels.length b5, .int .i64 u.code, .int .i64 u.env] bx [.int .i64 v.kind, .slice X1 v.items.length e1, .slice X2 v.parts.length e2, .slice X3 v.names.length e3, .slice L m q, .slice X5 v.levels.length e5, .int .i64 v.code, .int .i64 v.env] (w.heap.size + 3) w5.heap.size (setC v (txtsOf u))) HE.out ?_
  intro w6 h6
  have HX6 := Lib.hid (show AX w [.int .i64 v.kind, .slice A1 v.items.length a1, .slice A2 v.parts.length a2, .slice A3 v.names.length a3, .slice A4 v.cls.length a4, .slice A5 v.levels.length a5, .int .i64 v.code, .int .i64 v.env] [.int .i64 u.kind, .slice B1 u.items.length b1, .slice B2 u.parts.length b2, .slice B3 u.names.length b3, .slice B4 u.cls.length b4, .slice B5 u.levels.length b5, .int .i64 u.code, .int .i64 u.env] bx [.int .i64 v.kind, .slice X1 v.items.length e1, .slice X2 v.parts.length e2, .slice X3 v.names.length e3, .slice L m q, .slice X5 v.levels.length e5, .int .i64 v.code, .int .i64 v.env] (w.heap.size + 3) w5.heap.size (setC v (txtsOf u)) w6 from h6)
  clear h6 HE C4 F4 HX5 HT5
  have C0 := HX6.out.bx.cell 0 _ rfl
  have C1 := HX6.out.bx.cell 1 _ rfl
  have C2 := HX6.out.bx.cell 2 _ rfl
  have C3 := HX6.out.bx.cell 3 _ rfl
  have C4 := HX6.out.bx.cell 4 _ rfl
  have C5 := HX6.out.bx.cell 5 _ rfl
  have C6 := HX6.out.bx.cell 6 _ rfl
  have C7 := HX6.out.bx.cell 7 _ rfl
  go_wp2_with fail
  refine Calls.mono (impl_IsVector (setC v (txtsOf u)) _ _ HX6.out.st.read (by have h1 := sz_setC v (txtsOf u); have h2 := sz_txts u; omega)) ?_
  rintro e w7 ⟨rfl, hb⟩
  have HX7 := Lib.hid (HX6.out.step hb)
  clear hb HX6 C0 C1 C2 C3 C4 C5 C6 C7
  cases hx : vecOk (setC v (txtsOf u))
  · have HV := Lib.hid (show asgC v u = (nulV, msgCls) by unfold asgC; rw [if_pos ⟨HVO.out, HUO.out⟩, if_neg (fun h => by rw [h.2] at hx; cases hx)])
    clear hx
    have r0 := HX7.out.ab.br.cell 0 _ rfl
    have r1 := HX7.out.ab.br.cell 1 _ rfl
    have r2 := HX7.out.ab.br.cell 2 _ rfl
    have r3 := HX7.out.ab.br.cell 3 _ rfl
    have r4 := HX7.out.ab.br.cell 4 _ rfl
    have r5 := HX7.out.ab.br.cell 5 _ rfl
    have r6 := HX7.out.ab.br.cell 6 _ rfl
    have r7 := HX7.out.ab.br.cell 7 _ rfl
    have z0 := HX7.out.ab.br.frozen 0
    have z1 := HX7.out.ab.br.frozen 1
    have z2 := HX7.out.ab.br.frozen 2
    have z3 := HX7.out.ab.br.frozen 3
    have z4 := HX7.out.ab.br.frozen 4
    have z5 := HX7.out.ab.br.frozen 5
    have z6 := HX7.out.ab.br.frozen 6
    have z7 := HX7.out.ab.br.frozen 7
    go_wp2_with fail
    rw [HV.out]
    exact bodyPost_ret (v := .tuple #[.agg #[.int .i64 0, .slice none 0 0, .slice none 0 0, .slice none 0 0, .slice none 0 0, .slice none 0 0, .int .i64 0, .int .i64 0], .string (str msgCls)]) (by simp [results, Try.results11, go_sem, r0, r1, r2, r3, r4, r5, r6, r7, msgCls, str]; try rfl) rfl (HX7.out.ab.zero msgCls (below_sc (b := w.heap.size + 2) (o := 7) (below_sc (b := w.heap.size + 2) (o := 6) (below_sc (b := w.heap.size + 2) (o := 5) (below_sc (b := w.heap.size + 2) (o := 4) (below_sc (b := w.heap.size + 2) (o := 3) (below_sc (b := w.heap.size + 2) (o := 2) (below_sc (b := w.heap.size + 2) (o := 1) (below_sc (b := w.heap.size + 2) (o := 0) (Below.refl (w.heap.size + 2) w7) (Nat.le_refl _) (.int .i64 0)) (Nat.le_refl _) (.slice none 0 0)) (Nat.le_refl _) (.slice none 0 0)) (Nat.le_refl _) (.slice none 0 0)) (Nat.le_refl _) (.slice none 0 0)) (Nat.le_refl _) (.slice none 0 0)) (Nat.le_refl _) (.int .i64 0)) (Nat.le_refl _) (.int .i64 0)))
  have HV := Lib.hid (show asgC v u = (setC v (txtsOf u), []) by unfold asgC; rw [if_pos ⟨HVO.out, HUO.out⟩, if_pos ⟨HTK.out, hx⟩])
  clear hx
  have C0 := HX7.out.bx.cell 0 _ rfl
  have C1 := HX7.out.bx.cell 1 _ rfl
  have C2 := HX7.out.bx.cell 2 _ rfl
  have C3 := HX7.out.bx.cell 3 _ rfl
  have C4 := HX7.out.bx.cell 4 _ rfl
  have C5 := HX7.out.bx.cell 5 _ rfl
  have C6 := HX7.out.bx.cell 6 _ rfl
  have C7 := HX7.out.bx.cell 7 _ rfl
  have r0 := HX7.out.ab.br.cell 0 _ rfl
  have r1 := HX7.out.ab.br.cell 1 _ rfl
  have r2 := HX7.out.ab.br.cell 2 _ rfl
  have r3 := HX7.out.ab.br.cell 3 _ rfl
  have r4 := HX7.out.ab.br.cell 4 _ rfl
  have r5 := HX7.out.ab.br.cell 5 _ rfl
  have r6 := HX7.out.ab.br.cell 6 _ rfl
  have r7 := HX7.out.ab.br.cell 7 _ rfl
  have z0 := HX7.out.ab.br.frozen 0
  have z1 := HX7.out.ab.br.frozen 1
  have z2 := HX7.out.ab.br.frozen 2
  have z3 := HX7.out.ab.br.frozen 3
  have z4 := HX7.out.ab.br.frozen 4
  have z5 := HX7.out.ab.br.frozen 5
  have z6 := HX7.out.ab.br.frozen 6
  have z7 := HX7.out.ab.br.frozen 7
  go_wp2_with fail
  rw [HV.out]
  exact bodyPost_ret (v := .tuple #[.agg #[.int .i64 v.kind, .slice X1 v.items.length e1, .slice X2 v.parts.length e2, .slice X3 v.names.length e3, .slice L m q, .slice X5 v.levels.length e5, .int .i64 v.code, .int .i64 v.env], .string (str [])]) (by simp [results, Try.results11, go_sem, r0, r1, r2, r3, r4, r5, r6, r7, str]; try rfl) rfl (HX7.out.done (Keeps.sc (b := w.heap.size + 2) (o := 7) (Keeps.sc (b := w.heap.size + 2) (o := 6) (Keeps.sc (b := w.heap.size + 2) (o := 5) (Keeps.sc (b := w.heap.size + 2) (o := 4) (Keeps.sc (b := w.heap.size + 2) (o := 3) (Keeps.sc (b := w.heap.size + 2) (o := 2) (Keeps.sc (b := w.heap.size + 2) (o := 1) (Keeps.sc (b := w.heap.size + 2) (o := 0) (Keeps.refl (fun x => x ≠ w.heap.size + 2) w7) (by simp) (.int .i64 v.kind)) (by simp) (.slice X1 v.items.length e1)) (by simp) (.slice X2 v.parts.length e2)) (by simp) (.slice X3 v.names.length e3)) (by simp) (.slice L m q)) (by simp) (.slice X5 v.levels.length e5)) (by simp) (.int .i64 v.code)) (by simp) (.int .i64 v.env)) (below_sc (b := w.heap.size + 2) (o := 7) (below_sc (b := w.heap.size + 2) (o := 6) (below_sc (b := w.heap.size + 2) (o := 5) (below_sc (b := w.heap.size + 2) (o := 4) (below_sc (b := w.heap.size + 2) (o := 3) (below_sc (b := w.heap.size + 2) (o := 2) (below_sc (b := w.heap.size + 2) (o := 1) (below_sc (b := w.heap.size + 2) (o := 0) (Below.refl w.heap.size w7) (by omega) (.int .i64 v.kind)) (by omega) (.slice X1 v.items.length e1)) (by omega) (.slice X2 v.parts.length e2)) (by omega) (.slice X3 v.names.length e3)) (by omega) (.slice L m q)) (by omega) (.slice X5 v.levels.length e5)) (by omega) (.int .i64 v.code)) (by omega) (.int .i64 v.env)))

set_option maxHeartbeats 1000000 in
theorem spec_l4Bad (w : World) : Calls Try.prog 45 #[] w fun e w' => e = .returned (.tuple #[.agg #[.int .i64 0, .slice none 0 0, .slice none 0 0, .slice none 0 0, .slice none 0 0, .slice none 0 0, .int .i64 0, .int .i64 0], .string (str msgVec)]) ∧ Below w.heap.size w w' := by
  go_enter Try.func45, Try.ntmps45
  go_wp2_with fail
  exact bodyPost_ret (v := .tuple #[.agg #[.int .i64 0, .slice none 0 0, .slice none 0 0, .slice none 0 0, .slice none 0 0, .slice none 0 0, .int .i64 0, .int .i64 0], .string (str msgVec)]) (by simp [results, Try.results45, go_sem, msgVec, str]; try rfl) rfl ⟨rfl, (Below.refl _ _).alloc (Nat.le_refl _) _⟩
set_option maxHeartbeats 8000000 in
theorem spec_AssignClass (v u : VecD) (vs us : List Value) (w : World) (h : VecR w vs v) (k : VecR w us u) (hz : szVector v ≤ 400000000000) (kz : szVector u ≤ 400000000000) :
    Calls Try.prog 12 #[.agg vs.toArray, .agg us.toArray] w (RetVM (asgC v u) w) := by
  have HI := Lib.hid h
  have KI := Lib.hid k
  obtain ⟨A1, a1, A2, a2, A3, a3, A4, a4, A5, a5, rfl⟩ := vecR_shape h
  obtain ⟨B1, b1, B2, b2, B3, b3, B4, b4, B5, b5, rfl⟩ := vecR_shape k
  clear h k
  go_enter Try.func12, Try.ntmps12
  go_upto_region 1 with fail
  refine gen_w (G := AB w [.int .i64 v.kind, .slice A1 v.items.length a1, .slice A2 v.parts.length a2, .slice A3 v.names.length a3, .slice A4 v.cls.length a4, .slice A5 v.levels.length a5, .int .i64 v.code, .int .i64 v.env] [.int .i64 u.kind, .slice B1 u.items.length b1, .slice B2 u.parts.length b2, .slice B3 u.names.length b3, .slice B4 u.cls.length b4, .slice B5 u.levels.length b5, .int .i64 u.code, .int .i64 u.env]) (show Ok _ _ from AB.start w _ _) ?_
  intro w0 h0
  have HB := Lib.hid (show AB w [.int .i64 v.kind, .slice A1 v.items.length a1, .slice A2 v.parts.length a2, .slice A3 v.names.length a3, .slice A4 v.cls.length a4, .slice A5 v.levels.length a5, .int .i64 v.code, .int .i64 v.env] [.int .i64 u.kind, .slice B1 u.items.length b1, .slice B2 u.parts.length b2, .slice B3 u.names.length b3, .slice B4 u.cls.length b4, .slice B5 u.levels.length b5, .int .i64 u.code, .int .i64 u.env] w0 from h0)
  clear h0
  have x0 := HB.out.bv.cell 0 _ rfl
  have x1 := HB.out.bv.cell 1 _ rfl
  have x2 := HB.out.bv.cell 2 _ rfl
  have x3 := HB.out.bv.cell 3 _ rfl
  have x4 := HB.out.bv.cell 4 _ rfl
  have x5 := HB.out.bv.cell 5 _ rfl
  have x6 := HB.out.bv.cell 6 _ rfl
  have x7 := HB.out.bv.cell 7 _ rfl
  go_wp2_with fail
  refine Calls.mono (spec_IsVector v _ _ (by exact HI.out.below HB.out.bl) (by omega)) ?_
  rintro e w1 ⟨rfl, hb⟩
  have HB1 := Lib.hid (HB.out.step hb)
  clear hb HB x0 x1 x2 x3 x4 x5 x6 x7
  cases hv : vecOk v
  · have HV := Lib.hid (show asgC v u = (nulV, msgVec) by unfold asgC; rw [if_neg (fun h => by rw [h.1] at hv; cases hv)])
    go_wp2_with fail
    refine Calls.mono (spec_l4Bad _) ?_
    rintro e wz ⟨rfl, hb⟩
    have HBZ := Lib.hid (HB1.out.step hb)
    clear hb
    have r0 := HBZ.out.br.cell 0 _ rfl
    have r1 := HBZ.out.br.cell 1 _ rfl
    have r2 := HBZ.out.br.cell 2 _ rfl
    have r3 := HBZ.out.br.cell 3 _ rfl
    have r4 := HBZ.out.br.cell 4 _ rfl
    have r5 := HBZ.out.br.cell 5 _ rfl
    have r6 := HBZ.out.br.cell 6 _ rfl
    have r7 := HBZ.out.br.cell 7 _ rfl
    have z0 := HBZ.out.br.frozen 0
    have z1 := HBZ.out.br.frozen 1
    have z2 := HBZ.out.br.frozen 2
    have z3 := HBZ.out.br.frozen 3
    have z4 := HBZ.out.br.frozen 4
    have z5 := HBZ.out.br.frozen 5
    have z6 := HBZ.out.br.frozen 6
    have z7 := HBZ.out.br.frozen 7
    go_wp2_with fail
    rw [HV.out]
    exact bodyPost_ret (v := .tuple #[.agg #[.int .i64 0, .slice none 0 0, .slice none 0 0, .slice none 0 0, .slice none 0 0, .slice none 0 0, .int .i64 0, .int .i64 0], .string (str msgVec)]) (by simp [results, Try.results12, go_sem, r0, r1, r2, r3, r4, r5, r6, r7, msgVec, str]; try rfl) rfl (HBZ.out.zero msgVec (below_sc (b := w.heap.size + 2) (o := 7) (below_sc (b := w.heap.size + 2) (o := 6) (below_sc (b := w.heap.size + 2) (o := 5) (below_sc (b := w.heap.size + 2) (o := 4) (below_sc (b := w.heap.size + 2) (o := 3) (below_sc (b := w.heap.size + 2) (o := 2) (below_sc (b := w.heap.size + 2) (o := 1) (below_sc (b := w.heap.size + 2) (o := 0) (Below.refl (w.heap.size + 2) wz) (Nat.le_refl _) (.int .i64 0)) (Nat.le_refl _) (.slice none 0 0)) (Nat.le_refl _) (.slice none 0 0)) (Nat.le_refl _) (.slice none 0 0)) (Nat.le_refl _) (.slice none 0 0)) (Nat.le_refl _) (.slice none 0 0)) (Nat.le_refl _) (.int .i64 0)) (Nat.le_refl _) (.int .i64 0)))
  have HVO := Lib.hid hv
  clear hv
  have y0 := HB1.out.bu.cell 0 _ rfl
  have y1 := HB1.out.bu.cell 1 _ rfl
  have y2 := HB1.out.bu.cell 2 _ rfl
  have y3 := HB1.out.bu.cell 3 _ rfl
  have y4 := HB1.out.bu.cell 4 _ rfl
  have y5 := HB1.out.bu.cell 5 _ rfl
  have y6 := HB1.out.bu.cell 6 _ rfl
  have y7 := HB1.out.bu.cell 7 _ rfl
  go_wp2_with fail
  refine Calls.mono (spec_IsVector u _ _ (by exact KI.out.below HB1.out.bl) (by omega)) ?_
  rintro e w2 ⟨rfl, hb⟩
  have HB2 := Lib.hid (HB1.out.step hb)
  clear hb HB1 y0 y1 y2 y3 y4 y5 y6 y7
  cases hu : vecOk u
  · have HV := Lib.hid (show asgC v u = (nulV, msgVec) by unfold asgC; rw [if_neg (fun h => by rw [h.2] at hu; cases hu)])
    go_wp2_with fail
    refine Calls.mono (spec_l4Bad _) ?_
    rintro e wz ⟨rfl, hb⟩
    have HBZ := Lib.hid (HB2.out.step hb)
    clear hb
    have r0 := HBZ.out.br.cell 0 _ rfl
    have r1 := HBZ.out.br.cell 1 _ rfl
    have r2 := HBZ.out.br.cell 2 _ rfl
    have r3 := HBZ.out.br.cell 3 _ rfl
    have r4 := HBZ.out.br.cell 4 _ rfl
    have r5 := HBZ.out.br.cell 5 _ rfl
    have r6 := HBZ.out.br.cell 6 _ rfl
    have r7 := HBZ.out.br.cell 7 _ rfl
    have z0 := HBZ.out.br.frozen 0
    have z1 := HBZ.out.br.frozen 1
    have z2 := HBZ.out.br.frozen 2
    have z3 := HBZ.out.br.frozen 3
    have z4 := HBZ.out.br.frozen 4
    have z5 := HBZ.out.br.frozen 5
    have z6 := HBZ.out.br.frozen 6
    have z7 := HBZ.out.br.frozen 7
    go_wp2_with fail
    rw [HV.out]
    exact bodyPost_ret (v := .tuple #[.agg #[.int .i64 0, .slice none 0 0, .slice none 0 0, .slice none 0 0, .slice none 0 0, .slice none 0 0, .int .i64 0, .int .i64 0], .string (str msgVec)]) (by simp [results, Try.results12, go_sem, r0, r1, r2, r3, r4, r5, r6, r7, msgVec, str]; try rfl) rfl (HBZ.out.zero msgVec (below_sc (b := w.heap.size + 2) (o := 7) (below_sc (b := w.heap.size + 2) (o := 6) (below_sc (b := w.heap.size + 2) (o := 5) (below_sc (b := w.heap.size + 2) (o := 4) (below_sc (b := w.heap.size + 2) (o := 3) (below_sc (b := w.heap.size + 2) (o := 2) (below_sc (b := w.heap.size + 2) (o := 1) (below_sc (b := w.heap.size + 2) (o := 0) (Below.refl (w.heap.size + 2) wz) (Nat.le_refl _) (.int .i64 0)) (Nat.le_refl _) (.slice none 0 0)) (Nat.le_refl _) (.slice none 0 0)) (Nat.le_refl _) (.slice none 0 0)) (Nat.le_refl _) (.slice none 0 0)) (Nat.le_refl _) (.slice none 0 0)) (Nat.le_refl _) (.int .i64 0)) (Nat.le_refl _) (.int .i64 0)))
  have HUO := Lib.hid hu
  clear hu
  have x0 := HB2.out.bv.cell 0 _ rfl
  have x1 := HB2.out.bv.cell 1 _ rfl
  have x2 := HB2.out.bv.cell 2 _ rfl
  have x3 := HB2.out.bv.cell 3 _ rfl
  have x4 := HB2.out.bv.cell 4 _ rfl
  have x5 := HB2.out.bv.cell 5 _ rfl
  have x6 := HB2.out.bv.cell 6 _ rfl
  have x7 := HB2.out.bv.cell 7 _ rfl
  go_wp2_with fail
  refine Calls.mono (spec_l4Copy v _ _ (by exact HI.out.below HB2.out.bl) (vecOk_okN HVO.out) (by omega)) ?_
  rintro e w3 ⟨xcs, rfl, hV, hb⟩
  obtain ⟨X1, e1, X2, e2, X3, e3, X4, e4, X5, e5, rfl⟩ := hV.shape
  have HB3 := Lib.hid (HB2.out.step hb)
  have hr2 := HB2.out.br.lt
  have HX := Lib.hid (AX.make HB3.out (by omega) hV)
  clear hb HB2 HB3 hV x0 x1 x2 x3 x4 x5 x6 x7
  go_upto_region 4 with fail
  generalize hbx : w3.heap.size = bx at HX ⊢
  generalize hp2 : w2.heap.size = p2 at HX hr2
  clear hbx
  refine gen_w (G := AX w [.int .i64 v.kind, .slice A1 v.items.length a1, .slice A2 v.parts.length a2, .slice A3 v.names.length a3, .slice A4 v.cls.length a4, .slice A5 v.levels.length a5, .int .i64 v.code, .int .i64 v.env] [.int .i64 u.kind, .slice B1 u.items.length b1, .slice B2 u.parts.length b2, .slice B3 u.names.length b3, .slice B4 u.cls.length b4, .slice B5 u.levels.length b5, .int .i64 u.code, .int .i64 u.env] bx [.int .i64 v.kind, .slice X1 v.items.length e1, .slice X2 v.parts.length e2, .slice X3 v.names.length e3, .slice X4 v.cls.length e4, .slice X5 v.levels.length e5, .int .i64 v.code, .int .i64 v.env] p2 (bx + 1) v) HX.out ?_
  intro w4 h4
  have HX4 := Lib.hid (AX.rebase (show AX w [.int .i64 v.kind, .slice A1 v.items.length a1, .slice A2 v.parts.length a2, .slice A3 v.names.length a3, .slice A4 v.cls.length a4, .slice A5 v.levels.length a5, .int .i64 v.code, .int .i64 v.env] [.int .i64 u.kind, .slice B1 u.items.length b1, .slice B2 u.parts.length b2, .slice B3 u.names.length b3, .slice B4 u.cls.length b4, .slice B5 u.levels.length b5, .int .i64 u.code, .int .i64 u.env] bx [.int .i64 v.kind, .slice X1 v.items.length e1, .slice X2 v.parts.length e2, .slice X3 v.names.length e3, .slice X4 v.cls.length e4, .slice X5 v.levels.length e5, .int .i64 v.code, .int .i64 v.env] p2 (bx + 1) v w4 from h4))
  clear h4 HX
  have y0 := HX4.out.ab.bu.cell 0 _ rfl
  have y1 := HX4.out.ab.bu.cell 1 _ rfl
  have y2 := HX4.out.ab.bu.cell 2 _ rfl
  have y3 := HX4.out.ab.bu.cell 3 _ rfl
  have y4 := HX4.out.ab.bu.cell 4 _ rfl
  have y5 := HX4.out.ab.bu.cell 5 _ rfl
  have y6 := HX4.out.ab.bu.cell 6 _ rfl
  have y7 := HX4.out.ab.bu.cell 7 _ rfl
  go_wp2_with fail
  refine Calls.mono (spec_l10Strings u _ _ (by exact KI.out.below HX4.out.ab.bl) (by omega) (fun h0 => vecOk_null HUO.out h0)) ?_
  rintro e w5 ⟨L, m, q, rfl, hT, hml, hb⟩
  have HX5 := Lib.hid (HX4.out.step hb)
  have HT5 := Lib.hid hT
  have HML := Lib.hid hml
  have hs45 := hb.size
  clear hb hT hml y0 y1 y2 y3 y4 y5 y6 y7
  have C4 := HX5.out.bx.cell 4 _ rfl
  have F4 := HX5.out.bx.frozen 4
  have HE := Lib.hid (class_ed HX5.out HT5.out HML.out (fun x hx => ⟨by have := hx.1; have := HX4.out.rq; have := HX4.out.lo; omega, hx.2, by have := hx.1; have := HX4.out.rq; omega, by have := hx.1; omega⟩))
  go_upto_region 6 with fail
  refine gen_w (G := AX w [.int .i64 v.kind, .slice A1 v.items.length a1, .slice A2 v.parts.length a2, .slice A3 v.names.length a3, .slice A4 v.cls.length a4, .slice A5 v.levels.length a5, .int .i64 v.code, .int .i64 v.env] [.int .i64 u.kind, .slice B1 u.items.length b1, .slice B2 u.parts.length b2, .slice B3 u.names.length b3, .slice B4 u.cls.length b4, .slice B5 u.levels.length b5, .int .i64 u.code, .int .i64 u.env] bx [.int .i64 v.kind, .slice X1 v.items.length e1, .slice X2 v.parts.length e2, .slice X3 v.names.length e3, .slice L m q, .slice X5 v.levels.length e5, .int .i64 v.code, .int .i64 v.env] (w.heap.size + 3) w5.heap.size (setC v (txtsOf u))) HE.out ?_
  intro w6 h6
  have HX6 := Lib.hid (show AX w [.int .i64 v.kind, .slice A1 v.items.length a1, .slice A2 v.parts.length a2, .slice A3 v.names.length a3, .slice A4 v.cls.length a4, .slice A5 v.levels.length a5, .int .i64 v.code, .int .i64 v.env] [.int .i64 u.kind, .slice B1 u.items.length b1, .slice B2 u.parts.length b2, .slice B3 u.names.length b3, .slice B4 u.cls.length b4, .slice B5 u.levels.length b5, .int .i64 u.code, .int .i64 u.env] bx [.int .i64 v.kind, .slice X1 v.items.length e1, .slice X2 v.parts.length e2, .slice X3 v.names.length e3, .slice L m q, .slice X5 v.levels.length e5, .int .i64 v.code, .int .i64 v.env] (w.heap.size + 3) w5.heap.size (setC v (txtsOf u)) w6 from h6)
  clear h6 HE C4 F4 HX5 HT5
  cases ht : txtsOk u
  · have HV := Lib.hid (show asgC v u = (nulV, msgCls) by unfold asgC; rw [if_pos ⟨HVO.out, HUO.out⟩, if_neg (fun h => by rw [h.1] at ht; cases ht)])
    clear ht
    have r0 := HX6.out.ab.br.cell 0 _ rfl
    have r1 := HX6.out.ab.br.cell 1 _ rfl
    have r2 := HX6.out.ab.br.cell 2 _ rfl
    have r3 := HX6.out.ab.br.cell 3 _ rfl
    have r4 := HX6.out.ab.br.cell 4 _ rfl
    have r5 := HX6.out.ab.br.cell 5 _ rfl
    have r6 := HX6.out.ab.br.cell 6 _ rfl
    have r7 := HX6.out.ab.br.cell 7 _ rfl
    have z0 := HX6.out.ab.br.frozen 0
    have z1 := HX6.out.ab.br.frozen 1
    have z2 := HX6.out.ab.br.frozen 2
    have z3 := HX6.out.ab.br.frozen 3
    have z4 := HX6.out.ab.br.frozen 4
    have z5 := HX6.out.ab.br.frozen 5
    have z6 := HX6.out.ab.br.frozen 6
    have z7 := HX6.out.ab.br.frozen 7
    go_wp2_with fail
    rw [HV.out]
    exact bodyPost_ret (v := .tuple #[.agg #[.int .i64 0, .slice none 0 0, .slice none 0 0, .slice none 0 0, .slice none 0 0, .slice none 0 0, .int .i64 0, .int .i64 0], .string (str msgCls)]) (by simp [results, Try.results12, go_sem, r0, r1, r2, r3, r4, r5, r6, r7, msgCls, str]; try rfl) rfl (HX6.out.ab.zero msgCls (below_sc (b := w.heap.size + 2) (o := 7) (below_sc (b := w.heap.size + 2) (o := 6) (below_sc (b := w.heap.size + 2) (o := 5) (below_sc (b := w.heap.size + 2) (o := 4) (below_sc (b := w.heap.size + 2) (o := 3) (below_sc (b := w.heap.size + 2) (o := 2) (below_sc (b := w.heap.size + 2) (o := 1) (below_sc (b := w.heap.size + 2) (o := 0) (Below.refl (w.heap.size + 2) w6) (Nat.le_refl _) (.int .i64 0)) (Nat.le_refl _) (.slice none 0 0)) (Nat.le_refl _) (.slice none 0 0)) (Nat.le_refl _) (.slice none 0 0)) (Nat.le_refl _) (.slice none 0 0)) (Nat.le_refl _) (.slice none 0 0)) (Nat.le_refl _) (.int .i64 0)) (Nat.le_refl _) (.int .i64 0)))
  have HTK := Lib.hid ht
  clear ht
  have C0 := HX6.out.bx.cell 0 _ rfl
  have C1 := HX6.out.bx.cell 1 _ rfl
  have C2 := HX6.out.bx.cell 2 _ rfl
  have C3 := HX6.out.bx.cell 3 _ rfl
  have C4 := HX6.out.bx.cell 4 _ rfl
  have C5 := HX6.out.bx.cell 5 _ rfl
  have C6 := HX6.out.bx.cell 6 _ rfl
  have C7 := HX6.out.bx.cell 7 _ rfl
  go_wp2_with fail
  refine Calls.mono (spec_IsVector (setC v (txtsOf u)) _ _ HX6.out.st.read (by have h1 := sz_setC v (txtsOf u); have h2 := sz_txts u; omega)) ?_
  rintro e w7 ⟨rfl, hb⟩
  have HX7 := Lib.hid (HX6.out.step hb)
  clear hb HX6 C0 C1 C2 C3 C4 C5 C6 C7
  cases hx : vecOk (setC v (txtsOf u))
  · have HV := Lib.hid (show asgC v u = (nulV, msgCls) by unfold asgC; rw [if_pos ⟨HVO.out, HUO.out⟩, if_neg (fun h => by rw [h.2] at hx; cases hx)])
    clear hx
    have r0 := HX7.out.ab.br.cell 0 _ rfl
    have r1 := HX7.out.ab.br.cell 1 _ rfl
    have r2 := HX7.out.ab.br.cell 2 _ rfl
    have r3 := HX7.out.ab.br.cell 3 _ rfl
    have r4 := HX7.out.ab.br.cell 4 _ rfl
    have r5 := HX7.out.ab.br.cell 5 _ rfl
    have r6 := HX7.out.ab.br.cell 6 _ rfl
    have r7 := HX7.out.ab.br.cell 7 _ rfl
    have z0 := HX7.out.ab.br.frozen 0
    have z1 := HX7.out.ab.br.frozen 1
    have z2 := HX7.out.ab.br.frozen 2
    have z3 := HX7.out.ab.br.frozen 3
    have z4 := HX7.out.ab.br.frozen 4
    have z5 := HX7.out.ab.br.frozen 5
    have z6 := HX7.out.ab.br.frozen 6
    have z7 := HX7.out.ab.br.frozen 7
    go_wp2_with fail
    rw [HV.out]
    exact bodyPost_ret (v := .tuple #[.agg #[.int .i64 0, .slice none 0 0, .slice none 0 0, .slice none 0 0, .slice none 0 0, .slice none 0 0, .int .i64 0, .int .i64 0], .string (str msgCls)]) (by simp [results, Try.results12, go_sem, r0, r1, r2, r3, r4, r5, r6, r7, msgCls, str]; try rfl) rfl (HX7.out.ab.zero msgCls (below_sc (b := w.heap.size + 2) (o := 7) (below_sc (b := w.heap.size + 2) (o := 6) (below_sc (b := w.heap.size + 2) (o := 5) (below_sc (b := w.heap.size + 2) (o := 4) (below_sc (b := w.heap.size + 2) (o := 3) (below_sc (b := w.heap.size + 2) (o := 2) (below_sc (b := w.heap.size + 2) (o := 1) (below_sc (b := w.heap.size + 2) (o := 0) (Below.refl (w.heap.size + 2) w7) (Nat.le_refl _) (.int .i64 0)) (Nat.le_refl _) (.slice none 0 0)) (Nat.le_refl _) (.slice none 0 0)) (Nat.le_refl _) (.slice none 0 0)) (Nat.le_refl _) (.slice none 0 0)) (Nat.le_refl _) (.slice none 0 0)) (Nat.le_refl _) (.int .i64 0)) (Nat.le_refl _) (.int .i64 0)))
  have HV := Lib.hid (show asgC v u = (setC v (txtsOf u), []) by unfold asgC; rw [if_pos ⟨HVO.out, HUO.out⟩, if_pos ⟨HTK.out, hx⟩])
  clear hx
  have C0 := HX7.out.bx.cell 0 _ rfl
  have C1 := HX7.out.bx.cell 1 _ rfl
  have C2 := HX7.out.bx.cell 2 _ rfl
  have C3 := HX7.out.bx.cell 3 _ rfl
  have C4 := HX7.out.bx.cell 4 _ rfl
  have C5 := HX7.out.bx.cell 5 _ rfl
  have C6 := HX7.out.bx.cell 6 _ rfl
  have C7 := HX7.out.bx.cell 7 _ rfl
  have r0 := HX7.out.ab.br.cell 0 _ rfl
  have r1 := HX7.out.ab.br.cell 1 _ rfl
  have r2 := HX7.out.ab.br.cell 2 _ rfl
  have r3 := HX7.out.ab.br.cell 3 _ rfl
  have r4 := HX7.out.ab.br.cell 4 _ rfl
  have r5 := HX7.out.ab.br.cell 5 _ rfl
  have r6 := HX7.out.ab.br.cell 6 _ rfl
  have r7 := HX7.out.ab.br.cell 7 _ rfl
  have z0 := HX7.out.ab.br.frozen 0
  have z1 := HX7.out.ab.br.frozen 1
  have z2 := HX7.out.ab.br.frozen 2
  have z3 := HX7.out.ab.br.frozen 3
  have z4 := HX7.out.ab.br.frozen 4
  have z5 := HX7.out.ab.br.frozen 5
  have z6 := HX7.out.ab.br.frozen 6
  have z7 := HX7.out.ab.br.frozen 7
  go_wp2_with fail
  rw [HV.out]
  exact bodyPost_ret (v := .tuple #[.agg #[.int .i64 v.kind, .slice X1 v.items.length e1, .slice X2 v.parts.length e2, .slice X3 v.names.length e3, .slice L m q, .slice X5 v.levels.length e5, .int .i64 v.code, .int .i64 v.env], .string (str [])]) (by simp [results, Try.results12, go_sem, r0, r1, r2, r3, r4, r5, r6, r7, str]; try rfl) rfl (HX7.out.done (Keeps.sc (b := w.heap.size + 2) (o := 7) (Keeps.sc (b := w.heap.size + 2) (o := 6) (Keeps.sc (b := w.heap.size + 2) (o := 5) (Keeps.sc (b := w.heap.size + 2) (o := 4) (Keeps.sc (b := w.heap.size + 2) (o := 3) (Keeps.sc (b := w.heap.size + 2) (o := 2) (Keeps.sc (b := w.heap.size + 2) (o := 1) (Keeps.sc (b := w.heap.size + 2) (o := 0) (Keeps.refl (fun x => x ≠ w.heap.size + 2) w7) (by simp) (.int .i64 v.kind)) (by simp) (.slice X1 v.items.length e1)) (by simp) (.slice X2 v.parts.length e2)) (by simp) (.slice X3 v.names.length e3)) (by simp) (.slice L m q)) (by simp) (.slice X5 v.levels.length e5)) (by simp) (.int .i64 v.code)) (by simp) (.int .i64 v.env)) (below_sc (b := w.heap.size + 2) (o := 7) (below_sc (b := w.heap.size + 2) (o := 6) (below_sc (b := w.heap.size + 2) (o := 5) (below_sc (b := w.heap.size + 2) (o := 4) (below_sc (b := w.heap.size + 2) (o := 3) (below_sc (b := w.heap.size + 2) (o := 2) (below_sc (b := w.heap.size + 2) (o := 1) (below_sc (b := w.heap.size + 2) (o := 0) (Below.refl w.heap.size w7) (by omega) (.int .i64 v.kind)) (by omega) (.slice X1 v.items.length e1)) (by omega) (.slice X2 v.parts.length e2)) (by omega) (.slice X3 v.names.length e3)) (by omega) (.slice L m q)) (by omega) (.slice X5 v.levels.length e5)) (by omega) (.int .i64 v.code)) (by omega) (.int .i64 v.env)))
end Go.Proofs.Ytjdimlhdkmkmbaa
