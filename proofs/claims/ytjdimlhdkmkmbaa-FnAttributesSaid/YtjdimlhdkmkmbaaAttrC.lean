/-
  Contracts: names that are assigned, of the program and of the reference.
-/
import Derived.Test.YtjdimlhdkmkmbaaAttrB
namespace Go.Proofs.Ytjdimlhdkmkmbaa
set_option maxRecDepth 100000
open Go.ChangeShapes Go.WideShapes Go.ChangeAt Go.RowKit Go.Deep
set_option linter.unusedVariables false

theorem vecOk_len {d : VecD} (h : vecOk d = true) : lenV d ≤ 40 := by
  have h1 := vecOk_shape h
  unfold shapeOk at h1
  simp only [Bool.and_eq_true] at h1
  have h2 := h1.1.1.1.1.1.1.1
  simp only [sA, Bool.and_eq_true, decide_eq_true_eq] at h2
  exact h2.1.1.2
theorem lenV_items {d : VecD} (h : vecOk d = true) (hk : d.kind = 0 ∨ d.kind = 3) : lenV d = d.items.length := by
  have h1 := vecOk_shape h
  unfold shapeOk at h1
  simp only [Bool.and_eq_true] at h1
  have h2 := h1.1.1.1.1.2
  have h5 : ¬ d.kind = 5 := by omega
  have h4 : ¬ d.kind = 4 := by omega
  simp only [sD, Bool.and_eq_true, Bool.or_eq_true, beq_iff_eq] at h2
  have hp : d.parts = [] := by simpa [h4] using h2.2
  simp [lenV, h5, hp]
theorem pad_zero (n : Nat) : padN n [] = List.replicate n [] := by
  apply List.ext_getElem
  · simp [padN]
  · intro i h1 h2
    simp [padN]
theorem pad_set {n : Nat} {its : List ItemD} (k : Nat) (hk : k < its.length) (hn : k < n) : (padN n (its.take k)).set k its[k].text = padN n (its.take (k + 1)) := by
  apply List.ext_getElem
  · simp [padN]
  · intro i h1 h2
    rw [List.getElem_set]
    by_cases h : k = i
    · subst h
      rw [if_pos rfl, pad_at, List.getElem?_take, if_pos (Nat.lt_succ_self k), List.getElem?_eq_getElem hk]
      rfl
    · rw [if_neg h, pad_at, pad_at]
      rw [List.getElem?_take, List.getElem?_take]
      by_cases h3 : i < k
      · rw [if_pos h3, if_pos (by omega)]
      · rw [if_neg h3, if_neg (by omega)]
theorem made_str (n : Nat) : madeCells #[Value.string ByteArray.empty] n = ((List.replicate n ([] : List UInt8)).map fun s => Value.string (str s)).toArray := by
  apply Array.ext'
  apply List.ext_getElem
  · simp [madeCells]
  · intro i h1 h2
    simp [madeCells, Nat.mod_one]
    rfl
/-- the copy, and the row of its names -/
structure NX (w : World) (vcs ucs : List Value) (b : Nat) (xcs : List Value) (z : Nat) (L : List (List UInt8)) (p q : Nat) (w6 W : World) : Prop where
  ab : AB w vcs ucs W
  bx : Blk W b 28 xcs
  zb : Blk W z 9 (L.map fun s => Value.string (str s))
  kp : Keeps (fun x => Rng p q x ∧ x ≠ b) w6 W
  lp : w.heap.size + 3 ≤ p
  lo : w.heap.size + 3 ≤ b
  rq : b < q
  qz : q ≤ z
  pz : p ≤ z
section
variable {w : World} {vcs ucs xcs : List Value} {b z p q : Nat} {L : List (List UInt8)} {w6 W W' : World}
theorem NX.step (h : NX w vcs ucs b xcs z L p q w6 W) (hb : Below W.heap.size W W') : NX w vcs ucs b xcs z L p q w6 W' :=
  ⟨h.ab.step hb, h.bx.below hb, h.zb.below hb, h.kp.trans (Keeps.of_below _ hb), h.lp, h.lo, h.rq, h.qz, h.pz⟩
theorem NX.setn (h : NX w vcs ucs b xcs z L p q w6 W) (k : Nat) (s : List UInt8) : NX w vcs ucs b xcs z (L.set k s) p q w6 (W.setCell ⟨z, k, none⟩ (.string (str s))) := by
  have h1 := h.lo
  have h2 := h.rq
  have h3 := h.qz
  refine ⟨h.ab.above (below_sc (Below.refl _ _) (by omega) _), h.bx.far ⟨z, k, none⟩ (by show b ≠ z; omega) _, ?_, h.kp.trans ((Keeps.refl _ _).sc (fun hb => by have := hb.1.2; omega) _), h.lp, h.lo, h.rq, h.qz, h.pz⟩
  rw [List.map_set]
  exact h.zb.set_ k _
theorem NX.start {cs : List Value} {d : VecD} (h : AX w vcs ucs b cs p q d W) (n : Nat) (hq : q = W.heap.size) (hpb : p ≤ b) : NX w vcs ucs b (cs.set 3 (.slice (some ⟨W.heap.size, 0, none⟩) n n)) W.heap.size (List.replicate n []) p q W ((W.setCell ⟨b, 3, none⟩ (.slice (some ⟨W.heap.size, 0, none⟩) n n)).alloc (.cells (madeCells #[.string ByteArray.empty] n) 9)) := by
  have hb := (Below.refl (w.heap.size + 3) W)
  have hb1 := below_sc (b := b) (o := 3) hb h.lo (.slice (some ⟨W.heap.size, 0, none⟩) n n)
  have hs : (W.setCell ⟨b, 3, none⟩ (.slice (some ⟨W.heap.size, 0, none⟩) n n)).heap.size = W.heap.size := size_sc _ _ _
  have hl := h.ab.br.lt
  refine ⟨h.ab.above (hb1.alloc (by rw [hs]; omega) _), (h.bx.set_ 3 _).alloc _, ?_, ((Keeps.refl _ _).sc (fun hb => hb.2 rfl) _).trans (Keeps.of_below _ ((Below.refl _ _).alloc (Nat.le_refl _) _)), h.lp, h.lo, h.rq, by omega, by have := hpb; have := h.rq; omega⟩
  rw [made_str]
  exact Blk.new_at _ 9 _ _ hs.symm
theorem AX.pushN {d : VecD} {k co ev : Int} {v1 v2 v4 v5 : Value} {A : Option Addr} {n c : Nat} (h : AX w vcs ucs b [.int .i64 k, v1, v2, .slice A n c, v4, v5, .int .i64 co, .int .i64 ev] p q d W) (nm : List UInt8) (hnm : nm.length ≤ maxLen) :
    ∃ xs, W.ownsRow (w.heap.size + 3) 9 1 (.slice A n c) n xs ∧ (∀ x, (Value.slice A n c).ownBlock = some x → x ≠ b) ∧ ∀ A1 c1 w3, w3.ownsRow (w.heap.size + 3) 9 1 (.slice A1 (n + 1) c1) (n + 1) (xs ++ [.string (str nm)]) → W.grownBy w3 (Value.slice A n c).ownBlock →
      ((Value.slice A1 (n + 1) c1).ownBlock = (Value.slice A n c).ownBlock ∨ (Value.slice A1 (n + 1) c1).ownBlock = some (W.heap.size + 1)) → Below (w.heap.size + 3) W w3 →
      AX w vcs ucs b [.int .i64 k, v1, v2, .slice A1 (n + 1) c1, v4, v5, .int .i64 co, .int .i64 ev] (w.heap.size + 3) w3.heap.size (setN d (d.names ++ [nm])) (w3.setCell ⟨b, 3, none⟩ (.slice A1 (n + 1) c1)) := by
  obtain ⟨S3, h3, rfl, hS3, hcl⟩ := h.st.ed3
  have hq := h.qs
  have hrq := h.rq
  have hlp := h.lp
  obtain ⟨hown, hvb, hpush⟩ := TxtO.push_ h3 (lo := w.heap.size + 3) (fun x hx => by have := (hS3 x hx).1.1; omega) nm hnm
  refine ⟨_, hown, fun x e => (hS3 x (hvb x e)).2, fun A1 c1 w3 ho hgr hbk hb => ?_⟩
  have hlt := fun x e => (ho.lt x e).2
  have hnew : ∀ x, (Value.slice A1 (d.names.length + 1) c1).ownBlock = some x → S3 x ∨ (W.heap.size < x ∧ x < w3.heap.size) := fun x e => by
    rcases hbk with h8 | h8
    · exact .inl (hvb x (h8 ▸ e))
    · have h9 := h8.symm.trans e
      injection h9 with h9
      exact .inr ⟨by omega, hlt x e⟩
  have hs3 := hgr.size
  have hbx := (hgr.block b h.bx.lt (fun e => (hS3 b (hvb b e.symm)).2 rfl)).trans h.bx
  have hlen : (d.names ++ [nm]).length = d.names.length + 1 := by simp
  have hfin := hcl w3 (fun x => Rng (w.heap.size + 3) w3.heap.size x ∧ x ≠ b) _ A1 c1 (d.names ++ [nm]) (Keeps.grown hgr fun x hx e => hx.2 (hvb x e.symm)) (by rw [hlen]; exact hpush _ w3 ho) (fun x hx => ?_) (fun x hx _ => ⟨⟨by have := hx.1.1; omega, by have := hx.1.2; omega⟩, hx.2⟩)
  · rw [hlen] at hfin
    exact AX.put (h.ab.above hb) hbx (Nat.le_refl _) h.lo 3 (.slice A1 (d.names.length + 1) c1) hfin
  · rcases hx with hx | hx
    · exact ⟨⟨⟨by have := (hS3 x hx).1.1; omega, by have := (hS3 x hx).1.2; omega⟩, (hS3 x hx).2⟩, .inl hx⟩
    · rcases hnew x hx with h8 | h8
      · exact ⟨⟨⟨by have := (hS3 x h8).1.1; omega, by have := (hS3 x h8).1.2; omega⟩, (hS3 x h8).2⟩, .inl h8⟩
      · exact ⟨⟨⟨by have := h.lo; omega, h8.2⟩, by omega⟩, .inr fun hS => by have := hS.1.2; omega⟩
end
theorem names_ed {w : World} {vcs ucs : List Value} {b p q : Nat} {d : VecD} {W : World} {k co ev : Int} {v1 v2 v4 v5 : Value} {A : Option Addr} {n c : Nat} (h : AX w vcs ucs b [.int .i64 k, v1, v2, .slice A n c, v4, v5, .int .i64 co, .int .i64 ev] p q d W)
    {T : Nat → Prop} {A' : Option Addr} {c' m : Nat} {l : List (List UInt8)} (ht : TxtO T W (.slice A' m c') l) (hm : m = l.length) (hT : ∀ x, T x → w.heap.size + 3 ≤ x ∧ x < W.heap.size ∧ x ≠ b ∧ ¬ (p ≤ x ∧ x < q)) :
    AX w vcs ucs b [.int .i64 k, v1, v2, .slice A' m c', v4, v5, .int .i64 co, .int .i64 ev] (w.heap.size + 3) W.heap.size (setN d l) (W.setCell ⟨b, 3, none⟩ (.slice A' m c')) := by
  subst hm
  obtain ⟨S3, h3, rfl, hS3, hcl⟩ := h.st.ed3
  have hq := h.qs
  have hp := h.lp
  have hv := hcl W (fun x => Rng (w.heap.size + 3) W.heap.size x ∧ x ≠ b) T A' c' l (Keeps.refl _ _) ht (fun x hx => ⟨⟨⟨(hT x hx).1, (hT x hx).2.1⟩, (hT x hx).2.2.1⟩, .inr fun hs => (hT x hx).2.2.2 ⟨hs.1.1, hs.1.2⟩⟩) (fun x hx _ => ⟨⟨by have := hx.1.1; omega, by have := hx.1.2; omega⟩, hx.2⟩)
  exact AX.put h.ab h.bx (Nat.le_refl _) h.lo 3 _ hv
theorem vecR_open1 {w : World} {a0 A2 A3 A4 A5 a6 a7 : Value} {A1 : Option Addr} {n c : Nat} {d : VecD} (h : VecR w [a0, .slice A1 n c, A2, A3, A4, A5, a6, a7] d) : Items w (.slice A1 n c) d.items := by
  obtain ⟨n', B1, b1, B2, b2, B3, b3, B4, b4, B5, b5, e, _, _, _, _, _, _, _, _, HV⟩ := h.open_
  simp only [List.cons.injEq, and_true] at e
  obtain ⟨_, he, _⟩ := e
  rw [he]
  exact HV.out.1
theorem pad_small {n : Nat} {its : List ItemD} (h : ∀ x ∈ its, x.text.length ≤ 60) : ∀ s ∈ padN n its, s.length ≤ 60 := by
  intro s hs
  obtain ⟨i, hi, rfl⟩ := List.getElem_of_mem hs
  rw [pad_at]
  cases hx : its[i]? with
  | none => simp
  | some y => exact h y (List.mem_of_getElem? hx)
/-- the row of names is laid into the copy -/
theorem names_close {w : World} {vcs ucs : List Value} {b z p n : Nat} {L : List (List UInt8)} {w6 W : World} {k co ev : Int} {v1 v2 v4 v5 : Value} {A : Option Addr} {m c : Nat} {d : VecD} {cs : List Value}
    (h : VecO (fun x => Rng p z x ∧ x ≠ b) w6 [.int .i64 k, v1, v2, .slice A m c, v4, v5, .int .i64 co, .int .i64 ev] d) (hN : NX w vcs ucs b cs z L p z w6 W) (hL : L.length = n) (hn : n ≤ 40) (hs : ∀ s ∈ L, s.length ≤ 60) :
    VecO (fun x => Rng p W.heap.size x ∧ x ≠ b) W [.int .i64 k, v1, v2, .slice (some ⟨z, 0, none⟩) n n, v4, v5, .int .i64 co, .int .i64 ev] (setN d L) := by
  subst hL
  obtain ⟨S3, h3, rfl, hS3, hcl⟩ := h.ed3
  have hz := hN.zb.lt
  have hrq := hN.rq
  have hlo := hN.lo
  have hlp := hN.lp
  have hpz : p ≤ z := hN.pz
  have t := txtO_take L L.length rfl hN.zb L.length (Nat.le_refl _) (by omega) (fun s hx => by have := hs s hx; omega)
  rw [List.take_length] at t
  exact hcl W (fun x => Rng p W.heap.size x ∧ x ≠ b) (fun x => x = z) (some ⟨z, 0, none⟩) L.length L (hN.kp.mono fun x hx => hx.1) t (fun x hx => by subst hx; exact ⟨⟨⟨hpz, hz⟩, by omega⟩, .inr fun hs => by have := hs.1.2; omega⟩) (fun x hx _ => ⟨⟨hx.1.1, by have := hx.1.2; omega⟩, hx.2⟩)
theorem asgN_bad {v u : VecD} (hv : vecOk v = true) (hu : vecOk u = true) (h : elsOk v = false) : asgN v u = (nulV, msgEls) := by
  unfold asgN; rw [if_pos ⟨hv, hu⟩, if_neg (by rw [h]; decide)]
theorem asgN_nms {v u : VecD} (hv : vecOk v = true) (hu : vecOk u = true) (he : elsOk v = true) (h : nmsOk v u = false) : asgN v u = (nulV, msgNms) := by
  unfold asgN; rw [if_pos ⟨hv, hu⟩, if_pos he, if_neg (by rw [h]; decide)]
theorem asgN_yes {v u : VecD} (hv : vecOk v = true) (hu : vecOk u = true) (he : elsOk v = true) (h : nmsOk v u = true) : asgN v u = (setN v (tidyN (padN (lenV v) u.items)), []) := by
  unfold asgN; rw [if_pos ⟨hv, hu⟩, if_pos he, if_pos h]

set_option maxHeartbeats 8000000 in
theorem impl_AssignNames (v u : VecD) (vs us : List Value) (w : World) (h : VecR w vs v) (k : VecR w us u) (hz : szVector v ≤ 400000000000) (kz : szVector u ≤ 400000000000) :
    Calls Try.prog 8 #[.agg vs.toArray, .agg us.toArray] w (RetVM (asgN v u) w) := by
  have HI := Lib.hid h
  have KI := Lib.hid k
  obtain ⟨A1, a1, A2, a2, A3, a3, A4, a4, A5, a5, rfl⟩ := vecR_shape h
  obtain ⟨B1, b1, B2, b2, B3, b3, B4, b4, B5, b5, rfl⟩ := vecR_shape k
  clear h k
  go_enter Try.func8, Try.ntmps8
  go_upto_region 1 with fail
  refine gen_w (G := AB w [.int .i64 v.kind, .slice A1 v.items.length a1, .slice A2 v.parts.length a2, .slice A3 v.names.length a3, .slice A4 v.cls.length a4, .slice A5 v.levels.length a5, .int .i64 v.code, .int .i64 v.env] [.int .i64 u.kind, .slice B1 u.items.length b1, .slice B2 u.parts.length b2, .slice B3 u.names.length b3, .slice B4 u.cls.length b4, .slice B5 u.levels.length b5, .int .i64 u.code, .int .i64 u.env]) (show Ok _ _ from AB.start w _ _) ?_
  intro w0 h0
  have HB := Lib.hid (show AB w [.int .i64 v.kind, .slice A1 v.items.length a1, .slice A2 v.parts.length a2, .slice A3 v.names.length a3, .slice A4 v.cls.length a4, .slice A5 v.levels.length a5, .int .i64 v.code, .int .i64 v.env] [.int .i64 u.kind, .slice B1 u.items.length b1, .slice B2 u.parts.length b2, .slice B3 u.names.length b3, .slice B4 u.cls.length b4, .slice B5 u.levels.length b5, .int .i64 u.code, .int .i64 u.env] w0 from h0)
  clear h0
  have x0 := HB.out.bv.cell 0 _ rfl
  have x1 := HB.out.bv.cell 1 _ rfl
  have x2 := HB.out.bv.cell 2 _ rfl
  have x3 := HB.out.bv.cell 3 _ rfl
  have x4 := HB.out.bv.cell 4 _ rfl
  have x5 := HB.out.bv.cell 5 _ rfl
  have x6 := HB.out.bv.cell 6 _ rfl
  have x7 := HB.out.bv.cell 7 _ rfl
  go_wp2_with fail
  refine Calls.mono (impl_IsVector v _ _ (by exact HI.out.below HB.out.bl) (by omega)) ?_
  rintro e w1 ⟨rfl, hb⟩
  have HB1 := Lib.hid (HB.out.step hb)
  clear hb HB x0 x1 x2 x3 x4 x5 x6 x7
  cases hv : vecOk v
  · have HV := Lib.hid (show asgN v u = (nulV, msgVec) by unfold asgN; rw [if_neg (fun h => by rw [h.1] at hv; cases hv)])
    have r0 := HB1.out.br.cell 0 _ rfl
    have r1 := HB1.out.br.cell 1 _ rfl
    have r2 := HB1.out.br.cell 2 _ rfl
    have r3 := HB1.out.br.cell 3 _ rfl
    have r4 := HB1.out.br.cell 4 _ rfl
    have r5 := HB1.out.br.cell 5 _ rfl
    have r6 := HB1.out.br.cell 6 _ rfl
    have r7 := HB1.out.br.cell 7 _ rfl
    have z0 := HB1.out.br.frozen 0
    have z1 := HB1.out.br.frozen 1
    have z2 := HB1.out.br.frozen 2
    have z3 := HB1.out.br.frozen 3
    have z4 := HB1.out.br.frozen 4
    have z5 := HB1.out.br.frozen 5
    have z6 := HB1.out.br.frozen 6
    have z7 := HB1.out.br.frozen 7
    go_wp2_with fail
    rw [HV.out]
    exact bodyPost_ret (v := .tuple #[.agg #[.int .i64 0, .slice none 0 0, .slice none 0 0, .slice none 0 0, .slice none 0 0, .slice none 0 0, .int .i64 0, .int .i64 0], .string (str msgVec)]) (by simp [results, Try.results8, go_sem, r0, r1, r2, r3, r4, r5, r6, r7, msgVec, str]; try rfl) rfl (HB1.out.zero msgVec (below_sc (b := w.heap.size + 2) (o := 7) (below_sc (b := w.heap.size + 2) (o := 6) (below_sc (b := w.heap.size + 2) (o := 5) (below_sc (b := w.heap.size + 2) (o := 4) (below_sc (b := w.heap.size + 2) (o := 3) (below_sc (b := w.heap.size + 2) (o := 2) (below_sc (b := w.heap.size + 2) (o := 1) (below_sc (b := w.heap.size + 2) (o := 0) (Below.refl (w.heap.size + 2) w1) (Nat.le_refl _) (.int .i64 0)) (Nat.le_refl _) (.slice none 0 0)) (Nat.le_refl _) (.slice none 0 0)) (Nat.le_refl _) (.slice none 0 0)) (Nat.le_refl _) (.slice none 0 0)) (Nat.le_refl _) (.slice none 0 0)) (Nat.le_refl _) (.int .i64 0)) (Nat.le_refl _) (.int .i64 0)))
  have HVO := Lib.hid hv
  clear hv
  have y0 := HB1.out.bu.cell 0 _ rfl
  have y1 := HB1.out.bu.cell 1 _ rfl
  have y2 := HB1.out.bu.cell 2 _ rfl
  have y3 := HB1.out.bu.cell 3 _ rfl
  have y4 := HB1.out.bu.cell 4 _ rfl
  have y5 := HB1.out.bu.cell 5 _ rfl
  have y6 := HB1.out.bu.cell 6 _ rfl
  have y7 := HB1.out.bu.cell 7 _ rfl
  go_wp2_with fail
  refine Calls.mono (impl_IsVector u _ _ (by exact KI.out.below HB1.out.bl) (by omega)) ?_
  rintro e w2 ⟨rfl, hb⟩
  have HB2 := Lib.hid (HB1.out.step hb)
  clear hb HB1 y0 y1 y2 y3 y4 y5 y6 y7
  cases hu : vecOk u
  · have HV := Lib.hid (show asgN v u = (nulV, msgVec) by unfold asgN; rw [if_neg (fun h => by rw [h.2] at hu; cases hu)])
    have r0 := HB2.out.br.cell 0 _ rfl
    have r1 := HB2.out.br.cell 1 _ rfl
    have r2 := HB2.out.br.cell 2 _ rfl
    have r3 := HB2.out.br.cell 3 _ rfl
    have r4 := HB2.out.br.cell 4 _ rfl
    have r5 := HB2.out.br.cell 5 _ rfl
    have r6 := HB2.out.br.cell 6 _ rfl
    have r7 := HB2.out.br.cell 7 _ rfl
    have z0 := HB2.out.br.frozen 0
    have z1 := HB2.out.br.frozen 1
    have z2 := HB2.out.br.frozen 2
    have z3 := HB2.out.br.frozen 3
    have z4 := HB2.out.br.frozen 4
    have z5 := HB2.out.br.frozen 5
    have z6 := HB2.out.br.frozen 6
    have z7 := HB2.out.br.frozen 7
    go_wp2_with fail
    rw [HV.out]
    exact bodyPost_ret (v := .tuple #[.agg #[.int .i64 0, .slice none 0 0, .slice none 0 0, .slice none 0 0, .slice none 0 0, .slice none 0 0, .int .i64 0, .int .i64 0], .string (str msgVec)]) (by simp [results, Try.results8, go_sem, r0, r1, r2, r3, r4, r5, r6, r7, msgVec, str]; try rfl) rfl (HB2.out.zero msgVec (below_sc (b := w.heap.size + 2) (o := 7) (below_sc (b := w.heap.size + 2) (o := 6) (below_sc (b := w.heap.size + 2) (o := 5) (below_sc (b := w.heap.size + 2) (o := 4) (below_sc (b := w.heap.size + 2) (o := 3) (below_sc (b := w.heap.size + 2) (o := 2) (below_sc (b := w.heap.size + 2) (o := 1) (below_sc (b := w.heap.size + 2) (o := 0) (Below.refl (w.heap.size + 2) w2) (Nat.le_refl _) (.int .i64 0)) (Nat.le_refl _) (.slice none 0 0)) (Nat.le_refl _) (.slice none 0 0)) (Nat.le_refl _) (.slice none 0 0)) (Nat.le_refl _) (.slice none 0 0)) (Nat.le_refl _) (.slice none 0 0)) (Nat.le_refl _) (.int .i64 0)) (Nat.le_refl _) (.int .i64 0)))
  have HUO := Lib.hid hu
  clear hu
  have x0 := HB2.out.bv.cell 0 _ rfl
  have x1 := HB2.out.bv.cell 1 _ rfl
  have x2 := HB2.out.bv.cell 2 _ rfl
  have x3 := HB2.out.bv.cell 3 _ rfl
  have x4 := HB2.out.bv.cell 4 _ rfl
  have x5 := HB2.out.bv.cell 5 _ rfl
  have x6 := HB2.out.bv.cell 6 _ rfl
  have x7 := HB2.out.bv.cell 7 _ rfl
  by_cases hk0 : v.kind = 0
  · have HV := Lib.hid (asgN_bad HVO.out HUO.out (by simp [elsOk, hk0]))
    have b0 : (v.kind == 0) = true := by simpa using hk0
    have r0 := HB2.out.br.cell 0 _ rfl
    have r1 := HB2.out.br.cell 1 _ rfl
    have r2 := HB2.out.br.cell 2 _ rfl
    have r3 := HB2.out.br.cell 3 _ rfl
    have r4 := HB2.out.br.cell 4 _ rfl
    have r5 := HB2.out.br.cell 5 _ rfl
    have r6 := HB2.out.br.cell 6 _ rfl
    have r7 := HB2.out.br.cell 7 _ rfl
    have z0 := HB2.out.br.frozen 0
    have z1 := HB2.out.br.frozen 1
    have z2 := HB2.out.br.frozen 2
    have z3 := HB2.out.br.frozen 3
    have z4 := HB2.out.br.frozen 4
    have z5 := HB2.out.br.frozen 5
    have z6 := HB2.out.br.frozen 6
    have z7 := HB2.out.br.frozen 7
    go_wp2_with fail
    rw [HV.out]
    exact bodyPost_ret (v := .tuple #[.agg #[.int .i64 0, .slice none 0 0, .slice none 0 0, .slice none 0 0, .slice none 0 0, .slice none 0 0, .int .i64 0, .int .i64 0], .string (str msgEls)]) (by simp [results, Try.results8, go_sem, r0, r1, r2, r3, r4, r5, r6, r7, msgEls, str]; try rfl) rfl (HB2.out.zero msgEls (below_sc (b := w.heap.size + 2) (o := 7) (below_sc (b := w.heap.size + 2) (o := 6) (below_sc (b := w.heap.size + 2) (o := 5) (below_sc (b := w.heap.size + 2) (o := 4) (below_sc (b := w.heap.size + 2) (o := 3) (below_sc (b := w.heap.size + 2) (o := 2) (below_sc (b := w.heap.size + 2) (o := 1) (below_sc (b := w.heap.size + 2) (o := 0) (Below.refl (w.heap.size + 2) w2) (Nat.le_refl _) (.int .i64 0)) (Nat.le_refl _) (.slice none 0 0)) (Nat.le_refl _) (.slice none 0 0)) (Nat.le_refl _) (.slice none 0 0)) (Nat.le_refl _) (.slice none 0 0)) (Nat.le_refl _) (.slice none 0 0)) (Nat.le_refl _) (.int .i64 0)) (Nat.le_refl _) (.int .i64 0)))
  by_cases hk5 : v.kind = 5
  · have HV := Lib.hid (asgN_bad HVO.out HUO.out (by simp [elsOk, hk5]))
    have b0 : (v.kind == 0) = false := by simpa using hk0
    have b5 : (v.kind == 5) = true := by simpa using hk5
    have r0 := HB2.out.br.cell 0 _ rfl
    have r1 := HB2.out.br.cell 1 _ rfl
    have r2 := HB2.out.br.cell 2 _ rfl
    have r3 := HB2.out.br.cell 3 _ rfl
    have r4 := HB2.out.br.cell 4 _ rfl
    have r5 := HB2.out.br.cell 5 _ rfl
    have r6 := HB2.out.br.cell 6 _ rfl
    have r7 := HB2.out.br.cell 7 _ rfl
    have z0 := HB2.out.br.frozen 0
    have z1 := HB2.out.br.frozen 1
    have z2 := HB2.out.br.frozen 2
    have z3 := HB2.out.br.frozen 3
    have z4 := HB2.out.br.frozen 4
    have z5 := HB2.out.br.frozen 5
    have z6 := HB2.out.br.frozen 6
    have z7 := HB2.out.br.frozen 7
    go_wp2_with fail
    rw [HV.out]
    exact bodyPost_ret (v := .tuple #[.agg #[.int .i64 0, .slice none 0 0, .slice none 0 0, .slice none 0 0, .slice none 0 0, .slice none 0 0, .int .i64 0, .int .i64 0], .string (str msgEls)]) (by simp [results, Try.results8, go_sem, r0, r1, r2, r3, r4, r5, r6, r7, msgEls, str]; try rfl) rfl (HB2.out.zero msgEls (below_sc (b := w.heap.size + 2) (o := 7) (below_sc (b := w.heap.size + 2) (o := 6) (below_sc (b := w.heap.size + 2) (o := 5) (below_sc (b := w.heap.size + 2) (o := 4) (below_sc (b := w.heap.size + 2) (o := 3) (below_sc (b := w.heap.size + 2) (o := 2) (below_sc (b := w.heap.size + 2) (o := 1) (below_sc (b := w.heap.size + 2) (o := 0) (Below.refl (w.heap.size + 2) w2) (Nat.le_refl _) (.int .i64 0)) (Nat.le_refl _) (.slice none 0 0)) (Nat.le_refl _) (.slice none 0 0)) (Nat.le_refl _) (.slice none 0 0)) (Nat.le_refl _) (.slice none 0 0)) (Nat.le_refl _) (.slice none 0 0)) (Nat.le_refl _) (.int .i64 0)) (Nat.le_refl _) (.int .i64 0)))
  have HEL := Lib.hid (show elsOk v = true by simp [elsOk, hk0, hk5])
  have b0 : (v.kind == 0) = false := by simpa using hk0
  have b5 : (v.kind == 5) = false := by simpa using hk5
  go_upto_region 5 with fail
  clear x0 x1 x2 x3 x4 x5 x6 x7 hk0 hk5 b0 b5
  have HLV := Lib.hid (vecOk_len HVO.out)
  go_cut [41] from 27 to 42 (fun s wx => s = .bool (!nmsOk v u) ∧ Hid (AB w [.int .i64 v.kind, .slice A1 v.items.length a1, .slice A2 v.parts.length a2, .slice A3 v.names.length a3, .slice A4 v.cls.length a4, .slice A5 v.levels.length a5, .int .i64 v.code, .int .i64 v.env] [.int .i64 u.kind, .slice B1 u.items.length b1, .slice B2 u.parts.length b2, .slice B3 u.names.length b3, .slice B4 u.cls.length b4, .slice B5 u.levels.length b5, .int .i64 u.code, .int .i64 u.env] wx))
  case first =>
    have g1 : Ok (AB w [.int .i64 v.kind, .slice A1 v.items.length a1, .slice A2 v.parts.length a2, .slice A3 v.names.length a3, .slice A4 v.cls.length a4, .slice A5 v.levels.length a5, .int .i64 v.code, .int .i64 v.env] [.int .i64 u.kind, .slice B1 u.items.length b1, .slice B2 u.parts.length b2, .slice B3 u.names.length b3, .slice B4 u.cls.length b4, .slice B5 u.levels.length b5, .int .i64 u.code, .int .i64 u.env]) w2 := HB2.out
    have y0 := fun W (h : Ok (AB w [.int .i64 v.kind, .slice A1 v.items.length a1, .slice A2 v.parts.length a2, .slice A3 v.names.length a3, .slice A4 v.cls.length a4, .slice A5 v.levels.length a5, .int .i64 v.code, .int .i64 v.env] [.int .i64 u.kind, .slice B1 u.items.length b1, .slice B2 u.parts.length b2, .slice B3 u.names.length b3, .slice B4 u.cls.length b4, .slice B5 u.levels.length b5, .int .i64 u.code, .int .i64 u.env]) W) => (AB.bu h).cell 0 _ rfl
    have y1 := fun W (h : Ok (AB w [.int .i64 v.kind, .slice A1 v.items.length a1, .slice A2 v.parts.length a2, .slice A3 v.names.length a3, .slice A4 v.cls.length a4, .slice A5 v.levels.length a5, .int .i64 v.code, .int .i64 v.env] [.int .i64 u.kind, .slice B1 u.items.length b1, .slice B2 u.parts.length b2, .slice B3 u.names.length b3, .slice B4 u.cls.length b4, .slice B5 u.levels.length b5, .int .i64 u.code, .int .i64 u.env]) W) => (AB.bu h).cell 1 _ rfl
    have y2 := fun W (h : Ok (AB w [.int .i64 v.kind, .slice A1 v.items.length a1, .slice A2 v.parts.length a2, .slice A3 v.names.length a3, .slice A4 v.cls.length a4, .slice A5 v.levels.length a5, .int .i64 v.code, .int .i64 v.env] [.int .i64 u.kind, .slice B1 u.items.length b1, .slice B2 u.parts.length b2, .slice B3 u.names.length b3, .slice B4 u.cls.length b4, .slice B5 u.levels.length b5, .int .i64 u.code, .int .i64 u.env]) W) => (AB.bu h).cell 2 _ rfl
    have y3 := fun W (h : Ok (AB w [.int .i64 v.kind, .slice A1 v.items.length a1, .slice A2 v.parts.length a2, .slice A3 v.names.length a3, .slice A4 v.cls.length a4, .slice A5 v.levels.length a5, .int .i64 v.code, .int .i64 v.env] [.int .i64 u.kind, .slice B1 u.items.length b1, .slice B2 u.parts.length b2, .slice B3 u.names.length b3, .slice B4 u.cls.length b4, .slice B5 u.levels.length b5, .int .i64 u.code, .int .i64 u.env]) W) => (AB.bu h).cell 3 _ rfl
    have y4 := fun W (h : Ok (AB w [.int .i64 v.kind, .slice A1 v.items.length a1, .slice A2 v.parts.length a2, .slice A3 v.names.length a3, .slice A4 v.cls.length a4, .slice A5 v.levels.length a5, .int .i64 v.code, .int .i64 v.env] [.int .i64 u.kind, .slice B1 u.items.length b1, .slice B2 u.parts.length b2, .slice B3 u.names.length b3, .slice B4 u.cls.length b4, .slice B5 u.levels.length b5, .int .i64 u.code, .int .i64 u.env]) W) => (AB.bu h).cell 4 _ rfl
    have y5 := fun W (h : Ok (AB w [.int .i64 v.kind, .slice A1 v.items.length a1, .slice A2 v.parts.length a2, .slice A3 v.names.length a3, .slice A4 v.cls.length a4, .slice A5 v.levels.length a5, .int .i64 v.code, .int .i64 v.env] [.int .i64 u.kind, .slice B1 u.items.length b1, .slice B2 u.parts.length b2, .slice B3 u.names.length b3, .slice B4 u.cls.length b4, .slice B5 u.levels.length b5, .int .i64 u.code, .int .i64 u.env]) W) => (AB.bu h).cell 5 _ rfl
    have y6 := fun W (h : Ok (AB w [.int .i64 v.kind, .slice A1 v.items.length a1, .slice A2 v.parts.length a2, .slice A3 v.names.length a3, .slice A4 v.cls.length a4, .slice A5 v.levels.length a5, .int .i64 v.code, .int .i64 v.env] [.int .i64 u.kind, .slice B1 u.items.length b1, .slice B2 u.parts.length b2, .slice B3 u.names.length b3, .slice B4 u.cls.length b4, .slice B5 u.levels.length b5, .int .i64 u.code, .int .i64 u.env]) W) => (AB.bu h).cell 6 _ rfl
    have y7 := fun W (h : Ok (AB w [.int .i64 v.kind, .slice A1 v.items.length a1, .slice A2 v.parts.length a2, .slice A3 v.names.length a3, .slice A4 v.cls.length a4, .slice A5 v.levels.length a5, .int .i64 v.code, .int .i64 v.env] [.int .i64 u.kind, .slice B1 u.items.length b1, .slice B2 u.parts.length b2, .slice B3 u.names.length b3, .slice B4 u.cls.length b4, .slice B5 u.levels.length b5, .int .i64 u.code, .int .i64 u.env]) W) => (AB.bu h).cell 7 _ rfl
    have x0 := fun W (h : Ok (AB w [.int .i64 v.kind, .slice A1 v.items.length a1, .slice A2 v.parts.length a2, .slice A3 v.names.length a3, .slice A4 v.cls.length a4, .slice A5 v.levels.length a5, .int .i64 v.code, .int .i64 v.env] [.int .i64 u.kind, .slice B1 u.items.length b1, .slice B2 u.parts.length b2, .slice B3 u.names.length b3, .slice B4 u.cls.length b4, .slice B5 u.levels.length b5, .int .i64 u.code, .int .i64 u.env]) W) => (AB.bv h).cell 0 _ rfl
    have x1 := fun W (h : Ok (AB w [.int .i64 v.kind, .slice A1 v.items.length a1, .slice A2 v.parts.length a2, .slice A3 v.names.length a3, .slice A4 v.cls.length a4, .slice A5 v.levels.length a5, .int .i64 v.code, .int .i64 v.env] [.int .i64 u.kind, .slice B1 u.items.length b1, .slice B2 u.parts.length b2, .slice B3 u.names.length b3, .slice B4 u.cls.length b4, .slice B5 u.levels.length b5, .int .i64 u.code, .int .i64 u.env]) W) => (AB.bv h).cell 1 _ rfl
    have x2 := fun W (h : Ok (AB w [.int .i64 v.kind, .slice A1 v.items.length a1, .slice A2 v.parts.length a2, .slice A3 v.names.length a3, .slice A4 v.cls.length a4, .slice A5 v.levels.length a5, .int .i64 v.code, .int .i64 v.env] [.int .i64 u.kind, .slice B1 u.items.length b1, .slice B2 u.parts.length b2, .slice B3 u.names.length b3, .slice B4 u.cls.length b4, .slice B5 u.levels.length b5, .int .i64 u.code, .int .i64 u.env]) W) => (AB.bv h).cell 2 _ rfl
    have x3 := fun W (h : Ok (AB w [.int .i64 v.kind, .slice A1 v.items.length a1, .slice A2 v.parts.length a2, .slice A3 v.names.length a3, .slice A4 v.cls.length a4, .slice A5 v.levels.length a5, .int .i64 v.code, .int .i64 v.env] [.int .i64 u.kind, .slice B1 u.items.length b1, .slice B2 u.parts.length b2, .slice B3 u.names.length b3, .slice B4 u.cls.length b4, .slice B5 u.levels.length b5, .int .i64 u.code, .int .i64 u.env]) W) => (AB.bv h).cell 3 _ rfl
    have x4 := fun W (h : Ok (AB w [.int .i64 v.kind, .slice A1 v.items.length a1, .slice A2 v.parts.length a2, .slice A3 v.names.length a3, .slice A4 v.cls.length a4, .slice A5 v.levels.length a5, .int .i64 v.code, .int .i64 v.env] [.int .i64 u.kind, .slice B1 u.items.length b1, .slice B2 u.parts.length b2, .slice B3 u.names.length b3, .slice B4 u.cls.length b4, .slice B5 u.levels.length b5, .int .i64 u.code, .int .i64 u.env]) W) => (AB.bv h).cell 4 _ rfl
    have x5 := fun W (h : Ok (AB w [.int .i64 v.kind, .slice A1 v.items.length a1, .slice A2 v.parts.length a2, .slice A3 v.names.length a3, .slice A4 v.cls.length a4, .slice A5 v.levels.length a5, .int .i64 v.code, .int .i64 v.env] [.int .i64 u.kind, .slice B1 u.items.length b1, .slice B2 u.parts.length b2, .slice B3 u.names.length b3, .slice B4 u.cls.length b4, .slice B5 u.levels.length b5, .int .i64 u.code, .int .i64 u.env]) W) => (AB.bv h).cell 5 _ rfl
    have x6 := fun W (h : Ok (AB w [.int .i64 v.kind, .slice A1 v.items.length a1, .slice A2 v.parts.length a2, .slice A3 v.names.length a3, .slice A4 v.cls.length a4, .slice A5 v.levels.length a5, .int .i64 v.code, .int .i64 v.env] [.int .i64 u.kind, .slice B1 u.items.length b1, .slice B2 u.parts.length b2, .slice B3 u.names.length b3, .slice B4 u.cls.length b4, .slice B5 u.levels.length b5, .int .i64 u.code, .int .i64 u.env]) W) => (AB.bv h).cell 6 _ rfl
    have x7 := fun W (h : Ok (AB w [.int .i64 v.kind, .slice A1 v.items.length a1, .slice A2 v.parts.length a2, .slice A3 v.names.length a3, .slice A4 v.cls.length a4, .slice A5 v.levels.length a5, .int .i64 v.code, .int .i64 v.env] [.int .i64 u.kind, .slice B1 u.items.length b1, .slice B2 u.parts.length b2, .slice B3 u.names.length b3, .slice B4 u.cls.length b4, .slice B5 u.levels.length b5, .int .i64 u.code, .int .i64 u.env]) W) => (AB.bv h).cell 7 _ rfl
    by_cases k0 : u.kind = 0
    · have c0 : (u.kind != 0) = false := by simpa using k0
      have HLU := Lib.hid (lenV_items HUO.out (by omega))
      have HKE := Lib.hid k0
      clear k0
      go_wp2_with fail
      refine wp_region_plan (S := Ok (AB w [.int .i64 v.kind, .slice A1 v.items.length a1, .slice A2 v.parts.length a2, .slice A3 v.names.length a3, .slice A4 v.cls.length a4, .slice A5 v.levels.length a5, .int .i64 v.code, .int .i64 v.env] [.int .i64 u.kind, .slice B1 u.items.length b1, .slice B2 u.parts.length b2, .slice B3 u.names.length b3, .slice B4 u.cls.length b4, .slice B5 u.levels.length b5, .int .i64 u.code, .int .i64 u.env])) (by kernel_rfl) [(true, 0), (true, 1), (true, 2), (true, 3), (true, 4), (true, 5), (true, 6), (true, 7), (true, 8), (true, 9), (true, 11), (false, 10), (false, 12), (true, 13), (true, 14)] (by kernel_rfl) (AB.step g1 (Below.drew (Below.refl _ _))) ?_
      replace g1 : Ok (AB w [.int .i64 v.kind, .slice A1 v.items.length a1, .slice A2 v.parts.length a2, .slice A3 v.names.length a3, .slice A4 v.cls.length a4, .slice A5 v.levels.length a5, .int .i64 v.code, .int .i64 v.env] [.int .i64 u.kind, .slice B1 u.items.length b1, .slice B2 u.parts.length b2, .slice B3 u.names.length b3, .slice B4 u.cls.length b4, .slice B5 u.levels.length b5, .int .i64 u.code, .int .i64 u.env]) w2.drew := AB.step g1 (Below.drew (Below.refl _ _))
      repeat ((first | (refine dyn_take rfl rfl (fun W g => by go_simp; rfl) ?_) | (refine dyn_skip rfl rfl ?_)); go_simp)
      refine dyn_act rfl rfl (fun K hK => ?_)
      go_wp2_with fail
      refine Calls.mono (impl_length u _ _ (by exact KI.out.below (AB.bl g1)) (by have := sz_len u; omega)) ?_
      rintro e w' ⟨rfl, hb⟩
      replace g1 := AB.step g1 hb
      clear hb
      simp only []
      refine hK.out _ _ g1 ?_
      clear hK
      repeat ((first | (refine dyn_take rfl rfl (fun W g => by go_simp; rfl) ?_) | (refine dyn_skip rfl rfl ?_)); go_simp)
      refine dyn_act rfl rfl (fun K hK => ?_)
      go_wp2_with fail
      refine Calls.mono (impl_length v _ _ (by exact HI.out.below (AB.bl g1)) (by have := sz_len v; omega)) ?_
      rintro e w' ⟨rfl, hb⟩
      replace g1 := AB.step g1 hb
      clear hb
      simp only []
      refine hK.out _ _ g1 ?_
      clear hK
      repeat ((first | (refine dyn_take rfl rfl (fun W g => by go_simp; rfl) ?_) | (refine dyn_skip rfl rfl ?_)); go_simp)
      refine dyn_done ?_
      go_wp2_with fail
      go_meet
      case rel => exact ⟨by rw [show nmsOk v u = decide (u.items.length ≤ lenV v) by simp [nmsOk, HKE.out]]; congr 1; rw [HLU.out]; by_cases hc : u.items.length ≤ lenV v <;> simp [hc] <;> omega, g1⟩
    by_cases k3 : u.kind = 3
    · have c0 : (u.kind != 0) = true := by simpa using k0
      have c3 : (u.kind != 3) = false := by simpa using k3
      have HLU := Lib.hid (lenV_items HUO.out (by omega))
      have HKE := Lib.hid k3
      clear k3
      go_wp2_with fail
      refine wp_region_plan (S := Ok (AB w [.int .i64 v.kind, .slice A1 v.items.length a1, .slice A2 v.parts.length a2, .slice A3 v.names.length a3, .slice A4 v.cls.length a4, .slice A5 v.levels.length a5, .int .i64 v.code, .int .i64 v.env] [.int .i64 u.kind, .slice B1 u.items.length b1, .slice B2 u.parts.length b2, .slice B3 u.names.length b3, .slice B4 u.cls.length b4, .slice B5 u.levels.length b5, .int .i64 u.code, .int .i64 u.env])) (by kernel_rfl) [(true, 0), (true, 1), (true, 2), (true, 3), (true, 4), (true, 5), (true, 6), (true, 7), (true, 8), (true, 9), (true, 11), (false, 10), (false, 12), (true, 13), (true, 14)] (by kernel_rfl) (AB.step g1 (Below.drew (Below.refl _ _))) ?_
      replace g1 : Ok (AB w [.int .i64 v.kind, .slice A1 v.items.length a1, .slice A2 v.parts.length a2, .slice A3 v.names.length a3, .slice A4 v.cls.length a4, .slice A5 v.levels.length a5, .int .i64 v.code, .int .i64 v.env] [.int .i64 u.kind, .slice B1 u.items.length b1, .slice B2 u.parts.length b2, .slice B3 u.names.length b3, .slice B4 u.cls.length b4, .slice B5 u.levels.length b5, .int .i64 u.code, .int .i64 u.env]) w2.drew := AB.step g1 (Below.drew (Below.refl _ _))
      repeat ((first | (refine dyn_take rfl rfl (fun W g => by go_simp; rfl) ?_) | (refine dyn_skip rfl rfl ?_)); go_simp)
      refine dyn_act rfl rfl (fun K hK => ?_)
      go_wp2_with fail
      refine Calls.mono (impl_length u _ _ (by exact KI.out.below (AB.bl g1)) (by have := sz_len u; omega)) ?_
      rintro e w' ⟨rfl, hb⟩
      replace g1 := AB.step g1 hb
      clear hb
      simp only []
      refine hK.out _ _ g1 ?_
      clear hK
      repeat ((first | (refine dyn_take rfl rfl (fun W g => by go_simp; rfl) ?_) | (refine dyn_skip rfl rfl ?_)); go_simp)
      refine dyn_act rfl rfl (fun K hK => ?_)
      go_wp2_with fail
      refine Calls.mono (impl_length v _ _ (by exact HI.out.below (AB.bl g1)) (by have := sz_len v; omega)) ?_
      rintro e w' ⟨rfl, hb⟩
      replace g1 := AB.step g1 hb
      clear hb
      simp only []
      refine hK.out _ _ g1 ?_
      clear hK
      repeat ((first | (refine dyn_take rfl rfl (fun W g => by go_simp; rfl) ?_) | (refine dyn_skip rfl rfl ?_)); go_simp)
      refine dyn_done ?_
      go_wp2_with fail
      go_meet
      case rel => exact ⟨by rw [show nmsOk v u = decide (u.items.length ≤ lenV v) by simp [nmsOk, HKE.out]]; congr 1; rw [HLU.out]; by_cases hc : u.items.length ≤ lenV v <;> simp [hc] <;> omega, g1⟩
    · have c0 : (u.kind != 0) = true := by simpa using k0
      have c3 : (u.kind != 3) = true := by simpa using k3
      go_wp2_with fail
      refine wp_region_plan (S := Ok (AB w [.int .i64 v.kind, .slice A1 v.items.length a1, .slice A2 v.parts.length a2, .slice A3 v.names.length a3, .slice A4 v.cls.length a4, .slice A5 v.levels.length a5, .int .i64 v.code, .int .i64 v.env] [.int .i64 u.kind, .slice B1 u.items.length b1, .slice B2 u.parts.length b2, .slice B3 u.names.length b3, .slice B4 u.cls.length b4, .slice B5 u.levels.length b5, .int .i64 u.code, .int .i64 u.env])) (by kernel_rfl) [(true, 0), (true, 1), (true, 2), (true, 3), (true, 4), (true, 5), (true, 6), (true, 7), (true, 8), (true, 9), (true, 11), (false, 10), (false, 12), (true, 13), (true, 14)] (by kernel_rfl) (AB.step g1 (Below.drew (Below.refl _ _))) ?_
      replace g1 : Ok (AB w [.int .i64 v.kind, .slice A1 v.items.length a1, .slice A2 v.parts.length a2, .slice A3 v.names.length a3, .slice A4 v.cls.length a4, .slice A5 v.levels.length a5, .int .i64 v.code, .int .i64 v.env] [.int .i64 u.kind, .slice B1 u.items.length b1, .slice B2 u.parts.length b2, .slice B3 u.names.length b3, .slice B4 u.cls.length b4, .slice B5 u.levels.length b5, .int .i64 u.code, .int .i64 u.env]) w2.drew := AB.step g1 (Below.drew (Below.refl _ _))
      repeat ((first | (refine dyn_take rfl rfl (fun W g => by go_simp; rfl) ?_) | (refine dyn_skip rfl rfl ?_) | (refine dyn_pass rfl rfl g1 ?_)); go_simp)
      refine dyn_done ?_
      go_wp2_with fail
      go_meet
      case rel => exact ⟨by rw [show nmsOk v u = false by simp [nmsOk, k0, k3]]; rfl, g1⟩
  obtain ⟨rfl, HB3⟩ := hcut
  have hr3 := HB3.out.br.lt
  clear HB2
  cases hn : nmsOk v u
  · have HV := Lib.hid (asgN_nms HVO.out HUO.out HEL.out hn)
    clear hn
    have r0 := HB3.out.br.cell 0 _ rfl
    have r1 := HB3.out.br.cell 1 _ rfl
    have r2 := HB3.out.br.cell 2 _ rfl
    have r3 := HB3.out.br.cell 3 _ rfl
    have r4 := HB3.out.br.cell 4 _ rfl
    have r5 := HB3.out.br.cell 5 _ rfl
    have r6 := HB3.out.br.cell 6 _ rfl
    have r7 := HB3.out.br.cell 7 _ rfl
    have z0 := HB3.out.br.frozen 0
    have z1 := HB3.out.br.frozen 1
    have z2 := HB3.out.br.frozen 2
    have z3 := HB3.out.br.frozen 3
    have z4 := HB3.out.br.frozen 4
    have z5 := HB3.out.br.frozen 5
    have z6 := HB3.out.br.frozen 6
    have z7 := HB3.out.br.frozen 7
    go_wp2_with fail
    rw [HV.out]
    exact bodyPost_ret (v := .tuple #[.agg #[.int .i64 0, .slice none 0 0, .slice none 0 0, .slice none 0 0, .slice none 0 0, .slice none 0 0, .int .i64 0, .int .i64 0], .string (str msgNms)]) (by simp [results, Try.results8, go_sem, r0, r1, r2, r3, r4, r5, r6, r7, msgNms, str]; try rfl) rfl (HB3.out.zero msgNms (below_sc (b := w.heap.size + 2) (o := 7) (below_sc (b := w.heap.size + 2) (o := 6) (below_sc (b := w.heap.size + 2) (o := 5) (below_sc (b := w.heap.size + 2) (o := 4) (below_sc (b := w.heap.size + 2) (o := 3) (below_sc (b := w.heap.size + 2) (o := 2) (below_sc (b := w.heap.size + 2) (o := 1) (below_sc (b := w.heap.size + 2) (o := 0) (Below.refl (w.heap.size + 2) wc) (Nat.le_refl _) (.int .i64 0)) (Nat.le_refl _) (.slice none 0 0)) (Nat.le_refl _) (.slice none 0 0)) (Nat.le_refl _) (.slice none 0 0)) (Nat.le_refl _) (.slice none 0 0)) (Nat.le_refl _) (.slice none 0 0)) (Nat.le_refl _) (.int .i64 0)) (Nat.le_refl _) (.int .i64 0)))
  have HNM := Lib.hid hn
  have HV := Lib.hid (asgN_yes HVO.out HUO.out HEL.out hn)
  have hkn : (u.kind = 0 ∨ u.kind = 3) ∧ u.items.length ≤ lenV v := by
    simp only [nmsOk, Bool.and_eq_true, Bool.or_eq_true, beq_iff_eq, decide_eq_true_eq] at hn
    exact hn
  clear hn
  obtain ⟨w3, hw3⟩ : ∃ w3, w3 = wc := ⟨_, rfl⟩
  rw [← hw3] at HB3 hr3 ⊢
  clear hw3
  have x0 := HB3.out.bv.cell 0 _ rfl
  have x1 := HB3.out.bv.cell 1 _ rfl
  have x2 := HB3.out.bv.cell 2 _ rfl
  have x3 := HB3.out.bv.cell 3 _ rfl
  have x4 := HB3.out.bv.cell 4 _ rfl
  have x5 := HB3.out.bv.cell 5 _ rfl
  have x6 := HB3.out.bv.cell 6 _ rfl
  have x7 := HB3.out.bv.cell 7 _ rfl
  go_wp2_with fail
  refine Calls.mono (impl_copyVec v _ _ (by exact HI.out.below HB3.out.bl) (by omega)) ?_
  rintro e w4 ⟨xcs, rfl, hV, hb⟩
  obtain ⟨X1, e1, X2, e2, X3, e3, X4, e4, X5, e5, rfl⟩ := hV.shape
  have HB4 := Lib.hid (HB3.out.step hb)
  have HX := Lib.hid (AX.make HB4.out (by omega) hV)
  have hpb := hb.size
  clear hb HB3 HB4 hV x0 x1 x2 x3 x4 x5 x6 x7
  go_upto_region 8 with fail
  generalize hbx : w4.heap.size = bx at HX hpb ⊢
  generalize hp3 : w3.heap.size = p3 at HX hr3 hpb
  clear hbx hp3
  refine gen_w (G := AX w [.int .i64 v.kind, .slice A1 v.items.length a1, .slice A2 v.parts.length a2, .slice A3 v.names.length a3, .slice A4 v.cls.length a4, .slice A5 v.levels.length a5, .int .i64 v.code, .int .i64 v.env] [.int .i64 u.kind, .slice B1 u.items.length b1, .slice B2 u.parts.length b2, .slice B3 u.names.length b3, .slice B4 u.cls.length b4, .slice B5 u.levels.length b5, .int .i64 u.code, .int .i64 u.env] bx [.int .i64 v.kind, .slice X1 v.items.length e1, .slice X2 v.parts.length e2, .slice X3 v.names.length e3, .slice X4 v.cls.length e4, .slice X5 v.levels.length e5, .int .i64 v.code, .int .i64 v.env] p3 (bx + 1) v) HX.out ?_
  intro w5 h5
  have HX5 := Lib.hid (AX.rebase (show AX w [.int .i64 v.kind, .slice A1 v.items.length a1, .slice A2 v.parts.length a2, .slice A3 v.names.length a3, .slice A4 v.cls.length a4, .slice A5 v.levels.length a5, .int .i64 v.code, .int .i64 v.env] [.int .i64 u.kind, .slice B1 u.items.length b1, .slice B2 u.parts.length b2, .slice B3 u.names.length b3, .slice B4 u.cls.length b4, .slice B5 u.levels.length b5, .int .i64 u.code, .int .i64 u.env] bx [.int .i64 v.kind, .slice X1 v.items.length e1, .slice X2 v.parts.length e2, .slice X3 v.names.length e3, .slice X4 v.cls.length e4, .slice X5 v.levels.length e5, .int .i64 v.code, .int .i64 v.env] p3 (bx + 1) v w5 from h5))
  clear h5 HX
  have x0 := HX5.out.ab.bv.cell 0 _ rfl
  have x1 := HX5.out.ab.bv.cell 1 _ rfl
  have x2 := HX5.out.ab.bv.cell 2 _ rfl
  have x3 := HX5.out.ab.bv.cell 3 _ rfl
  have x4 := HX5.out.ab.bv.cell 4 _ rfl
  have x5 := HX5.out.ab.bv.cell 5 _ rfl
  have x6 := HX5.out.ab.bv.cell 6 _ rfl
  have x7 := HX5.out.ab.bv.cell 7 _ rfl
  go_wp2_with fail
  refine Calls.mono (impl_length v _ _ (by exact HI.out.below HX5.out.ab.bl) (by have := sz_len v; omega)) ?_
  rintro e w6 ⟨rfl, hb⟩
  have HX6 := Lib.hid ((HX5.out.step hb).rebase)
  clear hb HX5 x0 x1 x2 x3 x4 x5 x6 x7
  have hn40 := HLV.out
  generalize hnn : lenV v = n at hn40 hkn ⊢
  have HNN := Lib.hid hnn
  clear hnn
  have hmk := run_mk (P := Try.prog) w6 26 9 (.string ByteArray.empty) 1 16 Try.underlying26 info_str n (by omega) (by omega)
  rw [Nat.mul_one] at hmk
  have C3 := HX6.out.bx.cell 3 _ rfl
  have F3 := HX6.out.bx.frozen 3
  have hltb := HX6.out.bx.lt
  have HNX := Lib.hid (NX.start HX6.out n rfl hpb)
  have HST := Lib.hid HX6.out.st
  have hlo6 := HX6.out.lo
  have hrq6 := HX6.out.rq
  go_upto_region 9 with fail
  clear C3 F3 hmk HX6
  generalize hz : w6.heap.size = z at HNX HST hltb hrq6 ⊢
  have HZ := Lib.hid hz
  clear hz
  refine gen_w (G := NX w [.int .i64 v.kind, .slice A1 v.items.length a1, .slice A2 v.parts.length a2, .slice A3 v.names.length a3, .slice A4 v.cls.length a4, .slice A5 v.levels.length a5, .int .i64 v.code, .int .i64 v.env] [.int .i64 u.kind, .slice B1 u.items.length b1, .slice B2 u.parts.length b2, .slice B3 u.names.length b3, .slice B4 u.cls.length b4, .slice B5 u.levels.length b5, .int .i64 u.code, .int .i64 u.env] bx [.int .i64 v.kind, .slice X1 v.items.length e1, .slice X2 v.parts.length e2, .slice (some ⟨z, 0, none⟩) n n, .slice X4 v.cls.length e4, .slice X5 v.levels.length e5, .int .i64 v.code, .int .i64 v.env] z (List.replicate n []) p3 z w6) HNX.out ?_
  intro w7 h7
  have HN7 := Lib.hid (show NX w [.int .i64 v.kind, .slice A1 v.items.length a1, .slice A2 v.parts.length a2, .slice A3 v.names.length a3, .slice A4 v.cls.length a4, .slice A5 v.levels.length a5, .int .i64 v.code, .int .i64 v.env] [.int .i64 u.kind, .slice B1 u.items.length b1, .slice B2 u.parts.length b2, .slice B3 u.names.length b3, .slice B4 u.cls.length b4, .slice B5 u.levels.length b5, .int .i64 u.code, .int .i64 u.env] bx [.int .i64 v.kind, .slice X1 v.items.length e1, .slice X2 v.parts.length e2, .slice (some ⟨z, 0, none⟩) n n, .slice X4 v.cls.length e4, .slice X5 v.levels.length e5, .int .i64 v.code, .int .i64 v.env] z (List.replicate n []) p3 z w6 w7 from h7)
  clear h7 HNX
  have HIT := Lib.hid ((vecR_open1 KI.out))
  obtain ⟨A, c, hvv, hlc, hm, HC⟩ := SlR.open_ HIT.out
  injection hvv with q1 q2 q3
  subst q1 q3
  unfold maxLen at hm
  clear q2 HIT
  have y1 := HN7.out.ab.bu.cell 1 _ rfl
  go_wp2_with fail
  clear y1
  go_loopw [52] (fun i wr => ∃ k : Nat, k ≤ u.items.length ∧ i = .int .i64 k ∧ Hid (NX w [.int .i64 v.kind, .slice A1 v.items.length a1, .slice A2 v.parts.length a2, .slice A3 v.names.length a3, .slice A4 v.cls.length a4, .slice A5 v.levels.length a5, .int .i64 v.code, .int .i64 v.env] [.int .i64 u.kind, .slice B1 u.items.length b1, .slice B2 u.parts.length b2, .slice B3 u.names.length b3, .slice B4 u.cls.length b4, .slice B5 u.levels.length b5, .int .i64 u.code, .int .i64 u.env] bx [.int .i64 v.kind, .slice X1 v.items.length e1, .slice X2 v.parts.length e2, .slice (some ⟨z, 0, none⟩) n n, .slice X4 v.cls.length e4, .slice X5 v.levels.length e5, .int .i64 v.code, .int .i64 v.env] z (padN n (u.items.take k)) p3 z w6 wr)) (fun i _ => u.items.length - (intOf i).toNat)
  case atStart => exact ⟨0, Nat.zero_le _, rfl, by rw [List.take_zero, pad_zero]; exact HN7.out⟩
  case round =>
    obtain ⟨k, hk, rfl, HNX⟩ := hrel
    by_cases hlt : k < u.items.length
    · obtain ⟨b, off, cs, rfl, hbl, _, hat, hr⟩ := HC.out k hlt
      obtain ⟨rfl, hi0, hi1, hi2⟩ := hr
      have p0 : wr.cell? ⟨b, off + k * 3, none⟩ = some (.int .i64 u.items[k].num) := (HNX.out.ab.bl.cell (p := ⟨b, off + k * 3, none⟩) hbl).trans (by simpa using hat 0 _ rfl)
      have p1 : wr.cell? ⟨b, off + k * 3 + 1, none⟩ = some (.int .i64 u.items[k].den) := (HNX.out.ab.bl.cell (p := ⟨b, off + k * 3 + 1, none⟩) hbl).trans (hat 1 _ rfl)
      have p2 : wr.cell? ⟨b, off + k * 3 + 2, none⟩ = some (.string (str u.items[k].text)) := (HNX.out.ab.bl.cell (p := ⟨b, off + k * 3 + 2, none⟩) hbl).trans (hat 2 _ rfl)
      have HXB := Lib.hid (show NX w [.int .i64 v.kind, .slice A1 v.items.length a1, .slice A2 v.parts.length a2, .slice A3 v.names.length a3, .slice A4 v.cls.length a4, .slice A5 v.levels.length a5, .int .i64 v.code, .int .i64 v.env] [.int .i64 u.kind, .slice (some ⟨b, off, none⟩) u.items.length b1, .slice B2 u.parts.length b2, .slice B3 u.names.length b3, .slice B4 u.cls.length b4, .slice B5 u.levels.length b5, .int .i64 u.code, .int .i64 u.env] bx [.int .i64 v.kind, .slice X1 v.items.length e1, .slice X2 v.parts.length e2, .slice (some ⟨z, 0, none⟩) n n, .slice X4 v.cls.length e4, .slice X5 v.levels.length e5, .int .i64 v.code, .int .i64 v.env] z (padN n (u.items.take k)) p3 z w6 (wr.alloc (.cells #[.int .i64 u.items[k].num, .int .i64 u.items[k].den, .string (str u.items[k].text)] 36)) ∧ Blk (wr.alloc (.cells #[.int .i64 u.items[k].num, .int .i64 u.items[k].den, .string (str u.items[k].text)] 36)) wr.heap.size 36 [.int .i64 u.items[k].num, .int .i64 u.items[k].den, .string (str u.items[k].text)] from ⟨HNX.out.step ((Below.refl _ _).alloc (Nat.le_refl _) _), Blk.new wr _ [.int .i64 u.items[k].num, .int .i64 u.items[k].den, .string (str u.items[k].text)]⟩)
      clear hat
      go_upto_region 12 with fail
      generalize hy : wr.heap.size = yb at HXB ⊢
      clear hy p0 p1 p2 HNX
      refine gen_w (G := fun W => NX w [.int .i64 v.kind, .slice A1 v.items.length a1, .slice A2 v.parts.length a2, .slice A3 v.names.length a3, .slice A4 v.cls.length a4, .slice A5 v.levels.length a5, .int .i64 v.code, .int .i64 v.env] [.int .i64 u.kind, .slice (some ⟨b, off, none⟩) u.items.length b1, .slice B2 u.parts.length b2, .slice B3 u.names.length b3, .slice B4 u.cls.length b4, .slice B5 u.levels.length b5, .int .i64 u.code, .int .i64 u.env] bx [.int .i64 v.kind, .slice X1 v.items.length e1, .slice X2 v.parts.length e2, .slice (some ⟨z, 0, none⟩) n n, .slice X4 v.cls.length e4, .slice X5 v.levels.length e5, .int .i64 v.code, .int .i64 v.env] z (padN n (u.items.take k)) p3 z w6 W ∧ Blk W yb 36 [.int .i64 u.items[k].num, .int .i64 u.items[k].den, .string (str u.items[k].text)]) HXB.out ?_
      rintro w8 ⟨h8, hx8⟩
      have HN8 := Lib.hid h8
      have hkn2 : k < n := by omega
      have t2 := hx8.cell 2 _ rfl
      have C3 := h8.bx.cell 3 _ rfl
      have Z3 : w8.cell? ⟨z, k, none⟩ = some (.string (str ((padN n (u.items.take k))[k]'(by rw [pad_len]; exact hkn2)))) := h8.zb.cell k _ (by rw [List.getElem?_map, List.getElem?_eq_getElem (by rw [pad_len]; exact hkn2)]; rfl)
      have ZF := h8.zb.frozen k
      clear h8 hx8 HXB
      go_wp2_with fail
      go_roundw
      case rel => exact ⟨k + 1, hlt, by go_num, by rw [← pad_set k hlt hkn2]; exact HN8.out.setn k _⟩
      case measure => simp [intOf]; omega
    · obtain rfl : k = u.items.length := by omega
      have HP := Lib.hid (show NX w [.int .i64 v.kind, .slice A1 v.items.length a1, .slice A2 v.parts.length a2, .slice A3 v.names.length a3, .slice A4 v.cls.length a4, .slice A5 v.levels.length a5, .int .i64 v.code, .int .i64 v.env] [.int .i64 u.kind, .slice B1 u.items.length b1, .slice B2 u.parts.length b2, .slice B3 u.names.length b3, .slice B4 u.cls.length b4, .slice B5 u.levels.length b5, .int .i64 u.code, .int .i64 u.env] bx [.int .i64 v.kind, .slice X1 v.items.length e1, .slice X2 v.parts.length e2, .slice (some ⟨z, 0, none⟩) n n, .slice X4 v.cls.length e4, .slice X5 v.levels.length e5, .int .i64 v.code, .int .i64 v.env] z (padN n u.items) p3 z w6 wr from by have := HNX.out; rw [List.take_length] at this; exact this)
      have HVN := Lib.hid (names_close HST.out HP.out (pad_len n u.items) hn40 (pad_small fun x hx => text_len HUO.out hkn.1 hx))
      clear HNX
      have C0 := HP.out.bx.cell 0 _ rfl
      have C1 := HP.out.bx.cell 1 _ rfl
      have C2 := HP.out.bx.cell 2 _ rfl
      have C3 := HP.out.bx.cell 3 _ rfl
      have C4 := HP.out.bx.cell 4 _ rfl
      have C5 := HP.out.bx.cell 5 _ rfl
      have C6 := HP.out.bx.cell 6 _ rfl
      have C7 := HP.out.bx.cell 7 _ rfl
      go_wp2_with fail
      refine Calls.mono (impl_tidyNames (setN v (padN n u.items)) _ _ HVN.out.read) ?_
      intro e w9 hr
      obtain ⟨cs9, rfl, hb, hV9⟩ := tidy_own HVN.out (fun x hx => hx.1.2) hr
      obtain ⟨Y1, g1, Y2, g2, Y3, g3, Y4, g4, Y5, g5, hcs⟩ := hV9.shape
      replace hcs : cs9 = [.int .i64 v.kind, .slice Y1 v.items.length g1, .slice Y2 v.parts.length g2, .slice Y3 (tidyN (padN n u.items)).length g3, .slice Y4 v.cls.length g4, .slice Y5 v.levels.length g5, .int .i64 v.code, .int .i64 v.env] := hcs
      subst hcs
      have HB9 := Lib.hid (HP.out.ab.step hb)
      have HFV := Lib.hid (show VecO (fun x => Rng p3 wr.heap.size x ∧ x ≠ bx) w9 [.int .i64 v.kind, .slice Y1 v.items.length g1, .slice Y2 v.parts.length g2, .slice Y3 (tidyN (padN n u.items)).length g3, .slice Y4 v.cls.length g4, .slice Y5 v.levels.length g5, .int .i64 v.code, .int .i64 v.env] (setN v (tidyN (padN n u.items))) from hV9)
      have hs9 := hb.size
      have hlp := HP.out.lp
      clear hb hr hV9 C0 C1 C2 C3 C4 C5 C6 C7 HVN HST
      have r0 := HB9.out.br.cell 0 _ rfl
      have r1 := HB9.out.br.cell 1 _ rfl
      have r2 := HB9.out.br.cell 2 _ rfl
      have r3 := HB9.out.br.cell 3 _ rfl
      have r4 := HB9.out.br.cell 4 _ rfl
      have r5 := HB9.out.br.cell 5 _ rfl
      have r6 := HB9.out.br.cell 6 _ rfl
      have r7 := HB9.out.br.cell 7 _ rfl
      have z0 := HB9.out.br.frozen 0
      have z1 := HB9.out.br.frozen 1
      have z2 := HB9.out.br.frozen 2
      have z3 := HB9.out.br.frozen 3
      have z4 := HB9.out.br.frozen 4
      have z5 := HB9.out.br.frozen 5
      have z6 := HB9.out.br.frozen 6
      have z7 := HB9.out.br.frozen 7
      go_wp2_with fail
      rw [HV.out, HNN.out]
      have hkF := Keeps.sc (b := w.heap.size + 2) (o := 7) (Keeps.sc (b := w.heap.size + 2) (o := 6) (Keeps.sc (b := w.heap.size + 2) (o := 5) (Keeps.sc (b := w.heap.size + 2) (o := 4) (Keeps.sc (b := w.heap.size + 2) (o := 3) (Keeps.sc (b := w.heap.size + 2) (o := 2) (Keeps.sc (b := w.heap.size + 2) (o := 1) (Keeps.sc (b := w.heap.size + 2) (o := 0) (Keeps.refl (fun x => x ≠ w.heap.size + 2) w9) (by simp) (.int .i64 v.kind)) (by simp) (.slice Y1 v.items.length g1)) (by simp) (.slice Y2 v.parts.length g2)) (by simp) (.slice Y3 (tidyN (padN n u.items)).length g3)) (by simp) (.slice Y4 v.cls.length g4)) (by simp) (.slice Y5 v.levels.length g5)) (by simp) (.int .i64 v.code)) (by simp) (.int .i64 v.env)
      have hbF := below_sc (b := w.heap.size + 2) (o := 7) (below_sc (b := w.heap.size + 2) (o := 6) (below_sc (b := w.heap.size + 2) (o := 5) (below_sc (b := w.heap.size + 2) (o := 4) (below_sc (b := w.heap.size + 2) (o := 3) (below_sc (b := w.heap.size + 2) (o := 2) (below_sc (b := w.heap.size + 2) (o := 1) (below_sc (b := w.heap.size + 2) (o := 0) (Below.refl w.heap.size w9) (by omega) (.int .i64 v.kind)) (by omega) (.slice Y1 v.items.length g1)) (by omega) (.slice Y2 v.parts.length g2)) (by omega) (.slice Y3 (tidyN (padN n u.items)).length g3)) (by omega) (.slice Y4 v.cls.length g4)) (by omega) (.slice Y5 v.levels.length g5)) (by omega) (.int .i64 v.code)) (by omega) (.int .i64 v.env)
      exact bodyPost_ret (v := .tuple #[.agg #[.int .i64 v.kind, .slice Y1 v.items.length g1, .slice Y2 v.parts.length g2, .slice Y3 (tidyN (padN n u.items)).length g3, .slice Y4 v.cls.length g4, .slice Y5 v.levels.length g5, .int .i64 v.code, .int .i64 v.env], .string (str [])]) (by simp [results, Try.results8, go_sem, r0, r1, r2, r3, r4, r5, r6, r7, str]; try rfl) rfl ⟨[.int .i64 v.kind, .slice Y1 v.items.length g1, .slice Y2 v.parts.length g2, .slice Y3 (tidyN (padN n u.items)).length g3, .slice Y4 v.cls.length g4, .slice Y5 v.levels.length g5, .int .i64 v.code, .int .i64 v.env], rfl, (HFV.out.keeps (hkF.mono fun x hx => by have := hx.1.1; omega)).mono fun x hx => ⟨by have := hx.1.1; omega, Nat.lt_of_lt_of_le hx.1.2 (Nat.le_trans hs9 hkF.1)⟩, HB9.out.bl.trans hbF⟩
set_option maxHeartbeats 8000000 in
theorem spec_AssignNames (v u : VecD) (vs us : List Value) (w : World) (h : VecR w vs v) (k : VecR w us u) (hz : szVector v ≤ 400000000000) (kz : szVector u ≤ 400000000000) :
    Calls Try.prog 9 #[.agg vs.toArray, .agg us.toArray] w (RetVM (asgN v u) w) := by
  have HI := Lib.hid h
  have KI := Lib.hid k
  obtain ⟨A1, a1, A2, a2, A3, a3, A4, a4, A5, a5, rfl⟩ := vecR_shape h
  obtain ⟨B1, b1, B2, b2, B3, b3, B4, b4, B5, b5, rfl⟩ := vecR_shape k
  clear h k
  go_enter Try.func9, Try.ntmps9
  go_upto_region 1 with fail
  refine gen_w (G := AB w [.int .i64 v.kind, .slice A1 v.items.length a1, .slice A2 v.parts.length a2, .slice A3 v.names.length a3, .slice A4 v.cls.length a4, .slice A5 v.levels.length a5, .int .i64 v.code, .int .i64 v.env] [.int .i64 u.kind, .slice B1 u.items.length b1, .slice B2 u.parts.length b2, .slice B3 u.names.length b3, .slice B4 u.cls.length b4, .slice B5 u.levels.length b5, .int .i64 u.code, .int .i64 u.env]) (show Ok _ _ from AB.start w _ _) ?_
  intro w0 h0
  have HB := Lib.hid (show AB w [.int .i64 v.kind, .slice A1 v.items.length a1, .slice A2 v.parts.length a2, .slice A3 v.names.length a3, .slice A4 v.cls.length a4, .slice A5 v.levels.length a5, .int .i64 v.code, .int .i64 v.env] [.int .i64 u.kind, .slice B1 u.items.length b1, .slice B2 u.parts.length b2, .slice B3 u.names.length b3, .slice B4 u.cls.length b4, .slice B5 u.levels.length b5, .int .i64 u.code, .int .i64 u.env] w0 from h0)
  clear h0
  have x0 := HB.out.bv.cell 0 _ rfl
  have x1 := HB.out.bv.cell 1 _ rfl
  have x2 := HB.out.bv.cell 2 _ rfl
  have x3 := HB.out.bv.cell 3 _ rfl
  have x4 := HB.out.bv.cell 4 _ rfl
  have x5 := HB.out.bv.cell 5 _ rfl
  have x6 := HB.out.bv.cell 6 _ rfl
  have x7 := HB.out.bv.cell 7 _ rfl
  go_wp2_with fail
  refine Calls.mono (spec_IsVector v _ _ (by exact HI.out.below HB.out.bl) (by omega)) ?_
  rintro e w1 ⟨rfl, hb⟩
  have HB1 := Lib.hid (HB.out.step hb)
  clear hb HB x0 x1 x2 x3 x4 x5 x6 x7
  cases hv : vecOk v
  · have HV := Lib.hid (show asgN v u = (nulV, msgVec) by unfold asgN; rw [if_neg (fun h => by rw [h.1] at hv; cases hv)])
    go_wp2_with fail
    refine Calls.mono (spec_l4Bad _) ?_
    rintro e wz ⟨rfl, hb⟩
    have HBZ := Lib.hid (HB1.out.step hb)
    clear hb
    have r0 := HBZ.out.br.cell 0 _ rfl
    have r1 := HBZ.out.br.cell 1 _ rfl
    have r2 := HBZ.out.br.cell 2 _ rfl
    have r3 := HBZ.out.br.cell 3 _ rfl
    have r4 := HBZ.out.br.cell 4 _ rfl
    have r5 := HBZ.out.br.cell 5 _ rfl
    have r6 := HBZ.out.br.cell 6 _ rfl
    have r7 := HBZ.out.br.cell 7 _ rfl
    have z0 := HBZ.out.br.frozen 0
    have z1 := HBZ.out.br.frozen 1
    have z2 := HBZ.out.br.frozen 2
    have z3 := HBZ.out.br.frozen 3
    have z4 := HBZ.out.br.frozen 4
    have z5 := HBZ.out.br.frozen 5
    have z6 := HBZ.out.br.frozen 6
    have z7 := HBZ.out.br.frozen 7
    go_wp2_with fail
    rw [HV.out]
    exact bodyPost_ret (v := .tuple #[.agg #[.int .i64 0, .slice none 0 0, .slice none 0 0, .slice none 0 0, .slice none 0 0, .slice none 0 0, .int .i64 0, .int .i64 0], .string (str msgVec)]) (by simp [results, Try.results9, go_sem, r0, r1, r2, r3, r4, r5, r6, r7, msgVec, str]; try rfl) rfl (HBZ.out.zero msgVec (below_sc (b := w.heap.size + 2) (o := 7) (below_sc (b := w.heap.size + 2) (o := 6) (below_sc (b := w.heap.size + 2) (o := 5) (below_sc (b := w.heap.size + 2) (o := 4) (below_sc (b := w.heap.size + 2) (o := 3) (below_sc (b := w.heap.size + 2) (o := 2) (below_sc (b := w.heap.size + 2) (o := 1) (below_sc (b := w.heap.size + 2) (o := 0) (Below.refl (w.heap.size + 2) wz) (Nat.le_refl _) (.int .i64 0)) (Nat.le_refl _) (.slice none 0 0)) (Nat.le_refl _) (.slice none 0 0)) (Nat.le_refl _) (.slice none 0 0)) (Nat.le_refl _) (.slice none 0 0)) (Nat.le_refl _) (.slice none 0 0)) (Nat.le_refl _) (.int .i64 0)) (Nat.le_refl _) (.int .i64 0)))
  have HVO := Lib.hid hv
  clear hv
  have y0 := HB1.out.bu.cell 0 _ rfl
  have y1 := HB1.out.bu.cell 1 _ rfl
  have y2 := HB1.out.bu.cell 2 _ rfl
  have y3 := HB1.out.bu.cell 3 _ rfl
  have y4 := HB1.out.bu.cell 4 _ rfl
  have y5 := HB1.out.bu.cell 5 _ rfl
  have y6 := HB1.out.bu.cell 6 _ rfl
  have y7 := HB1.out.bu.cell 7 _ rfl
  go_wp2_with fail
  refine Calls.mono (spec_IsVector u _ _ (by exact KI.out.below HB1.out.bl) (by omega)) ?_
  rintro e w2 ⟨rfl, hb⟩
  have HB2 := Lib.hid (HB1.out.step hb)
  clear hb HB1 y0 y1 y2 y3 y4 y5 y6 y7
  cases hu : vecOk u
  · have HV := Lib.hid (show asgN v u = (nulV, msgVec) by unfold asgN; rw [if_neg (fun h => by rw [h.2] at hu; cases hu)])
    go_wp2_with fail
    refine Calls.mono (spec_l4Bad _) ?_
    rintro e wz ⟨rfl, hb⟩
    have HBZ := Lib.hid (HB2.out.step hb)
    clear hb
    have r0 := HBZ.out.br.cell 0 _ rfl
    have r1 := HBZ.out.br.cell 1 _ rfl
    have r2 := HBZ.out.br.cell 2 _ rfl
    have r3 := HBZ.out.br.cell 3 _ rfl
    have r4 := HBZ.out.br.cell 4 _ rfl
    have r5 := HBZ.out.br.cell 5 _ rfl
    have r6 := HBZ.out.br.cell 6 _ rfl
    have r7 := HBZ.out.br.cell 7 _ rfl
    have z0 := HBZ.out.br.frozen 0
    have z1 := HBZ.out.br.frozen 1
    have z2 := HBZ.out.br.frozen 2
    have z3 := HBZ.out.br.frozen 3
    have z4 := HBZ.out.br.frozen 4
    have z5 := HBZ.out.br.frozen 5
    have z6 := HBZ.out.br.frozen 6
    have z7 := HBZ.out.br.frozen 7
    go_wp2_with fail
    rw [HV.out]
    exact bodyPost_ret (v := .tuple #[.agg #[.int .i64 0, .slice none 0 0, .slice none 0 0, .slice none 0 0, .slice none 0 0, .slice none 0 0, .int .i64 0, .int .i64 0], .string (str msgVec)]) (by simp [results, Try.results9, go_sem, r0, r1, r2, r3, r4, r5, r6, r7, msgVec, str]; try rfl) rfl (HBZ.out.zero msgVec (below_sc (b := w.heap.size + 2) (o := 7) (below_sc (b := w.heap.size + 2) (o := 6) (below_sc (b := w.heap.size + 2) (o := 5) (below_sc (b := w.heap.size + 2) (o := 4) (below_sc (b := w.heap.size + 2) (o := 3) (below_sc (b := w.heap.size + 2) (o := 2) (below_sc (b := w.heap.size + 2) (o := 1) (below_sc (b := w.heap.size + 2) (o := 0) (Below.refl (w.heap.size + 2) wz) (Nat.le_refl _) (.int .i64 0)) (Nat.le_refl _) (.slice none 0 0)) (Nat.le_refl _) (.slice none 0 0)) (Nat.le_refl _) (.slice none 0 0)) (Nat.le_refl _) (.slice none 0 0)) (Nat.le_refl _) (.slice none 0 0)) (Nat.le_refl _) (.int .i64 0)) (Nat.le_refl _) (.int .i64 0)))
  have HUO := Lib.hid hu
  clear hu
  have x0 := HB2.out.bv.cell 0 _ rfl
  have x1 := HB2.out.bv.cell 1 _ rfl
  have x2 := HB2.out.bv.cell 2 _ rfl
  have x3 := HB2.out.bv.cell 3 _ rfl
  have x4 := HB2.out.bv.cell 4 _ rfl
  have x5 := HB2.out.bv.cell 5 _ rfl
  have x6 := HB2.out.bv.cell 6 _ rfl
  have x7 := HB2.out.bv.cell 7 _ rfl
  by_cases hk0 : v.kind = 0
  · have HV := Lib.hid (asgN_bad HVO.out HUO.out (by simp [elsOk, hk0]))
    have b0 : (v.kind == 0) = true := by simpa using hk0
    have r0 := HB2.out.br.cell 0 _ rfl
    have r1 := HB2.out.br.cell 1 _ rfl
    have r2 := HB2.out.br.cell 2 _ rfl
    have r3 := HB2.out.br.cell 3 _ rfl
    have r4 := HB2.out.br.cell 4 _ rfl
    have r5 := HB2.out.br.cell 5 _ rfl
    have r6 := HB2.out.br.cell 6 _ rfl
    have r7 := HB2.out.br.cell 7 _ rfl
    have z0 := HB2.out.br.frozen 0
    have z1 := HB2.out.br.frozen 1
    have z2 := HB2.out.br.frozen 2
    have z3 := HB2.out.br.frozen 3
    have z4 := HB2.out.br.frozen 4
    have z5 := HB2.out.br.frozen 5
    have z6 := HB2.out.br.frozen 6
    have z7 := HB2.out.br.frozen 7
    go_wp2_with fail
    rw [HV.out]
    exact bodyPost_ret (v := .tuple #[.agg #[.int .i64 0, .slice none 0 0, .slice none 0 0, .slice none 0 0, .slice none 0 0, .slice none 0 0, .int .i64 0, .int .i64 0], .string (str msgEls)]) (by simp [results, Try.results9, go_sem, r0, r1, r2, r3, r4, r5, r6, r7, msgEls, str]; try rfl) rfl (HB2.out.zero msgEls (below_sc (b := w.heap.size + 2) (o := 7) (below_sc (b := w.heap.size + 2) (o := 6) (below_sc (b := w.heap.size + 2) (o := 5) (below_sc (b := w.heap.size + 2) (o := 4) (below_sc (b := w.heap.size + 2) (o := 3) (below_sc (b := w.heap.size + 2) (o := 2) (below_sc (b := w.heap.size + 2) (o := 1) (below_sc (b := w.heap.size + 2) (o := 0) (Below.refl (w.heap.size + 2) w2) (Nat.le_refl _) (.int .i64 0)) (Nat.le_refl _) (.slice none 0 0)) (Nat.le_refl _) (.slice none 0 0)) (Nat.le_refl _) (.slice none 0 0)) (Nat.le_refl _) (.slice none 0 0)) (Nat.le_refl _) (.slice none 0 0)) (Nat.le_refl _) (.int .i64 0)) (Nat.le_refl _) (.int .i64 0)))
  by_cases hk5 : v.kind = 5
  · have HV := Lib.hid (asgN_bad HVO.out HUO.out (by simp [elsOk, hk5]))
    have b0 : (v.kind == 0) = false := by simpa using hk0
    have b5 : (v.kind == 5) = true := by simpa using hk5
    have r0 := HB2.out.br.cell 0 _ rfl
    have r1 := HB2.out.br.cell 1 _ rfl
    have r2 := HB2.out.br.cell 2 _ rfl
    have r3 := HB2.out.br.cell 3 _ rfl
    have r4 := HB2.out.br.cell 4 _ rfl
    have r5 := HB2.out.br.cell 5 _ rfl
    have r6 := HB2.out.br.cell 6 _ rfl
    have r7 := HB2.out.br.cell 7 _ rfl
    have z0 := HB2.out.br.frozen 0
    have z1 := HB2.out.br.frozen 1
    have z2 := HB2.out.br.frozen 2
    have z3 := HB2.out.br.frozen 3
    have z4 := HB2.out.br.frozen 4
    have z5 := HB2.out.br.frozen 5
    have z6 := HB2.out.br.frozen 6
    have z7 := HB2.out.br.frozen 7
    go_wp2_with fail
    rw [HV.out]
    exact bodyPost_ret (v := .tuple #[.agg #[.int .i64 0, .slice none 0 0, .slice none 0 0, .slice none 0 0, .slice none 0 0, .slice none 0 0, .int .i64 0, .int .i64 0], .string (str msgEls)]) (by simp [results, Try.results9, go_sem, r0, r1, r2, r3, r4, r5, r6, r7, msgEls, str]; try rfl) rfl (HB2.out.zero msgEls (below_sc (b := w.heap.size + 2) (o := 7) (below_sc (b := w.heap.size + 2) (o := 6) (below_sc (b := w.heap.size + 2) (o := 5) (below_sc (b := w.heap.size + 2) (o := 4) (below_sc (b := w.heap.size + 2) (o := 3) (below_sc (b := w.heap.size + 2) (o := 2) (below_sc (b := w.heap.size + 2) (o := 1) (below_sc (b := w.heap.size + 2) (o := 0) (Below.refl (w.heap.size + 2) w2) (Nat.le_refl _) (.int .i64 0)) (Nat.le_refl _) (.slice none 0 0)) (Nat.le_refl _) (.slice none 0 0)) (Nat.le_refl _) (.slice none 0 0)) (Nat.le_refl _) (.slice none 0 0)) (Nat.le_refl _) (.slice none 0 0)) (Nat.le_refl _) (.int .i64 0)) (Nat.le_refl _) (.int .i64 0)))
  have HEL := Lib.hid (show elsOk v = true by simp [elsOk, hk0, hk5])
  have b0 : (v.kind == 0) = false := by simpa using hk0
  have b5 : (v.kind == 5) = false := by simpa using hk5
  go_upto_region 5 with fail
  clear x0 x1 x2 x3 x4 x5 x6 x7 hk0 hk5 b0 b5
  have HLV := Lib.hid (vecOk_len HVO.out)
  go_cut [44] from 29 to 45 (fun s wx => s = .bool (!nmsOk v u) ∧ Hid (AB w [.int .i64 v.kind, .slice A1 v.items.length a1, .slice A2 v.parts.length a2, .slice A3 v.names.length a3, .slice A4 v.cls.length a4, .slice A5 v.levels.length a5, .int .i64 v.code, .int .i64 v.env] [.int .i64 u.kind, .slice B1 u.items.length b1, .slice B2 u.parts.length b2, .slice B3 u.names.length b3, .slice B4 u.cls.length b4, .slice B5 u.levels.length b5, .int .i64 u.code, .int .i64 u.env] wx))
  case first =>
    have g1 : Ok (AB w [.int .i64 v.kind, .slice A1 v.items.length a1, .slice A2 v.parts.length a2, .slice A3 v.names.length a3, .slice A4 v.cls.length a4, .slice A5 v.levels.length a5, .int .i64 v.code, .int .i64 v.env] [.int .i64 u.kind, .slice B1 u.items.length b1, .slice B2 u.parts.length b2, .slice B3 u.names.length b3, .slice B4 u.cls.length b4, .slice B5 u.levels.length b5, .int .i64 u.code, .int .i64 u.env]) w2 := HB2.out
    have y0 := fun W (h : Ok (AB w [.int .i64 v.kind, .slice A1 v.items.length a1, .slice A2 v.parts.length a2, .slice A3 v.names.length a3, .slice A4 v.cls.length a4, .slice A5 v.levels.length a5, .int .i64 v.code, .int .i64 v.env] [.int .i64 u.kind, .slice B1 u.items.length b1, .slice B2 u.parts.length b2, .slice B3 u.names.length b3, .slice B4 u.cls.length b4, .slice B5 u.levels.length b5, .int .i64 u.code, .int .i64 u.env]) W) => (AB.bu h).cell 0 _ rfl
    have y1 := fun W (h : Ok (AB w [.int .i64 v.kind, .slice A1 v.items.length a1, .slice A2 v.parts.length a2, .slice A3 v.names.length a3, .slice A4 v.cls.length a4, .slice A5 v.levels.length a5, .int .i64 v.code, .int .i64 v.env] [.int .i64 u.kind, .slice B1 u.items.length b1, .slice B2 u.parts.length b2, .slice B3 u.names.length b3, .slice B4 u.cls.length b4, .slice B5 u.levels.length b5, .int .i64 u.code, .int .i64 u.env]) W) => (AB.bu h).cell 1 _ rfl
    have y2 := fun W (h : Ok (AB w [.int .i64 v.kind, .slice A1 v.items.length a1, .slice A2 v.parts.length a2, .slice A3 v.names.length a3, .slice A4 v.cls.length a4, .slice A5 v.levels.length a5, .int .i64 v.code, .int .i64 v.env] [.int .i64 u.kind, .slice B1 u.items.length b1, .slice B2 u.parts.length b2, .slice B3 u.names.length b3, .slice B4 u.cls.length b4, .slice B5 u.levels.length b5, .int .i64 u.code, .int .i64 u.env]) W) => (AB.bu h).cell 2 _ rfl
    have y3 := fun W (h : Ok (AB w [.int .i64 v.kind, .slice A1 v.items.length a1, .slice A2 v.parts.length a2, .slice A3 v.names.length a3, .slice A4 v.cls.length a4, .slice A5 v.levels.length a5, .int .i64 v.code, .int .i64 v.env] [.int .i64 u.kind, .slice B1 u.items.length b1, .slice B2 u.parts.length b2, .slice B3 u.names.length b3, .slice B4 u.cls.length b4, .slice B5 u.levels.length b5, .int .i64 u.code, .int .i64 u.env]) W) => (AB.bu h).cell 3 _ rfl
    have y4 := fun W (h : Ok (AB w [.int .i64 v.kind, .slice A1 v.items.length a1, .slice A2 v.parts.length a2, .slice A3 v.names.length a3, .slice A4 v.cls.length a4, .slice A5 v.levels.length a5, .int .i64 v.code, .int .i64 v.env] [.int .i64 u.kind, .slice B1 u.items.length b1, .slice B2 u.parts.length b2, .slice B3 u.names.length b3, .slice B4 u.cls.length b4, .slice B5 u.levels.length b5, .int .i64 u.code, .int .i64 u.env]) W) => (AB.bu h).cell 4 _ rfl
    have y5 := fun W (h : Ok (AB w [.int .i64 v.kind, .slice A1 v.items.length a1, .slice A2 v.parts.length a2, .slice A3 v.names.length a3, .slice A4 v.cls.length a4, .slice A5 v.levels.length a5, .int .i64 v.code, .int .i64 v.env] [.int .i64 u.kind, .slice B1 u.items.length b1, .slice B2 u.parts.length b2, .slice B3 u.names.length b3, .slice B4 u.cls.length b4, .slice B5 u.levels.length b5, .int .i64 u.code, .int .i64 u.env]) W) => (AB.bu h).cell 5 _ rfl
    have y6 := fun W (h : Ok (AB w [.int .i64 v.kind, .slice A1 v.items.length a1, .slice A2 v.parts.length a2, .slice A3 v.names.length a3, .slice A4 v.cls.length a4, .slice A5 v.levels.length a5, .int .i64 v.code, .int .i64 v.env] [.int .i64 u.kind, .slice B1 u.items.length b1, .slice B2 u.parts.length b2, .slice B3 u.names.length b3, .slice B4 u.cls.length b4, .slice B5 u.levels.length b5, .int .i64 u.code, .int .i64 u.env]) W) => (AB.bu h).cell 6 _ rfl
    have y7 := fun W (h : Ok (AB w [.int .i64 v.kind, .slice A1 v.items.length a1, .slice A2 v.parts.length a2, .slice A3 v.names.length a3, .slice A4 v.cls.length a4, .slice A5 v.levels.length a5, .int .i64 v.code, .int .i64 v.env] [.int .i64 u.kind, .slice B1 u.items.length b1, .slice B2 u.parts.length b2, .slice B3 u.names.length b3, .slice B4 u.cls.length b4, .slice B5 u.levels.length b5, .int .i64 u.code, .int .i64 u.env]) W) => (AB.bu h).cell 7 _ rfl
    have x0 := fun W (h : Ok (AB w [.int .i64 v.kind, .slice A1 v.items.length a1, .slice A2 v.parts.length a2, .slice A3 v.names.length a3, .slice A4 v.cls.length a4, .slice A5 v.levels.length a5, .int .i64 v.code, .int .i64 v.env] [.int .i64 u.kind, .slice B1 u.items.length b1, .slice B2 u.parts.length b2, .slice B3 u.names.length b3, .slice B4 u.cls.length b4, .slice B5 u.levels.length b5, .int .i64 u.code, .int .i64 u.env]) W) => (AB.bv h).cell 0 _ rfl
    have x1 := fun W (h : Ok (AB w [.int .i64 v.kind, .slice A1 v.items.length a1, .slice A2 v.parts.length a2, .slice A3 v.names.length a3, .slice A4 v.cls.length a4, .slice A5 v.levels.length a5, .int .i64 v.code, .int .i64 v.env] [.int .i64 u.kind, .slice B1 u.items.length b1, .slice B2 u.parts.length b2, .slice B3 u.names.length b3, .slice B4 u.cls.length b4, .slice B5 u.levels.length b5, .int .i64 u.code, .int .i64 u.env]) W) => (AB.bv h).cell 1 _ rfl
    have x2 := fun W (h : Ok (AB w [.int .i64 v.kind, .slice A1 v.items.length a1, .slice A2 v.parts.length a2, .slice A3 v.names.length a3, .slice A4 v.cls.length a4, .slice A5 v.levels.length a5, .int .i64 v.code, .int .i64 v.env] [.int .i64 u.kind, .slice B1 u.items.length b1, .slice B2 u.parts.length b2, .slice B3 u.names.length b3, .slice B4 u.cls.length b4, .slice B5 u.levels.length b5, .int .i64 u.code, .int .i64 u.env]) W) => (AB.bv h).cell 2 _ rfl
    have x3 := fun W (h : Ok (AB w [.int .i64 v.kind, .slice A1 v.items.length a1, .slice A2 v.parts.length a2, .slice A3 v.names.length a3, .slice A4 v.cls.length a4, .slice A5 v.levels.length a5, .int .i64 v.code, .int .i64 v.env] [.int .i64 u.kind, .slice B1 u.items.length b1, .slice B2 u.parts.length b2, .slice B3 u.names.length b3, .slice B4 u.cls.length b4, .slice B5 u.levels.length b5, .int .i64 u.code, .int .i64 u.env]) W) => (AB.bv h).cell 3 _ rfl
    have x4 := fun W (h : Ok (AB w [.int .i64 v.kind, .slice A1 v.items.length a1, .slice A2 v.parts.length a2, .slice A3 v.names.length a3, .slice A4 v.cls.length a4, .slice A5 v.levels.length a5, .int .i64 v.code, .int .i64 v.env] [.int .i64 u.kind, .slice B1 u.items.length b1, .slice B2 u.parts.length b2, .slice B3 u.names.length b3, .slice B4 u.cls.length b4, .slice B5 u.levels.length b5, .int .i64 u.code, .int .i64 u.env]) W) => (AB.bv h).cell 4 _ rfl
    have x5 := fun W (h : Ok (AB w [.int .i64 v.kind, .slice A1 v.items.length a1, .slice A2 v.parts.length a2, .slice A3 v.names.length a3, .slice A4 v.cls.length a4, .slice A5 v.levels.length a5, .int .i64 v.code, .int .i64 v.env] [.int .i64 u.kind, .slice B1 u.items.length b1, .slice B2 u.parts.length b2, .slice B3 u.names.length b3, .slice B4 u.cls.length b4, .slice B5 u.levels.length b5, .int .i64 u.code, .int .i64 u.env]) W) => (AB.bv h).cell 5 _ rfl
    have x6 := fun W (h : Ok (AB w [.int .i64 v.kind, .slice A1 v.items.length a1, .slice A2 v.parts.length a2, .slice A3 v.names.length a3, .slice A4 v.cls.length a4, .slice A5 v.levels.length a5, .int .i64 v.code, .int .i64 v.env] [.int .i64 u.kind, .slice B1 u.items.length b1, .slice B2 u.parts.length b2, .slice B3 u.names.length b3, .slice B4 u.cls.length b4, .slice B5 u.levels.length b5, .int .i64 u.code, .int .i64 u.env]) W) => (AB.bv h).cell 6 _ rfl
    have x7 := fun W (h : Ok (AB w [.int .i64 v.kind, .slice A1 v.items.length a1, .slice A2 v.parts.length a2, .slice A3 v.names.length a3, .slice A4 v.cls.length a4, .slice A5 v.levels.length a5, .int .i64 v.code, .int .i64 v.env] [.int .i64 u.kind, .slice B1 u.items.length b1, .slice B2 u.parts.length b2, .slice B3 u.names.length b3, .slice B4 u.cls.length b4, .slice B5 u.levels.length b5, .int .i64 u.code, .int .i64 u.env]) W) => (AB.bv h).cell 7 _ rfl
    by_cases k0 : u.kind = 0
    · have c0 : (u.kind != 0) = false := by simpa using k0
      have HLU := Lib.hid (lenV_items HUO.out (by omega))
      have HKE := Lib.hid k0
      clear k0
      go_wp2_with fail
      refine wp_region_plan (S := Ok (AB w [.int .i64 v.kind, .slice A1 v.items.length a1, .slice A2 v.parts.length a2, .slice A3 v.names.length a3, .slice A4 v.cls.length a4, .slice A5 v.levels.length a5, .int .i64 v.code, .int .i64 v.env] [.int .i64 u.kind, .slice B1 u.items.length b1, .slice B2 u.parts.length b2, .slice B3 u.names.length b3, .slice B4 u.cls.length b4, .slice B5 u.levels.length b5, .int .i64 u.code, .int .i64 u.env])) (by kernel_rfl) [(true, 0), (true, 1), (true, 2), (true, 3), (true, 4), (true, 5), (true, 6), (true, 7), (true, 8), (true, 9), (true, 10), (true, 11), (true, 12), (false, 13), (true, 14), (true, 15)] (by kernel_rfl) (AB.step g1 (Below.drew (Below.refl _ _))) ?_
      replace g1 : Ok (AB w [.int .i64 v.kind, .slice A1 v.items.length a1, .slice A2 v.parts.length a2, .slice A3 v.names.length a3, .slice A4 v.cls.length a4, .slice A5 v.levels.length a5, .int .i64 v.code, .int .i64 v.env] [.int .i64 u.kind, .slice B1 u.items.length b1, .slice B2 u.parts.length b2, .slice B3 u.names.length b3, .slice B4 u.cls.length b4, .slice B5 u.levels.length b5, .int .i64 u.code, .int .i64 u.env]) w2.drew := AB.step g1 (Below.drew (Below.refl _ _))
      repeat ((first | (refine dyn_take rfl rfl (fun W g => by go_simp; rfl) ?_) | (refine dyn_skip rfl rfl ?_)); go_simp)
      refine dyn_act rfl rfl (fun K hK => ?_)
      go_wp2_with fail
      refine Calls.mono (spec_l4Len v _ _ (by exact HI.out.below (AB.bl g1)) (by have := sz_len v; omega)) ?_
      rintro e w' ⟨rfl, hb⟩
      replace g1 := AB.step g1 hb
      clear hb
      simp only []
      refine hK.out _ _ g1 ?_
      clear hK
      repeat ((first | (refine dyn_take rfl rfl (fun W g => by go_simp; rfl) ?_) | (refine dyn_skip rfl rfl ?_)); go_simp)
      refine dyn_done ?_
      go_wp2_with fail
      go_meet
      case rel => exact ⟨by rw [show nmsOk v u = decide (u.items.length ≤ lenV v) by simp [nmsOk, HKE.out]]; congr 1; by_cases hc : u.items.length ≤ lenV v <;> simp [hc] <;> omega, g1⟩
    by_cases k3 : u.kind = 3
    · have c0 : (u.kind != 0) = true := by simpa using k0
      have c3 : (u.kind != 3) = false := by simpa using k3
      have HLU := Lib.hid (lenV_items HUO.out (by omega))
      have HKE := Lib.hid k3
      clear k3
      go_wp2_with fail
      refine wp_region_plan (S := Ok (AB w [.int .i64 v.kind, .slice A1 v.items.length a1, .slice A2 v.parts.length a2, .slice A3 v.names.length a3, .slice A4 v.cls.length a4, .slice A5 v.levels.length a5, .int .i64 v.code, .int .i64 v.env] [.int .i64 u.kind, .slice B1 u.items.length b1, .slice B2 u.parts.length b2, .slice B3 u.names.length b3, .slice B4 u.cls.length b4, .slice B5 u.levels.length b5, .int .i64 u.code, .int .i64 u.env])) (by kernel_rfl) [(true, 0), (true, 1), (true, 2), (true, 3), (true, 4), (true, 5), (true, 6), (true, 7), (true, 8), (true, 9), (true, 10), (true, 11), (true, 12), (false, 13), (true, 14), (true, 15)] (by kernel_rfl) (AB.step g1 (Below.drew (Below.refl _ _))) ?_
      replace g1 : Ok (AB w [.int .i64 v.kind, .slice A1 v.items.length a1, .slice A2 v.parts.length a2, .slice A3 v.names.length a3, .slice A4 v.cls.length a4, .slice A5 v.levels.length a5, .int .i64 v.code, .int .i64 v.env] [.int .i64 u.kind, .slice B1 u.items.length b1, .slice B2 u.parts.length b2, .slice B3 u.names.length b3, .slice B4 u.cls.length b4, .slice B5 u.levels.length b5, .int .i64 u.code, .int .i64 u.env]) w2.drew := AB.step g1 (Below.drew (Below.refl _ _))
      repeat ((first | (refine dyn_take rfl rfl (fun W g => by go_simp; rfl) ?_) | (refine dyn_skip rfl rfl ?_)); go_simp)
      refine dyn_act rfl rfl (fun K hK => ?_)
      go_wp2_with fail
      refine Calls.mono (spec_l4Len v _ _ (by exact HI.out.below (AB.bl g1)) (by have := sz_len v; omega)) ?_
      rintro e w' ⟨rfl, hb⟩
      replace g1 := AB.step g1 hb
      clear hb
      simp only []
      refine hK.out _ _ g1 ?_
      clear hK
      repeat ((first | (refine dyn_take rfl rfl (fun W g => by go_simp; rfl) ?_) | (refine dyn_skip rfl rfl ?_)); go_simp)
      refine dyn_done ?_
      go_wp2_with fail
      go_meet
      case rel => exact ⟨by rw [show nmsOk v u = decide (u.items.length ≤ lenV v) by simp [nmsOk, HKE.out]]; congr 1; by_cases hc : u.items.length ≤ lenV v <;> simp [hc] <;> omega, g1⟩
    · have c0 : (u.kind != 0) = true := by simpa using k0
      have c3 : (u.kind != 3) = true := by simpa using k3
      go_wp2_with fail
      refine wp_region_plan (S := Ok (AB w [.int .i64 v.kind, .slice A1 v.items.length a1, .slice A2 v.parts.length a2, .slice A3 v.names.length a3, .slice A4 v.cls.length a4, .slice A5 v.levels.length a5, .int .i64 v.code, .int .i64 v.env] [.int .i64 u.kind, .slice B1 u.items.length b1, .slice B2 u.parts.length b2, .slice B3 u.names.length b3, .slice B4 u.cls.length b4, .slice B5 u.levels.length b5, .int .i64 u.code, .int .i64 u.env])) (by kernel_rfl) [(true, 0), (true, 1), (true, 2), (true, 3), (true, 4), (true, 5), (true, 6), (true, 7), (true, 8), (true, 9), (true, 10), (true, 11), (true, 12), (false, 13), (true, 14), (true, 15)] (by kernel_rfl) (AB.step g1 (Below.drew (Below.refl _ _))) ?_
      replace g1 : Ok (AB w [.int .i64 v.kind, .slice A1 v.items.length a1, .slice A2 v.parts.length a2, .slice A3 v.names.length a3, .slice A4 v.cls.length a4, .slice A5 v.levels.length a5, .int .i64 v.code, .int .i64 v.env] [.int .i64 u.kind, .slice B1 u.items.length b1, .slice B2 u.parts.length b2, .slice B3 u.names.length b3, .slice B4 u.cls.length b4, .slice B5 u.levels.length b5, .int .i64 u.code, .int .i64 u.env]) w2.drew := AB.step g1 (Below.drew (Below.refl _ _))
      repeat ((first | (refine dyn_take rfl rfl (fun W g => by go_simp; rfl) ?_) | (refine dyn_skip rfl rfl ?_) | (refine dyn_pass rfl rfl g1 ?_)); go_simp)
      refine dyn_done ?_
      go_wp2_with fail
      go_meet
      case rel => exact ⟨by rw [show nmsOk v u = false by simp [nmsOk, k0, k3]]; rfl, g1⟩
  obtain ⟨rfl, HB3⟩ := hcut
  have hr3 := HB3.out.br.lt
  clear HB2
  cases hn : nmsOk v u
  · have HV := Lib.hid (asgN_nms HVO.out HUO.out HEL.out hn)
    clear hn
    have r0 := HB3.out.br.cell 0 _ rfl
    have r1 := HB3.out.br.cell 1 _ rfl
    have r2 := HB3.out.br.cell 2 _ rfl
    have r3 := HB3.out.br.cell 3 _ rfl
    have r4 := HB3.out.br.cell 4 _ rfl
    have r5 := HB3.out.br.cell 5 _ rfl
    have r6 := HB3.out.br.cell 6 _ rfl
    have r7 := HB3.out.br.cell 7 _ rfl
    have z0 := HB3.out.br.frozen 0
    have z1 := HB3.out.br.frozen 1
    have z2 := HB3.out.br.frozen 2
    have z3 := HB3.out.br.frozen 3
    have z4 := HB3.out.br.frozen 4
    have z5 := HB3.out.br.frozen 5
    have z6 := HB3.out.br.frozen 6
    have z7 := HB3.out.br.frozen 7
    go_wp2_with fail
    rw [HV.out]
    exact bodyPost_ret (v := .tuple #[.agg #[.int .i64 0, .slice none 0 0, .slice none 0 0, .slice none 0 0, .slice none 0 0, .slice none 0 0, .int .i64 0, .int .i64 0], .string (str msgNms)]) (by simp [results, Try.results9, go_sem, r0, r1, r2, r3, r4, r5, r6, r7, msgNms, str]; try rfl) rfl (HB3.out.zero msgNms (below_sc (b := w.heap.size + 2) (o := 7) (below_sc (b := w.heap.size + 2) (o := 6) (below_sc (b := w.heap.size + 2) (o := 5) (below_sc (b := w.heap.size + 2) (o := 4) (below_sc (b := w.heap.size + 2) (o := 3) (below_sc (b := w.heap.size + 2) (o := 2) (below_sc (b := w.heap.size + 2) (o := 1) (below_sc (b := w.heap.size + 2) (o := 0) (Below.refl (w.heap.size + 2) wc) (Nat.le_refl _) (.int .i64 0)) (Nat.le_refl _) (.slice none 0 0)) (Nat.le_refl _) (.slice none 0 0)) (Nat.le_refl _) (.slice none 0 0)) (Nat.le_refl _) (.slice none 0 0)) (Nat.le_refl _) (.slice none 0 0)) (Nat.le_refl _) (.int .i64 0)) (Nat.le_refl _) (.int .i64 0)))
  have HNM := Lib.hid hn
  have HV := Lib.hid (asgN_yes HVO.out HUO.out HEL.out hn)
  have hkn : (u.kind = 0 ∨ u.kind = 3) ∧ u.items.length ≤ lenV v := by
    simp only [nmsOk, Bool.and_eq_true, Bool.or_eq_true, beq_iff_eq, decide_eq_true_eq] at hn
    exact hn
  clear hn
  obtain ⟨w3, hw3⟩ : ∃ w3, w3 = wc := ⟨_, rfl⟩
  rw [← hw3] at HB3 hr3 ⊢
  clear hw3
  have x0 := HB3.out.bv.cell 0 _ rfl
  have x1 := HB3.out.bv.cell 1 _ rfl
  have x2 := HB3.out.bv.cell 2 _ rfl
  have x3 := HB3.out.bv.cell 3 _ rfl
  have x4 := HB3.out.bv.cell 4 _ rfl
  have x5 := HB3.out.bv.cell 5 _ rfl
  have x6 := HB3.out.bv.cell 6 _ rfl
  have x7 := HB3.out.bv.cell 7 _ rfl
  go_wp2_with fail
  refine Calls.mono (spec_l4Copy v _ _ (by exact HI.out.below HB3.out.bl) (vecOk_okN HVO.out) (by omega)) ?_
  rintro e w4x ⟨xcs, rfl, hV, hb⟩
  obtain ⟨X1, e1, X2, e2, X3, e3, X4, e4, X5, e5, rfl⟩ := hV.shape
  have HB4 := Lib.hid (HB3.out.step hb)
  have HX := Lib.hid (AX.make HB4.out (by omega) hV)
  have hpb := hb.size
  clear hb HB3 HB4 hV x0 x1 x2 x3 x4 x5 x6 x7
  go_upto_region 8 with fail
  generalize hbx : w4x.heap.size = bx at HX hpb ⊢
  generalize hp3 : w3.heap.size = p3 at HX hr3 hpb
  clear hbx hp3
  refine gen_w (G := AX w [.int .i64 v.kind, .slice A1 v.items.length a1, .slice A2 v.parts.length a2, .slice A3 v.names.length a3, .slice A4 v.cls.length a4, .slice A5 v.levels.length a5, .int .i64 v.code, .int .i64 v.env] [.int .i64 u.kind, .slice B1 u.items.length b1, .slice B2 u.parts.length b2, .slice B3 u.names.length b3, .slice B4 u.cls.length b4, .slice B5 u.levels.length b5, .int .i64 u.code, .int .i64 u.env] bx [.int .i64 v.kind, .slice X1 v.items.length e1, .slice X2 v.parts.length e2, .slice X3 v.names.length e3, .slice X4 v.cls.length e4, .slice X5 v.levels.length e5, .int .i64 v.code, .int .i64 v.env] p3 (bx + 1) v) HX.out ?_
  intro w4 h5
  have HX5 := Lib.hid (AX.rebase (show AX w [.int .i64 v.kind, .slice A1 v.items.length a1, .slice A2 v.parts.length a2, .slice A3 v.names.length a3, .slice A4 v.cls.length a4, .slice A5 v.levels.length a5, .int .i64 v.code, .int .i64 v.env] [.int .i64 u.kind, .slice B1 u.items.length b1, .slice B2 u.parts.length b2, .slice B3 u.names.length b3, .slice B4 u.cls.length b4, .slice B5 u.levels.length b5, .int .i64 u.code, .int .i64 u.env] bx [.int .i64 v.kind, .slice X1 v.items.length e1, .slice X2 v.parts.length e2, .slice X3 v.names.length e3, .slice X4 v.cls.length e4, .slice X5 v.levels.length e5, .int .i64 v.code, .int .i64 v.env] p3 (bx + 1) v w4 from h5))
  clear h5 HX
  have hn40 := HLV.out
  generalize hnn : lenV v = n at hn40 hkn ⊢
  have HNN := Lib.hid hnn
  clear hnn
  have hltb := HX5.out.bx.lt
  have hrq := HX5.out.rq
  have hlo := HX5.out.lo
  have hbl := (Below.refl w4.heap.size w4).alloc (Nat.le_refl _) (.cells #[] 9)
  have hE := names_ed (HX5.out.step hbl) (l := []) (m := 0) (T := fun x => x = w4.heap.size) (A' := some ⟨w4.heap.size, 0, none⟩) (c' := 0) (by
    have := txtO_take (W := w4.alloc (.cells #[] 9)) (q := w4.heap.size) [] 0 rfl (Blk.new w4 9 []) 0 (Nat.le_refl _) (by omega) (fun s hs => by cases hs)
    simpa using this) rfl (fun x hx => by subst hx; exact ⟨by omega, by simp, by omega, by omega⟩)
  rw [World.setCell_alloc_past _ _ _ _ hltb] at hE
  have HE := Lib.hid hE
  clear hE hbl
  have C3 := HX5.out.bx.cell 3 _ rfl
  have F3 := HX5.out.bx.frozen 3
  go_upto_region 9 with fail
  clear C3 F3 HX5
  refine gen_w (G := AX w [.int .i64 v.kind, .slice A1 v.items.length a1, .slice A2 v.parts.length a2, .slice A3 v.names.length a3, .slice A4 v.cls.length a4, .slice A5 v.levels.length a5, .int .i64 v.code, .int .i64 v.env] [.int .i64 u.kind, .slice B1 u.items.length b1, .slice B2 u.parts.length b2, .slice B3 u.names.length b3, .slice B4 u.cls.length b4, .slice B5 u.levels.length b5, .int .i64 u.code, .int .i64 u.env] bx [.int .i64 v.kind, .slice X1 v.items.length e1, .slice X2 v.parts.length e2, .slice (some ⟨w4.heap.size, 0, none⟩) 0 0, .slice X4 v.cls.length e4, .slice X5 v.levels.length e5, .int .i64 v.code, .int .i64 v.env] (w.heap.size + 3) (w4.alloc (.cells #[] 9)).heap.size (setN v [])) HE.out ?_
  intro w7 h7
  have HX7 := Lib.hid (AX.rebase (show AX w [.int .i64 v.kind, .slice A1 v.items.length a1, .slice A2 v.parts.length a2, .slice A3 v.names.length a3, .slice A4 v.cls.length a4, .slice A5 v.levels.length a5, .int .i64 v.code, .int .i64 v.env] [.int .i64 u.kind, .slice B1 u.items.length b1, .slice B2 u.parts.length b2, .slice B3 u.names.length b3, .slice B4 u.cls.length b4, .slice B5 u.levels.length b5, .int .i64 u.code, .int .i64 u.env] bx [.int .i64 v.kind, .slice X1 v.items.length e1, .slice X2 v.parts.length e2, .slice (some ⟨w4.heap.size, 0, none⟩) 0 0, .slice X4 v.cls.length e4, .slice X5 v.levels.length e5, .int .i64 v.code, .int .i64 v.env] (w.heap.size + 3) (w4.alloc (.cells #[] 9)).heap.size (setN v []) w7 from h7))
  clear h7 HE
  have HIT := Lib.hid ((vecR_open1 KI.out))
  obtain ⟨A, c, hvv, hlc, hm, HC⟩ := SlR.open_ HIT.out
  injection hvv with q1 q2 q3
  subst q1 q3
  unfold maxLen at hm
  clear q2 HIT
  go_wp2_with fail
  go_loopw [7] (fun i wr => ∃ (k : Nat) (A : Option Addr) (c : Nat), k ≤ n ∧ (u.kind = 0 → k = 0) ∧ i = .int .i64 k ∧ Hid (AX w [.int .i64 v.kind, .slice A1 v.items.length a1, .slice A2 v.parts.length a2, .slice A3 v.names.length a3, .slice A4 v.cls.length a4, .slice A5 v.levels.length a5, .int .i64 v.code, .int .i64 v.env] [.int .i64 u.kind, .slice B1 u.items.length b1, .slice B2 u.parts.length b2, .slice B3 u.names.length b3, .slice B4 u.cls.length b4, .slice B5 u.levels.length b5, .int .i64 u.code, .int .i64 u.env] bx [.int .i64 v.kind, .slice X1 v.items.length e1, .slice X2 v.parts.length e2, .slice A k c, .slice X4 v.cls.length e4, .slice X5 v.levels.length e5, .int .i64 v.code, .int .i64 v.env] (w.heap.size + 3) wr.heap.size (setN v ((padN n u.items).take k)) wr)) (fun i _ => n - (intOf i).toNat)
  case atStart => exact ⟨0, _, _, Nat.zero_le _, fun _ => rfl, rfl, HX7.out⟩
  case round =>
    obtain ⟨k, A, c, hk, hk0, rfl, HX⟩ := hrel
    have x0 := HX.out.ab.bv.cell 0 _ rfl
    have x1 := HX.out.ab.bv.cell 1 _ rfl
    have x2 := HX.out.ab.bv.cell 2 _ rfl
    have x3 := HX.out.ab.bv.cell 3 _ rfl
    have x4 := HX.out.ab.bv.cell 4 _ rfl
    have x5 := HX.out.ab.bv.cell 5 _ rfl
    have x6 := HX.out.ab.bv.cell 6 _ rfl
    have x7 := HX.out.ab.bv.cell 7 _ rfl
    go_wp2_with fail
    refine Calls.mono (spec_l4Len v _ _ (by exact HI.out.below HX.out.ab.bl) (by have := sz_len v; omega)) ?_
    rintro e w8 ⟨rfl, hb⟩
    rw [HNN.out]
    have HX8 := Lib.hid ((HX.out.step hb).rebase)
    clear hb HX x0 x1 x2 x3 x4 x5 x6 x7
    by_cases hlt : k < n ∧ u.kind = 3
    · obtain ⟨hlt, hk3⟩ := hlt
      have HK3 := Lib.hid hk3
      have c3 : (u.kind == 3) = true := by simpa using hk3
      have HK0 := Lib.hid (show u.kind = 0 → k + 1 = 0 from fun h => by omega)
      clear hk3 hk0
      have y0 := HX8.out.ab.bu.cell 0 _ rfl
      have y1 := HX8.out.ab.bu.cell 1 _ rfl
      have hpl : k < (padN n u.items).length := by rw [pad_len]; exact hlt
      have HTK := Lib.hid (List.take_succ_eq_append_getElem hpl)
      have HPT := Lib.hid (pad_at (n := n) (its := u.items) k hpl)
      have HSM := Lib.hid (show ((padN n u.items)[k]).length ≤ 60 from pad_small (fun x hx => text_len HUO.out hkn.1 hx) _ (List.getElem_mem hpl))
      by_cases hi : k < u.items.length
      · obtain ⟨b, off, cs, rfl, hbl, _, hat, hr⟩ := HC.out k hi
        obtain ⟨rfl, hi0, hi1, hi2⟩ := hr
        have p2 : w8.cell? ⟨b, off + k * 3 + 2, none⟩ = some (.string (str u.items[k].text)) := (HX8.out.ab.bl.cell (p := ⟨b, off + k * 3 + 2, none⟩) hbl).trans (hat 2 _ rfl)
        have HTX := Lib.hid (show (padN n u.items)[k] = u.items[k].text by rw [HPT.out, List.getElem?_eq_getElem hi]; rfl)
        clear hat
        obtain ⟨xs, hown, hrow, hpush⟩ := HX8.out.pushN u.items[k].text (by unfold maxLen; have := HSM.out; rw [HTX.out] at this; omega)
        have HPU := Lib.hid hpush
        have HRO := Lib.hid hrow
        have HBX := Lib.hid HX8.out.bx
        have C3 := HX8.out.bx.cell 3 _ rfl
        have hwl : w.heap.size + 3 ≤ w8.heap.size := HX8.out.ab.br.lt
        clear hpush hrow
        go_wp2_with (at_builtin; go_must (refine wpList_push rfl _ _ 26 rfl (w.heap.size + 3) 9 (.string ByteArray.empty) 1 16 Try.underlying26 info_str rfl (by decide) _ _ _ _ _ rfl rfl (by exact hown) rfl (by simp [Value.oneCell']) (by omega) (by omega) hwl ?_); intro v1 w9 ho1 hg1 hk1 hb1; obtain ⟨A9, c9, rfl⟩ := own_shapeN ho1; have HX9 := Lib.hid (HPU.out A9 c9 w9 ho1 hg1 hk1 hb1); have hbx9 : Blk w9 bx 28 [.int .i64 v.kind, .slice X1 v.items.length e1, .slice X2 v.parts.length e2, .slice A k c, .slice X4 v.cls.length e4, .slice X5 v.levels.length e5, .int .i64 v.code, .int .i64 v.env] := (hg1.block bx HBX.out.lt (fun e => HRO.out bx e.symm rfl)).trans HBX.out; have y9 := hbx9.cell 3 _ rfl; have f9 := hbx9.frozen 3; clear ho1 hg1 hk1 hb1 hbx9)
        go_roundw
        case rel =>
          refine ⟨k + 1, A9, c9, hlt, HK0.out, by go_num, ?_⟩
          show AX _ _ _ _ _ _ _ _ _
          rw [HTK.out, HTX.out]
          exact HX9.out.rebase
        case measure => simp [intOf]; omega
      · have HTX := Lib.hid (show (padN n u.items)[k] = [] by rw [HPT.out, List.getElem?_eq_none (by omega)]; rfl)
        obtain ⟨xs, hown, hrow, hpush⟩ := HX8.out.pushN [] (by unfold maxLen; exact Nat.zero_le _)
        have HPU := Lib.hid hpush
        have HRO := Lib.hid hrow
        have HBX := Lib.hid HX8.out.bx
        have C3 := HX8.out.bx.cell 3 _ rfl
        have hwl : w.heap.size + 3 ≤ w8.heap.size := HX8.out.ab.br.lt
        clear hpush hrow
        go_wp2_with (at_builtin; go_must (refine wpList_push rfl _ _ 26 rfl (w.heap.size + 3) 9 (.string ByteArray.empty) 1 16 Try.underlying26 info_str rfl (by decide) _ _ _ _ _ rfl rfl (by exact hown) rfl (by simp [Value.oneCell']) (by omega) (by omega) hwl ?_); intro v1 w9 ho1 hg1 hk1 hb1; obtain ⟨A9, c9, rfl⟩ := own_shapeN ho1; have HX9 := Lib.hid (HPU.out A9 c9 w9 ho1 hg1 hk1 hb1); have hbx9 : Blk w9 bx 28 [.int .i64 v.kind, .slice X1 v.items.length e1, .slice X2 v.parts.length e2, .slice A k c, .slice X4 v.cls.length e4, .slice X5 v.levels.length e5, .int .i64 v.code, .int .i64 v.env] := (hg1.block bx HBX.out.lt (fun e => HRO.out bx e.symm rfl)).trans HBX.out; have y9 := hbx9.cell 3 _ rfl; have f9 := hbx9.frozen 3; clear ho1 hg1 hk1 hb1 hbx9)
        go_roundw
        case rel =>
          refine ⟨k + 1, A9, c9, hlt, HK0.out, by go_num, ?_⟩
          show AX _ _ _ _ _ _ _ _ _
          rw [HTK.out, HTX.out]
          exact HX9.out.rebase
        case measure => simp [intOf]; omega
    · have HNK := Lib.hid (show setN v (tidyN ((padN n u.items).take k)) = setN v (tidyN (padN n u.items)) by
        by_cases hkz : u.kind = 0
        · have h0 : k = 0 := hk0 hkz
          subst h0
          rw [List.take_zero, vecOk_null HUO.out hkz, tidyN_yes (allE_nil n), tidyN_yes (by simp [allE])]
        · have hk3 : u.kind = 3 := hkn.1.resolve_left hkz
          have : k = n := by
            have : ¬ k < n := fun h => hlt ⟨h, hk3⟩
            omega
          subst this
          rw [List.take_of_length_le (by rw [pad_len]; exact Nat.le_refl _)])
      have y0 := HX8.out.ab.bu.cell 0 _ rfl
      have c9 : (decide (k < n) && (u.kind == 3)) = false := by
        by_cases h : k < n
        · have : ¬ u.kind = 3 := fun h3 => hlt ⟨h, h3⟩
          simp [this]
        · simp [h]
      have FIN := Lib.hid (show ∀ W, AX w [.int .i64 v.kind, .slice A1 v.items.length a1, .slice A2 v.parts.length a2, .slice A3 v.names.length a3, .slice A4 v.cls.length a4, .slice A5 v.levels.length a5, .int .i64 v.code, .int .i64 v.env] [.int .i64 u.kind, .slice B1 u.items.length b1, .slice B2 u.parts.length b2, .slice B3 u.names.length b3, .slice B4 u.cls.length b4, .slice B5 u.levels.length b5, .int .i64 u.code, .int .i64 u.env] bx [.int .i64 v.kind, .slice X1 v.items.length e1, .slice X2 v.parts.length e2, .slice A k c, .slice X4 v.cls.length e4, .slice X5 v.levels.length e5, .int .i64 v.code, .int .i64 v.env] (w.heap.size + 3) W.heap.size (setN v ((padN n u.items).take k)) W → True from fun _ _ => trivial)
      by_cases hltn : k < n
      · have c3 : (u.kind == 3) = false := by simpa [hltn] using c9
        clear hlt c9
        have C0 := HX8.out.bx.cell 0 _ rfl
        have C1 := HX8.out.bx.cell 1 _ rfl
        have C2 := HX8.out.bx.cell 2 _ rfl
        have C3 := HX8.out.bx.cell 3 _ rfl
        have C4 := HX8.out.bx.cell 4 _ rfl
        have C5 := HX8.out.bx.cell 5 _ rfl
        have C6 := HX8.out.bx.cell 6 _ rfl
        have C7 := HX8.out.bx.cell 7 _ rfl
        go_wp2_with fail
        refine Calls.mono (spec_l4Clean (setN v ((padN n u.items).take k)) _ _ HX8.out.st.read) ?_
        intro e w9 hr
        obtain ⟨cs9, rfl, hb, hV9⟩ := clean_own HX8.out.st (fun x hx => Nat.lt_of_lt_of_le hx.1.2 HX8.out.qs) hr
        obtain ⟨Y1, g1, Y2, g2, Y3, g3, Y4, g4, Y5, g5, hcs⟩ := hV9.shape
        replace hcs : cs9 = [.int .i64 v.kind, .slice Y1 v.items.length g1, .slice Y2 v.parts.length g2, .slice Y3 (tidyN ((padN n u.items).take k)).length g3, .slice Y4 v.cls.length g4, .slice Y5 v.levels.length g5, .int .i64 v.code, .int .i64 v.env] := hcs
        subst hcs
        have HB9 := Lib.hid (HX8.out.ab.step hb)
        have hs9 := hb.size
        have hr8 := HX8.out.ab.br.lt
        have HFV := Lib.hid (show VecO (Rng (w.heap.size + 3) w9.heap.size) w9 [.int .i64 v.kind, .slice Y1 v.items.length g1, .slice Y2 v.parts.length g2, .slice Y3 (tidyN ((padN n u.items).take k)).length g3, .slice Y4 v.cls.length g4, .slice Y5 v.levels.length g5, .int .i64 v.code, .int .i64 v.env] (setN v (tidyN ((padN n u.items).take k))) from (show VecO _ w9 [.int .i64 v.kind, .slice Y1 v.items.length g1, .slice Y2 v.parts.length g2, .slice Y3 (tidyN ((padN n u.items).take k)).length g3, .slice Y4 v.cls.length g4, .slice Y5 v.levels.length g5, .int .i64 v.code, .int .i64 v.env] (setN v (tidyN ((padN n u.items).take k))) from hV9).mono fun x hx => by
          rcases hx with hx | hx
          · exact ⟨hx.1.1, by have := hx.1.2; omega⟩
          · exact ⟨by have := hx.1; omega, hx.2⟩)
        clear hb hr hV9 C0 C1 C2 C3 C4 C5 C6 C7
        have r0 := HB9.out.br.cell 0 _ rfl
        have r1 := HB9.out.br.cell 1 _ rfl
        have r2 := HB9.out.br.cell 2 _ rfl
        have r3 := HB9.out.br.cell 3 _ rfl
        have r4 := HB9.out.br.cell 4 _ rfl
        have r5 := HB9.out.br.cell 5 _ rfl
        have r6 := HB9.out.br.cell 6 _ rfl
        have r7 := HB9.out.br.cell 7 _ rfl
        have z0 := HB9.out.br.frozen 0
        have z1 := HB9.out.br.frozen 1
        have z2 := HB9.out.br.frozen 2
        have z3 := HB9.out.br.frozen 3
        have z4 := HB9.out.br.frozen 4
        have z5 := HB9.out.br.frozen 5
        have z6 := HB9.out.br.frozen 6
        have z7 := HB9.out.br.frozen 7
        go_wp2_with fail
        rw [HV.out, HNN.out, ← HNK.out]
        have hkF := Keeps.sc (b := w.heap.size + 2) (o := 7) (Keeps.sc (b := w.heap.size + 2) (o := 6) (Keeps.sc (b := w.heap.size + 2) (o := 5) (Keeps.sc (b := w.heap.size + 2) (o := 4) (Keeps.sc (b := w.heap.size + 2) (o := 3) (Keeps.sc (b := w.heap.size + 2) (o := 2) (Keeps.sc (b := w.heap.size + 2) (o := 1) (Keeps.sc (b := w.heap.size + 2) (o := 0) (Keeps.refl (fun x => x ≠ w.heap.size + 2) w9) (by simp) (.int .i64 v.kind)) (by simp) (.slice Y1 v.items.length g1)) (by simp) (.slice Y2 v.parts.length g2)) (by simp) (.slice Y3 (tidyN ((padN n u.items).take k)).length g3)) (by simp) (.slice Y4 v.cls.length g4)) (by simp) (.slice Y5 v.levels.length g5)) (by simp) (.int .i64 v.code)) (by simp) (.int .i64 v.env)
        have hbF := below_sc (b := w.heap.size + 2) (o := 7) (below_sc (b := w.heap.size + 2) (o := 6) (below_sc (b := w.heap.size + 2) (o := 5) (below_sc (b := w.heap.size + 2) (o := 4) (below_sc (b := w.heap.size + 2) (o := 3) (below_sc (b := w.heap.size + 2) (o := 2) (below_sc (b := w.heap.size + 2) (o := 1) (below_sc (b := w.heap.size + 2) (o := 0) (Below.refl w.heap.size w9) (by omega) (.int .i64 v.kind)) (by omega) (.slice Y1 v.items.length g1)) (by omega) (.slice Y2 v.parts.length g2)) (by omega) (.slice Y3 (tidyN ((padN n u.items).take k)).length g3)) (by omega) (.slice Y4 v.cls.length g4)) (by omega) (.slice Y5 v.levels.length g5)) (by omega) (.int .i64 v.code)) (by omega) (.int .i64 v.env)
        exact bodyPost_ret (v := .tuple #[.agg #[.int .i64 v.kind, .slice Y1 v.items.length g1, .slice Y2 v.parts.length g2, .slice Y3 (tidyN ((padN n u.items).take k)).length g3, .slice Y4 v.cls.length g4, .slice Y5 v.levels.length g5, .int .i64 v.code, .int .i64 v.env], .string (str [])]) (by simp [results, Try.results9, go_sem, r0, r1, r2, r3, r4, r5, r6, r7, str]; try rfl) rfl ⟨[.int .i64 v.kind, .slice Y1 v.items.length g1, .slice Y2 v.parts.length g2, .slice Y3 (tidyN ((padN n u.items).take k)).length g3, .slice Y4 v.cls.length g4, .slice Y5 v.levels.length g5, .int .i64 v.code, .int .i64 v.env], rfl, (HFV.out.keeps (hkF.mono fun x hx => by have := hx.1; omega)).mono fun x hx => ⟨by have := hx.1; omega, Nat.lt_of_lt_of_le hx.2 hkF.1⟩, HB9.out.bl.trans hbF⟩
      · clear hlt c9
        have C0 := HX8.out.bx.cell 0 _ rfl
        have C1 := HX8.out.bx.cell 1 _ rfl
        have C2 := HX8.out.bx.cell 2 _ rfl
        have C3 := HX8.out.bx.cell 3 _ rfl
        have C4 := HX8.out.bx.cell 4 _ rfl
        have C5 := HX8.out.bx.cell 5 _ rfl
        have C6 := HX8.out.bx.cell 6 _ rfl
        have C7 := HX8.out.bx.cell 7 _ rfl
        go_wp2_with fail
        refine Calls.mono (spec_l4Clean (setN v ((padN n u.items).take k)) _ _ HX8.out.st.read) ?_
        intro e w9 hr
        obtain ⟨cs9, rfl, hb, hV9⟩ := clean_own HX8.out.st (fun x hx => Nat.lt_of_lt_of_le hx.1.2 HX8.out.qs) hr
        obtain ⟨Y1, g1, Y2, g2, Y3, g3, Y4, g4, Y5, g5, hcs⟩ := hV9.shape
        replace hcs : cs9 = [.int .i64 v.kind, .slice Y1 v.items.length g1, .slice Y2 v.parts.length g2, .slice Y3 (tidyN ((padN n u.items).take k)).length g3, .slice Y4 v.cls.length g4, .slice Y5 v.levels.length g5, .int .i64 v.code, .int .i64 v.env] := hcs
        subst hcs
        have HB9 := Lib.hid (HX8.out.ab.step hb)
        have hs9 := hb.size
        have hr8 := HX8.out.ab.br.lt
        have HFV := Lib.hid (show VecO (Rng (w.heap.size + 3) w9.heap.size) w9 [.int .i64 v.kind, .slice Y1 v.items.length g1, .slice Y2 v.parts.length g2, .slice Y3 (tidyN ((padN n u.items).take k)).length g3, .slice Y4 v.cls.length g4, .slice Y5 v.levels.length g5, .int .i64 v.code, .int .i64 v.env] (setN v (tidyN ((padN n u.items).take k))) from (show VecO _ w9 [.int .i64 v.kind, .slice Y1 v.items.length g1, .slice Y2 v.parts.length g2, .slice Y3 (tidyN ((padN n u.items).take k)).length g3, .slice Y4 v.cls.length g4, .slice Y5 v.levels.length g5, .int .i64 v.code, .int .i64 v.env] (setN v (tidyN ((padN n u.items).take k))) from hV9).mono fun x hx => by
          rcases hx with hx | hx
          · exact ⟨hx.1.1, by have := hx.1.2; omega⟩
          · exact ⟨by have := hx.1; omega, hx.2⟩)
        clear hb hr hV9 C0 C1 C2 C3 C4 C5 C6 C7
        have r0 := HB9.out.br.cell 0 _ rfl
        have r1 := HB9.out.br.cell 1 _ rfl
        have r2 := HB9.out.br.cell 2 _ rfl
        have r3 := HB9.out.br.cell 3 _ rfl
        have r4 := HB9.out.br.cell 4 _ rfl
        have r5 := HB9.out.br.cell 5 _ rfl
        have r6 := HB9.out.br.cell 6 _ rfl
        have r7 := HB9.out.br.cell 7 _ rfl
        have z0 := HB9.out.br.frozen 0
        have z1 := HB9.out.br.frozen 1
        have z2 := HB9.out.br.frozen 2
        have z3 := HB9.out.br.frozen 3
        have z4 := HB9.out.br.frozen 4
        have z5 := HB9.out.br.frozen 5
        have z6 := HB9.out.br.frozen 6
        have z7 := HB9.out.br.frozen 7
        go_wp2_with fail
        rw [HV.out, HNN.out, ← HNK.out]
        have hkF := Keeps.sc (b := w.heap.size + 2) (o := 7) (Keeps.sc (b := w.heap.size + 2) (o := 6) (Keeps.sc (b := w.heap.size + 2) (o := 5) (Keeps.sc (b := w.heap.size + 2) (o := 4) (Keeps.sc (b := w.heap.size + 2) (o := 3) (Keeps.sc (b := w.heap.size + 2) (o := 2) (Keeps.sc (b := w.heap.size + 2) (o := 1) (Keeps.sc (b := w.heap.size + 2) (o := 0) (Keeps.refl (fun x => x ≠ w.heap.size + 2) w9) (by simp) (.int .i64 v.kind)) (by simp) (.slice Y1 v.items.length g1)) (by simp) (.slice Y2 v.parts.length g2)) (by simp) (.slice Y3 (tidyN ((padN n u.items).take k)).length g3)) (by simp) (.slice Y4 v.cls.length g4)) (by simp) (.slice Y5 v.levels.length g5)) (by simp) (.int .i64 v.code)) (by simp) (.int .i64 v.env)
        have hbF := below_sc (b := w.heap.size + 2) (o := 7) (below_sc (b := w.heap.size + 2) (o := 6) (below_sc (b := w.heap.size + 2) (o := 5) (below_sc (b := w.heap.size + 2) (o := 4) (below_sc (b := w.heap.size + 2) (o := 3) (below_sc (b := w.heap.size + 2) (o := 2) (below_sc (b := w.heap.size + 2) (o := 1) (below_sc (b := w.heap.size + 2) (o := 0) (Below.refl w.heap.size w9) (by omega) (.int .i64 v.kind)) (by omega) (.slice Y1 v.items.length g1)) (by omega) (.slice Y2 v.parts.length g2)) (by omega) (.slice Y3 (tidyN ((padN n u.items).take k)).length g3)) (by omega) (.slice Y4 v.cls.length g4)) (by omega) (.slice Y5 v.levels.length g5)) (by omega) (.int .i64 v.code)) (by omega) (.int .i64 v.env)
        exact bodyPost_ret (v := .tuple #[.agg #[.int .i64 v.kind, .slice Y1 v.items.length g1, .slice Y2 v.parts.length g2, .slice Y3 (tidyN ((padN n u.items).take k)).length g3, .slice Y4 v.cls.length g4, .slice Y5 v.levels.length g5, .int .i64 v.code, .int .i64 v.env], .string (str [])]) (by simp [results, Try.results9, go_sem, r0, r1, r2, r3, r4, r5, r6, r7, str]; try rfl) rfl ⟨[.int .i64 v.kind, .slice Y1 v.items.length g1, .slice Y2 v.parts.length g2, .slice Y3 (tidyN ((padN n u.items).take k)).length g3, .slice Y4 v.cls.length g4, .slice Y5 v.levels.length g5, .int .i64 v.code, .int .i64 v.env], rfl, (HFV.out.keeps (hkF.mono fun x hx => by have := hx.1; omega)).mono fun x hx => ⟨by have := hx.1; omega, Nat.lt_of_lt_of_le hx.2 hkF.1⟩, HB9.out.bl.trans hbF⟩
end Go.Proofs.Ytjdimlhdkmkmbaa
