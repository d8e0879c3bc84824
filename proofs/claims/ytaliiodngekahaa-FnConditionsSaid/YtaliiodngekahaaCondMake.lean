/-
  Contracts: MakeCondition, of the program and of the reference.
-/
import Derived.Test.YtaliiodngekahaaTextVec
namespace Go.Proofs.Ytaliiodngekahaa
set_option maxRecDepth 100000
open Go.ChangeShapes Go.WideShapes Go.ChangeAt Go.RowKit Go.Deep
set_option linter.unusedVariables false

def sMessage : List UInt8 := [109, 101, 115, 115, 97, 103, 101]
def sCondition : List UInt8 := [99, 111, 110, 100, 105, 116, 105, 111, 110]
def condD (c m : List UInt8) : VecD := .mk 4 [] [textV1 (m.take 60)] [sMessage] [c, sCondition] [] 0 0
def zeroD : VecD := .mk 0 [] [] [] [] [] 0 0
def condV (c m : List UInt8) : VecD := if vecOk (condD c m) = true then condD c m else zeroD
theorem cut60 (m : List UInt8) (h : 60 < m.length) : (str m).extract 0 60 = str (m.take 60) := by
  apply ByteArray.ext
  simp [str]

theorem zeroO (S : Nat → Prop) (w : World) : VecO S w zC zeroD :=
  ⟨1, none, 0, none, 0, none, 0, none, 0, none, 0, fun _ => 0, rfl, i64_0, SlO.nil_ _ _ _ _ _, SlO.nil_ _ _ _ _ _, ⟨FlO.nil_ _ _ _ _, fun _ h => by cases h⟩, ⟨FlO.nil_ _ _ _ _, fun _ h => by cases h⟩, ⟨FlO.nil_ _ _ _ _, fun _ h => by cases h⟩, i64_0, i64_0⟩

/-- the parts of a condition in memory -/
structure CS (w : World) (c m : List UInt8) (ts : List Value) (b2 : Nat) (W : World) : Prop where
  r : Blk W w.heap.size 39 zC
  text : VecO (Rng (w.heap.size + 1) b2) W ts (textV1 m)
  p : Blk W b2 39 ts
  n : Blk W (b2 + 1) 9 [.string (str sMessage)]
  k : Blk W (b2 + 1 + 1) 9 [.string (str c), .string (str sCondition)]
  o : Blk W (b2 + 1 + 1 + 1) 39 [.int .i64 4, .slice none 0 0, .slice (some ⟨b2, 0, none⟩) 1 1, .slice (some ⟨b2 + 1, 0, none⟩) 1 1, .slice (some ⟨b2 + 1 + 1, 0, none⟩) 2 2, .slice none 0 0, .int .i64 0, .int .i64 0]
  lo : w.heap.size + 1 ≤ b2
  below : Below w.heap.size w W
theorem CS.step {w : World} {c m : List UInt8} {ts : List Value} {b2 : Nat} {W W' : World} (h : CS w c m ts b2 W) (hb : Below W.heap.size W W') : CS w c m ts b2 W' :=
  ⟨h.r.below hb, h.text.keeps (Keeps.of_below _ hb), h.p.below hb, h.n.below hb, h.k.below hb, h.o.below hb, h.lo, h.below.trans (hb.mono h.below.size)⟩
theorem Blk.own {W : World} {g : Nat} {e : TypeId} {cs : List Value} {size n : Nat} (h : Blk W g e cs) (hl : cs.length = n * size) (hn : n ≤ maxLen) : W.ownsRow 0 e size (.slice (some ⟨g, 0, none⟩) n n) n cs :=
  ⟨hl, .inr ⟨g, n, cs.toArray, rfl, Nat.zero_le _, h, Nat.le_refl _, hn, by simpa using hl, by rw [← hl]; simp⟩⟩
theorem CS.vec {w : World} {c m : List UInt8} {ts : List Value} {b2 : Nat} {W : World} (h : CS w c m ts b2 W) (hc : c.length ≤ maxLen) {W' : World} (hk : Keeps (fun b => b ≠ w.heap.size) W W') :
    VecO (Rng w.heap.size W'.heap.size) W' [.int .i64 4, .slice none 0 0, .slice (some ⟨b2, 0, none⟩) 1 1, .slice (some ⟨b2 + 1, 0, none⟩) 1 1, .slice (some ⟨b2 + 1 + 1, 0, none⟩) 2 2, .slice none 0 0, .int .i64 0, .int .i64 0] (.mk 4 [] [textV1 m] [sMessage] [c, sCondition] [] 0 0) := by
  have hz := hk.1
  have hlo := h.lo
  have ho := h.o.lt
  have tl := h.text.length
  obtain ⟨q, ht⟩ := h.text
  have hp := (h.p.own (n := 1) (size := 8) (by rw [tl]) (by unfold maxLen; omega))
  have hn := (h.n.own (n := 1) (size := 1) rfl (by unfold maxLen; omega))
  have hq := (h.k.own (n := 2) (size := 1) rfl (by unfold maxLen; omega))
  have mv : ∀ {e size n v xs}, W.ownsRow 0 e size v n xs → (∀ g, v.ownBlock = some g → g ≠ w.heap.size) → W'.ownsRow 0 e size v n xs := fun ho hg => (FlO.keeps (S := fun b => b ≠ w.heap.size) ⟨ho, hg⟩ hk).1
  have ob : ∀ (g k : Nat) (n : Nat), (Value.slice (some ⟨g, 0, none⟩) n n).ownBlock = some k → k = g := fun g k n h => by simp only [Value.ownBlock, Option.some.injEq] at h; exact h.symm
  refine ⟨q + 1, none, 0, some ⟨b2, 0, none⟩, 1, some ⟨b2 + 1, 0, none⟩, 1, some ⟨b2 + 1 + 1, 0, none⟩, 2, none, 0, fun b => if b = b2 + 1 then 3 else if b = b2 + 1 + 1 then 4 else 2, rfl, i64_4, SlO.nil_ _ _ _ _ _, ⟨[ts], fun b => if b = b2 then 0 else 1, rfl, fun k h1 h2 => ?_, ?_, ?_⟩, ⟨⟨?_, ?_⟩, ?_⟩, ⟨⟨?_, ?_⟩, ?_⟩, ⟨FlO.nil_ _ _ _ _, fun _ h => by cases h⟩, i64_0, i64_0⟩
  · have : k = 0 := by simp at h1; omega
    subst this
    refine ⟨tl, (ht.keeps (hk.mono fun b hb => ?_)).mono fun b hb => ?_⟩
    · have := hb.1; omega
    · obtain ⟨h5, h6⟩ := hb
      exact ⟨⟨⟨by omega, by omega⟩, by dsimp only; rw [if_neg (by omega), if_neg (by omega)]⟩, by dsimp only; rw [if_neg (by omega)]⟩
  · have h9 := mv hp (fun g hg => by have := ob _ _ _ hg; omega)
    rw [show [ts].flatten = ts by simp]
    exact h9
  · intro k hk'
    have := ob _ _ _ hk'
    subst this
    exact ⟨⟨⟨by omega, by omega⟩, by dsimp only; rw [if_neg (by omega), if_neg (by omega)]⟩, by dsimp only; rw [if_pos rfl]⟩
  · exact mv hn (fun g hg => by have := ob _ _ _ hg; omega)
  · intro k hk'
    have := ob _ _ _ hk'
    subst this
    exact ⟨⟨by omega, by omega⟩, by dsimp only; rw [if_pos rfl]⟩
  · intro s hs
    rw [List.mem_singleton.1 hs]
    unfold maxLen sMessage; decide
  · exact mv hq (fun g hg => by have := ob _ _ _ hg; omega)
  · intro k hk'
    have := ob _ _ _ hk'
    subst this
    exact ⟨⟨by omega, by omega⟩, by dsimp only; rw [if_neg (by omega), if_pos rfl]⟩
  · intro s hs
    rcases List.mem_cons.1 hs with rfl | hs
    · exact hc
    · rw [List.mem_singleton.1 hs]
      unfold maxLen sCondition; decide
theorem CS.made {w w1 : World} {c m : List UInt8} {ts : List Value} (hr : Blk w1 w.heap.size 39 zC) (ht : VecO (Rng (w.heap.size + 1) w1.heap.size) w1 ts (textV1 m)) (hlo : w.heap.size + 1 ≤ w1.heap.size) (hb : Below w.heap.size w w1) :
    CS w c m ts w1.heap.size ((((w1.alloc (.cells ts.toArray 39)).alloc (.cells [.string (str sMessage)].toArray 9)).alloc (.cells [.string (str c), .string (str sCondition)].toArray 9)).alloc (.cells [.int .i64 4, .slice none 0 0, .slice (some ⟨w1.heap.size, 0, none⟩) 1 1, .slice (some ⟨w1.heap.size + 1, 0, none⟩) 1 1, .slice (some ⟨w1.heap.size + 1 + 1, 0, none⟩) 2 2, .slice none 0 0, .int .i64 0, .int .i64 0].toArray 39)) := by
  have b1 : Below w1.heap.size w1 ((((w1.alloc (.cells ts.toArray 39)).alloc (.cells [.string (str sMessage)].toArray 9)).alloc (.cells [.string (str c), .string (str sCondition)].toArray 9)).alloc (.cells [.int .i64 4, .slice none 0 0, .slice (some ⟨w1.heap.size, 0, none⟩) 1 1, .slice (some ⟨w1.heap.size + 1, 0, none⟩) 1 1, .slice (some ⟨w1.heap.size + 1 + 1, 0, none⟩) 2 2, .slice none 0 0, .int .i64 0, .int .i64 0].toArray 39)) :=
    ((((Below.refl _ _).alloc (Nat.le_refl _) _).alloc (by simp) _).alloc (by simp; omega) _).alloc (by simp; omega) _
  exact ⟨hr.below b1, ht.keeps (Keeps.of_below _ b1), (((Blk.new w1 _ ts).alloc _).alloc _).alloc _, ((Blk.new_at _ _ _ _ (by simp)).alloc _).alloc _, (Blk.new_at _ _ _ _ (by simp)).alloc _, Blk.new_at _ _ _ _ (by simp), hlo, hb.trans (b1.mono hb.size)⟩
theorem txt1 (W : World) (s : List UInt8) (hs : s.length ≤ maxLen) (g : Nat) (hg : g = W.heap.size) : Txts (W.alloc (.cells #[.string (str s)] 9)) (.slice (some ⟨g, 0, none⟩) 1 1) [s] := by
  subst hg
  exact Txts.of_own (l := [s]) (base := 0) ((Blk.new W 9 [.string (str s)]).own (n := 1) (size := 1) rfl (by unfold maxLen; omega)) (fun x hx => by rw [List.mem_singleton.1 hx]; exact hs)
theorem sz_condD (c m : List UInt8) (hc : c.length ≤ 1048576) : szVector (condD c m) ≤ 1000000000000 := by
  have h1 : (m.take 60).length ≤ 60 := List.length_take_le _ _
  rw [szVector_eq]
  simp only [condD, VecD.items, VecD.parts, VecD.names, VecD.cls, VecD.levels, szS, szL, List.map_cons, List.map_nil, List.length_cons, List.length_nil, List.sum_cons, List.sum_nil, szTextV1, sMessage, sCondition]
  omega

set_option maxHeartbeats 1000000 in
theorem impl_MakeCondition (c m : List UInt8) (hc : c.length ≤ 1048576) (hm : m.length ≤ 1048576) (w : World) :
    Calls Try.prog 13 #[.string (str c), .string (str m)] w (RetVec w (condV c m)) := by
  have hml : (m.take 60).length ≤ 60 := List.length_take_le _ _
  have hcl : c.length ≤ maxLen := by unfold maxLen; omega
  have hmx : (m.take 60).length ≤ maxLen := by unfold maxLen; omega
  have HR := Lib.hid (Blk.new w 39 zC)
  obtain ⟨m0, hm0, hw⟩ : ∃ m0, m0 = m.take 60 ∧ ((60 < m.length ∧ (str m).extract 0 60 = str m0) ∨ (¬ 60 < m.length ∧ m = m0)) := by
    refine ⟨_, rfl, ?_⟩
    by_cases h60 : 60 < m.length
    · exact .inl ⟨h60, cut60 m h60⟩
    · exact .inr ⟨h60, (List.take_of_length_le (by omega)).symm⟩
  rw [← hm0] at hml hmx
  have HM0 := Lib.hid hm0
  clear hm0
  rcases hw with ⟨h60, hcut⟩ | ⟨h60, hmm⟩
  · clear hm
    go_enter Try.func13, Try.ntmps13
    go_wp2_with fail
    refine Calls.mono (impl_TextVector1 m0 hml _ _ (txt1 _ _ hmx _ (by simp))) ?_
    rintro e w1 ⟨ts, rfl, hv, hb⟩
    obtain ⟨A1, c1, A2, c2, A3, c3, A4, c4, A5, c5, rfl⟩ := hv.shape
    have hz : w.heap.size + 2 ≤ w1.heap.size := by have := hb.size; simp at this; omega
    have HCM := Lib.hid (CS.made (c := c) ((HR.out.alloc (.cells #[.string (str m0)] 9)).below hb) (hv.mono fun b hb => ⟨by have := hb.1; simp at this; omega, hb.2⟩) (by omega) ((((Below.refl w.heap.size w).alloc (Nat.le_refl _) _).alloc (by simp) _).trans (hb.mono (by simp; omega))))
    clear hv hb
    go_wp2_with fail
    have HE := Lib.hid (show condD c m = .mk 4 [] [textV1 m0] [sMessage] [c, sCondition] [] 0 0 by rw [HM0.out]; rfl)
    refine abs_w (fun W => CS w c m0 [.int .i64 (textV1 m0).kind, .slice A1 (textV1 m0).items.length c1, .slice A2 (textV1 m0).parts.length c2, .slice A3 (textV1 m0).names.length c3, .slice A4 (textV1 m0).cls.length c4, .slice A5 (textV1 m0).levels.length c5, .int .i64 (textV1 m0).code, .int .i64 (textV1 m0).env] w1.heap.size W) (by exact HCM.out) ?_
    rintro W5 hC
    have HC := Lib.hid hC
    clear hC HCM
    cases hv : vecOk (condD c m)
    · have HV := Lib.hid hv
      have HD := Lib.hid (show condV c m = zeroD by unfold condV; rw [hv]; rfl)
      clear hv
      refine Calls.mono (impl_IsVector (condD c m) _ _ (by rw [HE.out]; exact (HC.out.vec hcl (Keeps.refl _ _)).read) (sz_condD c m hc)) ?_
      rintro e w5 ⟨rfl, hb5⟩
      rw [HV.out]
      have HC5 := Lib.hid (HC.out.step hb5)
      clear hb5
      have r0 : w5.cell? ⟨w.heap.size, 0, none⟩ = some (.int .i64 0) := HC5.out.r.cell 0 _ rfl
      have r1 : w5.cell? ⟨w.heap.size, 1, none⟩ = some (.slice none 0 0) := HC5.out.r.cell 1 _ rfl
      have r2 : w5.cell? ⟨w.heap.size, 2, none⟩ = some (.slice none 0 0) := HC5.out.r.cell 2 _ rfl
      have r3 : w5.cell? ⟨w.heap.size, 3, none⟩ = some (.slice none 0 0) := HC5.out.r.cell 3 _ rfl
      have r4 : w5.cell? ⟨w.heap.size, 4, none⟩ = some (.slice none 0 0) := HC5.out.r.cell 4 _ rfl
      have r5 : w5.cell? ⟨w.heap.size, 5, none⟩ = some (.slice none 0 0) := HC5.out.r.cell 5 _ rfl
      have r6 : w5.cell? ⟨w.heap.size, 6, none⟩ = some (.int .i64 0) := HC5.out.r.cell 6 _ rfl
      have r7 : w5.cell? ⟨w.heap.size, 7, none⟩ = some (.int .i64 0) := HC5.out.r.cell 7 _ rfl
      have z0 := HC5.out.r.frozen 0
      have z1 := HC5.out.r.frozen 1
      have z2 := HC5.out.r.frozen 2
      have z3 := HC5.out.r.frozen 3
      have z4 := HC5.out.r.frozen 4
      have z5 := HC5.out.r.frozen 5
      have z6 := HC5.out.r.frozen 6
      have z7 := HC5.out.r.frozen 7
      go_wp2_with fail
      refine bodyPost_ret (v := .agg #[.int .i64 0, .slice none 0 0, .slice none 0 0, .slice none 0 0, .slice none 0 0, .slice none 0 0, .int .i64 0, .int .i64 0]) (by simp [results, Try.results13, go_sem, r0, r1, r2, r3, r4, r5, r6, r7]) rfl ?_
      have hbF := below_sc (b := w.heap.size) (o := 7) (below_sc (b := w.heap.size) (o := 6) (below_sc (b := w.heap.size) (o := 5) (below_sc (b := w.heap.size) (o := 4) (below_sc (b := w.heap.size) (o := 3) (below_sc (b := w.heap.size) (o := 2) (below_sc (b := w.heap.size) (o := 1) (below_sc (b := w.heap.size) (o := 0) (HC5.out.below) (Nat.le_refl _) (.int .i64 0)) (Nat.le_refl _) (.slice none 0 0)) (Nat.le_refl _) (.slice none 0 0)) (Nat.le_refl _) (.slice none 0 0)) (Nat.le_refl _) (.slice none 0 0)) (Nat.le_refl _) (.slice none 0 0)) (Nat.le_refl _) (.int .i64 0)) (Nat.le_refl _) (.int .i64 0)
      exact ⟨zC, rfl, by rw [HD.out]; exact zeroO _ _, hbF⟩
    · have HV := Lib.hid hv
      have HD := Lib.hid (show condV c m = condD c m by unfold condV; rw [hv]; rfl)
      clear hv
      refine Calls.mono (impl_IsVector (condD c m) _ _ (by rw [HE.out]; exact (HC.out.vec hcl (Keeps.refl _ _)).read) (sz_condD c m hc)) ?_
      rintro e w5 ⟨rfl, hb5⟩
      rw [HV.out]
      have HC5 := Lib.hid (HC.out.step hb5)
      clear hb5
      have r0 : w5.cell? ⟨w.heap.size, 0, none⟩ = some (.int .i64 0) := HC5.out.r.cell 0 _ rfl
      have r1 : w5.cell? ⟨w.heap.size, 1, none⟩ = some (.slice none 0 0) := HC5.out.r.cell 1 _ rfl
      have r2 : w5.cell? ⟨w.heap.size, 2, none⟩ = some (.slice none 0 0) := HC5.out.r.cell 2 _ rfl
      have r3 : w5.cell? ⟨w.heap.size, 3, none⟩ = some (.slice none 0 0) := HC5.out.r.cell 3 _ rfl
      have r4 : w5.cell? ⟨w.heap.size, 4, none⟩ = some (.slice none 0 0) := HC5.out.r.cell 4 _ rfl
      have r5 : w5.cell? ⟨w.heap.size, 5, none⟩ = some (.slice none 0 0) := HC5.out.r.cell 5 _ rfl
      have r6 : w5.cell? ⟨w.heap.size, 6, none⟩ = some (.int .i64 0) := HC5.out.r.cell 6 _ rfl
      have r7 : w5.cell? ⟨w.heap.size, 7, none⟩ = some (.int .i64 0) := HC5.out.r.cell 7 _ rfl
      have z0 := HC5.out.r.frozen 0
      have z1 := HC5.out.r.frozen 1
      have z2 := HC5.out.r.frozen 2
      have z3 := HC5.out.r.frozen 3
      have z4 := HC5.out.r.frozen 4
      have z5 := HC5.out.r.frozen 5
      have z6 := HC5.out.r.frozen 6
      have z7 := HC5.out.r.frozen 7
      have y0 := HC5.out.o.cell 0 _ rfl
      have y1 := HC5.out.o.cell 1 _ rfl
      have y2 := HC5.out.o.cell 2 _ rfl
      have y3 := HC5.out.o.cell 3 _ rfl
      have y4 := HC5.out.o.cell 4 _ rfl
      have y5 := HC5.out.o.cell 5 _ rfl
      have y6 := HC5.out.o.cell 6 _ rfl
      have y7 := HC5.out.o.cell 7 _ rfl
      go_wp2_with fail
      refine bodyPost_ret (v := .agg #[.int .i64 4, .slice none 0 0, .slice (some ⟨w1.heap.size, 0, none⟩) 1 1, .slice (some ⟨w1.heap.size + 1, 0, none⟩) 1 1, .slice (some ⟨w1.heap.size + 1 + 1, 0, none⟩) 2 2, .slice none 0 0, .int .i64 0, .int .i64 0]) (by simp [results, Try.results13, go_sem, r0, r1, r2, r3, r4, r5, r6, r7]) rfl ?_
      have hkF := Keeps.sc (b := w.heap.size) (o := 7) (Keeps.sc (b := w.heap.size) (o := 6) (Keeps.sc (b := w.heap.size) (o := 5) (Keeps.sc (b := w.heap.size) (o := 4) (Keeps.sc (b := w.heap.size) (o := 3) (Keeps.sc (b := w.heap.size) (o := 2) (Keeps.sc (b := w.heap.size) (o := 1) (Keeps.sc (b := w.heap.size) (o := 0) (Keeps.refl (fun b => b ≠ w.heap.size) w5) (by simp) (.int .i64 4)) (by simp) (.slice none 0 0)) (by simp) (.slice (some ⟨w1.heap.size, 0, none⟩) 1 1)) (by simp) (.slice (some ⟨w1.heap.size + 1, 0, none⟩) 1 1)) (by simp) (.slice (some ⟨w1.heap.size + 1 + 1, 0, none⟩) 2 2)) (by simp) (.slice none 0 0)) (by simp) (.int .i64 0)) (by simp) (.int .i64 0)
      have hbF := below_sc (b := w.heap.size) (o := 7) (below_sc (b := w.heap.size) (o := 6) (below_sc (b := w.heap.size) (o := 5) (below_sc (b := w.heap.size) (o := 4) (below_sc (b := w.heap.size) (o := 3) (below_sc (b := w.heap.size) (o := 2) (below_sc (b := w.heap.size) (o := 1) (below_sc (b := w.heap.size) (o := 0) (HC5.out.below) (Nat.le_refl _) (.int .i64 4)) (Nat.le_refl _) (.slice none 0 0)) (Nat.le_refl _) (.slice (some ⟨w1.heap.size, 0, none⟩) 1 1)) (Nat.le_refl _) (.slice (some ⟨w1.heap.size + 1, 0, none⟩) 1 1)) (Nat.le_refl _) (.slice (some ⟨w1.heap.size + 1 + 1, 0, none⟩) 2 2)) (Nat.le_refl _) (.slice none 0 0)) (Nat.le_refl _) (.int .i64 0)) (Nat.le_refl _) (.int .i64 0)
      exact ⟨_, rfl, by rw [HD.out, HE.out]; exact HC5.out.vec hcl hkF, hbF⟩
  · rw [show str m = str m0 by rw [hmm]]
    have h61 : ¬ 60 < m0.length := by rw [← hmm]; exact h60
    clear h60 hmm hm
    go_enter Try.func13, Try.ntmps13
    go_wp2_with fail
    refine Calls.mono (impl_TextVector1 m0 hml _ _ (txt1 _ _ hmx _ (by simp))) ?_
    rintro e w1 ⟨ts, rfl, hv, hb⟩
    obtain ⟨A1, c1, A2, c2, A3, c3, A4, c4, A5, c5, rfl⟩ := hv.shape
    have hz : w.heap.size + 2 ≤ w1.heap.size := by have := hb.size; simp at this; omega
    have HCM := Lib.hid (CS.made (c := c) ((HR.out.alloc (.cells #[.string (str m0)] 9)).below hb) (hv.mono fun b hb => ⟨by have := hb.1; simp at this; omega, hb.2⟩) (by omega) ((((Below.refl w.heap.size w).alloc (Nat.le_refl _) _).alloc (by simp) _).trans (hb.mono (by simp; omega))))
    clear hv hb
    go_wp2_with fail
    have HE := Lib.hid (show condD c m = .mk 4 [] [textV1 m0] [sMessage] [c, sCondition] [] 0 0 by rw [HM0.out]; rfl)
    refine abs_w (fun W => CS w c m0 [.int .i64 (textV1 m0).kind, .slice A1 (textV1 m0).items.length c1, .slice A2 (textV1 m0).parts.length c2, .slice A3 (textV1 m0).names.length c3, .slice A4 (textV1 m0).cls.length c4, .slice A5 (textV1 m0).levels.length c5, .int .i64 (textV1 m0).code, .int .i64 (textV1 m0).env] w1.heap.size W) (by exact HCM.out) ?_
    rintro W5 hC
    have HC := Lib.hid hC
    clear hC HCM
    cases hv : vecOk (condD c m)
    · have HV := Lib.hid hv
      have HD := Lib.hid (show condV c m = zeroD by unfold condV; rw [hv]; rfl)
      clear hv
      refine Calls.mono (impl_IsVector (condD c m) _ _ (by rw [HE.out]; exact (HC.out.vec hcl (Keeps.refl _ _)).read) (sz_condD c m hc)) ?_
      rintro e w5 ⟨rfl, hb5⟩
      rw [HV.out]
      have HC5 := Lib.hid (HC.out.step hb5)
      clear hb5
      have r0 : w5.cell? ⟨w.heap.size, 0, none⟩ = some (.int .i64 0) := HC5.out.r.cell 0 _ rfl
      have r1 : w5.cell? ⟨w.heap.size, 1, none⟩ = some (.slice none 0 0) := HC5.out.r.cell 1 _ rfl
      have r2 : w5.cell? ⟨w.heap.size, 2, none⟩ = some (.slice none 0 0) := HC5.out.r.cell 2 _ rfl
      have r3 : w5.cell? ⟨w.heap.size, 3, none⟩ = some (.slice none 0 0) := HC5.out.r.cell 3 _ rfl
      have r4 : w5.cell? ⟨w.heap.size, 4, none⟩ = some (.slice none 0 0) := HC5.out.r.cell 4 _ rfl
      have r5 : w5.cell? ⟨w.heap.size, 5, none⟩ = some (.slice none 0 0) := HC5.out.r.cell 5 _ rfl
      have r6 : w5.cell? ⟨w.heap.size, 6, none⟩ = some (.int .i64 0) := HC5.out.r.cell 6 _ rfl
      have r7 : w5.cell? ⟨w.heap.size, 7, none⟩ = some (.int .i64 0) := HC5.out.r.cell 7 _ rfl
      have z0 := HC5.out.r.frozen 0
      have z1 := HC5.out.r.frozen 1
      have z2 := HC5.out.r.frozen 2
      have z3 := HC5.out.r.frozen 3
      have z4 := HC5.out.r.frozen 4
      have z5 := HC5.out.r.frozen 5
      have z6 := HC5.out.r.frozen 6
      have z7 := HC5.out.r.frozen 7
      go_wp2_with fail
      refine bodyPost_ret (v := .agg #[.int .i64 0, .slice none 0 0, .slice none 0 0, .slice none 0 0, .slice none 0 0, .slice none 0 0, .int .i64 0, .int .i64 0]) (by simp [results, Try.results13, go_sem, r0, r1, r2, r3, r4, r5, r6, r7]) rfl ?_
      have hbF := below_sc (b := w.heap.size) (o := 7) (below_sc (b := w.heap.size) (o := 6) (below_sc (b := w.heap.size) (o := 5) (below_sc (b := w.heap.size) (o := 4) (below_sc (b := w.heap.size) (o := 3) (below_sc (b := w.heap.size) (o := 2) (below_sc (b := w.heap.size) (o := 1) (below_sc (b := w.heap.size) (o := 0) (HC5.out.below) (Nat.le_refl _) (.int .i64 0)) (Nat.le_refl _) (.slice none 0 0)) (Nat.le_refl _) (.slice none 0 0)) (Nat.le_refl _) (.slice none 0 0)) (Nat.le_refl _) (.slice none 0 0)) (Nat.le_refl _) (.slice none 0 0)) (Nat.le_refl _) (.int .i64 0)) (Nat.le_refl _) (.int .i64 0)
      exact ⟨zC, rfl, by rw [HD.out]; exact zeroO _ _, hbF⟩
    · have HV := Lib.hid hv
      have HD := Lib.hid (show condV c m = condD c m by unfold condV; rw [hv]; rfl)
      clear hv
      refine Calls.mono (impl_IsVector (condD c m) _ _ (by rw [HE.out]; exact (HC.out.vec hcl (Keeps.refl _ _)).read) (sz_condD c m hc)) ?_
      rintro e w5 ⟨rfl, hb5⟩
      rw [HV.out]
      have HC5 := Lib.hid (HC.out.step hb5)
      clear hb5
      have r0 : w5.cell? ⟨w.heap.size, 0, none⟩ = some (.int .i64 0) := HC5.out.r.cell 0 _ rfl
      have r1 : w5.cell? ⟨w.heap.size, 1, none⟩ = some (.slice none 0 0) := HC5.out.r.cell 1 _ rfl
      have r2 : w5.cell? ⟨w.heap.size, 2, none⟩ = some (.slice none 0 0) := HC5.out.r.cell 2 _ rfl
      have r3 : w5.cell? ⟨w.heap.size, 3, none⟩ = some (.slice none 0 0) := HC5.out.r.cell 3 _ rfl
      have r4 : w5.cell? ⟨w.heap.size, 4, none⟩ = some (.slice none 0 0) := HC5.out.r.cell 4 _ rfl
      have r5 : w5.cell? ⟨w.heap.size, 5, none⟩ = some (.slice none 0 0) := HC5.out.r.cell 5 _ rfl
      have r6 : w5.cell? ⟨w.heap.size, 6, none⟩ = some (.int .i64 0) := HC5.out.r.cell 6 _ rfl
      have r7 : w5.cell? ⟨w.heap.size, 7, none⟩ = some (.int .i64 0) := HC5.out.r.cell 7 _ rfl
      have z0 := HC5.out.r.frozen 0
      have z1 := HC5.out.r.frozen 1
      have z2 := HC5.out.r.frozen 2
      have z3 := HC5.out.r.frozen 3
      have z4 := HC5.out.r.frozen 4
      have z5 := HC5.out.r.frozen 5
      have z6 := HC5.out.r.frozen 6
      have z7 := HC5.out.r.frozen 7
      have y0 := HC5.out.o.cell 0 _ rfl
      have y1 := HC5.out.o.cell 1 _ rfl
      have y2 := HC5.out.o.cell 2 _ rfl
      have y3 := HC5.out.o.cell 3 _ rfl
      have y4 := HC5.out.o.cell 4 _ rfl
      have y5 := HC5.out.o.cell 5 _ rfl
      have y6 := HC5.out.o.cell 6 _ rfl
      have y7 := HC5.out.o.cell 7 _ rfl
      go_wp2_with fail
      refine bodyPost_ret (v := .agg #[.int .i64 4, .slice none 0 0, .slice (some ⟨w1.heap.size, 0, none⟩) 1 1, .slice (some ⟨w1.heap.size + 1, 0, none⟩) 1 1, .slice (some ⟨w1.heap.size + 1 + 1, 0, none⟩) 2 2, .slice none 0 0, .int .i64 0, .int .i64 0]) (by simp [results, Try.results13, go_sem, r0, r1, r2, r3, r4, r5, r6, r7]) rfl ?_
      have hkF := Keeps.sc (b := w.heap.size) (o := 7) (Keeps.sc (b := w.heap.size) (o := 6) (Keeps.sc (b := w.heap.size) (o := 5) (Keeps.sc (b := w.heap.size) (o := 4) (Keeps.sc (b := w.heap.size) (o := 3) (Keeps.sc (b := w.heap.size) (o := 2) (Keeps.sc (b := w.heap.size) (o := 1) (Keeps.sc (b := w.heap.size) (o := 0) (Keeps.refl (fun b => b ≠ w.heap.size) w5) (by simp) (.int .i64 4)) (by simp) (.slice none 0 0)) (by simp) (.slice (some ⟨w1.heap.size, 0, none⟩) 1 1)) (by simp) (.slice (some ⟨w1.heap.size + 1, 0, none⟩) 1 1)) (by simp) (.slice (some ⟨w1.heap.size + 1 + 1, 0, none⟩) 2 2)) (by simp) (.slice none 0 0)) (by simp) (.int .i64 0)) (by simp) (.int .i64 0)
      have hbF := below_sc (b := w.heap.size) (o := 7) (below_sc (b := w.heap.size) (o := 6) (below_sc (b := w.heap.size) (o := 5) (below_sc (b := w.heap.size) (o := 4) (below_sc (b := w.heap.size) (o := 3) (below_sc (b := w.heap.size) (o := 2) (below_sc (b := w.heap.size) (o := 1) (below_sc (b := w.heap.size) (o := 0) (HC5.out.below) (Nat.le_refl _) (.int .i64 4)) (Nat.le_refl _) (.slice none 0 0)) (Nat.le_refl _) (.slice (some ⟨w1.heap.size, 0, none⟩) 1 1)) (Nat.le_refl _) (.slice (some ⟨w1.heap.size + 1, 0, none⟩) 1 1)) (Nat.le_refl _) (.slice (some ⟨w1.heap.size + 1 + 1, 0, none⟩) 2 2)) (Nat.le_refl _) (.slice none 0 0)) (Nat.le_refl _) (.int .i64 0)) (Nat.le_refl _) (.int .i64 0)
      exact ⟨_, rfl, by rw [HD.out, HE.out]; exact HC5.out.vec hcl hkF, hbF⟩

theorem spec_l28Message (m : List UInt8) (hm : m.length ≤ 1048576) (w : World) :
    Calls Try.prog 38 #[.string (str m)] w fun e w' => e = .returned (.string (str (m.take 60))) ∧ w = w' := by
  by_cases h60 : 60 < m.length
  · have hcut := cut60 m h60
    go_enter Try.func38, Try.ntmps38
    go_wp2_with fail
    go_ret
    exact ⟨rfl, rfl⟩
  · have HE := Lib.hid (show m.take 60 = m from List.take_of_length_le (by omega))
    go_enter Try.func38, Try.ntmps38
    go_wp2_with fail
    go_ret
    exact ⟨by rw [HE.out]; rfl, rfl⟩

set_option maxHeartbeats 1000000 in
theorem spec_MakeCondition (c m : List UInt8) (hc : c.length ≤ 1048576) (hm : m.length ≤ 1048576) (w : World) :
    Calls Try.prog 15 #[.string (str c), .string (str m)] w (RetVec w (condV c m)) := by
  have hml : (m.take 60).length ≤ 60 := List.length_take_le _ _
  have hcl : c.length ≤ maxLen := by unfold maxLen; omega
  have hmx : (m.take 60).length ≤ maxLen := by unfold maxLen; omega
  have HR := Lib.hid (Blk.new w 39 zC)
  obtain ⟨m0, hm0⟩ : ∃ m0, m0 = m.take 60 := ⟨_, rfl⟩
  rw [← hm0] at hml hmx
  have HM0 := Lib.hid hm0
  clear hm0
  go_enter Try.func15, Try.ntmps15
  go_wp2_with fail
  refine (spec_l28Message m hm _).mono ?_
  rintro e w' ⟨rfl, rfl⟩
  rw [← HM0.out]
  clear hm
  go_wp2_with fail
  refine Calls.mono (spec_TextVector1 m0 hml _ _ (txt1 _ _ hmx _ (by simp))) ?_
  rintro e w1 ⟨ts, rfl, hv, hb⟩
  obtain ⟨A1, c1, A2, c2, A3, c3, A4, c4, A5, c5, rfl⟩ := hv.shape
  have hz : w.heap.size + 2 ≤ w1.heap.size := by have := hb.size; simp at this; omega
  have HCM := Lib.hid (CS.made (c := c) ((HR.out.alloc (.cells #[.string (str m0)] 9)).below hb) (hv.mono fun b hb => ⟨by have := hb.1; simp at this; omega, hb.2⟩) (by omega) ((((Below.refl w.heap.size w).alloc (Nat.le_refl _) _).alloc (by simp) _).trans (hb.mono (by simp; omega))))
  clear hv hb
  go_wp2_with fail
  have HE := Lib.hid (show condD c m = .mk 4 [] [textV1 m0] [sMessage] [c, sCondition] [] 0 0 by rw [HM0.out]; rfl)
  refine abs_w (fun W => CS w c m0 [.int .i64 (textV1 m0).kind, .slice A1 (textV1 m0).items.length c1, .slice A2 (textV1 m0).parts.length c2, .slice A3 (textV1 m0).names.length c3, .slice A4 (textV1 m0).cls.length c4, .slice A5 (textV1 m0).levels.length c5, .int .i64 (textV1 m0).code, .int .i64 (textV1 m0).env] w1.heap.size W) (by exact HCM.out) ?_
  rintro W5 hC
  have HC := Lib.hid hC
  clear hC HCM
  cases hv : vecOk (condD c m)
  · have HV := Lib.hid hv
    have HD := Lib.hid (show condV c m = zeroD by unfold condV; rw [hv]; rfl)
    clear hv
    refine Calls.mono (spec_IsVector (condD c m) _ _ (by rw [HE.out]; exact (HC.out.vec hcl (Keeps.refl _ _)).read) (sz_condD c m hc)) ?_
    rintro e w5 ⟨rfl, hb5⟩
    rw [HV.out]
    have HC5 := Lib.hid (HC.out.step hb5)
    clear hb5
    have r0 : w5.cell? ⟨w.heap.size, 0, none⟩ = some (.int .i64 0) := HC5.out.r.cell 0 _ rfl
    have r1 : w5.cell? ⟨w.heap.size, 1, none⟩ = some (.slice none 0 0) := HC5.out.r.cell 1 _ rfl
    have r2 : w5.cell? ⟨w.heap.size, 2, none⟩ = some (.slice none 0 0) := HC5.out.r.cell 2 _ rfl
    have r3 : w5.cell? ⟨w.heap.size, 3, none⟩ = some (.slice none 0 0) := HC5.out.r.cell 3 _ rfl
    have r4 : w5.cell? ⟨w.heap.size, 4, none⟩ = some (.slice none 0 0) := HC5.out.r.cell 4 _ rfl
    have r5 : w5.cell? ⟨w.heap.size, 5, none⟩ = some (.slice none 0 0) := HC5.out.r.cell 5 _ rfl
    have r6 : w5.cell? ⟨w.heap.size, 6, none⟩ = some (.int .i64 0) := HC5.out.r.cell 6 _ rfl
    have r7 : w5.cell? ⟨w.heap.size, 7, none⟩ = some (.int .i64 0) := HC5.out.r.cell 7 _ rfl
    have z0 := HC5.out.r.frozen 0
    have z1 := HC5.out.r.frozen 1
    have z2 := HC5.out.r.frozen 2
    have z3 := HC5.out.r.frozen 3
    have z4 := HC5.out.r.frozen 4
    have z5 := HC5.out.r.frozen 5
    have z6 := HC5.out.r.frozen 6
    have z7 := HC5.out.r.frozen 7
    go_wp2_with fail
    refine bodyPost_ret (v := .agg #[.int .i64 0, .slice none 0 0, .slice none 0 0, .slice none 0 0, .slice none 0 0, .slice none 0 0, .int .i64 0, .int .i64 0]) (by simp [results, Try.results15, go_sem, r0, r1, r2, r3, r4, r5, r6, r7]) rfl ?_
    have hbF := below_sc (b := w.heap.size) (o := 7) (below_sc (b := w.heap.size) (o := 6) (below_sc (b := w.heap.size) (o := 5) (below_sc (b := w.heap.size) (o := 4) (below_sc (b := w.heap.size) (o := 3) (below_sc (b := w.heap.size) (o := 2) (below_sc (b := w.heap.size) (o := 1) (below_sc (b := w.heap.size) (o := 0) (HC5.out.below) (Nat.le_refl _) (.int .i64 0)) (Nat.le_refl _) (.slice none 0 0)) (Nat.le_refl _) (.slice none 0 0)) (Nat.le_refl _) (.slice none 0 0)) (Nat.le_refl _) (.slice none 0 0)) (Nat.le_refl _) (.slice none 0 0)) (Nat.le_refl _) (.int .i64 0)) (Nat.le_refl _) (.int .i64 0)
    exact ⟨zC, rfl, by rw [HD.out]; exact zeroO _ _, hbF⟩
  · have HV := Lib.hid hv
    have HD := Lib.hid (show condV c m = condD c m by unfold condV; rw [hv]; rfl)
    clear hv
    refine Calls.mono (spec_IsVector (condD c m) _ _ (by rw [HE.out]; exact (HC.out.vec hcl (Keeps.refl _ _)).read) (sz_condD c m hc)) ?_
    rintro e w5 ⟨rfl, hb5⟩
    rw [HV.out]
    have HC5 := Lib.hid (HC.out.step hb5)
    clear hb5
    have r0 : w5.cell? ⟨w.heap.size, 0, none⟩ = some (.int .i64 0) := HC5.out.r.cell 0 _ rfl
    have r1 : w5.cell? ⟨w.heap.size, 1, none⟩ = some (.slice none 0 0) := HC5.out.r.cell 1 _ rfl
    have r2 : w5.cell? ⟨w.heap.size, 2, none⟩ = some (.slice none 0 0) := HC5.out.r.cell 2 _ rfl
    have r3 : w5.cell? ⟨w.heap.size, 3, none⟩ = some (.slice none 0 0) := HC5.out.r.cell 3 _ rfl
    have r4 : w5.cell? ⟨w.heap.size, 4, none⟩ = some (.slice none 0 0) := HC5.out.r.cell 4 _ rfl
    have r5 : w5.cell? ⟨w.heap.size, 5, none⟩ = some (.slice none 0 0) := HC5.out.r.cell 5 _ rfl
    have r6 : w5.cell? ⟨w.heap.size, 6, none⟩ = some (.int .i64 0) := HC5.out.r.cell 6 _ rfl
    have r7 : w5.cell? ⟨w.heap.size, 7, none⟩ = some (.int .i64 0) := HC5.out.r.cell 7 _ rfl
    have z0 := HC5.out.r.frozen 0
    have z1 := HC5.out.r.frozen 1
    have z2 := HC5.out.r.frozen 2
    have z3 := HC5.out.r.frozen 3
    have z4 := HC5.out.r.frozen 4
    have z5 := HC5.out.r.frozen 5
    have z6 := HC5.out.r.frozen 6
    have z7 := HC5.out.r.frozen 7
    have y0 := HC5.out.o.cell 0 _ rfl
    have y1 := HC5.out.o.cell 1 _ rfl
    have y2 := HC5.out.o.cell 2 _ rfl
    have y3 := HC5.out.o.cell 3 _ rfl
    have y4 := HC5.out.o.cell 4 _ rfl
    have y5 := HC5.out.o.cell 5 _ rfl
    have y6 := HC5.out.o.cell 6 _ rfl
    have y7 := HC5.out.o.cell 7 _ rfl
    go_wp2_with fail
    refine bodyPost_ret (v := .agg #[.int .i64 4, .slice none 0 0, .slice (some ⟨w1.heap.size, 0, none⟩) 1 1, .slice (some ⟨w1.heap.size + 1, 0, none⟩) 1 1, .slice (some ⟨w1.heap.size + 1 + 1, 0, none⟩) 2 2, .slice none 0 0, .int .i64 0, .int .i64 0]) (by simp [results, Try.results15, go_sem, r0, r1, r2, r3, r4, r5, r6, r7]) rfl ?_
    have hkF := Keeps.sc (b := w.heap.size) (o := 7) (Keeps.sc (b := w.heap.size) (o := 6) (Keeps.sc (b := w.heap.size) (o := 5) (Keeps.sc (b := w.heap.size) (o := 4) (Keeps.sc (b := w.heap.size) (o := 3) (Keeps.sc (b := w.heap.size) (o := 2) (Keeps.sc (b := w.heap.size) (o := 1) (Keeps.sc (b := w.heap.size) (o := 0) (Keeps.refl (fun b => b ≠ w.heap.size) w5) (by simp) (.int .i64 4)) (by simp) (.slice none 0 0)) (by simp) (.slice (some ⟨w1.heap.size, 0, none⟩) 1 1)) (by simp) (.slice (some ⟨w1.heap.size + 1, 0, none⟩) 1 1)) (by simp) (.slice (some ⟨w1.heap.size + 1 + 1, 0, none⟩) 2 2)) (by simp) (.slice none 0 0)) (by simp) (.int .i64 0)) (by simp) (.int .i64 0)
    have hbF := below_sc (b := w.heap.size) (o := 7) (below_sc (b := w.heap.size) (o := 6) (below_sc (b := w.heap.size) (o := 5) (below_sc (b := w.heap.size) (o := 4) (below_sc (b := w.heap.size) (o := 3) (below_sc (b := w.heap.size) (o := 2) (below_sc (b := w.heap.size) (o := 1) (below_sc (b := w.heap.size) (o := 0) (HC5.out.below) (Nat.le_refl _) (.int .i64 4)) (Nat.le_refl _) (.slice none 0 0)) (Nat.le_refl _) (.slice (some ⟨w1.heap.size, 0, none⟩) 1 1)) (Nat.le_refl _) (.slice (some ⟨w1.heap.size + 1, 0, none⟩) 1 1)) (Nat.le_refl _) (.slice (some ⟨w1.heap.size + 1 + 1, 0, none⟩) 2 2)) (Nat.le_refl _) (.slice none 0 0)) (Nat.le_refl _) (.int .i64 0)) (Nat.le_refl _) (.int .i64 0)
    exact ⟨_, rfl, by rw [HD.out, HE.out]; exact HC5.out.vec hcl hkF, hbF⟩

end Go.Proofs.Ytaliiodngekahaa
