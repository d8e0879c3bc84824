/-
  Contracts: a vector of one text.
-/
import Derived.Test.YtaliiodngekahaaPush
import Derived.Test.YtaliiodngekahaaVecOk5
import Derived.Deep.DeepCutAuto
namespace Go.Proofs.Ytaliiodngekahaa
set_option maxRecDepth 100000
open Go.ChangeShapes Go.WideShapes Go.ChangeAt Go.RowKit Go.Deep
set_option linter.unusedVariables false

def tItem (s : List UInt8) : ItemD := ⟨0, 1, s⟩
def textV1 (s : List UInt8) : VecD := .mk 3 [tItem s] [] [] [] [] 0 0
theorem i64_0 : I64 0 := ⟨by decide, by decide⟩
theorem i64_1 : I64 1 := ⟨by decide, by decide⟩
theorem i64_3 : I64 3 := ⟨by decide, by decide⟩
theorem i64_4 : I64 4 := ⟨by decide, by decide⟩
def zC : List Value := [.int .i64 0, .slice none 0 0, .slice none 0 0, .slice none 0 0, .slice none 0 0, .slice none 0 0, .int .i64 0, .int .i64 0]

theorem own_shape' {w : World} {base n : Nat} {e : TypeId} {size : Nat} {v : Value} {xs : List Value} (h : w.ownsRow base e size v n xs) : ∃ A c, v = .slice A n c := by
  rcases h.2 with ⟨rfl, rfl⟩ | ⟨g, cap, cur, rfl, _⟩
  · exact ⟨none, 0, rfl⟩
  · exact ⟨_, cap, rfl⟩

theorem impl_textItem (s : List UInt8) (w : World) :
    Calls Try.prog 62 #[.string (str s)] w fun e w' => e = .returned (.agg #[.int .i64 0, .int .i64 1, .string (str s)]) ∧ Below w.heap.size w w' := by
  go_enter Try.func62, Try.ntmps62
  go_wp2_with fail
  exact bodyPost_ret (v := .agg #[.int .i64 0, .int .i64 1, .string (str s)]) (by simp [results, Try.results62, go_sem]) rfl ⟨rfl, (Below.refl _ _).alloc (Nat.le_refl _) _⟩
theorem spec_l4Text (s : List UInt8) (w : World) :
    Calls Try.prog 66 #[.string (str s)] w fun e w' => e = .returned (.agg #[.int .i64 0, .int .i64 1, .string (str s)]) ∧ Below w.heap.size w w' := by
  go_enter Try.func66, Try.ntmps66
  go_wp2_with fail
  exact bodyPost_ret (v := .agg #[.int .i64 0, .int .i64 1, .string (str s)]) (by simp [results, Try.results66, go_sem]) rfl ⟨rfl, (Below.refl _ _).alloc (Nat.le_refl _) _⟩

/-- the box that grows -/
def outC (u : Value) : List Value := [.int .i64 3, u, .slice none 0 0, .slice none 0 0, .slice none 0 0, .slice none 0 0, .int .i64 0, .int .i64 0]
structure TS (w : World) (lo : Nat) (u : Value) (k : Nat) (xs : List Value) (W : World) : Prop where
  r : Blk W w.heap.size 39 zC
  o : Blk W (w.heap.size + 1) 39 (outC u)
  own : W.ownsRow (w.heap.size + 2) 69 3 u k xs
  below : Below w.heap.size w W
  size : lo ≤ W.heap.size
theorem TS.step {w : World} {lo : Nat} {u : Value} {k : Nat} {xs : List Value} {W W' : World} (h : TS w lo u k xs W) (hb : Below W.heap.size W W') : TS w lo u k xs W' :=
  ⟨h.r.below hb, h.o.below hb, own_below h.own hb, h.below.trans (hb.mono h.below.size), Nat.le_trans h.size hb.size⟩
theorem TS.two {w : World} {lo : Nat} {u : Value} {k : Nat} {xs : List Value} {W : World} (h : TS w lo u k xs W) : w.heap.size + 2 ≤ W.heap.size := by have := h.o.lt; omega
structure TC (w : World) (u : Value) (W : World) : Prop where
  r : Blk W w.heap.size 39 zC
  o : Blk W (w.heap.size + 1) 39 (outC u)
  below : Below w.heap.size w W
theorem TC.step {w : World} {u : Value} {W W' : World} (h : Ok (TC w u) W) (hb : Below W.heap.size W W') : Ok (TC w u) W' := ⟨(TC.r h).below hb, (TC.o h).below hb, (TC.below h).trans (hb.mono (TC.below h).size)⟩
theorem TC.step2 {w : World} {u : Value} {W W' : World} (h : Ok (TC w u) W) (hb : Below (w.heap.size + 2) W W') : Ok (TC w u) W' :=
  have h2 : w.heap.size + 1 < W.heap.size := (TC.o h).lt
  ⟨(hb.block _ (by omega)).trans (TC.r h), (hb.block _ (by omega)).trans (TC.o h), (TC.below h).trans (hb.mono (by omega))⟩
theorem TS.tc {w : World} {lo : Nat} {u : Value} {k : Nat} {xs : List Value} {W : World} (h : TS w lo u k xs W) : Ok (TC w u) W := ⟨h.r, h.o, h.below⟩
/-- the new slice is laid into the box -/
theorem TC.push {w : World} {u u' : Value} {k : Nat} {xs : List Value} {W : World} (h : Ok (TC w u) W) (ho : W.ownsRow (w.heap.size + 2) 69 3 u' k xs) : TS w 0 u' k xs (W.setCell ⟨w.heap.size + 1, 1, none⟩ u') :=
  ⟨(TC.r h).far ⟨w.heap.size + 1, 1, none⟩ (by simp) u', (TC.o h).set_ 1 u', own_setCell ho ⟨w.heap.size + 1, 1, none⟩ u' (by simp), (TC.below h).setCell (by simp) u', Nat.zero_le _⟩
theorem TS.vec {w : World} {lo : Nat} {s : List UInt8} {U : Option Addr} {q : Nat} {xs : List Value} {W W' : World} (h : TS w lo (.slice U 1 q) 1 xs W) (hxs : xs = [.int .i64 0, .int .i64 1, .string (str s)]) (hs : s.length ≤ 60) (hk : Keeps (fun b => b ≠ w.heap.size) W W') :
    VecO (Rng w.heap.size W'.heap.size) W' [.int .i64 3, .slice U 1 q, .slice none 0 0, .slice none 0 0, .slice none 0 0, .slice none 0 0, .int .i64 0, .int .i64 0] (textV1 s) := by
  subst hxs
  have hz := hk.1
  refine ⟨1, U, q, none, 0, none, 0, none, 0, none, 0, fun _ => 1, rfl, i64_3, ⟨[[.int .i64 0, .int .i64 1, .string (str s)]], fun _ => 0, rfl, fun k h1 h2 => ?_, ?_, fun k hk' => ⟨⟨⟨?_, ?_⟩, rfl⟩, rfl⟩⟩, SlO.nil_ _ _ _ _ _, ⟨FlO.nil_ _ _ _ _, fun _ h => by cases h⟩, ⟨FlO.nil_ _ _ _ _, fun _ h => by cases h⟩, ⟨FlO.nil_ _ _ _ _, fun _ h => by cases h⟩, i64_0, i64_0⟩
  · have : k = 0 := by simp at h1; omega
    subst this
    exact ⟨rfl, rfl, i64_0, i64_1, by show s.length ≤ maxLen; unfold maxLen; omega⟩
  · have h5 : FlO (fun b => b ≠ w.heap.size) W 69 3 (.slice U 1 q) 1 [.int .i64 0, .int .i64 1, .string (str s)] := ⟨own_base h.own (Nat.zero_le _), fun k hk' => by have := (h.own.lt k hk').1; omega⟩
    exact (h5.keeps hk).1
  · have := (h.own.lt k hk').1; omega
  · have := (h.own.lt k hk').2; omega

set_option maxHeartbeats 1000000 in
theorem impl_TextVector1 (s : List UInt8) (hs : s.length ≤ 60) (v : Value) (w : World) (h : Txts w v [s]) :
    Calls Try.prog 32 #[v] w (RetVec w (textV1 s)) := by
  obtain ⟨A, c, rfl, hlc, hm, HC⟩ := Txts.open_ h
  obtain ⟨b, off, rfl, hbl, hcell, _⟩ := HC.out 0 (by simp)
  simp only [List.getElem_cons_zero, Nat.add_zero] at hcell
  have HCE := Lib.hid hcell
  clear h HC hcell
  unfold maxLen at hm
  simp only [List.length_singleton] at hlc ⊢
  go_enter Try.func32, Try.ntmps32
  go_wp2_with fail
  go_loopw [5, 13] (fun _ i wr => ∃ (k : Nat) (U : Option Addr) (q : Nat) (xs : List Value), k ≤ 1 ∧ i = .int .i64 k ∧ Hid (TS w 0 (.slice U k q) k xs wr) ∧ Hid (xs = ([s].take k).flatMap fun s => [.int .i64 0, .int .i64 1, .string (str s)])) (fun _ i _ => 1 - (intOf i).toNat)
  case atStart =>
    refine ⟨0, none, 0, [], Nat.zero_le _, rfl, ⟨?_, ?_, World.ownsRow_nil _ _ _ _, ?_, Nat.zero_le _⟩, rfl⟩
    · exact (Blk.new w 39 zC).alloc _
    · exact Blk.new_at _ 39 (outC (.slice none 0 0)) _ (by simp)
    · exact ((Below.refl _ _).alloc (Nat.le_refl _) _).alloc (by simp) _
  case round =>
    obtain ⟨k, U, q, xs, hk, rfl, HT, HX⟩ := hrel
    by_cases hlt : k < 1
    · obtain rfl : k = 0 := by omega
      have y0 := (HT.out.below.cell (p := ⟨b, off, none⟩) hbl).trans HCE.out
      have hw0 := HT.out.two
      obtain rfl : xs = [] := by simpa using HX.out
      have t1 := fun W (h : Ok (TC w (.slice U 0 q)) W) => (TC.o h).cell 1 _ rfl
      have HO0 := Lib.hid HT.out.own
      go_wp2_with fail
      have g1 : Ok (TC w (.slice U 0 q)) wr.drew := TC.step HT.out.tc (Below.drew (Below.refl _ _))
      refine wp_region_phase (T := Ok (TC w (.slice U 0 q))) (by kernel_rfl) [(2, 0), (1, 1), (2, 2), (0, 3), (0, 4), (0, 5), (2, 6), (0, 7)] [7] (by kernel_rfl) g1 ?_
      repeat ((first | (refine dynL_take rfl rfl (fun W g => by go_simp; rfl) ?_) | (refine dynL_pure rfl rfl (fun W => by go_simp; rfl) ?_)); go_simp)
      refine dynL_act rfl rfl (fun K hK => ?_)
      go_wp2_with fail
      refine (impl_textItem s _).mono ?_
      rintro e w2 ⟨rfl, hb⟩
      have HO2 := Lib.hid (own_below (own_below HO0.out (Below.drew (Below.refl wr.heap.size wr))) hb)
      replace g1 := TC.step g1 hb
      clear hb
      simp only []
      refine hK.out _ _ g1 ?_
      clear hK
      repeat ((first | (refine dynL_take rfl rfl (fun W g => by go_simp; rfl) ?_) | (refine dynL_pure rfl rfl (fun W => by go_simp; rfl) ?_)); go_simp)
      refine dynL_act rfl rfl (fun K hK => ?_)
      go_wp2_with fail
      refine hK.out _ _ (TC.step g1 ((Below.refl _ _).alloc (Nat.le_refl _) _)) ?_
      clear hK
      refine dynL_act rfl rfl (fun K hK => ?_)
      refine wp_push (.tmp 22) (.tmp 25) 35 rfl (w.heap.size + 2) 69 (.agg #[.int .i64 0, .int .i64 0, .string ByteArray.empty]) 3 32 Try.underlying35 info_Item rfl (by decide) w2 (.slice U 0 q) 0 [] #[.int .i64 0, .int .i64 1, .string (str s)] rfl rfl HO2.out rfl (by simp [Value.oneCell']) (by omega) (by omega) (by have := (TC.o g1).lt; omega) ?_
      intro v1 w3 ho3 _ _ hb3
      have g3 := TC.step2 g1 hb3
      obtain ⟨A3, c3, rfl⟩ := own_shape' ho3
      have HO3 := Lib.hid ho3
      clear ho3 hb3
      refine hK.out _ _ g3 ?_
      clear hK
      go_simp
      repeat ((first | (refine dynL_take rfl rfl (fun W g => by go_simp; rfl) ?_) | (refine dynL_pure rfl rfl (fun W => by go_simp; rfl) ?_)); go_simp)
      have y1 := (TC.o g3).cell 1 _ rfl
      have f1 := (TC.o g3).frozen 1
      refine dynL_last rfl (by simp) rfl (fun K hK => ?_)
      go_wp2_with fail
      refine hK.out _ _ ?_
      clear hK
      refine dynL_done ?_
      go_wp2_with fail
      exact ⟨⟨1, A3, c3, [.int .i64 0, .int .i64 1, .string (str s)], Nat.le_refl _, rfl, TC.push g3 (by simpa using HO3.out), rfl⟩, by simp [intOf]⟩
    · obtain rfl : k = 1 := by omega
      have y0 := HT.out.o.cell 0 _ rfl
      have y1 := HT.out.o.cell 1 _ rfl
      have y2 := HT.out.o.cell 2 _ rfl
      have y3 := HT.out.o.cell 3 _ rfl
      have y4 := HT.out.o.cell 4 _ rfl
      have y5 := HT.out.o.cell 5 _ rfl
      have y6 := HT.out.o.cell 6 _ rfl
      have y7 := HT.out.o.cell 7 _ rfl
      have r0 : wr.cell? ⟨w.heap.size, 0, none⟩ = some (.int .i64 0) := HT.out.r.cell 0 _ rfl
      have r1 : wr.cell? ⟨w.heap.size, 1, none⟩ = some (.slice none 0 0) := HT.out.r.cell 1 _ rfl
      have r2 : wr.cell? ⟨w.heap.size, 2, none⟩ = some (.slice none 0 0) := HT.out.r.cell 2 _ rfl
      have r3 : wr.cell? ⟨w.heap.size, 3, none⟩ = some (.slice none 0 0) := HT.out.r.cell 3 _ rfl
      have r4 : wr.cell? ⟨w.heap.size, 4, none⟩ = some (.slice none 0 0) := HT.out.r.cell 4 _ rfl
      have r5 : wr.cell? ⟨w.heap.size, 5, none⟩ = some (.slice none 0 0) := HT.out.r.cell 5 _ rfl
      have r6 : wr.cell? ⟨w.heap.size, 6, none⟩ = some (.int .i64 0) := HT.out.r.cell 6 _ rfl
      have r7 : wr.cell? ⟨w.heap.size, 7, none⟩ = some (.int .i64 0) := HT.out.r.cell 7 _ rfl
      have z0 := HT.out.r.frozen 0
      have z1 := HT.out.r.frozen 1
      have z2 := HT.out.r.frozen 2
      have z3 := HT.out.r.frozen 3
      have z4 := HT.out.r.frozen 4
      have z5 := HT.out.r.frozen 5
      have z6 := HT.out.r.frozen 6
      have z7 := HT.out.r.frozen 7
      go_wp2_with fail
      have hxs : xs = [.int .i64 0, .int .i64 1, .string (str s)] := by simpa using HX.out
      refine bodyPost_ret (v := .agg #[.int .i64 3, .slice U 1 q, .slice none 0 0, .slice none 0 0, .slice none 0 0, .slice none 0 0, .int .i64 0, .int .i64 0]) (by simp [results, Try.results32, go_sem, r0, r1, r2, r3, r4, r5, r6, r7]) rfl ?_
      have hkF := Keeps.sc (b := w.heap.size) (o := 7) (Keeps.sc (b := w.heap.size) (o := 6) (Keeps.sc (b := w.heap.size) (o := 5) (Keeps.sc (b := w.heap.size) (o := 4) (Keeps.sc (b := w.heap.size) (o := 3) (Keeps.sc (b := w.heap.size) (o := 2) (Keeps.sc (b := w.heap.size) (o := 1) (Keeps.sc (b := w.heap.size) (o := 0) (Keeps.refl (fun b => b ≠ w.heap.size) wr) (by simp) (.int .i64 3)) (by simp) (.slice U 1 q)) (by simp) (.slice none 0 0)) (by simp) (.slice none 0 0)) (by simp) (.slice none 0 0)) (by simp) (.slice none 0 0)) (by simp) (.int .i64 0)) (by simp) (.int .i64 0)
      have hbF := below_sc (b := w.heap.size) (o := 7) (below_sc (b := w.heap.size) (o := 6) (below_sc (b := w.heap.size) (o := 5) (below_sc (b := w.heap.size) (o := 4) (below_sc (b := w.heap.size) (o := 3) (below_sc (b := w.heap.size) (o := 2) (below_sc (b := w.heap.size) (o := 1) (below_sc (b := w.heap.size) (o := 0) (HT.out.below) (Nat.le_refl _) (.int .i64 3)) (Nat.le_refl _) (.slice U 1 q)) (Nat.le_refl _) (.slice none 0 0)) (Nat.le_refl _) (.slice none 0 0)) (Nat.le_refl _) (.slice none 0 0)) (Nat.le_refl _) (.slice none 0 0)) (Nat.le_refl _) (.int .i64 0)) (Nat.le_refl _) (.int .i64 0)
      exact ⟨_, rfl, HT.out.vec hxs hs hkF, hbF⟩
theorem szTextV1 (s : List UInt8) : szVector (textV1 s) = 1 + s.length := by
  rw [szVector_eq]
  simp [textV1, tItem, VecD.items, VecD.parts, VecD.names, VecD.cls, VecD.levels, szS, szItem, szL]
theorem vecOk_textV1 (s : List UInt8) (hs : s.length ≤ 60) : vecOk (textV1 s) = true := by
  have h1 : shapeOk (textV1 s) = true := by
    simp [shapeOk, sA, sB, sC, sD, sE, sF, sG, sH, textV1, tItem, lenV, labelsOk, VecD.kind, VecD.items, VecD.parts, VecD.names, VecD.cls, VecD.levels, VecD.code, VecD.env, itemT, itemOk, atomV, hs]
  unfold vecOk
  rw [okN, h1]
  simp [textV1, tItem, VecD.parts, cellsV, cellsVs, lenV, VecD.kind, VecD.items]

set_option maxHeartbeats 1000000 in
theorem spec_TextVector1 (s : List UInt8) (hs : s.length ≤ 60) (v : Value) (w : World) (h : Txts w v [s]) :
    Calls Try.prog 37 #[v] w (RetVec w (textV1 s)) := by
  obtain ⟨A, c, rfl, hlc, hm, HC⟩ := Txts.open_ h
  obtain ⟨b, off, rfl, hbl, hcell, _⟩ := HC.out 0 (by simp)
  simp only [List.getElem_cons_zero, Nat.add_zero] at hcell
  have HCE := Lib.hid hcell
  clear h HC hcell
  unfold maxLen at hm
  simp only [List.length_singleton] at hlc ⊢
  go_enter Try.func37, Try.ntmps37
  go_wp2_with fail
  go_loopw [4] (fun i wr => ∃ (k : Nat) (U : Option Addr) (q : Nat) (xs : List Value), k ≤ 1 ∧ i = .int .i64 k ∧ Hid (TS w 0 (.slice U k q) k xs wr) ∧ Hid (xs = ([s].take k).flatMap fun s => [.int .i64 0, .int .i64 1, .string (str s)])) (fun i _ => 1 - (intOf i).toNat)
  case atStart =>
    refine ⟨0, none, 0, [], Nat.zero_le _, rfl, ⟨?_, ?_, World.ownsRow_nil _ _ _ _, ?_, Nat.zero_le _⟩, rfl⟩
    · exact (Blk.new w 39 zC).alloc _
    · exact Blk.new_at _ 39 (outC (.slice none 0 0)) _ (by simp)
    · exact ((Below.refl _ _).alloc (Nat.le_refl _) _).alloc (by simp) _
  case round =>
    obtain ⟨k, U, q, xs, hk, rfl, HT, HX⟩ := hrel
    by_cases hlt : k < 1
    · obtain rfl : k = 0 := by omega
      have y0 := fun W (h : Ok (TC w (.slice U 0 q)) W) => ((TC.below h).cell (p := ⟨b, off, none⟩) hbl).trans HCE.out
      have hw0 := HT.out.two
      obtain rfl : xs = [] := by simpa using HX.out
      have t1 := fun W (h : Ok (TC w (.slice U 0 q)) W) => (TC.o h).cell 1 _ rfl
      have HO0 := Lib.hid HT.out.own
      go_wp2_with fail
      have g1 : Ok (TC w (.slice U 0 q)) wr.drew := TC.step HT.out.tc (Below.drew (Below.refl _ _))
      refine wp_region_phase (T := Ok (TC w (.slice U 0 q))) (by kernel_rfl) [(2, 0), (1, 1), (2, 2), (2, 3), (2, 4), (1, 5), (0, 6), (0, 7), (0, 8), (2, 9), (0, 10)] [10] (by kernel_rfl) g1 ?_
      repeat ((first | (refine dynL_take rfl rfl (fun W g => by go_simp; rfl) ?_) | (refine dynL_pure rfl rfl (fun W => by go_simp; rfl) ?_)); go_simp)
      refine dynL_act rfl rfl (fun K hK => ?_)
      go_wp2_with fail
      refine (spec_l4Text s _).mono ?_
      rintro e w2 ⟨rfl, hb⟩
      have HO2 := Lib.hid (own_below (own_below HO0.out (Below.drew (Below.refl wr.heap.size wr))) hb)
      replace g1 := TC.step g1 hb
      clear hb
      simp only []
      refine hK.out _ _ g1 ?_
      clear hK
      repeat ((first | (refine dynL_take rfl rfl (fun W g => by go_simp; rfl) ?_) | (refine dynL_pure rfl rfl (fun W => by go_simp; rfl) ?_)); go_simp)
      refine dynL_act rfl rfl (fun K hK => ?_)
      go_wp2_with fail
      refine hK.out _ _ (TC.step g1 ((Below.refl _ _).alloc (Nat.le_refl _) _)) ?_
      clear hK
      refine dynL_act rfl rfl (fun K hK => ?_)
      refine wp_push (.tmp 18) (.tmp 24) 35 rfl (w.heap.size + 2) 69 (.agg #[.int .i64 0, .int .i64 0, .string ByteArray.empty]) 3 32 Try.underlying35 info_Item rfl (by decide) w2 (.slice U 0 q) 0 [] #[.int .i64 0, .int .i64 1, .string (str s)] rfl rfl HO2.out rfl (by simp [Value.oneCell']) (by omega) (by omega) (by have := (TC.o g1).lt; omega) ?_
      intro v1 w3 ho3 _ _ hb3
      have g3 := TC.step2 g1 hb3
      obtain ⟨A3, c3, rfl⟩ := own_shape' ho3
      have HO3 := Lib.hid ho3
      clear ho3 hb3
      refine hK.out _ _ g3 ?_
      clear hK
      go_simp
      repeat ((first | (refine dynL_take rfl rfl (fun W g => by go_simp; rfl) ?_) | (refine dynL_pure rfl rfl (fun W => by go_simp; rfl) ?_)); go_simp)
      have y1 := (TC.o g3).cell 1 _ rfl
      have f1 := (TC.o g3).frozen 1
      refine dynL_last rfl (by simp) rfl (fun K hK => ?_)
      go_wp2_with fail
      refine hK.out _ _ ?_
      clear hK
      refine dynL_done ?_
      go_wp2_with fail
      exact ⟨⟨1, A3, c3, [.int .i64 0, .int .i64 1, .string (str s)], Nat.le_refl _, rfl, TC.push g3 (by simpa using HO3.out), rfl⟩, by simp [intOf]⟩
    · obtain rfl : k = 1 := by omega
      have y0 := HT.out.o.cell 0 _ rfl
      have y1 := HT.out.o.cell 1 _ rfl
      have y2 := HT.out.o.cell 2 _ rfl
      have y3 := HT.out.o.cell 3 _ rfl
      have y4 := HT.out.o.cell 4 _ rfl
      have y5 := HT.out.o.cell 5 _ rfl
      have y6 := HT.out.o.cell 6 _ rfl
      have y7 := HT.out.o.cell 7 _ rfl
      have hxs : xs = [.int .i64 0, .int .i64 1, .string (str s)] := by simpa using HX.out
      have HXS := Lib.hid hxs
      have HV := Lib.hid (HT.out.vec hxs hs (Keeps.refl _ _))
      have HOK := Lib.hid (vecOk_textV1 s hs)
      have HR0 := Lib.hid HT.out.r
      have HO0 := Lib.hid HT.out.o
      have HB0 := Lib.hid HT.out.below
      have HT0 := Lib.hid HT.out
      clear hxs
      go_wp2_with fail
      refine (spec_IsVector (textV1 s) _ _ HV.out.read (by rw [szTextV1]; omega)).mono ?_
      rintro e w5 ⟨rfl, hb5⟩
      rw [HOK.out]
      have HT5 := Lib.hid (HT0.out.step hb5)
      clear hb5 y0 y1 y2 y3 y4 y5 y6 y7
      have y0 := HT5.out.o.cell 0 _ rfl
      have y1 := HT5.out.o.cell 1 _ rfl
      have y2 := HT5.out.o.cell 2 _ rfl
      have y3 := HT5.out.o.cell 3 _ rfl
      have y4 := HT5.out.o.cell 4 _ rfl
      have y5 := HT5.out.o.cell 5 _ rfl
      have y6 := HT5.out.o.cell 6 _ rfl
      have y7 := HT5.out.o.cell 7 _ rfl
      have r0 : w5.cell? ⟨w.heap.size, 0, none⟩ = some (.int .i64 0) := HT5.out.r.cell 0 _ rfl
      have r1 : w5.cell? ⟨w.heap.size, 1, none⟩ = some (.slice none 0 0) := HT5.out.r.cell 1 _ rfl
      have r2 : w5.cell? ⟨w.heap.size, 2, none⟩ = some (.slice none 0 0) := HT5.out.r.cell 2 _ rfl
      have r3 : w5.cell? ⟨w.heap.size, 3, none⟩ = some (.slice none 0 0) := HT5.out.r.cell 3 _ rfl
      have r4 : w5.cell? ⟨w.heap.size, 4, none⟩ = some (.slice none 0 0) := HT5.out.r.cell 4 _ rfl
      have r5 : w5.cell? ⟨w.heap.size, 5, none⟩ = some (.slice none 0 0) := HT5.out.r.cell 5 _ rfl
      have r6 : w5.cell? ⟨w.heap.size, 6, none⟩ = some (.int .i64 0) := HT5.out.r.cell 6 _ rfl
      have r7 : w5.cell? ⟨w.heap.size, 7, none⟩ = some (.int .i64 0) := HT5.out.r.cell 7 _ rfl
      have z0 := HT5.out.r.frozen 0
      have z1 := HT5.out.r.frozen 1
      have z2 := HT5.out.r.frozen 2
      have z3 := HT5.out.r.frozen 3
      have z4 := HT5.out.r.frozen 4
      have z5 := HT5.out.r.frozen 5
      have z6 := HT5.out.r.frozen 6
      have z7 := HT5.out.r.frozen 7
      go_wp2_with fail
      refine bodyPost_ret (v := .agg #[.int .i64 3, .slice U 1 q, .slice none 0 0, .slice none 0 0, .slice none 0 0, .slice none 0 0, .int .i64 0, .int .i64 0]) (by simp [results, Try.results37, go_sem, r0, r1, r2, r3, r4, r5, r6, r7]) rfl ?_
      have hkF := Keeps.sc (b := w.heap.size) (o := 7) (Keeps.sc (b := w.heap.size) (o := 6) (Keeps.sc (b := w.heap.size) (o := 5) (Keeps.sc (b := w.heap.size) (o := 4) (Keeps.sc (b := w.heap.size) (o := 3) (Keeps.sc (b := w.heap.size) (o := 2) (Keeps.sc (b := w.heap.size) (o := 1) (Keeps.sc (b := w.heap.size) (o := 0) (Keeps.refl (fun b => b ≠ w.heap.size) w5) (by simp) (.int .i64 3)) (by simp) (.slice U 1 q)) (by simp) (.slice none 0 0)) (by simp) (.slice none 0 0)) (by simp) (.slice none 0 0)) (by simp) (.slice none 0 0)) (by simp) (.int .i64 0)) (by simp) (.int .i64 0)
      have hbF := below_sc (b := w.heap.size) (o := 7) (below_sc (b := w.heap.size) (o := 6) (below_sc (b := w.heap.size) (o := 5) (below_sc (b := w.heap.size) (o := 4) (below_sc (b := w.heap.size) (o := 3) (below_sc (b := w.heap.size) (o := 2) (below_sc (b := w.heap.size) (o := 1) (below_sc (b := w.heap.size) (o := 0) (HT5.out.below) (Nat.le_refl _) (.int .i64 3)) (Nat.le_refl _) (.slice U 1 q)) (Nat.le_refl _) (.slice none 0 0)) (Nat.le_refl _) (.slice none 0 0)) (Nat.le_refl _) (.slice none 0 0)) (Nat.le_refl _) (.slice none 0 0)) (Nat.le_refl _) (.int .i64 0)) (Nat.le_refl _) (.int .i64 0)
      exact ⟨_, rfl, HT5.out.vec HXS.out hs hkF, hbF⟩
end Go.Proofs.Ytaliiodngekahaa
