/-
  Contracts: a vector of texts.
-/
import Derived.Test.YtjdimlhdkmkmbaaNumVec
namespace Go.Proofs.Ytjdimlhdkmkmbaa
set_option maxRecDepth 100000
open Go.ChangeShapes Go.WideShapes Go.ChangeAt Go.RowKit Go.Deep
set_option linter.unusedVariables false

theorem tItem_ok {s : List UInt8} (h : s.length ≤ 60) : ItOk (tItem s) := ⟨i64z_, i64o_, by show s.length ≤ 100; omega⟩
def txtV (l : List (List UInt8)) : VecD := atV 3 (l.map tItem)
theorem vecOk_txtV {l : List (List UInt8)} (hl : l.length ≤ 40) (hs : ∀ s ∈ l, s.length ≤ 60) : vecOk (txtV l) = true := by
  have h1 : shapeOk (txtV l) = true := by
    simp [shapeOk, sA, sB, sC, sD, sE, sF, sG, sH, txtV, atV, tItem, lenV, labelsOk, VecD.kind, VecD.items, VecD.parts, VecD.names, VecD.cls, VecD.levels, VecD.code, VecD.env, itemT, itemOk, atomV, hl]
    exact fun j hj => .inr (hs _ (List.getElem_mem hj))
  unfold vecOk
  rw [okN, h1]
  simp [txtV, atV, VecD.parts, cellsV, cellsVs, lenV, VecD.kind, VecD.items]
  omega
structure NT (w : World) (u : Value) (W : World) : Prop where
  r : Blk W w.heap.size 28 nvZ
  o : Blk W (w.heap.size + 1) 28 (boxV 3 u)
  below : Below w.heap.size w W
theorem NT.step {w : World} {u : Value} {W W' : World} (h : Ok (NT w u) W) (hb : Below W.heap.size W W') : Ok (NT w u) W' := ⟨(NT.r h).below hb, (NT.o h).below hb, (NT.below h).trans (hb.mono (NT.below h).size)⟩
theorem NT.step2 {w : World} {u : Value} {W W' : World} (h : Ok (NT w u) W) (hb : Below (w.heap.size + 2) W W') : Ok (NT w u) W' :=
  have h2 : w.heap.size + 1 < W.heap.size := (NT.o h).lt
  ⟨(hb.block _ (by omega)).trans (NT.r h), (hb.block _ (by omega)).trans (NT.o h), (NT.below h).trans (hb.mono (by omega))⟩
theorem NT.push {w : World} {u u' : Value} {W : World} (h : Ok (NT w u) W) : Ok (NT w u') (W.setCell ⟨w.heap.size + 1, 1, none⟩ u') :=
  ⟨(NT.r h).far ⟨w.heap.size + 1, 1, none⟩ (by simp) u', (NT.o h).set_ 1 u', (NT.below h).setCell (by simp) u'⟩

set_option maxHeartbeats 2000000 in
theorem spec_TextVector (l : List (List UInt8)) (hl : l.length ≤ 40) (hs : ∀ s ∈ l, s.length ≤ 60) (v : Value) (w : World) (h : Txts w v l) :
    Calls Try.prog 24 #[v] w (RetVec w (txtV l)) := by
  obtain ⟨A, c, rfl, hlc, hm, HC⟩ := Txts.open_ h
  have HS := Lib.hid hs
  clear hs
  clear h
  unfold maxLen at hm
  go_enter Try.func24, Try.ntmps24
  go_wp2_with fail
  go_loopw [4] (fun i wr => ∃ (k : Nat) (U : Option Addr) (q : Nat), k ≤ l.length ∧ i = .int .i64 k ∧ Hid (Ok (NT w (.slice U k q)) wr) ∧ Hid (wr.ownsRow (w.heap.size + 2) 36 3 (.slice U k q) k (((l.take k).map tItem).flatMap itC))) (fun i _ => l.length - (intOf i).toNat)
  case atStart =>
    refine ⟨0, none, 0, Nat.zero_le _, rfl, ⟨?_, ?_, ?_⟩, World.ownsRow_nil _ _ _ _⟩
    · exact (Blk.new w 28 nvZ).alloc _
    · exact Blk.new_at _ 28 (boxV 3 (.slice none 0 0)) _ (by simp)
    · exact ((Below.refl _ _).alloc (Nat.le_refl _) _).alloc (by simp) _
  case round =>
    obtain ⟨k, U, q, hk, rfl, HT, HO⟩ := hrel
    by_cases hlt : k < l.length
    · obtain ⟨b, off, rfl, hbl, hcell, hi⟩ := HC.out k hlt
      have y0 := fun W (h : Ok (NT w (.slice U k q)) W) => ((NT.below h).cell (p := ⟨b, off + k, none⟩) hbl).trans hcell
      have t1 := fun W (h : Ok (NT w (.slice U k q)) W) => (NT.o h).cell 1 _ rfl
      clear hcell hi
      have hw2 : w.heap.size + 2 ≤ wr.heap.size := (NT.o HT.out).lt
      go_wp2_with fail
      have g1 : Ok (NT w (.slice U k q)) wr.drew := NT.step HT.out (Below.drew (Below.refl _ _))
      refine wp_region_phase (T := Ok (NT w (.slice U k q))) (by kernel_rfl) [(2, 0), (1, 1), (2, 2), (2, 3), (2, 4), (1, 5), (0, 6), (0, 7), (0, 8), (2, 9), (0, 10)] [10] (by kernel_rfl) g1 ?_
      repeat ((first | (refine dynL_take rfl rfl (fun W g => by go_simp; rfl) ?_) | (refine dynL_pure rfl rfl (fun W => by go_simp; rfl) ?_)); go_simp)
      refine dynL_act rfl rfl (fun K hK => ?_)
      go_wp2_with fail
      refine (spec_l4Text _ _).mono ?_
      rintro e w2 ⟨rfl, hb⟩
      have HO2 := Lib.hid (own_below (own_below HO.out (Below.drew (Below.refl wr.heap.size wr))) hb)
      have hs2 : wr.heap.size ≤ w2.heap.size := hb.size
      replace g1 := NT.step g1 hb
      clear hb
      simp only []
      refine hK.out _ _ g1 ?_
      clear hK
      repeat ((first | (refine dynL_take rfl rfl (fun W g => by go_simp; rfl) ?_) | (refine dynL_pure rfl rfl (fun W => by go_simp; rfl) ?_)); go_simp)
      refine dynL_act rfl rfl (fun K hK => ?_)
      go_wp2_with fail
      refine hK.out _ _ (NT.step g1 ((Below.refl _ _).alloc (Nat.le_refl _) _)) ?_
      clear hK
      refine dynL_act rfl rfl (fun K hK => ?_)
      refine wp_push (.tmp 18) (.tmp 24) 24 rfl (w.heap.size + 2) 36 (.agg #[.int .i64 0, .int .i64 0, .string ByteArray.empty]) 3 32 Try.underlying24 info_Item rfl (by decide) w2 (.slice U k q) k _ (itC (tItem l[k])).toArray rfl rfl HO2.out rfl (by simp [itC, Value.oneCell']) (by omega) (by omega) (by omega) ?_
      intro v1 w3 ho3 _ _ hb3
      have g3 := NT.step2 g1 hb3
      obtain ⟨A3, c3, rfl⟩ := own_shapeN ho3
      have HO3 := Lib.hid ho3
      clear ho3 hb3
      refine hK.out _ _ g3 ?_
      clear hK
      go_simp
      repeat ((first | (refine dynL_take rfl rfl (fun W g => by go_simp; rfl) ?_) | (refine dynL_pure rfl rfl (fun W => by go_simp; rfl) ?_)); go_simp)
      have y1 := (NT.o g3).cell 1 _ rfl
      have f1 := (NT.o g3).frozen 1
      refine dynL_last rfl (by simp) rfl (fun K hK => ?_)
      go_wp2_with fail
      refine hK.out _ _ ?_
      clear hK
      refine dynL_done ?_
      go_wp2_with fail
      refine ⟨⟨k + 1, A3, c3, hlt, by go_num, NT.push g3, ?_⟩, by simp [intOf]; omega⟩
      have h7 := own_setCell HO3.out ⟨w.heap.size + 1, 1, none⟩ (.slice A3 (k + 1) c3) (by simp)
      show World.ownsRow _ _ _ _ _ _ _
      rw [List.take_succ_eq_append_getElem hlt, List.map_append, List.flatMap_append]
      simpa using h7
    · obtain rfl : k = l.length := by omega
      have y0 := HT.out.o.cell 0 _ rfl
      have y1 := HT.out.o.cell 1 _ rfl
      have y2 := HT.out.o.cell 2 _ rfl
      have y3 := HT.out.o.cell 3 _ rfl
      have y4 := HT.out.o.cell 4 _ rfl
      have y5 := HT.out.o.cell 5 _ rfl
      have y6 := HT.out.o.cell 6 _ rfl
      have y7 := HT.out.o.cell 7 _ rfl
      have r0 : wr.cell? ⟨w.heap.size, 0, none⟩ = some (.int .i64 0) := HT.out.r.cell 0 _ rfl
      have r1 : wr.cell? ⟨w.heap.size, 1, none⟩ = some (.slice none 0 0) := HT.out.r.cell 1 _ rfl
      have r2 : wr.cell? ⟨w.heap.size, 2, none⟩ = some (.slice none 0 0) := HT.out.r.cell 2 _ rfl
      have r3 : wr.cell? ⟨w.heap.size, 3, none⟩ = some (.slice none 0 0) := HT.out.r.cell 3 _ rfl
      have r4 : wr.cell? ⟨w.heap.size, 4, none⟩ = some (.slice none 0 0) := HT.out.r.cell 4 _ rfl
      have r5 : wr.cell? ⟨w.heap.size, 5, none⟩ = some (.slice none 0 0) := HT.out.r.cell 5 _ rfl
      have r6 : wr.cell? ⟨w.heap.size, 6, none⟩ = some (.int .i64 0) := HT.out.r.cell 6 _ rfl
      have r7 : wr.cell? ⟨w.heap.size, 7, none⟩ = some (.int .i64 0) := HT.out.r.cell 7 _ rfl
      have z0 := HT.out.r.frozen 0
      have z1 := HT.out.r.frozen 1
      have z2 := HT.out.r.frozen 2
      have z3 := HT.out.r.frozen 3
      have z4 := HT.out.r.frozen 4
      have z5 := HT.out.r.frozen 5
      have z6 := HT.out.r.frozen 6
      have z7 := HT.out.r.frozen 7
      have HL := Lib.hid (show l.length = (l.map tItem).length by simp)
      have hng : ¬ (40 : Int) < l.length := by omega
      have h8 := HO.out
      rw [List.take_length] at h8
      have hi2 : I64 3 := ⟨by decide, by decide⟩
      have hit : ∀ x ∈ l.map tItem, ItOk x := fun x hx => by obtain ⟨n, h, rfl⟩ := List.mem_map.1 hx; exact tItem_ok (HS.out n h)
      have HIT := Lib.hid hit
      have HO8 := Lib.hid h8
      have HV := Lib.hid (NC.vec (kd := 3) HL.out.symm h8 hit hi2 (Keeps.refl _ _))
      have HOK := Lib.hid (vecOk_txtV hl HS.out)
      have HSZ := Lib.hid (show szVector (txtV l) ≤ 1000000000000 by have := sz_atV (kd := 3) hit; rw [List.length_map] at this; unfold txtV; omega)
      clear h8 hit
      go_wp2_with fail
      refine (spec_IsVector (txtV l) _ _ HV.out.read HSZ.out).mono ?_
      rintro e w5 ⟨rfl, hb5⟩
      rw [HOK.out]
      have HT5 := Lib.hid (NT.step HT.out hb5)
      have HV5 := Lib.hid (own_below HO8.out hb5)
      clear hb5 y0 y1 y2 y3 y4 y5 y6 y7 r0 r1 r2 r3 r4 r5 r6 r7 z0 z1 z2 z3 z4 z5 z6 z7
      have y0 := (NT.o HT5.out).cell 0 _ rfl
      have y1 := (NT.o HT5.out).cell 1 _ rfl
      have y2 := (NT.o HT5.out).cell 2 _ rfl
      have y3 := (NT.o HT5.out).cell 3 _ rfl
      have y4 := (NT.o HT5.out).cell 4 _ rfl
      have y5 := (NT.o HT5.out).cell 5 _ rfl
      have y6 := (NT.o HT5.out).cell 6 _ rfl
      have y7 := (NT.o HT5.out).cell 7 _ rfl
      have r0 : w5.cell? ⟨w.heap.size, 0, none⟩ = some (.int .i64 0) := (NT.r HT5.out).cell 0 _ rfl
      have r1 : w5.cell? ⟨w.heap.size, 1, none⟩ = some (.slice none 0 0) := (NT.r HT5.out).cell 1 _ rfl
      have r2 : w5.cell? ⟨w.heap.size, 2, none⟩ = some (.slice none 0 0) := (NT.r HT5.out).cell 2 _ rfl
      have r3 : w5.cell? ⟨w.heap.size, 3, none⟩ = some (.slice none 0 0) := (NT.r HT5.out).cell 3 _ rfl
      have r4 : w5.cell? ⟨w.heap.size, 4, none⟩ = some (.slice none 0 0) := (NT.r HT5.out).cell 4 _ rfl
      have r5 : w5.cell? ⟨w.heap.size, 5, none⟩ = some (.slice none 0 0) := (NT.r HT5.out).cell 5 _ rfl
      have r6 : w5.cell? ⟨w.heap.size, 6, none⟩ = some (.int .i64 0) := (NT.r HT5.out).cell 6 _ rfl
      have r7 : w5.cell? ⟨w.heap.size, 7, none⟩ = some (.int .i64 0) := (NT.r HT5.out).cell 7 _ rfl
      have z0 := (NT.r HT5.out).frozen 0
      have z1 := (NT.r HT5.out).frozen 1
      have z2 := (NT.r HT5.out).frozen 2
      have z3 := (NT.r HT5.out).frozen 3
      have z4 := (NT.r HT5.out).frozen 4
      have z5 := (NT.r HT5.out).frozen 5
      have z6 := (NT.r HT5.out).frozen 6
      have z7 := (NT.r HT5.out).frozen 7
      go_wp2_with fail
      refine bodyPost_ret (v := .agg #[.int .i64 3, .slice U l.length q, .slice none 0 0, .slice none 0 0, .slice none 0 0, .slice none 0 0, .int .i64 0, .int .i64 0]) (by simp [results, Try.results24, go_sem, r0, r1, r2, r3, r4, r5, r6, r7]) rfl ?_
      have hkF := Keeps.sc (b := w.heap.size) (o := 7) (Keeps.sc (b := w.heap.size) (o := 6) (Keeps.sc (b := w.heap.size) (o := 5) (Keeps.sc (b := w.heap.size) (o := 4) (Keeps.sc (b := w.heap.size) (o := 3) (Keeps.sc (b := w.heap.size) (o := 2) (Keeps.sc (b := w.heap.size) (o := 1) (Keeps.sc (b := w.heap.size) (o := 0) (Keeps.refl (fun b => b ≠ w.heap.size) w5) (by simp) (.int .i64 3)) (by simp) (.slice U l.length q)) (by simp) (.slice none 0 0)) (by simp) (.slice none 0 0)) (by simp) (.slice none 0 0)) (by simp) (.slice none 0 0)) (by simp) (.int .i64 0)) (by simp) (.int .i64 0)
      have hbF := below_sc (b := w.heap.size) (o := 7) (below_sc (b := w.heap.size) (o := 6) (below_sc (b := w.heap.size) (o := 5) (below_sc (b := w.heap.size) (o := 4) (below_sc (b := w.heap.size) (o := 3) (below_sc (b := w.heap.size) (o := 2) (below_sc (b := w.heap.size) (o := 1) (below_sc (b := w.heap.size) (o := 0) (NT.below HT5.out) (Nat.le_refl _) (.int .i64 3)) (Nat.le_refl _) (.slice U l.length q)) (Nat.le_refl _) (.slice none 0 0)) (Nat.le_refl _) (.slice none 0 0)) (Nat.le_refl _) (.slice none 0 0)) (Nat.le_refl _) (.slice none 0 0)) (Nat.le_refl _) (.int .i64 0)) (Nat.le_refl _) (.int .i64 0)
      exact ⟨_, rfl, NC.vec (kd := 3) HL.out.symm HV5.out HIT.out ⟨by decide, by decide⟩ hkF, hbF⟩
end Go.Proofs.Ytjdimlhdkmkmbaa
