/-
  Merged texts: Good, Same, Rws, Plan, Phase, Phase2, Marks.
-/
import Derived.Test.YtjdfancbmjnjfaaGreatKBase
import Derived.Deep.RegionHeld3
namespace Go.Proofs.YtjdfancbmjnjfaaGreat
set_option maxRecDepth 100000
set_option maxRecDepth 100000
open Go.ChangeShapes Go.WideShapes Go.ChangeAt Go.RowKit Go.Deep
set_option linter.unusedVariables false

/-- G holds (behind a word of its own: the walk takes no hypothesis whose head is a letter for a rule) -/
def Ok (G : World → Prop) (W : World) : Prop := G W
/-- a condition on worlds that stays where memory is only added -/
structure GW (w : World) (G : World → Prop) : Prop where
  below : ∀ {W : World}, Ok G W → Below w.heap.size w W
  step : ∀ {W W' : World}, Ok G W → Below W.heap.size W W' → Ok G W'
  drew : ∀ {W : World}, Ok G W → Ok G W.drew
  drewN : ∀ {W : World} (n : Nat), Ok G W → Ok G (W.drewN n)
theorem ExL.gw (w : World) (bs : List (Nat × Nat × List Value)) : GW w (ExL w w.heap.size bs) :=
  ⟨fun h => h.2.1, fun h hb => ExL.below h hb, fun h => ExL.drew h, fun n h => ⟨h.1, below_drewN h.2.1 n, h.2.2⟩⟩
theorem GW.alloc {w : World} {G : World → Prop} (h : GW w G) {W : World} (g : Ok G W) (o : Obj) : Ok G (W.alloc o) := h.step g ((Below.refl _ _).alloc (Nat.le_refl _) o)
theorem good0 (w : World) : ∃ G : World → Prop, Ok G w ∧ Hid (GW w G) := ⟨ExL w w.heap.size [], ExL.start w, ExL.gw _ _⟩
theorem good1 (w : World) (t1 : Nat) (cs1 : List Value) : ∃ G : World → Prop, Ok G (w.alloc (.cells cs1.toArray t1)) ∧ Hid (GW w G) ∧ Hid (∀ W, Ok G W → Blk W w.heap.size t1 cs1) :=
  ⟨ExL w w.heap.size [(w.heap.size, t1, cs1)], (ExL.start w).push t1 cs1, ExL.gw _ _, fun W h => ExL.b0 h⟩
theorem good2 (w : World) (t1 : Nat) (cs1 : List Value) (t2 : Nat) (cs2 : List Value) : ∃ G : World → Prop, Ok G ((w.alloc (.cells cs1.toArray t1)).alloc (.cells cs2.toArray t2)) ∧ Hid (GW w G) ∧ Hid (∀ W, Ok G W → Blk W w.heap.size t1 cs1) ∧ Hid (∀ W, Ok G W → Blk W (w.heap.size + 1) t2 cs2) :=
  ⟨ExL w w.heap.size [(w.heap.size + 1, t2, cs2), (w.heap.size, t1, cs1)], by unfold Ok; simpa using ((ExL.start w).push t1 cs1).push t2 cs2, ExL.gw _ _, fun W h => ExL.b0 (ExL.tail h), fun W h => ExL.b0 h⟩
/-- the world under a letter, of which only G is known -/
theorem gen_w {G R : World → Prop} {W : World} (g : Ok G W) (h : ∀ W', Ok G W' → R W') : R W := h W g

theorem pk_c3 {w V : World} (hB : Below w.heap.size w V) {b o : Nat} (hb : b < w.heap.size) {a0 a1 a2 : Value} (ha : At w b o [a0, a1, a2]) : V.cell? ⟨b, o, none⟩ = some a0 ∧ V.cell? ⟨b, o + 1, none⟩ = some a1 ∧ V.cell? ⟨b, o + 2, none⟩ = some a2 :=
  ⟨(hB.cell (p := ⟨b, o, none⟩) hb).trans (by simpa using ha 0 _ rfl), (hB.cell (p := ⟨b, o + 1, none⟩) hb).trans (ha 1 _ rfl), (hB.cell (p := ⟨b, o + 2, none⟩) hb).trans (ha 2 _ rfl)⟩
theorem pk_c13 {w V : World} (hB : Below w.heap.size w V) {b o : Nat} (hb : b < w.heap.size) {a0 a1 a2 a3 a4 a5 a6 a7 a8 a9 a10 a11 a12 : Value} (ha : At w b o [a0, a1, a2, a3, a4, a5, a6, a7, a8, a9, a10, a11, a12]) : V.cell? ⟨b, o, none⟩ = some a0 ∧ V.cell? ⟨b, o + 1, none⟩ = some a1 ∧ V.cell? ⟨b, o + 2, none⟩ = some a2 ∧ V.cell? ⟨b, o + 3, none⟩ = some a3 ∧ V.cell? ⟨b, o + 4, none⟩ = some a4 ∧ V.cell? ⟨b, o + 5, none⟩ = some a5 ∧ V.cell? ⟨b, o + 6, none⟩ = some a6 ∧ V.cell? ⟨b, o + 7, none⟩ = some a7 ∧ V.cell? ⟨b, o + 8, none⟩ = some a8 ∧ V.cell? ⟨b, o + 9, none⟩ = some a9 ∧ V.cell? ⟨b, o + 10, none⟩ = some a10 ∧ V.cell? ⟨b, o + 11, none⟩ = some a11 ∧ V.cell? ⟨b, o + 12, none⟩ = some a12 :=
  ⟨(hB.cell (p := ⟨b, o, none⟩) hb).trans (by simpa using ha 0 _ rfl), (hB.cell (p := ⟨b, o + 1, none⟩) hb).trans (ha 1 _ rfl), (hB.cell (p := ⟨b, o + 2, none⟩) hb).trans (ha 2 _ rfl), (hB.cell (p := ⟨b, o + 3, none⟩) hb).trans (ha 3 _ rfl), (hB.cell (p := ⟨b, o + 4, none⟩) hb).trans (ha 4 _ rfl), (hB.cell (p := ⟨b, o + 5, none⟩) hb).trans (ha 5 _ rfl), (hB.cell (p := ⟨b, o + 6, none⟩) hb).trans (ha 6 _ rfl), (hB.cell (p := ⟨b, o + 7, none⟩) hb).trans (ha 7 _ rfl), (hB.cell (p := ⟨b, o + 8, none⟩) hb).trans (ha 8 _ rfl), (hB.cell (p := ⟨b, o + 9, none⟩) hb).trans (ha 9 _ rfl), (hB.cell (p := ⟨b, o + 10, none⟩) hb).trans (ha 10 _ rfl), (hB.cell (p := ⟨b, o + 11, none⟩) hb).trans (ha 11 _ rfl), (hB.cell (p := ⟨b, o + 12, none⟩) hb).trans (ha 12 _ rfl)⟩
theorem pk_e3 {w : World} {G : World → Prop} (HG : Hid (GW w G)) {b o : Nat} (hb : b < w.heap.size) {a0 a1 a2 : Value} (ha : At w b o [a0, a1, a2]) : (∀ W, Ok G W → W.cell? ⟨b, o, none⟩ = some a0) ∧ (∀ W, Ok G W → W.cell? ⟨b, o + 1, none⟩ = some a1) ∧ (∀ W, Ok G W → W.cell? ⟨b, o + 2, none⟩ = some a2) :=
  ⟨fun W h => ((HG.out.below h).cell (p := ⟨b, o, none⟩) hb).trans (by simpa using ha 0 _ rfl), fun W h => ((HG.out.below h).cell (p := ⟨b, o + 1, none⟩) hb).trans (ha 1 _ rfl), fun W h => ((HG.out.below h).cell (p := ⟨b, o + 2, none⟩) hb).trans (ha 2 _ rfl)⟩
theorem pk_e8 {w : World} {G : World → Prop} (HG : Hid (GW w G)) {b o : Nat} (hb : b < w.heap.size) {a0 a1 a2 a3 a4 a5 a6 a7 : Value} (ha : At w b o [a0, a1, a2, a3, a4, a5, a6, a7]) : (∀ W, Ok G W → W.cell? ⟨b, o, none⟩ = some a0) ∧ (∀ W, Ok G W → W.cell? ⟨b, o + 1, none⟩ = some a1) ∧ (∀ W, Ok G W → W.cell? ⟨b, o + 2, none⟩ = some a2) ∧ (∀ W, Ok G W → W.cell? ⟨b, o + 3, none⟩ = some a3) ∧ (∀ W, Ok G W → W.cell? ⟨b, o + 4, none⟩ = some a4) ∧ (∀ W, Ok G W → W.cell? ⟨b, o + 5, none⟩ = some a5) ∧ (∀ W, Ok G W → W.cell? ⟨b, o + 6, none⟩ = some a6) ∧ (∀ W, Ok G W → W.cell? ⟨b, o + 7, none⟩ = some a7) :=
  ⟨fun W h => ((HG.out.below h).cell (p := ⟨b, o, none⟩) hb).trans (by simpa using ha 0 _ rfl), fun W h => ((HG.out.below h).cell (p := ⟨b, o + 1, none⟩) hb).trans (ha 1 _ rfl), fun W h => ((HG.out.below h).cell (p := ⟨b, o + 2, none⟩) hb).trans (ha 2 _ rfl), fun W h => ((HG.out.below h).cell (p := ⟨b, o + 3, none⟩) hb).trans (ha 3 _ rfl), fun W h => ((HG.out.below h).cell (p := ⟨b, o + 4, none⟩) hb).trans (ha 4 _ rfl), fun W h => ((HG.out.below h).cell (p := ⟨b, o + 5, none⟩) hb).trans (ha 5 _ rfl), fun W h => ((HG.out.below h).cell (p := ⟨b, o + 6, none⟩) hb).trans (ha 6 _ rfl), fun W h => ((HG.out.below h).cell (p := ⟨b, o + 7, none⟩) hb).trans (ha 7 _ rfl)⟩
theorem pk_e13 {w : World} {G : World → Prop} (HG : Hid (GW w G)) {b o : Nat} (hb : b < w.heap.size) {a0 a1 a2 a3 a4 a5 a6 a7 a8 a9 a10 a11 a12 : Value} (ha : At w b o [a0, a1, a2, a3, a4, a5, a6, a7, a8, a9, a10, a11, a12]) : (∀ W, Ok G W → W.cell? ⟨b, o, none⟩ = some a0) ∧ (∀ W, Ok G W → W.cell? ⟨b, o + 1, none⟩ = some a1) ∧ (∀ W, Ok G W → W.cell? ⟨b, o + 2, none⟩ = some a2) ∧ (∀ W, Ok G W → W.cell? ⟨b, o + 3, none⟩ = some a3) ∧ (∀ W, Ok G W → W.cell? ⟨b, o + 4, none⟩ = some a4) ∧ (∀ W, Ok G W → W.cell? ⟨b, o + 5, none⟩ = some a5) ∧ (∀ W, Ok G W → W.cell? ⟨b, o + 6, none⟩ = some a6) ∧ (∀ W, Ok G W → W.cell? ⟨b, o + 7, none⟩ = some a7) ∧ (∀ W, Ok G W → W.cell? ⟨b, o + 8, none⟩ = some a8) ∧ (∀ W, Ok G W → W.cell? ⟨b, o + 9, none⟩ = some a9) ∧ (∀ W, Ok G W → W.cell? ⟨b, o + 10, none⟩ = some a10) ∧ (∀ W, Ok G W → W.cell? ⟨b, o + 11, none⟩ = some a11) ∧ (∀ W, Ok G W → W.cell? ⟨b, o + 12, none⟩ = some a12) :=
  ⟨fun W h => ((HG.out.below h).cell (p := ⟨b, o, none⟩) hb).trans (by simpa using ha 0 _ rfl), fun W h => ((HG.out.below h).cell (p := ⟨b, o + 1, none⟩) hb).trans (ha 1 _ rfl), fun W h => ((HG.out.below h).cell (p := ⟨b, o + 2, none⟩) hb).trans (ha 2 _ rfl), fun W h => ((HG.out.below h).cell (p := ⟨b, o + 3, none⟩) hb).trans (ha 3 _ rfl), fun W h => ((HG.out.below h).cell (p := ⟨b, o + 4, none⟩) hb).trans (ha 4 _ rfl), fun W h => ((HG.out.below h).cell (p := ⟨b, o + 5, none⟩) hb).trans (ha 5 _ rfl), fun W h => ((HG.out.below h).cell (p := ⟨b, o + 6, none⟩) hb).trans (ha 6 _ rfl), fun W h => ((HG.out.below h).cell (p := ⟨b, o + 7, none⟩) hb).trans (ha 7 _ rfl), fun W h => ((HG.out.below h).cell (p := ⟨b, o + 8, none⟩) hb).trans (ha 8 _ rfl), fun W h => ((HG.out.below h).cell (p := ⟨b, o + 9, none⟩) hb).trans (ha 9 _ rfl), fun W h => ((HG.out.below h).cell (p := ⟨b, o + 10, none⟩) hb).trans (ha 10 _ rfl), fun W h => ((HG.out.below h).cell (p := ⟨b, o + 11, none⟩) hb).trans (ha 11 _ rfl), fun W h => ((HG.out.below h).cell (p := ⟨b, o + 12, none⟩) hb).trans (ha 12 _ rfl)⟩
theorem pk_f3 {G : World → Prop} {g t : Nat} {a0 a1 a2 : Value} (B : Hid (∀ W, Ok G W → Blk W g t [a0, a1, a2])) : (∀ W, Ok G W → W.cell? ⟨g, 0, none⟩ = some a0) ∧ (∀ W, Ok G W → W.cell? ⟨g, 1, none⟩ = some a1) ∧ (∀ W, Ok G W → W.cell? ⟨g, 2, none⟩ = some a2) :=
  ⟨fun W h => (B.out W h).cell 0 _ rfl, fun W h => (B.out W h).cell 1 _ rfl, fun W h => (B.out W h).cell 2 _ rfl⟩
theorem pk_f8 {G : World → Prop} {g t : Nat} {a0 a1 a2 a3 a4 a5 a6 a7 : Value} (B : Hid (∀ W, Ok G W → Blk W g t [a0, a1, a2, a3, a4, a5, a6, a7])) : (∀ W, Ok G W → W.cell? ⟨g, 0, none⟩ = some a0) ∧ (∀ W, Ok G W → W.cell? ⟨g, 1, none⟩ = some a1) ∧ (∀ W, Ok G W → W.cell? ⟨g, 2, none⟩ = some a2) ∧ (∀ W, Ok G W → W.cell? ⟨g, 3, none⟩ = some a3) ∧ (∀ W, Ok G W → W.cell? ⟨g, 4, none⟩ = some a4) ∧ (∀ W, Ok G W → W.cell? ⟨g, 5, none⟩ = some a5) ∧ (∀ W, Ok G W → W.cell? ⟨g, 6, none⟩ = some a6) ∧ (∀ W, Ok G W → W.cell? ⟨g, 7, none⟩ = some a7) :=
  ⟨fun W h => (B.out W h).cell 0 _ rfl, fun W h => (B.out W h).cell 1 _ rfl, fun W h => (B.out W h).cell 2 _ rfl, fun W h => (B.out W h).cell 3 _ rfl, fun W h => (B.out W h).cell 4 _ rfl, fun W h => (B.out W h).cell 5 _ rfl, fun W h => (B.out W h).cell 6 _ rfl, fun W h => (B.out W h).cell 7 _ rfl⟩
theorem pk_f13 {G : World → Prop} {g t : Nat} {a0 a1 a2 a3 a4 a5 a6 a7 a8 a9 a10 a11 a12 : Value} (B : Hid (∀ W, Ok G W → Blk W g t [a0, a1, a2, a3, a4, a5, a6, a7, a8, a9, a10, a11, a12])) : (∀ W, Ok G W → W.cell? ⟨g, 0, none⟩ = some a0) ∧ (∀ W, Ok G W → W.cell? ⟨g, 1, none⟩ = some a1) ∧ (∀ W, Ok G W → W.cell? ⟨g, 2, none⟩ = some a2) ∧ (∀ W, Ok G W → W.cell? ⟨g, 3, none⟩ = some a3) ∧ (∀ W, Ok G W → W.cell? ⟨g, 4, none⟩ = some a4) ∧ (∀ W, Ok G W → W.cell? ⟨g, 5, none⟩ = some a5) ∧ (∀ W, Ok G W → W.cell? ⟨g, 6, none⟩ = some a6) ∧ (∀ W, Ok G W → W.cell? ⟨g, 7, none⟩ = some a7) ∧ (∀ W, Ok G W → W.cell? ⟨g, 8, none⟩ = some a8) ∧ (∀ W, Ok G W → W.cell? ⟨g, 9, none⟩ = some a9) ∧ (∀ W, Ok G W → W.cell? ⟨g, 10, none⟩ = some a10) ∧ (∀ W, Ok G W → W.cell? ⟨g, 11, none⟩ = some a11) ∧ (∀ W, Ok G W → W.cell? ⟨g, 12, none⟩ = some a12) :=
  ⟨fun W h => (B.out W h).cell 0 _ rfl, fun W h => (B.out W h).cell 1 _ rfl, fun W h => (B.out W h).cell 2 _ rfl, fun W h => (B.out W h).cell 3 _ rfl, fun W h => (B.out W h).cell 4 _ rfl, fun W h => (B.out W h).cell 5 _ rfl, fun W h => (B.out W h).cell 6 _ rfl, fun W h => (B.out W h).cell 7 _ rfl, fun W h => (B.out W h).cell 8 _ rfl, fun W h => (B.out W h).cell 9 _ rfl, fun W h => (B.out W h).cell 10 _ rfl, fun W h => (B.out W h).cell 11 _ rfl, fun W h => (B.out W h).cell 12 _ rfl⟩
end Go.Proofs.YtjdfancbmjnjfaaGreat
namespace Go.Proofs.YtjdfancbmjnjfaaGreat
set_option maxRecDepth 100000
open Go.ChangeShapes Go.WideShapes Go.ChangeAt Go.RowKit Go.Deep

set_option maxHeartbeats 400000 in
theorem spec_l4Strings (l m : List (List UInt8)) (v u : Value) (w : World) (h : Txts w v l) (h' : Txts w u m) :
    Calls Tryz.prog 34 #[v, u] w fun e w' => e = .returned (.bool (eqL l m)) ∧ ∃ n, w' = w.drewN n := by
  obtain ⟨A, c, rfl, hlc, hm, HC⟩ := h.open_
  obtain ⟨A', c', rfl, hlc', hm', HC'⟩ := h'.open_
  clear h h'
  unfold maxLen at hm hm'
  by_cases hlen : l.length = m.length
  · have hL := Lib.hid hlen
    have hb1 : ((l.length : Int) != (m.length : Int)) = false := by simp [hlen]
    have hb2 : (l.length != m.length) = false := by simp [hlen]
    have hle : l.length ≤ m.length := by omega
    clear hlen
    go_enter Tryz.func34, Tryz.ntmps34
    go_wp2
    go_loopw [5] (fun i wr => ∃ k : Nat, k ≤ l.length ∧ i = .int .i64 k ∧ Hid (∀ j (h1 : j < l.length) (h2 : j < m.length), j < k → l[j] = m[j]) ∧ ∃ n, wr = w.drewN n) (fun i _ => l.length - (intOf i).toNat)
    case atStart => exact ⟨0, Nat.zero_le _, rfl, fun j h hj _ => absurd hj (by omega), 0, rfl⟩
    case round =>
      obtain ⟨k, hk, rfl, hn, n, rfl⟩ := hrel
      by_cases hlt : k < l.length
      · obtain ⟨b, off, rfl, hbl, hcell, hsz⟩ := HC.out k hlt
        have hlt' : k < m.length := by omega
        obtain ⟨b', off', rfl, hbl', hcell', hsz'⟩ := HC'.out k hlt'
        go_wp2
        go_quiet (fail)
        go_wp2
        · go_ret
          exact ⟨ret_bool (eqL_at k hlt hlt' (by have h9 : (!l[k] == m[k]) = true := by assumption
                                                 simpa using h9)).symm, n + nq, by rw [World.drewN_drewN]⟩
        · have h9 : (!l[k] == m[k]) = false := by assumption
          go_roundw
          case rel => exact ⟨k + 1, by omega, by go_num, fun j h1 h2 hj => by rcases Nat.lt_succ_iff_lt_or_eq.1 hj with h3 | rfl; exact hn.out j h1 h2 h3; simpa using h9, _, rfl⟩
          case measure => simp [intOf]; omega
      · go_wp2
        go_ret
        exact ⟨ret_bool (eqL_all hL.out (fun j h1 h2 => hn.out j h1 h2 (by omega))).symm, _, rfl⟩
  · have hb1 : ((l.length : Int) != (m.length : Int)) = true := by simp; omega
    have hb2 : (l.length != m.length) = true := by simp; omega
    go_enter Tryz.func34, Tryz.ntmps34
    go_wp2
    go_ret
    exact ⟨ret_bool (eqL_len hlen).symm, 0, rfl⟩

set_option maxHeartbeats 400000 in
theorem impl_sameTexts (l m : List (List UInt8)) (v u : Value) (w : World) (h : Txts w v l) (h' : Txts w u m) :
    Calls Tryz.prog 65 #[v, u] w fun e w' => e = .returned (.bool (eqL l m)) ∧ ∃ n, w' = w.drewN n := by
  obtain ⟨A, c, rfl, hlc, hm, HC⟩ := h.open_
  obtain ⟨A', c', rfl, hlc', hm', HC'⟩ := h'.open_
  clear h h'
  unfold maxLen at hm hm'
  by_cases hlen : l.length = m.length
  · have hL := Lib.hid hlen
    have hb1 : ((l.length : Int) != (m.length : Int)) = false := by simp [hlen]
    have hb2 : (l.length != m.length) = false := by simp [hlen]
    have hle : l.length ≤ m.length := by omega
    clear hlen
    go_enter Tryz.func65, Tryz.ntmps65
    go_wp2
    go_loopw [13] (fun i wr => ∃ k : Nat, k ≤ l.length ∧ i = .int .i64 k ∧ Hid (∀ j (h1 : j < l.length) (h2 : j < m.length), j < k → l[j] = m[j]) ∧ ∃ n, wr = w.drewN n) (fun i _ => l.length - (intOf i).toNat)
    case atStart => exact ⟨0, Nat.zero_le _, rfl, fun j h hj _ => absurd hj (by omega), 0, rfl⟩
    case round =>
      obtain ⟨k, hk, rfl, hn, n, rfl⟩ := hrel
      by_cases hlt : k < l.length
      · obtain ⟨b, off, rfl, hbl, hcell, hsz⟩ := HC.out k hlt
        have hlt' : k < m.length := by omega
        obtain ⟨b', off', rfl, hbl', hcell', hsz'⟩ := HC'.out k hlt'
        go_wp2
        go_quiet (fail)
        go_wp2
        · go_ret
          exact ⟨ret_bool (eqL_at k hlt hlt' (by have h9 : (!l[k] == m[k]) = true := by assumption
                                                 simpa using h9)).symm, n + nq, by rw [World.drewN_drewN]⟩
        · have h9 : (!l[k] == m[k]) = false := by assumption
          go_roundw
          case rel => exact ⟨k + 1, by omega, by go_num, fun j h1 h2 hj => by rcases Nat.lt_succ_iff_lt_or_eq.1 hj with h3 | rfl; exact hn.out j h1 h2 h3; simpa using h9, _, rfl⟩
          case measure => simp [intOf]; omega
      · go_wp2
        go_ret
        exact ⟨ret_bool (eqL_all hL.out (fun j h1 h2 => hn.out j h1 h2 (by omega))).symm, _, rfl⟩
  · have hb1 : ((l.length : Int) != (m.length : Int)) = true := by simp; omega
    have hb2 : (l.length != m.length) = true := by simp; omega
    go_enter Tryz.func65, Tryz.ntmps65
    go_wp2
    go_ret
    exact ⟨ret_bool (eqL_len hlen).symm, 0, rfl⟩

end Go.Proofs.YtjdfancbmjnjfaaGreat
namespace Go.Proofs.YtjdfancbmjnjfaaGreat
set_option maxRecDepth 100000
open Go.ChangeShapes Go.WideShapes Go.ChangeAt Go.RowKit Go.Deep
set_option linter.unusedVariables false
set_option linter.unusedSimpArgs false

structure Rws (w0 : World) (ρ : List (Nat × Nat × List Value)) (W : World) : Prop where
  below : Below w0.heap.size w0 W
  at_ : ∀ (i : Nat) (p : Nat × Nat × List Value), ρ[i]? = some p → w0.heap.size ≤ p.1 ∧ Blk W p.1 p.2.1 p.2.2
  ne : ∀ (i j : Nat) (p q : Nat × Nat × List Value), ρ[i]? = some p → ρ[j]? = some q → i ≠ j → p.1 ≠ q.1
section
variable {w0 W W' : World} {ρ : List (Nat × Nat × List Value)}
theorem Rws.start (w : World) : Rws w [] w := ⟨Below.refl _ _, fun i p h => by simp at h, fun i j p q h => by simp at h⟩
theorem Rws.size (h : Rws w0 ρ W) : w0.heap.size ≤ W.heap.size := h.below.size
theorem Rws.lo (h : Rws w0 ρ W) (i : Nat) (p : Nat × Nat × List Value) (hp : ρ[i]? = some p) : w0.heap.size ≤ p.1 := (h.at_ i p hp).1
theorem Rws.blk (h : Rws w0 ρ W) (i : Nat) (p : Nat × Nat × List Value) (hp : ρ[i]? = some p) : Blk W p.1 p.2.1 p.2.2 := (h.at_ i p hp).2
theorem Rws.cell (h : Rws w0 ρ W) (i : Nat) (p : Nat × Nat × List Value) (hp : ρ[i]? = some p) (k : Nat) (u : Value) (hk : p.2.2[k]? = some u) : W.cell? ⟨p.1, k, none⟩ = some u := (h.at_ i p hp).2.cell k u hk
theorem Rws.frozen (h : Rws w0 ρ W) (i : Nat) (p : Nat × Nat × List Value) (hp : ρ[i]? = some p) (k : Nat) : W.frozen? ⟨p.1, k, none⟩ = false := (h.at_ i p hp).2.frozen k
theorem Rws.step (h : Rws w0 ρ W) (hb : Below W.heap.size W W') : Rws w0 ρ W' := ⟨h.below.trans (hb.mono h.size), fun i p hp => ⟨h.lo i p hp, (h.blk i p hp).below hb⟩, h.ne⟩
theorem Rws.add (h : Rws w0 ρ W) (hb : Below W.heap.size W W') {g t : Nat} {cs : List Value} (hB : Blk W' g t cs) (hg : W.heap.size ≤ g) : Rws w0 ((g, t, cs) :: ρ) W' := by
  have h1 := h.step hb
  have hne : ∀ (i : Nat) (p : Nat × Nat × List Value), ρ[i]? = some p → g ≠ p.1 := fun i p hp e => by
    have := (h.blk i p hp).lt
    omega
  refine ⟨h1.below, fun i p hp => ?_, fun i j p q hp hq hij => ?_⟩
  · cases i with
    | zero =>
      simp only [List.getElem?_cons_zero, Option.some.injEq] at hp
      subst hp
      exact ⟨Nat.le_trans h.size hg, hB⟩
    | succ i => exact h1.at_ i p (by simpa using hp)
  · cases i with
    | zero =>
      cases j with
      | zero => exact absurd rfl hij
      | succ j =>
        simp only [List.getElem?_cons_zero, Option.some.injEq, List.getElem?_cons_succ] at hp hq
        subst hp
        exact hne j q hq
    | succ i =>
      cases j with
      | zero =>
        simp only [List.getElem?_cons_zero, Option.some.injEq, List.getElem?_cons_succ] at hp hq
        subst hq
        exact (hne i p hp).symm
      | succ j => exact h.ne i j p q (by simpa using hp) (by simpa using hq) (by omega)
theorem Rws.push (h : Rws w0 ρ W) (t : Nat) (cs : List Value) : Rws w0 ((W.heap.size, t, cs) :: ρ) (W.alloc (.cells cs.toArray t)) :=
  h.add ((Below.refl _ _).alloc (Nat.le_refl _) _) (Blk.new W t cs) (Nat.le_refl _)
theorem Rws.tail {p : Nat × Nat × List Value} (h : Rws w0 (p :: ρ) W) : Rws w0 ρ W := ⟨h.below, fun i q hq => h.at_ (i + 1) q (by simpa using hq), fun i j a b ha hb hij => h.ne (i + 1) (j + 1) a b (by simpa using ha) (by simpa using hb) (by omega)⟩
/-- the second row is left out -/
theorem Rws.drop1 {p q : Nat × Nat × List Value} (h : Rws w0 (p :: q :: ρ) W) : Rws w0 (p :: ρ) W := by
  have e : ∀ (i : Nat) (r : Nat × Nat × List Value), (p :: ρ)[i]? = some r → (p :: q :: ρ)[if i = 0 then 0 else i + 1]? = some r := fun i r hr => by
    cases i with
    | zero => exact hr
    | succ i => rw [if_neg (by omega)]; simpa using hr
  refine ⟨h.below, fun i r hr => h.at_ _ r (e i r hr), fun i j a b ha hb hij => h.ne _ _ a b (e i a ha) (e j b hb) (by split <;> split <;> omega)⟩
theorem Rws.setCell (h : Rws w0 ρ W) (i : Nat) (p : Nat × Nat × List Value) (hp : ρ[i]? = some p) (k : Nat) (u : Value) : Rws w0 (ρ.set i (p.1, p.2.1, p.2.2.set k u)) (W.setCell ⟨p.1, k, none⟩ u) := by
  refine ⟨below_sc h.below (h.lo i p hp) u, fun j q hq => ?_, fun a b c d hc hd hab => ?_⟩
  · rw [List.getElem?_set] at hq
    split at hq
    · rename_i e
      subst e
      split at hq
      · simp only [Option.some.injEq] at hq
        subst hq
        exact ⟨h.lo i p hp, (h.blk i p hp).set_ k u⟩
      · cases hq
    · rename_i e
      exact ⟨h.lo j q hq, (h.blk j q hq).far _ (fun hh => h.ne i j p q hp hq e hh.symm) u⟩
  · have key : ∀ (j : Nat) (q : Nat × Nat × List Value), (ρ.set i (p.1, p.2.1, p.2.2.set k u))[j]? = some q → ∃ q', ρ[j]? = some q' ∧ q'.1 = q.1 := fun j q hq => by
      rw [List.getElem?_set] at hq
      split at hq
      · rename_i e
        subst e
        split at hq
        · simp only [Option.some.injEq] at hq
          subst hq
          exact ⟨p, hp, rfl⟩
        · cases hq
      · exact ⟨q, hq, rfl⟩
    obtain ⟨c', hc', e1⟩ := key a c hc
    obtain ⟨d', hd', e2⟩ := key b d hd
    rw [← e1, ← e2]
    exact h.ne a b c' d' hc' hd' hab
/-- place k of row i is set -/
theorem Rws.set (h : Rws w0 ρ W) (i g t : Nat) (cs : List Value) (hp : ρ[i]? = some (g, t, cs)) (k : Nat) (u : Value) : Rws w0 (ρ.set i (g, t, cs.set k u)) (W.setCell ⟨g, k, none⟩ u) := h.setCell i (g, t, cs) hp k u
theorem Rws.keep (h : Rws w0 ρ W) (hb : Below w0.heap.size w0 W') (hk : Keeps (fun b => ∃ p ∈ ρ, p.1 = b) W W') : Rws w0 ρ W' :=
  ⟨hb, fun i p hp => ⟨h.lo i p hp, (hk.2 p.1 (h.blk i p hp).lt ⟨p, List.mem_of_getElem? hp, rfl⟩).trans (h.blk i p hp)⟩, h.ne⟩
end

/-! ### rows of truth values and numbers -/
def boolsL (f : Nat → Bool) (n : Nat) : List Value := (List.range n).map fun i => Value.bool (f i)
def intsL (f : Nat → Int) (n : Nat) : List Value := (List.range n).map fun i => Value.int .i64 (f i)
theorem intsL_len (f : Nat → Int) (n : Nat) : (intsL f n).length = n := by simp [intsL]
theorem boolsL_at (f : Nat → Bool) (n k : Nat) (h : k < n) : (boolsL f n)[k]? = some (.bool (f k)) := by simp [boolsL, h]
theorem intsL_at (f : Nat → Int) (n k : Nat) (h : k < n) : (intsL f n)[k]? = some (.int .i64 (f k)) := by simp [intsL, h]
theorem boolsL_new (n : Nat) : (madeCells #[Value.bool false] n).toList = boolsL (fun _ => false) n := by
  apply List.ext_getElem
  · simp [boolsL, madeCells]
  · intro i h1 h2
    simp [boolsL, madeCells, Nat.mod_one]
theorem intsL_new (n : Nat) : (madeCells #[Value.int .i64 0] n).toList = intsL (fun _ => 0) n := by
  apply List.ext_getElem
  · simp [intsL, madeCells]
  · intro i h1 h2
    simp [intsL, madeCells, Nat.mod_one]
theorem boolsL_congr {f g : Nat → Bool} {n : Nat} (h : ∀ j, j < n → f j = g j) : boolsL f n = boolsL g n := by
  unfold boolsL
  exact List.map_congr_left fun i hi => by rw [h i (List.mem_range.1 hi)]
theorem intsL_congr {f g : Nat → Int} {n : Nat} (h : ∀ j, j < n → f j = g j) : intsL f n = intsL g n := by
  unfold intsL
  exact List.map_congr_left fun i hi => by rw [h i (List.mem_range.1 hi)]
theorem boolsL_set {f g : Nat → Bool} {n k : Nat} {b : Bool} (h : ∀ j, j < n → g j = if j = k then b else f j) : (boolsL f n).set k (.bool b) = boolsL g n := by
  apply List.ext_getElem
  · simp [boolsL]
  · intro i h1 h2
    have hi : i < n := by simpa [boolsL] using h2
    rw [List.getElem_set]
    simp only [boolsL, List.getElem_map, List.getElem_range]
    rw [h i hi]
    split <;> (rename_i e; first | (subst e; simp) | simp [Ne.symm e])
theorem intsL_set {f g : Nat → Int} {n k : Nat} {b : Int} (h : ∀ j, j < n → g j = if j = k then b else f j) : (intsL f n).set k (.int .i64 b) = intsL g n := by
  apply List.ext_getElem
  · simp [intsL]
  · intro i h1 h2
    have hi : i < n := by simpa [intsL] using h2
    rw [List.getElem_set]
    simp only [intsL, List.getElem_map, List.getElem_range]
    rw [h i hi]
    split <;> (rename_i e; first | (subst e; simp) | simp [Ne.symm e])
theorem boolsL_made (n : Nat) : madeCells #[Value.bool false] n = (boolsL (fun _ => false) n).toArray := by rw [← boolsL_new]
theorem intsL_made (n : Nat) : madeCells #[Value.int .i64 0] n = (intsL (fun _ => 0) n).toArray := by rw [← intsL_new]

/-- gives back a new slice of truth values -/
def RetBools (w : World) (f : Nat → Bool) (n : Nat) (e : Ending) (w' : World) : Prop :=
  ∃ K, e = .returned (.slice (some ⟨K, 0, none⟩) n n) ∧ Blk w' K 4 (boolsL f n) ∧ w.heap.size ≤ K ∧ Below w.heap.size w w'
end Go.Proofs.YtjdfancbmjnjfaaGreat
namespace Go.Proofs.YtjdfancbmjnjfaaGreat
set_option maxRecDepth 100000
open Go.ChangeShapes Go.WideShapes Go.ChangeAt Go.RowKit Go.Deep
set_option linter.unusedVariables false

section
variable {P : Program} {ops : Array Oper} {Q : Exit → Act → World → Prop} {S : World → Prop}

/-- may the operations be taken in this order? -/
def planOk (ops : Array Oper) : List (Bool × Nat) → Array Bool → Bool
  | [], listed => (Region.ready .any ops listed).isEmpty
  | (true, i) :: r, listed => Region.free .any ops listed i && (Region.ready .any ops listed).contains i && planOk ops r (listed.setIfInBounds i true)
  | (false, i) :: r, listed => decide (Region.ready .any ops listed = [i]) && planOk ops r (listed.setIfInBounds i true)

def dyn (P : Program) (ops : Array Oper) (Q : Exit → Act → World → Prop) (S : World → Prop) : List (Bool × Nat) → Act → World → Prop
  | [], a, w => Q .normal a w
  | (true, i) :: r, a, w => ∃ o v, ops[i]? = some o ∧ YieldsIf P ops S o v a ∧ dyn P ops Q S r (a.put o.dst v) w
  | (false, i) :: r, a, w => wpOp P ops Q i (fun a' w' => S w' ∧ dyn P ops Q S r a' w') a w

theorem dyn_take {i : Nat} {o : Oper} {v : Value} {l : List (Bool × Nat)} {a : Act} {w : World} (hi : ops[i]? = some o) (hw : Region.wanted o (yielded ops a.tmps) = true)
    (hv : ∀ W, S W → (execOp a.eval o).run P W = .ok (.value v) W) (h : dyn P ops Q S l (a.put o.dst v) w) : dyn P ops Q S ((true, i) :: l) a w := ⟨o, v, hi, .inl ⟨hw, hv⟩, h⟩
theorem dyn_skip {i : Nat} {o : Oper} {l : List (Bool × Nat)} {a : Act} {w : World} (hi : ops[i]? = some o) (hw : Region.wanted o (yielded ops a.tmps) = false)
    (h : dyn P ops Q S l (a.put o.dst undef) w) : dyn P ops Q S ((true, i) :: l) a w := ⟨o, undef, hi, .inr ⟨hw, rfl⟩, h⟩
theorem dyn_act {i : Nat} {o : Oper} {l : List (Bool × Nat)} {a : Act} {w : World} (hi : ops[i]? = some o) (hw : Region.wanted o (yielded ops a.tmps) = true)
    (h : ∀ K : Act → World → Prop, Shut (∀ a w, S w → dyn P ops Q S l a w → K a w) → Oper.wp P o a w K Q) : dyn P ops Q S ((false, i) :: l) a w :=
  wpOp_step hi (fun K hK => by rw [if_pos hw]; exact h K (fun a w hS hd => hK a w ⟨hS, hd⟩))
theorem dyn_pass {i : Nat} {o : Oper} {l : List (Bool × Nat)} {a : Act} {w : World} (hi : ops[i]? = some o) (hw : Region.wanted o (yielded ops a.tmps) = false) (hS : S w)
    (h : dyn P ops Q S l (a.put o.dst undef) w) : dyn P ops Q S ((false, i) :: l) a w :=
  wpOp_step hi (fun K hK => by rw [if_neg (by rw [hw]; decide)]; exact hK _ _ ⟨hS, h⟩)

theorem dyn_done {a : Act} {w : World} (h : Q .normal a w) : dyn P ops (NoPanic Q) S [] a w := h

theorem dyn_sound (hs : Region.noSelect ops = true) : ∀ (l : List (Bool × Nat)) (listed : Array Bool) (a : Act) (w : World), planOk ops l listed = true → S w → dyn P ops (NoPanic Q) S l a w → wpAnyH P .any ops (NoPanic Q) S l.length listed a w := by
  intro l
  induction l with
  | nil =>
    intro listed a w hp hS h
    exact wpAnyH_done (by simpa [planOk] using hp) h 0
  | cons p l ih =>
    intro listed a w hp hS h
    obtain ⟨b, i⟩ := p
    cases b with
    | true =>
      rw [planOk, Bool.and_eq_true, Bool.and_eq_true] at hp
      obtain ⟨o, v, hi, hy, h'⟩ := h
      exact wpAnyH_take hi hs hp.1.1 hp.1.2 (fun _ _ _ hc => hc.elim) hy hS (ih _ _ _ hp.2 hS h')
    | false =>
      rw [planOk, Bool.and_eq_true, decide_eq_true_eq] at hp
      refine wpAnyH_all hp.1 (by simp) fun j hj => ?_
      rw [List.mem_singleton] at hj
      subst hj
      exact wpOp_mono (fun a' w' h' => ⟨h'.1, ih _ _ _ hp.2 h'.1 h'.2⟩) h
theorem wp_region_plan {id : Nat} {a : Act} {w : World} (hm : P.follows .mixedOrders = true) (l : List (Bool × Nat)) (hc : (Region.noSelect ops && planOk ops l (Array.replicate ops.size false) && l.length == ops.size) = true) (hS : S w.drew)
    (h : dyn P ops (NoPanic Q) S l a w.drew) : (Code.region id ops true).wp P Q a w := by
  rw [Bool.and_eq_true, Bool.and_eq_true] at hc
  have hl : l.length = ops.size := eq_of_beq hc.2
  refine wp_region_noPanic (wp_region_held (S := S) hm ?_)
  rw [← hl]
  have := dyn_sound hc.1.1 l (Array.replicate ops.size false) a w.drew hc.1.2 hS h
  rw [← hl] at this
  exact this
end
end Go.Proofs.YtjdfancbmjnjfaaGreat
namespace Go.Proofs.YtjdfancbmjnjfaaGreat
set_option maxRecDepth 100000
open Go.ChangeShapes Go.WideShapes Go.ChangeAt Go.RowKit Go.Deep
set_option linter.unusedVariables false

section
variable {P : Program} {ops : Array Oper} {Q : Exit → Act → World → Prop} {T : World → Prop} {esc : List Nat}

/-- none of the last operations has come up -/
def noEsc (esc : List Nat) (listed : Array Bool) : Prop := ∀ s ∈ esc, listed.getD s false = false
def wpL (P : Program) (ops : Array Oper) (Q : Exit → Act → World → Prop) (T : World → Prop) (esc : List Nat) : Nat → Array Bool → Act → World → Prop
  | 0, listed, a, w => Region.ready .any ops listed = [] ∧ Q .normal a w
  | n + 1, listed, a, w => (Region.ready .any ops listed = [] → Q .normal a w) ∧
    ∀ i ∈ Region.ready .any ops listed, wpOp P ops Q i (fun a' w' => (noEsc esc (listed.setIfInBounds i true) → T w') ∧ wpL P ops Q T esc n (listed.setIfInBounds i true) a' w') a w
theorem wpL_any : ∀ (n : Nat) (listed : Array Bool) (a : Act) (w : World), wpL P ops Q T esc n listed a w → wpAny P .any ops Q n listed a w
  | 0, _, _, _, h => h
  | n + 1, _, _, _, h => ⟨h.1, fun i hi => wpOp_mono (fun a' w' k => wpL_any n _ a' w' k.2) (h.2 i hi)⟩

/-- operation s waits, straight or by one other that has not come up, for operation i -/
def Late (ops : Array Oper) (listed : Array Bool) (i s : Nat) : Prop :=
  ∃ os, ops[s]? = some os ∧ ∃ e ∈ os.after, Region.binds .any e = true ∧ (e.on = i ∨ (listed.getD e.on false = false ∧ ∃ o, ops[e.on]? = some o ∧ ∃ d ∈ o.after, Region.binds .any d = true ∧ d.on = i))
def lateB (ops : Array Oper) (listed : Array Bool) (i s : Nat) : Bool := match ops[s]? with
  | some os => os.after.any fun e => Region.binds .any e && (e.on == i || (!listed.getD e.on false && match ops[e.on]? with
    | some o => o.after.any fun d => Region.binds .any d && d.on == i
    | none => false))
  | none => false
theorem Late.of {listed : Array Bool} {i s : Nat} (h : lateB ops listed i s = true) : Late ops listed i s := by
  unfold lateB at h
  split at h
  · rename_i os hos
    rw [Array.any_eq_true'] at h
    obtain ⟨e, he, h⟩ := h
    rw [Bool.and_eq_true, Bool.or_eq_true] at h
    refine ⟨os, hos, e, he, h.1, ?_⟩
    rcases h.2 with h2 | h2
    · exact .inl (eq_of_beq h2)
    · rw [Bool.and_eq_true] at h2
      right
      refine ⟨by simpa using h2.1, ?_⟩
      have h3 := h2.2
      split at h3
      · rename_i o ho
        rw [Array.any_eq_true'] at h3
        obtain ⟨d, hd, h4⟩ := h3
        rw [Bool.and_eq_true] at h4
        exact ⟨o, ho, d, hd, h4.1, eq_of_beq h4.2⟩
      · cases h3
  · cases h

theorem getD_unset {listed : Array Bool} {j k : Nat} (h : (listed.setIfInBounds j true).getD k true = false) : listed.getD k true = false := by
  by_cases hjk : j = k
  · subst hjk
    rw [Array.getD_eq_getD_getElem?] at h ⊢
    by_cases hlt : j < listed.size
    · rw [Array.getElem?_setIfInBounds_self_of_lt hlt] at h
      simp at h
    · rw [Array.getElem?_eq_none (by simp; omega)] at h
      simp at h
  · rw [Array.getD_eq_getD_getElem?, Array.getElem?_setIfInBounds_ne hjk, ← Array.getD_eq_getD_getElem?] at h
    exact h
theorem wpL_first {i : Nat} {oi : Oper} {v : Value} (hi : ops[i]? = some oi) (hsel : ∀ (j : Nat) (o : Oper) cs b, ops[j]? = some o → o.op ≠ .select cs b)
    (hQ : ∀ c a w, Q (.panic c) (a.put oi.dst v) w → Q (.panic c) a w) (hie : i ∉ esc) :
    ∀ (n : Nat) (listed : Array Bool) (a : Act) (w : World),
      (∀ j oj, ops[j]? = some oj → j ≠ i → listed.getD j true = false → (∀ e ∈ oj.after, Region.binds .any e = true → e.on ≠ i) → oi.apart ops oj = true) →
      i ∈ Region.ready .any ops listed → YieldsIf P ops T oi v a → T w → noEsc esc listed → (∀ s ∈ esc, Late ops listed i s) →
      wpL P ops Q T esc n (listed.setIfInBounds i true) (a.put oi.dst v) w → wpL P ops Q T esc (n + 1) listed a w := by
  intro n
  induction n with
  | zero =>
    intro listed a w _ hr hy hT hE hL H
    refine ⟨fun h => (by rw [h] at hr; cases hr), fun j hj => ?_⟩
    by_cases hji : j = i
    · subst hji
      exact hy.wpOp hi hT ⟨fun _ => hT, H⟩
    · have h1 := ready_mono hj hji
      rw [H.1] at h1
      cases h1
  | succ n ih =>
    intro listed a w hfree hr hy hT hE hL H
    refine ⟨fun h => (by rw [h] at hr; cases hr), fun j hj => ?_⟩
    by_cases hji : j = i
    · subst hji
      exact hy.wpOp hi hT ⟨fun _ => hT, H⟩
    · have h1 := H.2 j (ready_mono hj hji)
      obtain ⟨hju, oj, hoj, hall⟩ := mem_ready.1 hj
      have hi0 : listed.getD i false = false := by
        have h0 := (mem_ready.1 hr).1
        rw [Array.getD_eq_getD_getElem?] at h0 ⊢
        cases hx : listed[i]? with
        | none => rfl
        | some b => rw [hx] at h0; exact h0
      have hnot : ∀ e ∈ oj.after, Region.binds .any e = true → e.on ≠ i := fun e he hb heq => by
        have h2 := hall e he hb
        rw [heq, hi0] at h2
        cases h2
      -- j is none of the last operations, and none that one of these waits for
      have hjs : ∀ s ∈ esc, j ≠ s := fun s hs hjs => by
        obtain ⟨os, hos, e, he, hb, hl⟩ := hL s hs
        rw [← hjs, hoj] at hos
        injection hos with hos
        subst hos
        rcases hl with hl | ⟨hl, _⟩
        · exact hnot e he hb hl
        · have := hall e he hb
          rw [hl] at this
          cases this
      have hjr : ∀ o, ops[j]? = some o → (∃ d ∈ o.after, Region.binds .any d = true ∧ d.on = i) → False := fun o ho ⟨d, hd, hb, hdi⟩ => by
        rw [hoj] at ho
        injection ho with ho
        subst ho
        exact hnot d hd hb hdi
      have hfalse : ∀ k, k ≠ j → listed.getD k false = false → (listed.setIfInBounds j true).getD k false = false := fun k hk h => by
        rw [Array.getD_eq_getD_getElem?, Array.getElem?_setIfInBounds_ne (Ne.symm hk), ← Array.getD_eq_getD_getElem?]
        exact h
      have hE' : noEsc esc (listed.setIfInBounds j true) := fun s hs => hfalse s (Ne.symm (hjs s hs)) (hE s hs)
      have hE2 : noEsc esc ((listed.setIfInBounds i true).setIfInBounds j true) := fun s hs => by
        have hne : i ≠ s := fun e => hie (by rw [e]; exact hs)
        rw [Array.setIfInBounds_comm _ _ (Ne.symm hji)]
        rw [Array.getD_eq_getD_getElem?, Array.getElem?_setIfInBounds_ne hne, ← Array.getD_eq_getD_getElem?]
        exact hE' s hs
      have hL' : ∀ s ∈ esc, Late ops (listed.setIfInBounds j true) i s := fun s hs => by
        obtain ⟨os, hos, e, he, hb, hl⟩ := hL s hs
        refine ⟨os, hos, e, he, hb, ?_⟩
        rcases hl with hl | ⟨hl, o, ho, hd⟩
        · exact .inl hl
        · exact .inr ⟨hfalse _ (fun heq => hjr o (heq ▸ ho) hd) hl, o, ho, hd⟩
      have h2 := wpOp_putIf hoj (hfree j oj hoj hji hju hnot) (fun cs b => hsel i oi cs b hi) (fun cs b => hsel j oj cs b hoj) hQ hy h1
      refine wpOp_mono (fun a' w' h3 => ⟨fun _ => h3.2.1 hE2, ih (listed.setIfInBounds j true) a' w' (fun k ok hk hki hun hno => hfree k ok hk hki (getD_unset hun) hno) (ready_mono hr (Ne.symm hji)) h3.1 (h3.2.1 hE2) hE' hL' ?_⟩) h2
      rw [Array.setIfInBounds_comm _ _ hji]
      exact h3.2.2

theorem wpL_pure {i : Nat} {oi : Oper} {v : Value} (hi : ops[i]? = some oi) (hsel : ∀ (j : Nat) (o : Oper) cs b, ops[j]? = some o → o.op ≠ .select cs b)
    (hQ : ∀ c a w, Q (.panic c) (a.put oi.dst v) w → Q (.panic c) a w) (hie : i ∉ esc) :
    ∀ (n : Nat) (listed : Array Bool) (a : Act) (w : World),
      (∀ j oj, ops[j]? = some oj → j ≠ i → listed.getD j true = false → (∀ e ∈ oj.after, Region.binds .any e = true → e.on ≠ i) → oi.apart ops oj = true) →
      i ∈ Region.ready .any ops listed → YieldsIf P ops (fun _ => True) oi v a → (noEsc esc listed → T w) →
      wpL P ops Q T esc n (listed.setIfInBounds i true) (a.put oi.dst v) w → wpL P ops Q T esc (n + 1) listed a w := by
  have hset : ∀ (listed : Array Bool), noEsc esc (listed.setIfInBounds i true) → noEsc esc listed := fun listed h s hs => by
    have hne : i ≠ s := fun e => hie (by rw [e]; exact hs)
    have := h s hs
    rw [Array.getD_eq_getD_getElem?, Array.getElem?_setIfInBounds_ne hne, ← Array.getD_eq_getD_getElem?] at this
    exact this
  have hset' : ∀ (listed : Array Bool), noEsc esc listed → noEsc esc (listed.setIfInBounds i true) := fun listed h s hs => by
    have hne : i ≠ s := fun e => hie (by rw [e]; exact hs)
    rw [Array.getD_eq_getD_getElem?, Array.getElem?_setIfInBounds_ne hne, ← Array.getD_eq_getD_getElem?]
    exact h s hs
  intro n
  induction n with
  | zero =>
    intro listed a w _ hr hy hT H
    refine ⟨fun h => (by rw [h] at hr; cases hr), fun j hj => ?_⟩
    by_cases hji : j = i
    · subst hji
      exact hy.wpOp hi trivial ⟨fun h => hT (hset _ h), H⟩
    · have h1 := ready_mono hj hji
      rw [H.1] at h1
      cases h1
  | succ n ih =>
    intro listed a w hfree hr hy hT H
    refine ⟨fun h => (by rw [h] at hr; cases hr), fun j hj => ?_⟩
    by_cases hji : j = i
    · subst hji
      exact hy.wpOp hi trivial ⟨fun h => hT (hset _ h), H⟩
    · have h1 := H.2 j (ready_mono hj hji)
      obtain ⟨hju, oj, hoj, hall⟩ := mem_ready.1 hj
      have hi0 : listed.getD i false = false := by
        have h0 := (mem_ready.1 hr).1
        rw [Array.getD_eq_getD_getElem?] at h0 ⊢
        cases hx : listed[i]? with
        | none => rfl
        | some b => rw [hx] at h0; exact h0
      have hnot : ∀ e ∈ oj.after, Region.binds .any e = true → e.on ≠ i := fun e he hb heq => by
        have h2 := hall e he hb
        rw [heq, hi0] at h2
        cases h2
      have h2 := wpOp_putIf hoj (hfree j oj hoj hji hju hnot) (fun cs b => hsel i oi cs b hi) (fun cs b => hsel j oj cs b hoj) hQ hy h1
      have hT' : ∀ w', (noEsc esc ((listed.setIfInBounds i true).setIfInBounds j true) → T w') → noEsc esc (listed.setIfInBounds j true) → T w' := fun w' h3 h4 => h3 (by
        rw [Array.setIfInBounds_comm _ _ (Ne.symm hji)]
        exact hset' _ h4)
      refine wpOp_mono (fun a' w' h3 => ⟨hT' w' h3.2.1, ih (listed.setIfInBounds j true) a' w' (fun k ok hk hki hun hno => hfree k ok hk hki (getD_unset hun) hno) (ready_mono hr (Ne.symm hji)) h3.1 (hT' w' h3.2.1) ?_⟩) h2
      rw [Array.setIfInBounds_comm _ _ hji]
      exact h3.2.2

/-- may the operations be taken in this order? -/
def planL (ops : Array Oper) (esc : List Nat) : List (Nat × Nat) → Array Bool → Bool
  | [], listed => (Region.ready .any ops listed).isEmpty
  | (0, i) :: r, listed => decide (Region.ready .any ops listed = [i]) && planL ops esc r (listed.setIfInBounds i true)
  | (1, i) :: r, listed => Region.free .any ops listed i && (Region.ready .any ops listed).contains i && (!esc.contains i && esc.all (fun s => !listed.getD s false && lateB ops listed i s)) && planL ops esc r (listed.setIfInBounds i true)
  | (_ + 2, i) :: r, listed => Region.free .any ops listed i && (Region.ready .any ops listed).contains i && !esc.contains i && planL ops esc r (listed.setIfInBounds i true)
def dynL (P : Program) (ops : Array Oper) (Q : Exit → Act → World → Prop) (T : World → Prop) (esc : List Nat) : List (Nat × Nat) → Act → World → Prop
  | [], a, w => Q .normal a w
  | (1, i) :: r, a, w => ∃ o v, ops[i]? = some o ∧ YieldsIf P ops T o v a ∧ dynL P ops Q T esc r (a.put o.dst v) w
  | (_ + 2, i) :: r, a, w => ∃ o v, ops[i]? = some o ∧ YieldsIf P ops (fun _ => True) o v a ∧ dynL P ops Q T esc r (a.put o.dst v) w
  | (0, i) :: r, a, w => wpOp P ops Q i (fun a' w' => (i ∈ esc ∨ T w') ∧ dynL P ops Q T esc r a' w') a w
theorem dynL_take {i : Nat} {o : Oper} {v : Value} {l : List (Nat × Nat)} {a : Act} {w : World} (hi : ops[i]? = some o) (hw : Region.wanted o (yielded ops a.tmps) = true)
    (hv : ∀ W, T W → (execOp a.eval o).run P W = .ok (.value v) W) (h : dynL P ops Q T esc l (a.put o.dst v) w) : dynL P ops Q T esc ((1, i) :: l) a w := ⟨o, v, hi, .inl ⟨hw, hv⟩, h⟩
theorem dynL_pure {i : Nat} {o : Oper} {v : Value} {l : List (Nat × Nat)} {a : Act} {w : World} (hi : ops[i]? = some o) (hw : Region.wanted o (yielded ops a.tmps) = true)
    (hv : ∀ W, (execOp a.eval o).run P W = .ok (.value v) W) (h : dynL P ops Q T esc l (a.put o.dst v) w) : dynL P ops Q T esc ((2, i) :: l) a w := ⟨o, v, hi, .inl ⟨hw, fun W _ => hv W⟩, h⟩
theorem dynL_skip {i : Nat} {o : Oper} {l : List (Nat × Nat)} {a : Act} {w : World} (hi : ops[i]? = some o) (hw : Region.wanted o (yielded ops a.tmps) = false)
    (h : dynL P ops Q T esc l (a.put o.dst undef) w) : dynL P ops Q T esc ((2, i) :: l) a w := ⟨o, undef, hi, .inr ⟨hw, rfl⟩, h⟩
theorem dynL_act {i : Nat} {o : Oper} {l : List (Nat × Nat)} {a : Act} {w : World} (hi : ops[i]? = some o) (hw : Region.wanted o (yielded ops a.tmps) = true)
    (h : ∀ K : Act → World → Prop, Shut (∀ a w, T w → dynL P ops Q T esc l a w → K a w) → Oper.wp P o a w K Q) : dynL P ops Q T esc ((0, i) :: l) a w :=
  wpOp_step hi (fun K hK => by rw [if_pos hw]; exact h K (fun a w hS hd => hK a w ⟨.inr hS, hd⟩))
theorem dynL_last {i : Nat} {o : Oper} {l : List (Nat × Nat)} {a : Act} {w : World} (hi : ops[i]? = some o) (he : i ∈ esc) (hw : Region.wanted o (yielded ops a.tmps) = true)
    (h : ∀ K : Act → World → Prop, Shut (∀ a w, dynL P ops Q T esc l a w → K a w) → Oper.wp P o a w K Q) : dynL P ops Q T esc ((0, i) :: l) a w :=
  wpOp_step hi (fun K hK => by rw [if_pos hw]; exact h K (fun a w hd => hK a w ⟨.inl he, hd⟩))
theorem dynL_done {a : Act} {w : World} (h : Q .normal a w) : dynL P ops (NoPanic Q) T esc [] a w := h
theorem dynL_sound (hs : Region.noSelect ops = true) : ∀ (l : List (Nat × Nat)) (listed : Array Bool) (a : Act) (w : World), planL ops esc l listed = true → (noEsc esc listed → T w) → dynL P ops (NoPanic Q) T esc l a w → wpL P ops (NoPanic Q) T esc l.length listed a w := by
  intro l
  induction l with
  | nil =>
    intro listed a w hp hT h
    exact ⟨by simpa [planL] using hp, h⟩
  | cons p l ih =>
    intro listed a w hp hT h
    obtain ⟨b, i⟩ := p
    match b with
    | 1 =>
      simp only [planL, Bool.and_eq_true, Bool.not_eq_true', List.all_eq_true] at hp
      obtain ⟨⟨⟨h1, h2⟩, h3, h4⟩, h5⟩ := hp
      obtain ⟨o, v, hi, hy, h'⟩ := h
      have hie : i ∉ esc := fun hm => by simp [hm] at h3
      have hE : noEsc esc listed := fun s hs => (h4 s hs).1
      refine wpL_first hi (Region.noSelect_spec hs) (fun _ _ _ hc => hc.elim) hie l.length listed a w (Region.free_spec hi h1) (by simpa using h2) hy (hT hE) hE (fun s hs => Late.of (h4 s hs).2) (ih _ _ _ h5 (fun _ => hT hE) h')
    | b + 2 =>
      simp only [planL, Bool.and_eq_true, Bool.not_eq_true'] at hp
      obtain ⟨⟨⟨h1, h2⟩, h3⟩, h5⟩ := hp
      obtain ⟨o, v, hi, hy, h'⟩ := h
      have hie : i ∉ esc := fun hm => by simp [hm] at h3
      refine wpL_pure hi (Region.noSelect_spec hs) (fun _ _ _ hc => hc.elim) hie l.length listed a w (Region.free_spec hi h1) (by simpa using h2) hy hT (ih _ _ _ h5 (fun hn => hT fun s hs' => ?_) h')
      have hne : i ≠ s := fun e => hie (by rw [e]; exact hs')
      have := hn s hs'
      rw [Array.getD_eq_getD_getElem?, Array.getElem?_setIfInBounds_ne hne, ← Array.getD_eq_getD_getElem?] at this
      exact this
    | 0 =>
      rw [planL, Bool.and_eq_true, decide_eq_true_eq] at hp
      refine ⟨fun h0 => (by rw [hp.1] at h0; cases h0), fun j hj => ?_⟩
      rw [hp.1, List.mem_singleton] at hj
      subst hj
      have hlt : j < listed.size := by
        have h0 : j ∈ Region.ready .any ops listed := by rw [hp.1]; simp
        have h1 := (mem_ready.1 h0).1
        by_cases hlt : j < listed.size
        · exact hlt
        · rw [Array.getD_eq_getD_getElem?, Array.getElem?_eq_none (by omega)] at h1
          cases h1
      have hS : ∀ w', (j ∈ esc ∨ T w') → noEsc esc (listed.setIfInBounds j true) → T w' := fun w' h1 hn => by
        rcases h1 with h1 | h1
        · have := hn j h1
          rw [Array.getD_eq_getD_getElem?, Array.getElem?_setIfInBounds_self_of_lt hlt] at this
          cases this
        · exact h1
      exact wpOp_mono (fun a' w' h' => ⟨hS w' h'.1, ih _ _ _ hp.2 (hS w' h'.1) h'.2⟩) h
theorem wp_region_phase {id : Nat} {a : Act} {w : World} (hm : P.follows .mixedOrders = true) (l : List (Nat × Nat)) (esc : List Nat) (hc : (Region.noSelect ops && planL ops esc l (Array.replicate ops.size false) && l.length == ops.size) = true) (hT : T w.drew)
    (h : dynL P ops (NoPanic Q) T esc l a w.drew) : (Code.region id ops true).wp P Q a w := by
  rw [Bool.and_eq_true, Bool.and_eq_true] at hc
  have hl : l.length = ops.size := eq_of_beq hc.2
  refine wp_region_noPanic (wp_region_any hm ?_)
  have := wpL_any _ _ _ _ (dynL_sound hc.1.1 l (Array.replicate ops.size false) a w.drew hc.1.2 (fun _ => hT) h)
  rw [hl] at this
  exact this
end
end Go.Proofs.YtjdfancbmjnjfaaGreat
namespace Go.Proofs.YtjdfancbmjnjfaaGreat
set_option maxRecDepth 100000
open Go.ChangeShapes Go.WideShapes Go.ChangeAt Go.RowKit Go.Deep
set_option linter.unusedVariables false

section
variable {P : Program} {ops : Array Oper} {Q : Exit → Act → World → Prop} {T : World → Prop} {esc : List Nat}

/-- operation s waits, by a chain of others that have not come up, for operation i -/
inductive Late2 (ops : Array Oper) (listed : Array Bool) (i : Nat) : Nat → Prop
  | on {s : Nat} {os : Oper} (hs : ops[s]? = some os) {e : Edge} (he : e ∈ os.after) (hb : Region.binds .any e = true) (h : e.on = i) : Late2 ops listed i s
  | via {s : Nat} {os : Oper} (hs : ops[s]? = some os) {e : Edge} (he : e ∈ os.after) (hb : Region.binds .any e = true) (hl : listed.getD e.on false = false) (h : Late2 ops listed i e.on) : Late2 ops listed i s
def lateB2 (ops : Array Oper) (listed : Array Bool) (i : Nat) : Nat → Nat → Bool
  | 0, _ => false
  | n + 1, s => match ops[s]? with
    | some os => os.after.any fun e => Region.binds .any e && (e.on == i || (!listed.getD e.on false && lateB2 ops listed i n e.on))
    | none => false
theorem Late2.of {listed : Array Bool} {i : Nat} : ∀ {n s : Nat}, lateB2 ops listed i n s = true → Late2 ops listed i s := by
  intro n
  induction n with
  | zero => intro s h; cases h
  | succ n ih =>
    intro s h
    unfold lateB2 at h
    split at h
    · rename_i os hos
      rw [Array.any_eq_true'] at h
      obtain ⟨e, he, h⟩ := h
      rw [Bool.and_eq_true, Bool.or_eq_true] at h
      rcases h.2 with h2 | h2
      · exact .on hos he h.1 (eq_of_beq h2)
      · rw [Bool.and_eq_true] at h2
        exact .via hos he h.1 (by simpa using h2.1) (ih h2.2)
    · cases h
theorem wpL_first2 {i : Nat} {oi : Oper} {v : Value} (hi : ops[i]? = some oi) (hsel : ∀ (j : Nat) (o : Oper) cs b, ops[j]? = some o → o.op ≠ .select cs b)
    (hQ : ∀ c a w, Q (.panic c) (a.put oi.dst v) w → Q (.panic c) a w) (hie : i ∉ esc) :
    ∀ (n : Nat) (listed : Array Bool) (a : Act) (w : World),
      (∀ j oj, ops[j]? = some oj → j ≠ i → listed.getD j true = false → (∀ e ∈ oj.after, Region.binds .any e = true → e.on ≠ i) → oi.apart ops oj = true) →
      i ∈ Region.ready .any ops listed → YieldsIf P ops T oi v a → T w → noEsc esc listed → (∀ s ∈ esc, Late2 ops listed i s) →
      wpL P ops Q T esc n (listed.setIfInBounds i true) (a.put oi.dst v) w → wpL P ops Q T esc (n + 1) listed a w := by
  intro n
  induction n with
  | zero =>
    intro listed a w _ hr hy hT hE hL H
    refine ⟨fun h => (by rw [h] at hr; cases hr), fun j hj => ?_⟩
    by_cases hji : j = i
    · subst hji
      exact hy.wpOp hi hT ⟨fun _ => hT, H⟩
    · have h1 := ready_mono hj hji
      rw [H.1] at h1
      cases h1
  | succ n ih =>
    intro listed a w hfree hr hy hT hE hL H
    refine ⟨fun h => (by rw [h] at hr; cases hr), fun j hj => ?_⟩
    by_cases hji : j = i
    · subst hji
      exact hy.wpOp hi hT ⟨fun _ => hT, H⟩
    · have h1 := H.2 j (ready_mono hj hji)
      obtain ⟨hju, oj, hoj, hall⟩ := mem_ready.1 hj
      have hi0 : listed.getD i false = false := by
        have h0 := (mem_ready.1 hr).1
        rw [Array.getD_eq_getD_getElem?] at h0 ⊢
        cases hx : listed[i]? with
        | none => rfl
        | some b => rw [hx] at h0; exact h0
      have hnot : ∀ e ∈ oj.after, Region.binds .any e = true → e.on ≠ i := fun e he hb heq => by
        have h2 := hall e he hb
        rw [heq, hi0] at h2
        cases h2
      -- j is none of the last operations, and none that one of these waits for
      have hjl : ∀ s, Late2 ops listed i s → j ≠ s := fun s h hjs => by
        subst hjs
        cases h with
        | on hs he hb h =>
          rw [hoj] at hs
          injection hs with hs
          subst hs
          exact hnot _ he hb h
        | via hs he hb hl h =>
          rw [hoj] at hs
          injection hs with hs
          subst hs
          have := hall _ he hb
          rw [hl] at this
          cases this
      have hjs : ∀ s ∈ esc, j ≠ s := fun s hs => hjl s (hL s hs)
      have hfalse : ∀ k, k ≠ j → listed.getD k false = false → (listed.setIfInBounds j true).getD k false = false := fun k hk h => by
        rw [Array.getD_eq_getD_getElem?, Array.getElem?_setIfInBounds_ne (Ne.symm hk), ← Array.getD_eq_getD_getElem?]
        exact h
      have hE' : noEsc esc (listed.setIfInBounds j true) := fun s hs => hfalse s (Ne.symm (hjs s hs)) (hE s hs)
      have hE2 : noEsc esc ((listed.setIfInBounds i true).setIfInBounds j true) := fun s hs => by
        have hne : i ≠ s := fun e => hie (by rw [e]; exact hs)
        rw [Array.setIfInBounds_comm _ _ (Ne.symm hji)]
        rw [Array.getD_eq_getD_getElem?, Array.getElem?_setIfInBounds_ne hne, ← Array.getD_eq_getD_getElem?]
        exact hE' s hs
      have hL1 : ∀ s, Late2 ops listed i s → Late2 ops (listed.setIfInBounds j true) i s := fun s h => by
        induction h with
        | on hs he hb h => exact .on hs he hb h
        | @via s os hs e he hb hl h ih => exact .via hs he hb (hfalse _ (Ne.symm (hjl _ h)) hl) ih
      have hL' : ∀ s ∈ esc, Late2 ops (listed.setIfInBounds j true) i s := fun s hs => hL1 s (hL s hs)
      have h2 := wpOp_putIf hoj (hfree j oj hoj hji hju hnot) (fun cs b => hsel i oi cs b hi) (fun cs b => hsel j oj cs b hoj) hQ hy h1
      refine wpOp_mono (fun a' w' h3 => ⟨fun _ => h3.2.1 hE2, ih (listed.setIfInBounds j true) a' w' (fun k ok hk hki hun hno => hfree k ok hk hki (getD_unset hun) hno) (ready_mono hr (Ne.symm hji)) h3.1 (h3.2.1 hE2) hE' hL' ?_⟩) h2
      rw [Array.setIfInBounds_comm _ _ hji]
      exact h3.2.2

/-- may the operations be taken in this order? -/
def planL2 (ops : Array Oper) (esc : List Nat) : List (Nat × Nat) → Array Bool → Bool
  | [], listed => (Region.ready .any ops listed).isEmpty
  | (0, i) :: r, listed => decide (Region.ready .any ops listed = [i]) && planL2 ops esc r (listed.setIfInBounds i true)
  | (1, i) :: r, listed => Region.free .any ops listed i && (Region.ready .any ops listed).contains i && (!esc.contains i && esc.all (fun s => !listed.getD s false && lateB2 ops listed i 6 s)) && planL2 ops esc r (listed.setIfInBounds i true)
  | (_ + 2, i) :: r, listed => Region.free .any ops listed i && (Region.ready .any ops listed).contains i && !esc.contains i && planL2 ops esc r (listed.setIfInBounds i true)
theorem dynL_skip1 {i : Nat} {o : Oper} {l : List (Nat × Nat)} {a : Act} {w : World} (hi : ops[i]? = some o) (hw : Region.wanted o (yielded ops a.tmps) = false)
    (h : dynL P ops Q T esc l (a.put o.dst undef) w) : dynL P ops Q T esc ((1, i) :: l) a w := ⟨o, undef, hi, .inr ⟨hw, rfl⟩, h⟩
theorem dynL_pass {i : Nat} {o : Oper} {l : List (Nat × Nat)} {a : Act} {w : World} (hi : ops[i]? = some o) (hw : Region.wanted o (yielded ops a.tmps) = false) (hT : T w)
    (h : dynL P ops Q T esc l (a.put o.dst undef) w) : dynL P ops Q T esc ((0, i) :: l) a w :=
  wpOp_step hi (fun K hK => by rw [if_neg (by rw [hw]; decide)]; exact hK _ _ ⟨.inr hT, h⟩)
theorem dynL_sound2 (hs : Region.noSelect ops = true) : ∀ (l : List (Nat × Nat)) (listed : Array Bool) (a : Act) (w : World), planL2 ops esc l listed = true → (noEsc esc listed → T w) → dynL P ops (NoPanic Q) T esc l a w → wpL P ops (NoPanic Q) T esc l.length listed a w := by
  intro l
  induction l with
  | nil =>
    intro listed a w hp hT h
    exact ⟨by simpa [planL2] using hp, h⟩
  | cons p l ih =>
    intro listed a w hp hT h
    obtain ⟨b, i⟩ := p
    match b with
    | 1 =>
      simp only [planL2, Bool.and_eq_true, Bool.not_eq_true', List.all_eq_true] at hp
      obtain ⟨⟨⟨h1, h2⟩, h3, h4⟩, h5⟩ := hp
      obtain ⟨o, v, hi, hy, h'⟩ := h
      have hie : i ∉ esc := fun hm => by simp [hm] at h3
      have hE : noEsc esc listed := fun s hs => (h4 s hs).1
      refine wpL_first2 hi (Region.noSelect_spec hs) (fun _ _ _ hc => hc.elim) hie l.length listed a w (Region.free_spec hi h1) (by simpa using h2) hy (hT hE) hE (fun s hs => Late2.of (h4 s hs).2) (ih _ _ _ h5 (fun _ => hT hE) h')
    | b + 2 =>
      simp only [planL2, Bool.and_eq_true, Bool.not_eq_true'] at hp
      obtain ⟨⟨⟨h1, h2⟩, h3⟩, h5⟩ := hp
      obtain ⟨o, v, hi, hy, h'⟩ := h
      have hie : i ∉ esc := fun hm => by simp [hm] at h3
      refine wpL_pure hi (Region.noSelect_spec hs) (fun _ _ _ hc => hc.elim) hie l.length listed a w (Region.free_spec hi h1) (by simpa using h2) hy hT (ih _ _ _ h5 (fun hn => hT fun s hs' => ?_) h')
      have hne : i ≠ s := fun e => hie (by rw [e]; exact hs')
      have := hn s hs'
      rw [Array.getD_eq_getD_getElem?, Array.getElem?_setIfInBounds_ne hne, ← Array.getD_eq_getD_getElem?] at this
      exact this
    | 0 =>
      rw [planL2, Bool.and_eq_true, decide_eq_true_eq] at hp
      refine ⟨fun h0 => (by rw [hp.1] at h0; cases h0), fun j hj => ?_⟩
      rw [hp.1, List.mem_singleton] at hj
      subst hj
      have hlt : j < listed.size := by
        have h0 : j ∈ Region.ready .any ops listed := by rw [hp.1]; simp
        have h1 := (mem_ready.1 h0).1
        by_cases hlt : j < listed.size
        · exact hlt
        · rw [Array.getD_eq_getD_getElem?, Array.getElem?_eq_none (by omega)] at h1
          cases h1
      have hS : ∀ w', (j ∈ esc ∨ T w') → noEsc esc (listed.setIfInBounds j true) → T w' := fun w' h1 hn => by
        rcases h1 with h1 | h1
        · have := hn j h1
          rw [Array.getD_eq_getD_getElem?, Array.getElem?_setIfInBounds_self_of_lt hlt] at this
          cases this
        · exact h1
      exact wpOp_mono (fun a' w' h' => ⟨hS w' h'.1, ih _ _ _ hp.2 (hS w' h'.1) h'.2⟩) h
theorem wp_region_phase2 {id : Nat} {a : Act} {w : World} (hm : P.follows .mixedOrders = true) (l : List (Nat × Nat)) (esc : List Nat) (hc : (Region.noSelect ops && planL2 ops esc l (Array.replicate ops.size false) && l.length == ops.size) = true) (hT : T w.drew)
    (h : dynL P ops (NoPanic Q) T esc l a w.drew) : (Code.region id ops true).wp P Q a w := by
  rw [Bool.and_eq_true, Bool.and_eq_true] at hc
  have hl : l.length = ops.size := eq_of_beq hc.2
  refine wp_region_noPanic (wp_region_any hm ?_)
  have := wpL_any _ _ _ _ (dynL_sound2 hc.1.1 l (Array.replicate ops.size false) a w.drew hc.1.2 (fun _ => hT) h)
  rw [hl] at this
  exact this
end
end Go.Proofs.YtjdfancbmjnjfaaGreat
namespace Go.Proofs.YtjdfancbmjnjfaaGreat
set_option maxRecDepth 100000
open Go.ChangeShapes Go.WideShapes Go.ChangeAt Go.RowKit Go.Deep
set_option linter.unusedVariables false

/-- what a marking gives back -/
def RetMark (S : Nat → Prop) (w : World) (n : Int) (P : World → Prop) (e : Ending) (w' : World) : Prop := e = .returned (.int .i64 n) ∧ P w' ∧ Keeps (fun b => ¬ S b) w w' ∧ Below 0 w w'

/-- the cells of a slice of structs, element by element -/
structure MidO {α : Type} (S : Nat → Prop) (f : Nat → Nat) (w : World) (e : TypeId) (size : Nat) (RO : (Nat → Prop) → World → List Value → α → Prop) (g : Nat) (post : List Value) (ys : List (List Value)) (m : List α) : Prop where
  own : S g ∧ f g = 0
  blk : Blk w g e (ys.flatten ++ post)
  len : ys.length = m.length
  elem : ∀ k (h1 : k < ys.length) (h2 : k < m.length), ys[k].length = size ∧ RO (fun b => S b ∧ f b = k + 1) w ys[k] m[k]

section
variable {α : Type} {S : Nat → Prop} {f : Nat → Nat} {w w' : World} {e : TypeId} {size : Nat} {RO : (Nat → Prop) → World → List Value → α → Prop} {g : Nat} {post : List Value} {ys : List (List Value)} {m : List α}

theorem SlO.mid {v : Value} {l : List α} (h : SlO S w e size RO v l) : (v = .slice none 0 0 ∧ l = []) ∨ ∃ g cap f post ys, v = .slice (some ⟨g, 0, none⟩) l.length cap ∧ l.length ≤ cap ∧ cap ≤ maxLen ∧ l.length * size + post.length = cap * size ∧ MidO S f w e size RO g post ys l := by
  obtain ⟨xss, f, h1, h2, h3, h4⟩ := h
  rcases h3.2 with ⟨rfl, hn⟩ | ⟨g, cap, cur, rfl, _, hg, hn, hc, hs, ht⟩
  · exact .inl ⟨rfl, List.eq_nil_of_length_eq_zero hn⟩
  · have hcur : xss.flatten ++ cur.toList.drop (l.length * size) = cur.toList := by rw [← ht]; exact List.take_append_drop _ _
    refine .inr ⟨g, cap, f, cur.toList.drop (l.length * size), xss, rfl, hn, hc, ?_, h4 g rfl, ?_, h1, h2⟩
    · have : l.length * size ≤ cap * size := Nat.mul_le_mul_right _ hn
      simp only [List.length_drop, Array.length_toList]
      omega
    · unfold Blk
      rw [hg, hcur]
theorem flat_len (h : ∀ y ∈ ys, y.length = size) : ys.flatten.length = ys.length * size := by
  induction ys with
  | nil => simp
  | cons y ys ih =>
    rw [List.flatten_cons, List.length_append, h y (by simp), ih (fun z hz => h z (by simp [hz])), List.length_cons, Nat.succ_mul]
    omega
theorem MidO.lens (h : MidO S f w e size RO g post ys m) : ∀ y ∈ ys, y.length = size := fun y hy => by
  obtain ⟨i, hi, rfl⟩ := List.getElem_of_mem hy
  exact (h.elem i hi (by rw [← h.len]; exact hi)).1
theorem MidO.back (h : MidO S f w e size RO g post ys m) {cap : Nat} (hn : m.length ≤ cap) (hc : cap ≤ maxLen) (hp : m.length * size + post.length = cap * size) : SlO S w e size RO (.slice (some ⟨g, 0, none⟩) m.length cap) m := by
  have hl := flat_len h.lens
  rw [h.len] at hl
  refine ⟨ys, f, h.len, h.elem, ⟨hl, .inr ⟨g, cap, _, rfl, Nat.zero_le _, h.blk, hn, hc, ?_, ?_⟩⟩, fun k hk => ?_⟩
  · simp only [List.size_toArray, List.length_append]; omega
  · rw [List.take_append_of_le_length (by omega), List.take_of_length_le (by omega)]
  · simp only [Value.ownBlock, Option.some.injEq] at hk
    subst hk
    exact h.own
theorem MidO.at_ (h : MidO S f w e size RO g post ys m) (i : Nat) (hi : i < m.length) : ∃ (hy : i < ys.length) (pre rest : List Value), pre.length = i * size ∧ Blk w g e (pre ++ ys[i] ++ rest) ∧ (∀ cs', pre ++ cs' ++ rest = (ys.set i cs').flatten ++ post) ∧ RO (fun b => S b ∧ f b = i + 1) w ys[i] m[i] := by
  have hy : i < ys.length := by rw [h.len]; exact hi
  have hset : ∀ cs', (ys.take i).flatten ++ cs' ++ ((ys.drop (i + 1)).flatten ++ post) = (ys.set i cs').flatten ++ post := fun cs' => by
    rw [List.set_eq_take_append_cons_drop, if_pos hy]
    simp
  refine ⟨hy, (ys.take i).flatten, (ys.drop (i + 1)).flatten ++ post, ?_, ?_, hset, (h.elem i hy hi).2⟩
  · rw [flat_len (size := size) (fun y hm => h.lens y (List.mem_of_mem_take hm)), List.length_take, Nat.min_eq_left (by omega)]
  · rw [hset, List.set_getElem_self]
    exact h.blk
theorem MidO.update (hRK : ∀ {T : Nat → Prop} {w w' : World} {cs : List Value} {x : α}, RO T w cs x → Keeps T w w' → RO T w' cs x) (h : MidO S f w e size RO g post ys m) (i : Nat) (hi : i < m.length) (cs' : List Value) (x' : α) (hc : cs'.length = size)
    (hb : Blk w' g e ((ys.set i cs').flatten ++ post)) (hx : RO (fun b => S b ∧ f b = i + 1) w' cs' x') (hk : Keeps (fun b => b ≠ g ∧ ¬ (S b ∧ f b = i + 1)) w w') : MidO S f w' e size RO g post (ys.set i cs') (m.set i x') := by
  refine ⟨h.own, hb, by simp [h.len], fun k h1 h2 => ?_⟩
  by_cases hki : k = i
  · subst hki
    simp only [List.getElem_set_self]
    exact ⟨hc, hx⟩
  · rw [List.getElem_set_ne (by omega), List.getElem_set_ne (by omega)]
    simp only [List.length_set] at h1 h2
    obtain ⟨q1, q2⟩ := h.elem k h1 h2
    refine ⟨q1, hRK q2 (hk.mono fun b hb => ⟨fun hg => ?_, fun hq => ?_⟩)⟩
    · have := hb.2
      have := h.own.2
      subst hg
      omega
    · have := hb.2
      have := hq.2
      omega
end

/-! ### marked lists -/
def cntL {α : Type} (cnt : α → Nat) (l : List α) : Nat := (l.map cnt).sum
def mkL {α : Type} (mk : α → Int → α) (cnt : α → Nat) : List α → Int → List α
  | [], _ => []
  | x :: l, k => mk x k :: mkL mk cnt l (k + cnt x)
theorem mkL_length {α : Type} (mk : α → Int → α) (cnt : α → Nat) (l : List α) : ∀ k, (mkL mk cnt l k).length = l.length := by
  induction l with
  | nil => intro k; rfl
  | cons x l ih => intro k; rw [mkL, List.length_cons, ih, List.length_cons]
theorem cntL_take {α : Type} (cnt : α → Nat) (l : List α) (i : Nat) (h : i < l.length) : cntL cnt (l.take (i + 1)) = cntL cnt (l.take i) + cnt l[i] := by
  unfold cntL
  rw [List.take_succ_eq_append_getElem h]
  simp only [List.map_append, List.sum_append, List.map_cons, List.map_nil, List.sum_cons, List.sum_nil, Nat.add_zero]
theorem cntL_le {α : Type} (cnt : α → Nat) (l : List α) (i : Nat) : cntL cnt (l.take i) ≤ cntL cnt l := by
  unfold cntL
  conv => rhs; rw [← List.take_append_drop i l]
  rw [List.map_append, List.sum_append]
  omega
theorem cntL_at {α : Type} (cnt : α → Nat) (l : List α) (i : Nat) (h : i < l.length) : cntL cnt (l.take i) + cnt l[i] ≤ cntL cnt l := by
  rw [← cntL_take cnt l i h]
  exact cntL_le cnt l _
/-- the first i elements are marked -/
def part {α : Type} (mk : α → Int → α) (cnt : α → Nat) (l : List α) (k : Int) (i : Nat) : List α := mkL mk cnt (l.take i) k ++ l.drop i
theorem part_length {α : Type} (mk : α → Int → α) (cnt : α → Nat) (l : List α) (k : Int) (i : Nat) : (part mk cnt l k i).length = l.length := by
  unfold part
  rw [List.length_append, mkL_length, ← List.length_append, List.take_append_drop]
theorem part_zero {α : Type} (mk : α → Int → α) (cnt : α → Nat) (l : List α) (k : Int) : part mk cnt l k 0 = l := by simp [part, mkL]
theorem part_all {α : Type} (mk : α → Int → α) (cnt : α → Nat) (l : List α) (k : Int) : part mk cnt l k l.length = mkL mk cnt l k := by simp [part]
theorem mkL_snoc {α : Type} (mk : α → Int → α) (cnt : α → Nat) (l : List α) (x : α) : ∀ k, mkL mk cnt (l ++ [x]) k = mkL mk cnt l k ++ [mk x (k + cntL cnt l)] := by
  induction l with
  | nil => intro k; simp [mkL, cntL]
  | cons y l ih =>
    intro k
    rw [List.cons_append, mkL, ih, mkL]
    simp only [cntL, List.map_cons, List.sum_cons, List.cons_append]
    rw [show k + ↑(cnt y) + ↑(List.map cnt l).sum = k + ↑(cnt y + (List.map cnt l).sum) by omega]
theorem part_at {α : Type} (mk : α → Int → α) (cnt : α → Nat) (l : List α) (k : Int) (i : Nat) (h : i < l.length) (h' : i < (part mk cnt l k i).length) : (part mk cnt l k i)[i] = l[i] := by
  have hm : (mkL mk cnt (l.take i) k).length = i := by rw [mkL_length, List.length_take, Nat.min_eq_left (by omega)]
  have h2 : (part mk cnt l k i)[i]? = some l[i] := by
    unfold part
    rw [List.getElem?_append_right (by omega), hm, Nat.sub_self, List.getElem?_drop, Nat.add_zero, List.getElem?_eq_getElem h]
  rw [List.getElem?_eq_getElem h'] at h2
  exact Option.some.inj h2
theorem part_set {α : Type} (mk : α → Int → α) (cnt : α → Nat) (l : List α) (k : Int) (i : Nat) (h : i < l.length) : (part mk cnt l k i).set i (mk l[i] (k + cntL cnt (l.take i))) = part mk cnt l k (i + 1) := by
  have hm : (mkL mk cnt (l.take i) k).length = i := by rw [mkL_length, List.length_take, Nat.min_eq_left (by omega)]
  unfold part
  rw [List.set_append_right _ _ (by omega), hm, Nat.sub_self, List.drop_eq_getElem_cons h, List.set_cons_zero, List.take_succ_eq_append_getElem h, mkL_snoc]
  simp

/-! ### a stretch of a block -/
theorem Blk.mid {w : World} {g : Nat} {e : TypeId} {pre cs rest : List Value} (h : Blk w g e (pre ++ cs ++ rest)) {o : Nat} (ho : pre.length = o) (j : Nat) (u : Value) (hu : cs[j]? = some u) : w.cell? ⟨g, o + j, none⟩ = some u := by
  refine h.cell (o + j) u ?_
  have hj := (List.getElem?_eq_some_iff.1 hu).1
  rw [List.append_assoc, List.getElem?_append_right (by omega), List.getElem?_append_left (by omega), ← ho, Nat.add_sub_cancel_left]
  exact hu
theorem Blk.mid_set {w : World} {g : Nat} {e : TypeId} {pre cs rest : List Value} (h : Blk w g e (pre ++ cs ++ rest)) {o : Nat} (ho : pre.length = o) (j : Nat) (u : Value) (hj : j < cs.length) : Blk (w.setCell ⟨g, o + j, none⟩ u) g e (pre ++ cs.set j u ++ rest) := by
  have := h.set_ (o + j) u
  rw [List.append_assoc, List.set_append_right _ _ (by omega), List.set_append_left _ _ (by omega), ← ho, Nat.add_sub_cancel_left, ← List.append_assoc] at this
  rw [← ho]
  exact this
theorem Blk.keeps {S : Nat → Prop} {w w' : World} {g : Nat} {e : TypeId} {cs : List Value} (h : Blk w g e cs) (hk : Keeps S w w') (hg : S g) : Blk w' g e cs := (hk.2 g h.lt hg).trans h

/-! ### strings -/
theorem Keeps.grown' {S : Nat → Prop} {w w' : World} {row : Option Nat} (hg : w.grownBy w' row) (hs : ∀ k, row = some k → S k) : Keeps (fun b => ¬ S b) w w' :=
  ⟨hg.size, fun b hb hS => hg.block b hb (fun e => hS (hs b e.symm))⟩
theorem laws_markTxt (S : Nat → Prop) (l : List (List UInt8)) (v : Value) (k : Int) (w : World) (h : TxtO S w v l) (h0 : 0 < k) (h1 : k + l.length ≤ 4611686018427387904) :
    Calls Tryz.prog 74 #[v, .int .i64 k] w (RetMark S w (k + l.length) fun w' => TxtO S w' v (markL k.toNat l.length)) :=
  (laws_markStringS _ 0 l.length v k 9 w h.1.1 h0 h1).mono fun e w' ⟨he, ho, hg⟩ => by
    refine ⟨he, ⟨⟨by rw [markL_length]; exact ho, h.1.2⟩, fun s hs => ?_⟩, Keeps.grown' hg h.1.2, (Below.refl 0 w).grown hg (Nat.zero_le _) (fun _ _ => Nat.zero_le _)⟩
    obtain ⟨i, hi, rfl⟩ := List.getElem_of_mem hs
    rw [markL_at]
    rw [markL_length] at hi
    exact markT_small _ (by omega)
end Go.Proofs.YtjdfancbmjnjfaaGreat
