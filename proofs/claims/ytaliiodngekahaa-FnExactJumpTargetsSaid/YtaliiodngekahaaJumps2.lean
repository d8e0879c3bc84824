/-
  The targets of a segment's jumps: the program's.
-/
import Derived.Test.YtaliiodngekahaaJumps
import Derived.Test.YtaliiodngekahaaVecOk
namespace Go.Proofs.Ytaliiodngekahaa
set_option maxRecDepth 100000
open Go.ChangeShapes Go.WideShapes Go.ChangeAt Go.RowKit Go.Deep
set_option linter.unusedVariables false

def posF (p : Nat → Bool) (n : Nat) : List Int := ((List.range n).filter fun (k : Nat) => p k).map fun (n : Nat) => (n : Int)
theorem posF_succ (p : Nat → Bool) (n : Nat) : posF p (n + 1) = posF p n ++ (if p n then [(n : Int)] else []) := by
  unfold posF
  rw [List.range_succ, List.filter_append, List.map_append]
  congr 1
  by_cases h : p n = true <;> simp [h]

set_option maxHeartbeats 1000000 in
theorem impl_marked (p : Nat → Bool) (n : Nat) (v : Value) (w : World) (h : Bools w v ((List.range n).map p)) (hn : n ≤ 1048577) :
    Calls Try.prog 49 #[v] w (RetJT w (posF p n)) := by
  obtain ⟨A, c, rfl, hlc, hm, HC⟩ := Bools.open_ h
  have HL := Lib.hid (show ((List.range n).map p).length = n by simp)
  rw [HL.out] at hlc ⊢
  clear h
  unfold maxLen at hm
  go_enter Try.func49, Try.ntmps49
  go_wp2_with fail
  go_loopw [3, 8] (fun q i wr => ∃ (j : Nat) (o : List Int), j ≤ n ∧ i = .int .i64 j ∧ o.length ≤ j ∧ wr.ownsRow w.heap.size 3 1 q o.length (o.map fun n => Value.int .i64 n) ∧ Hid (o = posF p j) ∧ Below w.heap.size w wr) (fun _ i _ => n - (intOf i).toNat)
  case atStart => exact ⟨0, [], Nat.zero_le _, rfl, Nat.le_refl _, World.ownsRow_nil _ _ _ _, rfl, Below.refl _ _⟩
  case round =>
    obtain ⟨j, o, hj, rfl, hol, ho, hO, hb⟩ := hrel
    have hsz := hb.size
    by_cases hlt : j < n
    · have HN := Lib.hid (posF_succ p j)
      obtain ⟨b, off, rfl, hbl, hc⟩ := HC.out j (by rw [HL.out]; exact hlt)
      have hc1 := (hb.cell (p := ⟨b, off + j, none⟩) hbl).trans hc
      clear hc
      rw [List.getElem_map, List.getElem_range] at hc1
      cases hp : p j
      · rw [hp] at hc1
        have HP := Lib.hid hp
        clear hp
        go_wp2_with fail
        go_roundw
        case rel => exact ⟨j + 1, o, by omega, by go_num, by omega, ho, by show _ = _; rw [HN.out, hO.out, HP.out]; simp, hb⟩
        case measure => simp [intOf]; omega
      · rw [hp] at hc1
        have HP := Lib.hid hp
        clear hp
        go_wp2_with (at_builtin; go_must (refine wpList_push rfl _ _ 27 rfl w.heap.size 3 (.int .i64 0) 1 8 Try.underlying27 info_int rfl (by decide) _ _ _ _ _ rfl rfl (by exact ho) rfl (by simp [Value.oneCell']) (by omega) (by omega) hsz ?_); intro v1 w1 ho1 _ _ hb1)
        go_roundw
        case rel =>
          refine ⟨j + 1, o ++ [(j : Int)], by omega, by go_num, by simp; omega, ?_, by show _ = _; rw [HN.out, hO.out, HP.out]; simp, hb.trans hb1⟩
          rw [List.map_append, List.length_append]; exact ho1
        case measure => simp [intOf]; omega
    · obtain rfl : j = n := by omega
      go_wp2_with fail
      go_ret
      exact retJT ho hO.out.symm hb

def ledB (l : List InstrD) (j : Nat) (pc : Nat) : Bool := (l.take j).any (hitB pc)
def ledL (l : List InstrD) (n j : Nat) : List Value := ((List.range n).map (ledB l j)).map fun b => Value.bool b
theorem ledL_length (l : List InstrD) (n j : Nat) : (ledL l n j).length = n := by simp [ledL]
theorem ledL_zero (l : List InstrD) (n : Nat) : ledL l n 0 = (madeCells (Value.bool false).cells n).toList := by
  apply List.ext_getElem
  · simp [ledL, madeCells]
  · intro i h1 h2
    simp [ledL, madeCells, ledB, Value.cells, Nat.mod_one]
theorem ledL_same (l : List InstrD) (n j : Nat) (hj : j < l.length) (h : ∀ pc : Nat, pc < n → hitB pc l[j] = false) : ledL l n (j + 1) = ledL l n j := by
  apply List.ext_getElem
  · simp [ledL]
  · intro i h1 h2
    have hi : i < n := by simpa [ledL] using h1
    have := any_succ (hitB i) l j hj
    simp [ledL, ledB, this, h i hi]
theorem ledL_set (l : List InstrD) (n j a : Nat) (hj : j < l.length) (ha : a < n) (hJ : isJ l[j].op = true) (hA : l[j].arg = a) : ledL l n (j + 1) = (ledL l n j).set a (Value.bool true) := by
  apply List.ext_getElem
  · simp [ledL]
  · intro i h1 h2
    have hi : i < n := by simpa [ledL] using h1
    have := any_succ (hitB i) l j hj
    rw [List.getElem_set]
    by_cases h : a = i
    · subst h
      simp [ledL, ledB, this, hitB, hJ, hA]
    · have h3 : hitB i l[j] = false := by simp [hitB, hJ, hA]; omega
      simp [ledL, ledB, this, h, h3]

theorem Blk.own' {W : World} {g : Nat} {e : TypeId} {cs : List Value} {size n : Nat} (h : Blk W g e cs) (hl : cs.length = n * size) (hn : n ≤ maxLen) : W.ownsRow 0 e size (.slice (some ⟨g, 0, none⟩) n n) n cs :=
  ⟨hl, .inr ⟨g, n, cs.toArray, rfl, Nat.zero_le _, h, Nat.le_refl _, hn, by simpa using hl, by rw [← hl]; simp⟩⟩
theorem InstrR.slices {w : World} {cs : List Value} {d : InstrD} (h : InstrR w cs d) : ∃ (A4 : Option Addr) (c4 : Nat) (A1 : Option Addr) (c1 : Nat) (A2 : Option Addr) (c2 : Nat) (A3 : Option Addr) (c3 : Nat) (A5 : Option Addr) (c5 : Nat) (A6 : Option Addr) (c6 : Nat), cs = [.int .i64 d.op, .int .i64 d.arg, .int .i64 d.count, .string (str d.text), .slice A4 d.labels.length c4, .int .i64 d.value.kind, .slice A1 d.value.items.length c1, .slice A2 d.value.parts.length c2, .slice A3 d.value.names.length c3, .slice A5 d.value.cls.length c5, .slice A6 d.value.levels.length c6, .int .i64 d.value.code, .int .i64 d.value.env] := by
  obtain ⟨v4, v51, v52, v53, v54, v55, rfl, _, _, _, _, t4, t5⟩ := h
  obtain ⟨A4, c4, rfl, _⟩ := Txts.open_ t4
  obtain ⟨n, A1, c1, A2, c2, A3, c3, A5, c5, A6, c6, he, _⟩ := VecR.open_ t5
  simp only [List.cons.injEq, and_true, true_and] at he
  obtain ⟨rfl, rfl, rfl, rfl, rfl⟩ := he
  exact ⟨_, _, _, _, _, _, _, _, _, _, _, _, rfl⟩

set_option maxHeartbeats 4000000 in
theorem impl_JumpTargets (d : SegD) (cs : List Value) (w : World) (h : SegmentR w cs d) (hz : szSegment d ≤ 1048576) :
    Calls Try.prog 20 #[.agg cs.toArray] w (RetJT w (jtD d)) := by
  have hl : d.instrs.length ≤ 1048576 := by have := szS_length szInstr d.instrs; unfold szSegment at hz; omega
  obtain ⟨v0, v1, v2, rfl, q0, q1, q2⟩ := h
  obtain ⟨A, c, rfl, hlc, hm, HC⟩ := SlR.open_ q2
  clear q0 q1 q2 hz
  unfold maxLen at hm
  obtain ⟨G, g0, HG, B1⟩ := good1 w 51 [v0, v1, .slice A d.instrs.length c]
  have xs0 := fun W (h : Ok G W) => (B1.out W h).cell 0 _ rfl
  have xs1 := fun W (h : Ok G W) => (B1.out W h).cell 1 _ rfl
  have xs2 := fun W (h : Ok G W) => (B1.out W h).cell 2 _ rfl
  have HZ := Lib.hid (show jtD d = if d.instrs.length ≤ 1000 then jtF d.instrs (d.instrs.length + 1) else [] from rfl)
  go_enter Try.func20, Try.ntmps20
  go_upto_region 1 with fail
  refine gen_w g0 ?_
  clear g0
  intro W0 g0
  have hW0 := (HG.out.below g0).size
  by_cases h1000 : d.instrs.length ≤ 1000
  rotate_left
  · go_wp2_with fail
    go_ret
    exact retJT (o := []) (World.ownsRow_nil _ _ _ _) (by rw [HZ.out, if_neg h1000]) (HG.out.below g0)
  have hmk := run_mk (P := Try.prog) W0 79 4 (.bool false) 1 1 Try.underlying79 (by kernel_rfl) (d.instrs.length + 1) (by omega) (by omega)
  rw [Nat.mul_one, show ((d.instrs.length + 1 : Nat) : Int) = (d.instrs.length : Int) + 1 from by omega] at hmk
  go_upto_region 4 with fail
  have hb0 := (Below.refl W0.heap.size W0).alloc (Nat.le_refl _) (.cells (madeCells #[Value.bool false] (d.instrs.length + 1)) 4)
  refine gen_w (G := fun W => Ok G W ∧ Blk W W0.heap.size 4 (ledL d.instrs (d.instrs.length + 1) 0) ∧ Below W0.heap.size W0 W) (show Ok _ _ from ⟨HG.out.step g0 hb0, by rw [ledL_zero]; exact Blk.new W0 _ _, hb0⟩) ?_
  clear hmk hb0
  rintro W1 ⟨g1, hB1, hb1⟩
  have HB1 := Lib.hid hB1
  have HBW1 := Lib.hid hb1
  clear hB1 hb1
  go_wp2_with fail
  go_loopw [18] (fun i wr => ∃ j : Nat, j ≤ d.instrs.length ∧ i = .int .i64 j ∧ Hid (Blk wr W0.heap.size 4 (ledL d.instrs (d.instrs.length + 1) j)) ∧ Below W0.heap.size W0 wr) (fun i _ => d.instrs.length - (intOf i).toNat)
  case atStart => exact ⟨0, Nat.zero_le _, rfl, HB1.out, HBW1.out⟩
  case round =>
    clear g1 HB1 HBW1
    obtain ⟨j, hj, rfl, HB, hbw⟩ := hrel
    have g1 := HG.out.step g0 hbw
    have HBW := Lib.hid hbw
    have hwr := hbw.size
    clear hbw
    by_cases hlt : j < d.instrs.length
    · obtain ⟨b, off, cs, rfl, hbl, _, hat, hr⟩ := HC.out j hlt
      obtain ⟨G', g', HG', B'⟩ := good1 wr 75 cs
      have hGG := fun W (h : Ok G' W) => HG.out.step g1 (HG'.out.below h)
      obtain ⟨A4, c4, A1, c1, A2, c2, A3, c3, A5, c5, A6, c6, rfl⟩ := hr.slices
      clear hr
      obtain ⟨op, hop⟩ : ∃ x, d.instrs[j].op = x := ⟨_, rfl⟩
      obtain ⟨arg, harg⟩ : ∃ x, d.instrs[j].arg = x := ⟨_, rfl⟩
      rw [hop, harg] at hat B' g'
      have y0 := fun W (h : Ok G' W) => (B'.out W h).cell 0 _ rfl
      have y1 := fun W (h : Ok G' W) => (B'.out W h).cell 1 _ rfl
      have z0 := fun W (h : Ok G W) => ((HG.out.below h).cell (p := ⟨b, off + j * 13, none⟩) hbl).trans (by simpa using hat 0 _ rfl)
      have z1 := fun W (h : Ok G W) => ((HG.out.below h).cell (p := ⟨b, off + j * 13 + 1, none⟩) hbl).trans (hat 1 _ rfl)
      have z2 := fun W (h : Ok G W) => ((HG.out.below h).cell (p := ⟨b, off + j * 13 + 2, none⟩) hbl).trans (hat 2 _ rfl)
      have z3 := fun W (h : Ok G W) => ((HG.out.below h).cell (p := ⟨b, off + j * 13 + 3, none⟩) hbl).trans (hat 3 _ rfl)
      have z4 := fun W (h : Ok G W) => ((HG.out.below h).cell (p := ⟨b, off + j * 13 + 4, none⟩) hbl).trans (hat 4 _ rfl)
      have z5 := fun W (h : Ok G W) => ((HG.out.below h).cell (p := ⟨b, off + j * 13 + 5, none⟩) hbl).trans (hat 5 _ rfl)
      have z6 := fun W (h : Ok G W) => ((HG.out.below h).cell (p := ⟨b, off + j * 13 + 6, none⟩) hbl).trans (hat 6 _ rfl)
      have z7 := fun W (h : Ok G W) => ((HG.out.below h).cell (p := ⟨b, off + j * 13 + 7, none⟩) hbl).trans (hat 7 _ rfl)
      have z8 := fun W (h : Ok G W) => ((HG.out.below h).cell (p := ⟨b, off + j * 13 + 8, none⟩) hbl).trans (hat 8 _ rfl)
      have z9 := fun W (h : Ok G W) => ((HG.out.below h).cell (p := ⟨b, off + j * 13 + 9, none⟩) hbl).trans (hat 9 _ rfl)
      have z10 := fun W (h : Ok G W) => ((HG.out.below h).cell (p := ⟨b, off + j * 13 + 10, none⟩) hbl).trans (hat 10 _ rfl)
      have z11 := fun W (h : Ok G W) => ((HG.out.below h).cell (p := ⟨b, off + j * 13 + 11, none⟩) hbl).trans (hat 11 _ rfl)
      have z12 := fun W (h : Ok G W) => ((HG.out.below h).cell (p := ⟨b, off + j * 13 + 12, none⟩) hbl).trans (hat 12 _ rfl)
      have HOP := Lib.hid hop
      have HARG := Lib.hid harg
      clear hat hop harg
      have HSAME := Lib.hid (ledL_same d.instrs (d.instrs.length + 1) j hlt)
      have HSET := Lib.hid (fun a => ledL_set d.instrs (d.instrs.length + 1) j a hlt)
      go_upto_region 7 with fail
      refine gen_w g' ?_
      clear g' g1 z0 z1 z2 z3 z4 z5 z6 z7 z8 z9 z10 z11 z12
      intro W2 g2
      have x2 := xs2 _ (hGG _ g2)
      have HB2 := Lib.hid (HB.out.below (HG'.out.below g2))
      have HBW2 := Lib.hid (HBW.out.trans ((HG'.out.below g2).mono hwr))
      have hw2 := HBW2.out.size
      clear HB HBW
      go_wp2_with fail
      refine Calls.mono (impl_isJumping op _) ?_
      rintro e w3 ⟨rfl, rfl⟩
      obtain ⟨J, hJ⟩ : ∃ x, isJ op = x := ⟨_, rfl⟩
      rw [hJ]
      have HJ := Lib.hid hJ
      clear hJ
      cases J
      · have HN := Lib.hid (HSAME.out fun pc _ => by simp [hitB, HOP.out, HJ.out])
        go_wp2_with fail
        go_roundw
        case rel => exact ⟨j + 1, by omega, by go_num, by show Blk _ _ _ _; rw [HN.out]; exact HB2.out, HBW2.out⟩
        case measure => simp [intOf]; omega
      by_cases h0 : 0 ≤ arg
      rotate_left
      · have HN := Lib.hid (HSAME.out fun pc _ => by simp [hitB, HARG.out]; omega)
        go_wp2_with fail
        go_roundw
        case rel => exact ⟨j + 1, by omega, by go_num, by show Blk _ _ _ _; rw [HN.out]; exact HB2.out, HBW2.out⟩
        case measure => simp [intOf]; omega
      by_cases h2 : arg ≤ d.instrs.length
      rotate_left
      · have HN := Lib.hid (HSAME.out fun pc _ => by simp [hitB, HARG.out]; omega)
        go_wp2_with fail
        go_roundw
        case rel => exact ⟨j + 1, by omega, by go_num, by show Blk _ _ _ _; rw [HN.out]; exact HB2.out, HBW2.out⟩
        case measure => simp [intOf]; omega
      obtain ⟨a, rfl⟩ := Int.eq_ofNat_of_zero_le h0
      have ha : a < d.instrs.length + 1 := by omega
      have HN := Lib.hid (HSET.out a ha (by rw [HOP.out]; exact HJ.out) HARG.out)
      obtain ⟨u, hu⟩ : ∃ u, W2.cell? ⟨W0.heap.size, a, none⟩ = some u := ⟨_, HB2.out.cell a _ (List.getElem?_eq_getElem (by rw [ledL_length]; exact ha))⟩
      have hfr := HB2.out.frozen a
      go_wp2_with fail
      go_roundw
      case rel =>
        refine ⟨j + 1, by omega, by go_num, ?_, below_sc HBW2.out (Nat.le_refl _) _⟩
        show Blk _ _ _ _
        rw [HN.out]
        exact HB2.out.set_ a _
      case measure => simp [intOf]; omega
    · obtain rfl : j = d.instrs.length := by omega
      go_wp2_with fail
      have hh := impl_marked (ledB d.instrs d.instrs.length) (d.instrs.length + 1) (.slice (some ⟨W0.heap.size, 0, none⟩) (d.instrs.length + 1) (d.instrs.length + 1)) wr (Bools.of_own (by
        have := Blk.own' HB.out (size := 1) (n := d.instrs.length + 1) (by rw [ledL_length]; omega) (by unfold maxLen; omega)
        simpa [ledL] using this)) (by omega)
      refine Calls.mono hh ?_
      clear hh
      rintro e w3 ⟨A3, c3, rfl, ho, hb⟩
      have HP := Lib.hid (show jtD d = posF (ledB d.instrs d.instrs.length) (d.instrs.length + 1) by
        rw [HZ.out, if_pos h1000]
        unfold jtF posF ledB
        rw [List.take_length])
      have HB3 := Lib.hid (HG.out.below (HG.out.step g1 hb))
      have HO := Lib.hid (own_base ho (show w.heap.size ≤ wr.heap.size from Nat.le_trans hW0 hwr))
      clear hb ho
      go_wp2_with fail
      go_ret
      exact retJT HO.out HP.out HB3.out
end Go.Proofs.Ytaliiodngekahaa
