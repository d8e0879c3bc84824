/-
  Contracts: random orders, of the program and of the reference.
-/
import Derived.Test.YtkdlekonfjeidaaRandSkip
namespace Go.Proofs.Ytkdlekonfjeidaa
set_option maxRecDepth 100000
open Go.ChangeShapes Go.WideShapes Go.ChangeAt Go.RowKit Go.Deep

def iv (x : Int) : Value := .int .i64 x
theorem swap_map (l : List Int) (i k : Nat) (hi : i < l.length) (hk : k < l.length) : ((l.map iv).set i (iv l[k])).set k (iv l[i]) = (swapL l i k).map iv := by
  unfold swapL
  rw [List.map_set, List.map_set, List.getD_eq_getElem?_getD, List.getD_eq_getElem?_getD, List.getElem?_eq_getElem hi, List.getElem?_eq_getElem hk]
  rfl
def ShR (w : World) (n : Nat) (s : Int) (e : Ending) (w' : World) : Prop :=
  ∃ v, e = .returned (.tuple #[v, .int .i64 (shufL (n - 1) s (idL n)).2]) ∧ w'.ownsRow w.heap.size 3 1 v n ((shufL (n - 1) s (idL n)).1.map iv) ∧ Below w.heap.size w w'

set_option maxHeartbeats 4000000 in
theorem impl_ShuffleOf (s : Int) (n : Nat) (w : World) (hs : isSt s = true) (hn : n ≤ 10) :
    Calls Try.prog 6 #[.int .i64 s, .int .i64 n] w (ShR w n s) := by
  have H := Lib.hid hs
  clear hs
  go_enter Try.func6, Try.ntmps6
  go_wp2_with fail
  refine (impl_isState s _).mono ?_
  rw [H.out]
  rintro e w1 ⟨rfl, rfl⟩
  go_wp2_with fail
  go_loopw [6, 7] (fun o i wr => ∃ k : Nat, k ≤ n ∧ i = .int .i64 ((k : Int) + 1) ∧ wr.ownsRow w.heap.size 3 1 o k ((idL k).map iv) ∧ Below w.heap.size w wr) (fun _ i _ => n + 1 - (intOf i).toNat)
  case atStart => exact ⟨0, Nat.zero_le _, rfl, World.ownsRow_nil _ _ _ _, Below.refl _ _⟩
  case round =>
    obtain ⟨k, hk, rfl, ho, hb⟩ := hrel
    have hbs := hb.size
    by_cases hlt : k < n
    · go_wp2_with (at_builtin; go_must (refine wpList_push rfl _ _ 26 rfl w.heap.size 3 (.int .i64 0) 1 8 Try.underlying26 info_int rfl (by decide) _ _ _ _ _ rfl rfl (by exact ho) rfl (by simp [Value.oneCell']) (by omega) (by omega) hbs ?_); intro v1 w1 ho1 _ _ hb1)
      go_roundw
      case rel =>
        refine ⟨k + 1, by omega, by go_num, ?_, hb.trans hb1⟩
        rw [idL_succ, List.map_append]
        exact ho1
      case measure => simp [intOf]; omega
    · obtain rfl : n = k := by omega
      clear hlt hk
      have hl := ho.1
      rcases ho.2 with ⟨rfl, rfl⟩ | ⟨g, cap, cur, rfl, hgb, hg, hnc, hcm, hcs, htake⟩
      · go_wp2_with fail
        go_loop [0, 8] (fun t i => t = .int .i64 s ∧ i = .int .i64 (-1)) (fun _ _ => 0)
        case atStart => exact ⟨rfl, rfl⟩
        case round =>
          obtain ⟨rfl, rfl⟩ := hrel
          go_wp2_with fail
          go_ret2
          exact ⟨_, rfl, World.ownsRow_nil _ _ _ _, hb⟩
      · unfold maxLen at hcm
        have HO := Lib.hid ho
        clear ho hl htake hg hcs cur
        go_wp2_with fail
        go_loopw [0, 8] (fun t i wr => ∃ (j : Nat) (s' : Int) (l : List Int), i = .int .i64 ((j : Int) - 1) ∧ t = .int .i64 s' ∧ j ≤ n ∧ Hid (isSt s' = true) ∧ l.length = n ∧ Hid (shufL (j - 1) s' l = shufL (n - 1) s (idL n)) ∧ Hid (wr.ownsRow w.heap.size 3 1 (.slice (some ⟨g, 0, none⟩) n cap) n (l.map iv)) ∧ Below w.heap.size w wr) (fun _ i _ => (intOf i).toNat)
        case atStart => exact ⟨n, s, idL n, rfl, rfl, Nat.le_refl _, H, idL_length n, rfl, HO, hb⟩
        case round =>
          obtain ⟨j, s', l, rfl, rfl, hj, HS, hll, HX, HO', hb'⟩ := hrel
          by_cases hlj : 2 ≤ j
          · obtain ⟨q, rfl⟩ : ∃ q, j = q + 2 := ⟨j - 2, by omega⟩
            have hw : wrap64 ((q : Int) + 2) = (q : Int) + 2 := by unfold wrap64; omega
            go_wp2_with fail
            refine (impl_BelowOf s' ((q : Int) + 2) _ HS.out (by omega) (by omega)).mono ?_
            have HN := Lib.hid (nextS_st HS.out)
            have hk0 := Int.emod_nonneg (nextS s') (show (q : Int) + 2 ≠ 0 by omega)
            have hk1 := Int.emod_lt_of_pos (nextS s') (show 0 < (q : Int) + 2 by omega)
            have HXX := Lib.hid (show shufL q (nextS s') (swapL l (q + 1) (nextS s' % ((q : Int) + 2)).toNat) = shufL (n - 1) s (idL n) from HX.out)
            generalize nextS s' % ((q : Int) + 2) = K at *
            generalize nextS s' = s2 at *
            obtain ⟨k, rfl⟩ := Int.eq_ofNat_of_zero_le hk0
            rw [Int.toNat_natCast] at HXX
            have hkl : k < l.length := by omega
            have hql : q + 1 < l.length := by omega
            have c1 : wr.cell? ⟨g, k, none⟩ = some (.int .i64 l[k]) := by
              have := HO'.out.cellAt k (by omega)
              rw [this, List.getElem?_map, List.getElem?_eq_getElem hkl]; rfl
            have c2 : wr.cell? ⟨g, q + 1, none⟩ = some (.int .i64 l[q + 1]) := by
              have := HO'.out.cellAt (q + 1) (by omega)
              rw [this, List.getElem?_map, List.getElem?_eq_getElem hql]; rfl
            have f1 := HO'.out.frozenAt k
            have f2 := HO'.out.frozenAt (q + 1)
            have c3 : wr.cell? ⟨g, q + 2 - 1, none⟩ = some (.int .i64 l[q + 1]) := c2
            have f3 : wr.frozen? ⟨g, q + 2 - 1, none⟩ = false := f2
            obtain ⟨h2, h3⟩ := HO'.out.stored (q + 1) (.int .i64 l[k])
            obtain ⟨h4, h5⟩ := h2.stored k (.int .i64 l[q + 1])
            have c4 := h2.cellAt k (by omega)
            have f4 := h2.frozenAt k
            have c5 : (wr.setCell ⟨g, q + 1, none⟩ (.int .i64 l[k])).cell? ⟨g, k, none⟩ = some (.int .i64 l[k]) := by
              rw [c4]
              by_cases e : q + 1 = k
              · subst e
                rw [List.getElem?_set_self (by simpa using hql)]
              · rw [List.getElem?_set_ne e, List.getElem?_map, List.getElem?_eq_getElem hkl]; rfl
            have hsw := swap_map l (q + 1) k hql hkl
            have H4 := Lib.hid (show ((wr.setCell ⟨g, q + 1, none⟩ (.int .i64 l[k])).setCell ⟨g, k, none⟩ (.int .i64 l[q + 1])).ownsRow w.heap.size 3 1 (.slice (some ⟨g, 0, none⟩) n cap) n ((swapL l (q + 1) k).map iv) from by rw [← hsw]; exact h4)
            have HB := Lib.hid (show Below w.heap.size w ((wr.setCell ⟨g, q + 1, none⟩ (.int .i64 l[k])).setCell ⟨g, k, none⟩ (.int .i64 l[q + 1])) from below_sc (below_sc hb' hgb _) hgb _)
            clear h2 h3 h4 h5 c4 hsw
            rintro e w1 ⟨rfl, rfl⟩
            go_wp2_with fail
            go_region
            go_wp2_with fail
            go_roundw
            case rel => exact ⟨q + 1, s2, swapL l (q + 1) k, by go_num, rfl, by omega, HN, by rw [swapL_length]; exact hll, HXX, by first | exact H4 | exact Lib.hid H4.out.drew, by first | exact HB.out | exact HB.out.drew⟩
            case measure => simp [intOf]; omega
          · go_wp2_with fail
            have h9 := HX.out
            rw [show j - 1 = 0 by omega] at h9
            go_ret2
            exact ⟨_, by rw [← h9]; rfl, by rw [← h9]; exact HO'.out, hb'⟩
set_option maxHeartbeats 4000000 in
theorem spec_ShuffleOf (s : Int) (n : Nat) (w : World) (hs : isSt s = true) (hn : n ≤ 10) :
    Calls Try.prog 7 #[.int .i64 s, .int .i64 n] w (ShR w n s) := by
  have H := Lib.hid hs
  have HI := Lib.hid (show (decide ((0 : Int) ≤ s) && decide (s ≤ 65535)) = true from hs)
  clear hs
  go_enter Try.func7, Try.ntmps7
  go_wp2_with fail
  refine (spec_l1In_i s 0 65535 _).mono ?_
  rw [HI.out]
  rintro e w1 ⟨rfl, rfl⟩
  go_wp2_with fail
  refine (spec_l1In_i n 0 40 _).mono ?_
  rw [show (decide ((0 : Int) ≤ n) && decide ((n : Int) ≤ 40)) = true by simp; omega]
  rintro e w1 ⟨rfl, rfl⟩
  go_wp2_with fail
  go_loopw [6, 7] (fun o i wr => ∃ k : Nat, k ≤ n ∧ i = .int .i64 ((k : Int) + 1) ∧ wr.ownsRow w.heap.size 3 1 o k ((idL k).map iv) ∧ Below w.heap.size w wr) (fun _ i _ => n + 1 - (intOf i).toNat)
  case atStart => exact ⟨0, Nat.zero_le _, rfl, owns_new w _ 1 0 _ 0 [] rfl (Nat.le_refl _) (by unfold maxLen; omega) rfl rfl, (Below.refl _ _).alloc (Nat.le_refl _) _⟩
  case round =>
    obtain ⟨k, hk, rfl, ho, hb⟩ := hrel
    have hbs := hb.size
    by_cases hlt : k < n
    · go_wp2_with (at_builtin; go_must (refine wpList_push rfl _ _ 26 rfl w.heap.size 3 (.int .i64 0) 1 8 Try.underlying26 info_int rfl (by decide) _ _ _ _ _ rfl rfl (by exact ho) rfl (by simp [Value.oneCell']) (by omega) (by omega) hbs ?_); intro v1 w1 ho1 _ _ hb1)
      go_roundw
      case rel =>
        refine ⟨k + 1, by omega, by go_num, ?_, hb.trans hb1⟩
        rw [idL_succ, List.map_append]
        exact ho1
      case measure => simp [intOf]; omega
    · obtain rfl : n = k := by omega
      clear hlt hk
      have hl := ho.1
      rcases ho.2 with ⟨rfl, rfl⟩ | ⟨g, cap, cur, rfl, hgb, hg, hnc, hcm, hcs, htake⟩
      · go_wp2_with fail
        go_loop [0, 8] (fun t i => t = .int .i64 s ∧ i = .int .i64 (-1)) (fun _ _ => 0)
        case atStart => exact ⟨rfl, rfl⟩
        case round =>
          obtain ⟨rfl, rfl⟩ := hrel
          go_wp2_with fail
          go_ret2
          exact ⟨_, rfl, World.ownsRow_nil _ _ _ _, hb⟩
      · unfold maxLen at hcm
        have HO := Lib.hid ho
        clear ho hl htake hg hcs cur
        go_wp2_with fail
        go_loopw [0, 8] (fun t i wr => ∃ (j : Nat) (s' : Int) (l : List Int), i = .int .i64 ((j : Int) - 1) ∧ t = .int .i64 s' ∧ j ≤ n ∧ Hid (isSt s' = true) ∧ l.length = n ∧ Hid (shufL (j - 1) s' l = shufL (n - 1) s (idL n)) ∧ Hid (wr.ownsRow w.heap.size 3 1 (.slice (some ⟨g, 0, none⟩) n cap) n (l.map iv)) ∧ Below w.heap.size w wr) (fun _ i _ => (intOf i).toNat)
        case atStart => exact ⟨n, s, idL n, rfl, rfl, Nat.le_refl _, H, idL_length n, rfl, HO, hb⟩
        case round =>
          obtain ⟨j, s', l, rfl, rfl, hj, HS, hll, HX, HO', hb'⟩ := hrel
          by_cases hlj : 2 ≤ j
          · obtain ⟨q, rfl⟩ : ∃ q, j = q + 2 := ⟨j - 2, by omega⟩
            have hw : wrap64 ((q : Int) + 2) = (q : Int) + 2 := by unfold wrap64; omega
            go_wp2_with fail
            refine (spec_BelowOf s' ((q : Int) + 2) _ HS.out (by omega) (by omega)).mono ?_
            have HN := Lib.hid (nextS_st HS.out)
            have hk0 := Int.emod_nonneg (nextS s') (show (q : Int) + 2 ≠ 0 by omega)
            have hk1 := Int.emod_lt_of_pos (nextS s') (show 0 < (q : Int) + 2 by omega)
            have HXX := Lib.hid (show shufL q (nextS s') (swapL l (q + 1) (nextS s' % ((q : Int) + 2)).toNat) = shufL (n - 1) s (idL n) from HX.out)
            generalize nextS s' % ((q : Int) + 2) = K at *
            generalize nextS s' = s2 at *
            obtain ⟨k, rfl⟩ := Int.eq_ofNat_of_zero_le hk0
            rw [Int.toNat_natCast] at HXX
            have hkl : k < l.length := by omega
            have hql : q + 1 < l.length := by omega
            have c1 : wr.cell? ⟨g, k, none⟩ = some (.int .i64 l[k]) := by
              have := HO'.out.cellAt k (by omega)
              rw [this, List.getElem?_map, List.getElem?_eq_getElem hkl]; rfl
            have c2 : wr.cell? ⟨g, q + 1, none⟩ = some (.int .i64 l[q + 1]) := by
              have := HO'.out.cellAt (q + 1) (by omega)
              rw [this, List.getElem?_map, List.getElem?_eq_getElem hql]; rfl
            have f1 := HO'.out.frozenAt k
            have f2 := HO'.out.frozenAt (q + 1)
            have c3 : wr.cell? ⟨g, q + 2 - 1, none⟩ = some (.int .i64 l[q + 1]) := c2
            have f3 : wr.frozen? ⟨g, q + 2 - 1, none⟩ = false := f2
            obtain ⟨h2, h3⟩ := HO'.out.stored (q + 1) (.int .i64 l[k])
            obtain ⟨h4, h5⟩ := h2.stored k (.int .i64 l[q + 1])
            have c4 := h2.cellAt k (by omega)
            have f4 := h2.frozenAt k
            have c5 : (wr.setCell ⟨g, q + 1, none⟩ (.int .i64 l[k])).cell? ⟨g, k, none⟩ = some (.int .i64 l[k]) := by
              rw [c4]
              by_cases e : q + 1 = k
              · subst e
                rw [List.getElem?_set_self (by simpa using hql)]
              · rw [List.getElem?_set_ne e, List.getElem?_map, List.getElem?_eq_getElem hkl]; rfl
            have hsw := swap_map l (q + 1) k hql hkl
            have H4 := Lib.hid (show ((wr.setCell ⟨g, q + 1, none⟩ (.int .i64 l[k])).setCell ⟨g, k, none⟩ (.int .i64 l[q + 1])).ownsRow w.heap.size 3 1 (.slice (some ⟨g, 0, none⟩) n cap) n ((swapL l (q + 1) k).map iv) from by rw [← hsw]; exact h4)
            have HB := Lib.hid (show Below w.heap.size w ((wr.setCell ⟨g, q + 1, none⟩ (.int .i64 l[k])).setCell ⟨g, k, none⟩ (.int .i64 l[q + 1])) from below_sc (below_sc hb' hgb _) hgb _)
            clear h2 h3 h4 h5 c4 hsw
            rintro e w1 ⟨rfl, rfl⟩
            go_wp2_with fail
            go_wp2_with fail
            go_roundw
            case rel => exact ⟨q + 1, s2, swapL l (q + 1) k, by go_num, rfl, by omega, HN, by rw [swapL_length]; exact hll, HXX, by first | exact H4 | exact Lib.hid H4.out.drew, by first | exact HB.out | exact HB.out.drew⟩
            case measure => simp [intOf]; omega
          · go_wp2_with fail
            have h9 := HX.out
            rw [show j - 1 = 0 by omega] at h9
            go_ret2
            exact ⟨_, by rw [← h9]; rfl, by rw [← h9]; exact HO'.out, hb'⟩
end Go.Proofs.Ytkdlekonfjeidaa
