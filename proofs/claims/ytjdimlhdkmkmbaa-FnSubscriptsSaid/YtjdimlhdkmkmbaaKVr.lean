/-
  Merged texts: VmPosN, VmRes.
-/
import Derived.Test.YtjdimlhdkmkmbaaKVm
namespace Go.Proofs.Ytjdimlhdkmkmbaa
set_option maxRecDepth 100000
set_option maxRecDepth 100000
open Go.ChangeShapes Go.WideShapes Go.ChangeAt Go.RowKit Go.Deep Go.Proofs.Ytjdimlhdkmkmbaa.Vm
set_option linter.unusedVariables false

theorem missing_wh (n : Int) : missing (wh n) = false := by simp [missing, wh]
theorem whWf {n : Int} (h1 : -1000 ≤ n) (h2 : n ≤ 1000) : ItWf (wh n) := ⟨⟨by show _ ≤ n; omega, by show n ≤ _; omega⟩, i64o_, Nat.zero_le _⟩
set_option maxHeartbeats 8000000 in
theorem ct_numPos (n : Nat) (hn : n ≤ 40) (l : List Int) (hl : ∀ x ∈ l, 1 ≤ x ∧ x ≤ 40) (hll : l.length ≤ 1000) :
    Ct Try.prog 60 [.c (.i .i64 n), .c (.sl (l.map fun n => itK (wh n)))] (fun t => t = .tu [.c (.sl (l.map inK)), .c (.s [])]) := by
  obtain ⟨zb, zc, zs, zl, zn, zt, zp, zg, zv, zx, zm, hz⟩ := Vm.zE
  obtain ⟨I, hI⟩ := hide (l.map fun n => itK (wh n))
  rw [← hI]
  obtain ⟨ni, hni⟩ := hide (n : Int)
  rw [← hni]
  obtain ⟨n1, hn1⟩ := hide (n + 1)
  have hln : zl I = (l.length : Int) := by rw [z_len hz, hI]; simp
  have hadd0 : zb .add .i64 ni 1 = (n1 : Int) := by rw [z_add hz (by omega) (by omega)]; omega
  refine Ct_of_W Try.func60 rfl (Nat.le_of_ble_eq_true rfl) fun w0 Z0 => ?_
  refine W_run ti_ok hz 400 (by cbv) ?_
  rw [hadd0]
  obtain ⟨m1, hm1⟩ := hide (n1 : Int)
  rw [← hm1]
  refine W_make ti_ok (by cbv) n1 hm1 hm1 (by omega) ?_
  obtain ⟨rw0, hrw0⟩ := hide (List.replicate n1 [C.b false])
  refine W_run ti_ok hz 400 (by cbv) ?_
  refine W_own 6 1 (by cbv) ?_
  refine W_keep [4, 5, 6, 7, 8, 16, 17, 18] [1] 2 (by cbv) (by cbv) ?_
  refine W_run ti_ok hz 1 (by cbv) ?_
  refine W_loop (fun n a m => ∃ (k : Nat) (ik : Int) (o : List (List C)) (ob : Bool), k ≤ l.length ∧ n = l.length - k ∧ ik = (k : Int) ∧ o = (l.take k).map inK ∧
      a = [(4, T.nil), (5, T.c (C.s [])), (6, T.sk 1 o), (7, T.c (C.b false)), (8, T.c (C.b ob)), (16, T.c (C.sl I)), (17, T.c (C.i IntKind.i64 (zl I))), (18, T.c (C.i IntKind.i64 ik))] ∧
      m = [(1, Obj.tok 1 o)]) l.length ⟨0, 0, [], false, Nat.zero_le _, rfl, rfl, rfl, rfl, rfl⟩ ?_
  rintro n' a m ⟨k, ik, o, ob, hk, hn', hik, ho, rfl, rfl⟩
  refine W_run ti_ok hz 400 (by cbv) ?_
  refine W_cond (by cbv) (fun h => ?_) (fun h => ?_)
  · have hlt : k < l.length := by
      rw [z_lss hz, hln, hik] at h
      simpa using h
    obtain ⟨p, hp⟩ : ∃ p, l[k]? = some p := ⟨_, List.getElem?_eq_getElem hlt⟩
    have hLk : I[k]? = some (itK (wh p)) := by rw [hI, List.getElem?_map, hp]; rfl
    obtain ⟨hp1, hp2⟩ := hl p (List.mem_of_getElem? hp)
    have hst : (l.take (k + 1)).map inK = (l.take k).map inK ++ [inK p] := by rw [List.take_add_one, hp, List.map_append]; rfl
    have c1 := ct_isMissing (wh p) (whWf (by omega) (by omega))
    rw [missing_wh] at c1
    have hol : o.length ≤ l.length := by rw [ho, List.length_map, List.length_take]; omega
    have hadd : zb .add .i64 ik 1 = ik + 1 := z_add hz (by omega) (by omega)
    obtain ⟨ik1, hik1⟩ := hide (ik + 1)
    rw [← hik1] at hadd
    refine W_run ti_ok hz 400 (by cbv) ?_
    refine W_val (by cbv) (by cbv) (Val_elem ti_ok (by cbv) k hik hLk rfl) ?_
    refine W_run ti_ok hz 400 (by cbv) ?_
    refine W_call (by cbv) (by kernel_rfl) (c1) ?_
    rintro t rfl
    refine W_run ti_ok hz 400 (by cbv) ?_
    refine W_bool 23 (by cbv) (rfl) ?_
    refine W_run ti_ok hz 400 (by cbv) ?_
    refine W_bool 29 (by cbv) (show _ = false by rw [z_neq hz]; rfl) ?_
    refine W_run ti_ok hz 400 (by cbv) ?_
    refine W_bool 33 (by cbv) (show _ = false by rw [z_lss hz]; exact decide_eq_false (by omega)) ?_
    refine W_run ti_ok hz 400 (by cbv) ?_
    refine W_bool 37 (by cbv) (show _ = false by rw [z_gtr hz]; exact decide_eq_false (by omega)) ?_
    refine W_run ti_ok hz 400 (by cbv) ?_
    refine W_bool 38 (by cbv) (show _ = true by rw [z_gtr hz]; exact decide_eq_true (by omega)) ?_
    refine W_run ti_ok hz 400 (by cbv) ?_
    refine W_app ti_ok (by cbv) (by cbv) (by simp) (by simp; omega) ?_
    obtain ⟨o2, ho2⟩ := hide (o ++ [inK p])
    rw [show o ++ [[C.i IntKind.i64 p]] = o2 from ho2.symm]
    refine W_run ti_ok hz 400 (by cbv) ?_
    rw [hadd]
    refine W_inv [4, 5, 6, 7, 8, 16, 17, 18] [1] (l.length - (k + 1)) (by omega) (by cbv) (by cbv) ⟨k + 1, ik1, o2, true, hlt, rfl, by rw [hik1, hik]; rfl, ?_, by cbv, by cbv⟩
    rw [hst, ho2, ho]
  · have hle : k = l.length := by
      rw [z_lss hz, hln, hik] at h
      have h := of_decide_eq_false h
      omega
    refine W_run ti_ok hz 400 (by cbv) ?_
    refine W_ret ti_ok rfl (by cbv) ?_
    rw [ho, hle, List.take_length]
/-- all places but one -/
def others (n j : Nat) : List Int := ((List.range n).filter fun i => i + 1 != j).map fun (i : Nat) => (i : Int) + 1
theorem others_succ (n j : Nat) : others (n + 1) j = others n j ++ if n + 1 = j then [] else [(n : Int) + 1] := by
  unfold others
  rw [List.range_succ, List.filter_append, List.map_append]
  congr 1
  by_cases h : n + 1 = j
  · simp [h]
  · simp [h]
theorem others_le (n j : Nat) : (others n j).length ≤ n := by
  unfold others
  rw [List.length_map]
  exact Nat.le_trans (List.length_filter_le _ _) (by simp)
set_option maxHeartbeats 8000000 in
theorem ct_numOut (n j : Nat) (hn : n ≤ 40) (hj : 1 ≤ j) (hjn : j ≤ n) :
    Ct Try.prog 60 [.c (.i .i64 n), .c (.sl [itK (wh (-(j : Int)))])] (fun t => t = .tu [.c (.sl ((others n j).map inK)), .c (.s [])]) := by
  obtain ⟨zb, zc, zs, zl, zn, zt, zp, zg, zv, zx, zm, hz⟩ := Vm.zE
  obtain ⟨x, hx⟩ := hide (-(j : Int))
  rw [← hx]
  have c1 := ct_isMissing (wh x) (whWf (by omega) (by omega))
  rw [missing_wh] at c1
  obtain ⟨I, hI⟩ := hide [itK (wh x)]
  rw [← hI]
  obtain ⟨ni, hni⟩ := hide (n : Int)
  rw [← hni]
  obtain ⟨n1, hn1⟩ := hide (n + 1)
  have hln : zl I = 1 := by rw [z_len hz, hI]; rfl
  have hadd0 : zb .add .i64 ni 1 = (n1 : Int) := by rw [z_add hz (by omega) (by omega)]; omega
  have hng : zg .i64 x = (j : Int) := by rw [z_neg hz (by omega) (by omega)]; omega
  refine Ct_of_W Try.func60 rfl (Nat.le_of_ble_eq_true rfl) fun w0 Z0 => ?_
  refine W_run ti_ok hz 400 (by cbv) ?_
  rw [hadd0]
  obtain ⟨m1, hm1⟩ := hide (n1 : Int)
  rw [← hm1]
  refine W_make ti_ok (by cbv) n1 hm1 hm1 (by omega) ?_
  obtain ⟨r0, hr0⟩ := hide (List.replicate n1 [C.b false])
  rw [← hr0]
  obtain ⟨r1, hr1⟩ := hide (r0.set j [C.b true])
  have hgj : r0[j]? = some [C.b false] := by rw [hr0, List.getElem?_replicate, if_pos (by omega)]
  have hg : ∀ i, i < n1 → r1[i]? = some [C.b (decide (i = j))] := fun i hi => by
    rw [hr1, List.getElem?_set]
    by_cases h : j = i
    · subst h
      rw [if_pos rfl, hr0, List.length_replicate, if_pos hi]
      simp
    · rw [if_neg h, hr0, List.getElem?_replicate, if_pos hi]
      have : decide (i = j) = false := decide_eq_false fun e => h e.symm
      rw [this]
  refine W_run ti_ok hz 400 (by cbv) ?_
  refine W_keep [0, 4, 5, 6, 7, 8, 9, 16, 17, 18] [0] 1 (by cbv) (by cbv) ?_
  refine W_run ti_ok hz 1 (by cbv) ?_
  refine W_loop (fun n' a m => (n' = 1 ∧ a = [(0, T.c (C.i IntKind.i64 ni)), (4, T.nil), (5, T.c (C.s [])), (6, T.nil), (7, T.c (C.b false)), (8, T.c (C.b false)), (9, T.rw 0 n1), (16, T.c (C.sl I)), (17, T.c (C.i IntKind.i64 (zl I))), (18, T.c (C.i IntKind.i64 0))] ∧ m = [(0, Obj.row r0)]) ∨
      (n' = 0 ∧ a = [(0, T.c (C.i IntKind.i64 ni)), (4, T.nil), (5, T.c (C.s [])), (6, T.nil), (7, T.c (C.b true)), (8, T.c (C.b false)), (9, T.rw 0 n1), (16, T.c (C.sl I)), (17, T.c (C.i IntKind.i64 (zl I))), (18, T.c (C.i IntKind.i64 1))] ∧ m = [(0, Obj.row r1)])) 1 (.inl ⟨rfl, rfl, rfl⟩) ?_
  rintro n' a m (⟨rfl, rfl, rfl⟩ | ⟨rfl, rfl, rfl⟩)
  · have hLk : I[0]? = some (itK (wh x)) := by rw [hI]; rfl
    refine W_run ti_ok hz 400 (by cbv) ?_
    refine W_bool 19 (by cbv) (show _ = true by rw [z_lss hz, hln]; rfl) ?_
    refine W_run ti_ok hz 400 (by cbv) ?_
    refine W_val (by cbv) (by cbv) (Val_elem ti_ok (by cbv) 0 rfl hLk rfl) ?_
    refine W_run ti_ok hz 400 (by cbv) ?_
    refine W_call (by cbv) (by kernel_rfl) (c1) ?_
    rintro t rfl
    refine W_run ti_ok hz 400 (by cbv) ?_
    refine W_bool 23 (by cbv) (rfl) ?_
    refine W_run ti_ok hz 400 (by cbv) ?_
    refine W_bool 29 (by cbv) (show _ = false by rw [z_neq hz]; rfl) ?_
    refine W_run ti_ok hz 400 (by cbv) ?_
    refine W_bool 33 (by cbv) (show _ = false by rw [z_lss hz]; exact decide_eq_false (by omega)) ?_
    refine W_run ti_ok hz 400 (by cbv) ?_
    refine W_bool 37 (by cbv) (show _ = false by rw [z_gtr hz]; exact decide_eq_false (by omega)) ?_
    refine W_run ti_ok hz 400 (by cbv) ?_
    refine W_bool 38 (by cbv) (show _ = false by rw [z_gtr hz]; exact decide_eq_false (by omega)) ?_
    refine W_run ti_ok hz 400 (by cbv) ?_
    refine W_bool 47 (by cbv) (show _ = true by rw [z_lss hz]; exact decide_eq_true (by omega)) ?_
    refine W_run ti_ok hz 400 (by cbv) ?_
    refine W_bool 55 (by cbv) (show _ = true by rw [z_leq hz, hng, hni]; exact decide_eq_true (by omega)) ?_
    refine W_run ti_ok hz 400 (by cbv) ?_
    have hjl : j < n1 := by omega
    refine W_val (by cbv) (by cbv) (Val_rwAt ti_ok (by cbv) j hng hjl) ?_
    refine W_run ti_ok hz 400 (by cbv) ?_
    refine W_peStore ti_ok (by cbv) (by cbv) hgj rfl (by decide) ?_
    rw [show r0.set j ([C.b false].set 0 (C.b true)) = r1 from hr1.symm]
    refine W_run ti_ok hz 400 (by cbv) ?_
    have hadd : zb .add .i64 0 1 = 1 := z_add hz (by omega) (by omega)
    rw [hadd]
    exact W_inv [0, 4, 5, 6, 7, 8, 9, 16, 17, 18] [0] 0 (by omega) (by cbv) (by cbv) (.inr ⟨rfl, by cbv, by cbv⟩)
  · refine W_run ti_ok hz 400 (by cbv) ?_
    refine W_bool 19 (by cbv) (show _ = false by rw [z_lss hz, hln]; rfl) ?_
    refine W_run ti_ok hz 400 (by cbv) ?_
    refine W_own 6 1 (by cbv) ?_
    refine W_keep [0, 4, 5, 6, 9, 12] [0, 1] 2 (by cbv) (by cbv) ?_
    refine W_run ti_ok hz 1 (by cbv) ?_
    refine W_loop (fun n' a m => ∃ (k : Nat) (ik : Int) (o : List (List C)), k ≤ n ∧ n' = n - k ∧ ik = (k : Int) + 1 ∧ o = (others k j).map inK ∧
      a = [(0, T.c (C.i IntKind.i64 ni)), (4, T.nil), (5, T.c (C.s [])), (6, T.sk 1 o), (9, T.rw 0 n1), (12, T.c (C.i IntKind.i64 ik))] ∧
      m = [(0, Obj.row r1), (1, Obj.tok 1 o)]) n ⟨0, 1, [], Nat.zero_le _, rfl, rfl, rfl, rfl, rfl⟩ ?_
    rintro n' a m ⟨k, ik, o, hk, hn', hik, ho, rfl, rfl⟩
    have hadd : zb .add .i64 ik 1 = ik + 1 := z_add hz (by omega) (by omega)
    obtain ⟨ik1, hik1⟩ := hide (ik + 1)
    rw [← hik1] at hadd
    have hst := others_succ k j
    have hol : o.length ≤ k := by rw [ho, List.length_map]; exact others_le k j
    refine W_run ti_ok hz 400 (by cbv) ?_
    refine W_cond (by cbv) (fun h => ?_) (fun h => ?_)
    · have hlt : k < n := by
        rw [z_leq hz, hni, hik] at h
        have h := of_decide_eq_true h
        omega
      refine W_run ti_ok hz 400 (by cbv) ?_
      have hkl : k + 1 < n1 := by omega
      obtain ⟨kn, hkn⟩ := hide (k + 1)
      have hik' : ik = (kn : Int) := by rw [hkn, hik]; rfl
      have hkl' : kn < n1 := by rw [hkn]; exact hkl
      refine W_val (by cbv) (by cbv) (Val_rwAt ti_ok (by cbv) kn hik' hkl') ?_
      refine W_run ti_ok hz 400 (by cbv) ?_
      have hgk := hg kn hkl'
      by_cases hkj : kn = j
      rotate_left
      · have hne : ¬ (k + 1 = j) := by rw [← hkn]; exact hkj
        rw [decide_eq_false hkj] at hgk
        refine W_peLoad ti_ok (by cbv) (by cbv) hgk rfl rfl ?_
        refine W_run ti_ok hz 400 (by cbv) ?_
        refine W_app ti_ok (by cbv) (by cbv) (by simp) (by simp; omega) ?_
        obtain ⟨o2, ho2⟩ := hide (o ++ [inK ik])
        rw [show o ++ [[C.i IntKind.i64 ik]] = o2 from ho2.symm]
        refine W_run ti_ok hz 400 (by cbv) ?_
        rw [hadd]
        refine W_inv [0, 4, 5, 6, 9, 12] [0, 1] (n - (k + 1)) (by omega) (by cbv) (by cbv) ⟨k + 1, ik1, o2, hlt, rfl, by rw [hik1, hik]; rfl, ?_, by cbv, by cbv⟩
        rw [hst, if_neg hne, ho2, ho, List.map_append, hik]; rfl
      · have hne : k + 1 = j := by rw [← hkn]; exact hkj
        rw [decide_eq_true hkj] at hgk
        refine W_peLoad ti_ok (by cbv) (by cbv) hgk rfl rfl ?_
        refine W_run ti_ok hz 400 (by cbv) ?_
        rw [hadd]
        refine W_inv [0, 4, 5, 6, 9, 12] [0, 1] (n - (k + 1)) (by omega) (by cbv) (by cbv) ⟨k + 1, ik1, o, hlt, rfl, by rw [hik1, hik]; rfl, ?_, by cbv, by cbv⟩
        rw [hst, if_pos hne, ho, List.append_nil]
    · have hle : k = n := by
        rw [z_leq hz, hni, hik] at h
        have h := of_decide_eq_false h
        omega
      refine W_run ti_ok hz 400 (by cbv) ?_
      refine W_ret ti_ok rfl (by cbv) ?_
      rw [ho, hle]
end Go.Proofs.Ytjdimlhdkmkmbaa
namespace Go.Proofs.Ytjdimlhdkmkmbaa
set_option maxRecDepth 100000
open Go.ChangeShapes Go.WideShapes Go.ChangeAt Go.RowKit Go.Deep Go.Proofs.Ytjdimlhdkmkmbaa.Vm
set_option linter.unusedVariables false

def txItem (s : List UInt8) : ItemD := ⟨0, 1, s⟩
theorem missing_tx (s : List UInt8) : missing (txItem s) = false := by simp [missing, txItem]
set_option maxHeartbeats 8000000 in
theorem ct_textPos (n : Nat) (hn : n ≤ 40) (names : List (List UInt8)) (hw : ∀ s ∈ names, TxWf s) (s : List UInt8) (hs : TxWf s) (h0 : s ≠ []) (j : Nat) (hj : findB names s = (j : Int)) (hj40 : j ≤ 40) :
    Ct Try.prog 61 [.c (.i .i64 n), .c (.sl (names.map txK)), .c (.sl [itK (txItem s)])] (fun t => t = .tu [.c (.sl [inK ((j : Int) + 1)]), .c (.s [])]) := by
  obtain ⟨zb, zc, zs, zl, zn, zt, zp, zg, zv, zx, zm, hz⟩ := Vm.zE
  have c1 := ct_isMissing (txItem s) ⟨i64z_, i64o_, hs⟩
  rw [missing_tx] at c1
  have c2 := ct_textIndex names s hw
  rw [hj] at c2
  obtain ⟨N, hN⟩ := hide (names.map txK)
  rw [← hN] at c2 ⊢
  obtain ⟨I, hI⟩ := hide [itK (txItem s)]
  rw [← hI]
  obtain ⟨ni, hni⟩ := hide (n : Int)
  rw [← hni]
  obtain ⟨ji, hji⟩ := hide (j : Int)
  rw [← hji] at c2
  obtain ⟨j1, hj1⟩ := hide (ji + 1)
  have hln : zl I = 1 := by rw [z_len hz, hI]; rfl
  have hadd : zb .add .i64 ji 1 = j1 := by rw [hj1]; exact z_add hz (by omega) (by omega)
  rw [show (j : Int) + 1 = j1 by rw [hj1, hji]]
  refine Ct_of_W Try.func61 rfl (Nat.le_of_ble_eq_true rfl) fun w0 Z0 => ?_
  refine W_run ti_ok hz 400 (by cbv) ?_
  refine W_own 8 1 (by cbv) ?_
  refine W_keep [0, 1, 6, 7, 8, 9, 13, 14, 15] [0] 1 (by cbv) (by cbv) ?_
  refine W_run ti_ok hz 1 (by cbv) ?_
  refine W_loop (fun n' a m => (n' = 1 ∧ a = [(0, T.c (C.i IntKind.i64 ni)), (1, T.c (C.sl N)), (6, T.nil), (7, T.c (C.s [])), (8, T.sk 0 []), (9, T.nil), (13, T.c (C.sl I)), (14, T.c (C.i IntKind.i64 (zl I))), (15, T.c (C.i IntKind.i64 0))] ∧ m = [(0, Obj.tok 1 [])]) ∨
      (n' = 0 ∧ a = [(0, T.c (C.i IntKind.i64 ni)), (1, T.c (C.sl N)), (6, T.nil), (7, T.c (C.s [])), (8, T.sk 0 [[C.i IntKind.i64 j1]]), (9, T.nil), (13, T.c (C.sl I)), (14, T.c (C.i IntKind.i64 (zl I))), (15, T.c (C.i IntKind.i64 1))] ∧ m = [(0, Obj.tok 1 [[C.i IntKind.i64 j1]])])) 1 (.inl ⟨rfl, rfl, rfl⟩) ?_
  rintro n' a m (⟨rfl, rfl, rfl⟩ | ⟨rfl, rfl, rfl⟩)
  · have hLk : I[0]? = some (itK (txItem s)) := by rw [hI]; rfl
    refine W_run ti_ok hz 400 (by cbv) ?_
    refine W_bool 16 (by cbv) (show _ = true by rw [z_lss hz, hln]; rfl) ?_
    refine W_run ti_ok hz 400 (by cbv) ?_
    refine W_val (by cbv) (by cbv) (Val_elem ti_ok (by cbv) 0 rfl hLk rfl) ?_
    refine W_run ti_ok hz 400 (by cbv) ?_
    refine W_call (by cbv) (by kernel_rfl) (c1) ?_
    rintro t rfl
    refine W_run ti_ok hz 400 (by cbv) ?_
    refine W_bool 20 (by cbv) (rfl) ?_
    refine W_run ti_ok hz 400 (by cbv) ?_
    refine W_bool 26 (by cbv) (show _ = false by rw [z_seq hz]; simpa using h0) ?_
    refine W_run ti_ok hz 400 (by cbv) ?_
    refine W_call (by cbv) (by kernel_rfl) (c2) ?_
    rintro t rfl
    refine W_run ti_ok hz 400 (by cbv) ?_
    refine W_bool 32 (by cbv) (show _ = false by rw [z_lss hz]; exact decide_eq_false (by omega)) ?_
    refine W_run ti_ok hz 400 (by cbv) ?_
    rw [hadd]
    refine W_app ti_ok (by cbv) (by cbv) (by simp) (by simp) ?_
    refine W_run ti_ok hz 400 (by cbv) ?_
    have hadd : zb .add .i64 0 1 = 1 := z_add hz (by omega) (by omega)
    rw [hadd]
    exact W_inv [0, 1, 6, 7, 8, 9, 13, 14, 15] [0] 0 (by omega) (by cbv) (by cbv) (.inr ⟨rfl, by cbv, by cbv⟩)
  · refine W_run ti_ok hz 400 (by cbv) ?_
    refine W_bool 16 (by cbv) (show _ = false by rw [z_lss hz, hln]; rfl) ?_
    refine W_run ti_ok hz 400 (by cbv) ?_
    refine W_ret ti_ok rfl (by cbv) ?_
    rfl
/-- as many names as elements, or none -/
def NmOk (N : List (List C)) (n : Nat) : Prop := N = [] ∨ (N.length = n ∧ 0 < n)
set_option maxHeartbeats 8000000 in
theorem ct_ResNum (n : Nat) (hn : n ≤ 40) (N : List (List C)) (hnm : NmOk N n) (d : VecD) (hd : VecWf d) (hz : szVector d ≤ 1000000000000) (hv : vecOk d = true) (hk : d.kind = 2) (R : List (List C))
    (hc : Ct Try.prog 60 [.c (.i .i64 n), .c (.sl (d.items.map itK))] (fun t => t = .tu [.c (.sl R), .c (.s [])])) :
    Ct Try.prog 21 [.c (.i .i64 n), .c (.sl N), vT d] (fun t => t = .tu [.c (.sl R), .c (.s [])]) := by
  have hz' := hz
  obtain ⟨zb, zc, zs, zl, zn, zt, zp, zg, zv, zx, zm, hz⟩ := Vm.zE
  have c1 := ct_IsVector d hd hz'
  rw [hv] at c1
  obtain ⟨kd, I, P, M, Q, L, cd, en, hT, hk', hI, hP, hM, hQ, hL, hcd, hen⟩ := vT_hide d
  rw [hT] at c1 ⊢
  rw [hk] at hk'
  subst hk'
  rw [← hI] at hc
  obtain ⟨ni, hni⟩ := hide (n : Int)
  rw [← hni] at hc ⊢
  refine Ct_of_W Try.func21 rfl (Nat.le_of_ble_eq_true rfl) fun w0 Z0 => ?_
  refine W_run ti_ok hz 400 (by cbv) ?_
  refine W_call (by cbv) (by kernel_rfl) (c1) ?_
  rintro t rfl
  refine W_run ti_ok hz 400 (by cbv) ?_
  refine W_bool 12 (by cbv) (show _ = false by rw [z_not hz]; rfl) ?_
  refine W_run ti_ok hz 400 (by cbv) ?_
  refine W_bool 15 (by cbv) (show _ = false by rw [z_lss hz]; exact decide_eq_false (by omega)) ?_
  refine W_run ti_ok hz 400 (by cbv) ?_
  refine W_bool 19 (by cbv) (show _ = false by rw [z_gtr hz]; exact decide_eq_false (by omega)) ?_
  refine W_run ti_ok hz 400 (by cbv) ?_
  rcases hnm with hN0 | hN0
  case' inl =>
    refine W_bool 23 (by cbv) (show _ = false by rw [z_gtr hz, z_len hz, hN0]; rfl) ?_
    refine W_run ti_ok hz 400 (by cbv) ?_
  case' inr =>
    refine W_bool 23 (by cbv) (show _ = true by rw [z_gtr hz, z_len hz]; exact decide_eq_true (by omega)) ?_
    refine W_run ti_ok hz 400 (by cbv) ?_
    refine W_bool 29 (by cbv) (show _ = false by rw [z_neq hz, z_len hz, hN0.1, hni]; simp) ?_
    refine W_run ti_ok hz 400 (by cbv) ?_
  all_goals
    refine W_bool 32 (by cbv) (show _ = false by rw [z_eql hz]; rfl) ?_
    refine W_run ti_ok hz 400 (by cbv) ?_
    refine W_bool 34 (by cbv) (show _ = true by rw [z_eql hz]; rfl) ?_
    refine W_run ti_ok hz 400 (by cbv) ?_
    refine W_call (by cbv) (by kernel_rfl) (hc) ?_
    rintro t rfl
    refine W_run ti_ok hz 400 (by cbv) ?_
    refine W_ret ti_ok rfl (by cbv) ?_
    rfl
set_option maxHeartbeats 8000000 in
theorem ct_ResTxt (n : Nat) (hn : n ≤ 40) (N : List (List C)) (hnm : NmOk N n) (d : VecD) (hd : VecWf d) (hz : szVector d ≤ 1000000000000) (hv : vecOk d = true) (hk : d.kind = 3) (R : List (List C))
    (hc : Ct Try.prog 61 [.c (.i .i64 n), .c (.sl N), .c (.sl (d.items.map itK))] (fun t => t = .tu [.c (.sl R), .c (.s [])])) :
    Ct Try.prog 21 [.c (.i .i64 n), .c (.sl N), vT d] (fun t => t = .tu [.c (.sl R), .c (.s [])]) := by
  have hz' := hz
  obtain ⟨zb, zc, zs, zl, zn, zt, zp, zg, zv, zx, zm, hz⟩ := Vm.zE
  have c1 := ct_IsVector d hd hz'
  rw [hv] at c1
  obtain ⟨kd, I, P, M, Q, L, cd, en, hT, hk', hI, hP, hM, hQ, hL, hcd, hen⟩ := vT_hide d
  rw [hT] at c1 ⊢
  rw [hk] at hk'
  subst hk'
  rw [← hI] at hc
  obtain ⟨ni, hni⟩ := hide (n : Int)
  rw [← hni] at hc ⊢
  refine Ct_of_W Try.func21 rfl (Nat.le_of_ble_eq_true rfl) fun w0 Z0 => ?_
  refine W_run ti_ok hz 400 (by cbv) ?_
  refine W_call (by cbv) (by kernel_rfl) (c1) ?_
  rintro t rfl
  refine W_run ti_ok hz 400 (by cbv) ?_
  refine W_bool 12 (by cbv) (show _ = false by rw [z_not hz]; rfl) ?_
  refine W_run ti_ok hz 400 (by cbv) ?_
  refine W_bool 15 (by cbv) (show _ = false by rw [z_lss hz]; exact decide_eq_false (by omega)) ?_
  refine W_run ti_ok hz 400 (by cbv) ?_
  refine W_bool 19 (by cbv) (show _ = false by rw [z_gtr hz]; exact decide_eq_false (by omega)) ?_
  refine W_run ti_ok hz 400 (by cbv) ?_
  rcases hnm with hN0 | hN0
  case' inl =>
    refine W_bool 23 (by cbv) (show _ = false by rw [z_gtr hz, z_len hz, hN0]; rfl) ?_
    refine W_run ti_ok hz 400 (by cbv) ?_
  case' inr =>
    refine W_bool 23 (by cbv) (show _ = true by rw [z_gtr hz, z_len hz]; exact decide_eq_true (by omega)) ?_
    refine W_run ti_ok hz 400 (by cbv) ?_
    refine W_bool 29 (by cbv) (show _ = false by rw [z_neq hz, z_len hz, hN0.1, hni]; simp) ?_
    refine W_run ti_ok hz 400 (by cbv) ?_
  all_goals
    refine W_bool 32 (by cbv) (show _ = false by rw [z_eql hz]; rfl) ?_
    refine W_run ti_ok hz 400 (by cbv) ?_
    refine W_bool 34 (by cbv) (show _ = false by rw [z_eql hz]; rfl) ?_
    refine W_run ti_ok hz 400 (by cbv) ?_
    refine W_bool 42 (by cbv) (show _ = true by rw [z_eql hz]; rfl) ?_
    refine W_run ti_ok hz 400 (by cbv) ?_
    refine W_call (by cbv) (by kernel_rfl) (hc) ?_
    rintro t rfl
    refine W_run ti_ok hz 400 (by cbv) ?_
    refine W_ret ti_ok rfl (by cbv) ?_
    rfl
end Go.Proofs.Ytjdimlhdkmkmbaa
