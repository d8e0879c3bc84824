/-
  Merged texts: VmPick, VmPickS.
-/
import Derived.Test.YtjdimlhdkmkmbaaKVq
import Derived.Test.YtjdimlhdkmkmbaaKOrd
namespace Go.Proofs.Ytjdimlhdkmkmbaa
set_option maxRecDepth 100000
set_option maxRecDepth 100000
open Go.ChangeShapes Go.WideShapes Go.ChangeAt Go.RowKit Go.Deep Go.Proofs.Ytjdimlhdkmkmbaa.Vm
set_option linter.unusedVariables false

set_option maxHeartbeats 16000000 in
theorem ct_pick (d : VecD) (hd : VecWf d) (hz : szVector d ≤ 900000000000) (h5 : d.kind ≠ 5) (h4 : d.kind ≠ 4) (is : List Nat) (hlen : lenV d ≤ 40) (hi : ∀ i ∈ is, i < lenV d) (hil : is.length ≤ 1000)
    (hP4 : d.parts = []) (hnm : d.names = [] ∨ d.names.length = lenV d) (hcl : d.cls.length ≤ 1000 ∧ d.levels.length ≤ 1000) :
    Ct Try.prog 70 [vT d, .c (.sl (is.map inN))] (fun t => t = vT (tidyD (subD d is))) := by
  have hsz := hz
  obtain ⟨zb, zc, zs, zl, zn, zt, zp, zg, zv, zx, zm, hz⟩ := Vm.zE
  have hl5 : lenV d = d.items.length := by unfold lenV; rw [if_neg h5, hP4]; simp
  have c1 := ct_withLevels d.kind d hd ⟨by omega, by omega⟩
  have c3 := ct_tidyNames (subD d is) (subD_wf hd is)
  obtain ⟨kd, I, P, N, Q, L, cd, en, hT, hk, hI, hP, hN, hQ, hL, hcd, hen⟩ := vT_hide d
  obtain ⟨Q', hQ'⟩ := hide ((clsOf d).map txK)
  have e1 : vKd d.kind d = .ag [.c (.i .i64 kd), .nil, .nil, .nil, .c (.sl Q'), .c (.sl L), .c (.i .i64 0), .c (.i .i64 0)] := by unfold vKd; rw [← hQ', ← hL, hk]
  obtain ⟨oi, hoi⟩ := hide ((subAt d.items is).map itK)
  obtain ⟨on, hon⟩ := hide ((subAt d.names is).map txK)
  have e2 : vT (subD d is) = .ag [.c (.i .i64 kd), .c (.sl oi), .c (.sl []), .c (.sl on), .c (.sl Q'), .c (.sl L), .c (.i .i64 0), .c (.i .i64 0)] := by
    have e3 : vT (subD d is) = .ag [.c (.i .i64 kd), .c (.sl oi), .c (.sl ((subAt d.parts is).map vK)), .c (.sl on), .c (.sl Q'), .c (.sl L), .c (.i .i64 0), .c (.i .i64 0)] := by rw [hoi, hon, hQ', hL, hk]; rfl
    rw [e3, hP4, subAt_nil]; rfl
  obtain ⟨fk, fI, fP, fN, fQ, fL, fcd, fen, hF, -⟩ := vT_hide (tidyD (subD d is))
  rw [e2, hF] at c3
  rw [e1, hT, ← hk] at c1
  rw [hT]
  rw [hF]
  clear e1 e2 hF
  obtain ⟨S, hS⟩ := hide (is.map inN)
  rw [← hS]
  have hls : zl S = (is.length : Int) := by rw [z_len hz, hS]; simp
  refine Ct_of_W Try.func70 rfl (Nat.le_of_ble_eq_true rfl) fun w0 Z0 => ?_
  refine W_run ti_ok hz 400 (by cbv) ?_
  refine W_call (by cbv) (by kernel_rfl) (c1) ?_
  rintro t rfl
  refine W_run ti_ok hz 400 (by cbv) ?_
  refine W_ownB 2 1 3 (by cbv) (by cbv) ?_
  refine W_ownB 2 2 8 (by cbv) (by cbv) ?_
  refine W_ownB 2 3 1 (by cbv) (by cbv) ?_
  refine W_keep [2, 4, 5, 13, 14, 15] [0, 1, 2, 3, 4, 5] 6 (by cbv) (by cbv) ?_
  refine W_run ti_ok hz 1 (by cbv) ?_
  refine W_loop (fun n' a m => ∃ (k : Nat) (ik : Int) (o1 o3 : List (List C)), k ≤ is.length ∧ n' = is.length - k ∧ ik = (k : Int) ∧ o1 = (subAt d.items (is.take k)).map itK ∧ o3 = (subAt d.names (is.take k)).map txK ∧
      a = [(2, T.pt 0 0), (4, T.pt 1 0), (5, T.pt 2 0), (13, T.c (C.sl S)), (14, T.c (C.i IntKind.i64 (zl S))), (15, T.c (C.i IntKind.i64 ik))] ∧
      m = [(0, Obj.box [T.c (C.i IntKind.i64 kd), T.c (C.sl I), T.c (C.sl P), T.c (C.sl N), T.c (C.sl Q), T.c (C.sl L), T.c (C.i IntKind.i64 cd), T.c (C.i IntKind.i64 en)]),
          (1, Obj.box [T.c (C.i IntKind.i64 0), T.nil, T.nil, T.nil, T.nil, T.nil, T.c (C.i IntKind.i64 0), T.c (C.i IntKind.i64 0)]),
          (2, Obj.box [T.c (C.i IntKind.i64 kd), T.sk 3 o1, T.sk 4 [], T.sk 5 o3, T.c (C.sl Q'), T.c (C.sl L), T.c (C.i IntKind.i64 0), T.c (C.i IntKind.i64 0)]),
          (3, Obj.tok 3 o1), (4, Obj.tok 8 []), (5, Obj.tok 1 o3)]) is.length ⟨0, 0, [], [], Nat.zero_le _, rfl, rfl, rfl, rfl, rfl, rfl⟩ ?_
  rintro n' a m ⟨k, ik, o1, o3, hk', hn', hik, ho1, ho3, rfl, rfl⟩
  have hadd : zb .add .i64 ik 1 = ik + 1 := z_add hz (by omega) (by omega)
  obtain ⟨ik1, hik1⟩ := hide (ik + 1)
  rw [← hik1] at hadd
  have hol1 : o1.length ≤ is.length := by rw [ho1, List.length_map]; exact Nat.le_trans (subAt_length _ _) (List.length_take_le' _ _)
  have hol3 : o3.length ≤ is.length := by rw [ho3, List.length_map]; exact Nat.le_trans (subAt_length _ _) (List.length_take_le' _ _)
  refine W_run ti_ok hz 400 (by cbv) ?_
  refine W_cond (by cbv) (fun h => ?_) (fun h => ?_)
  · have hlt : k < is.length := by
      rw [z_lss hz, hls, hik] at h
      simpa using h
    obtain ⟨i, hp⟩ : ∃ i, is[k]? = some i := ⟨_, List.getElem?_eq_getElem hlt⟩
    have hil' := hi i (List.mem_of_getElem? hp)
    obtain ⟨pv, hpv⟩ := hide (i : Int)
    have hLk : S[k]? = some [C.i .i64 pv] := by rw [hS, List.getElem?_map, hp, hpv]; rfl
    obtain ⟨x, hx⟩ : ∃ x, d.items[i]? = some x := ⟨_, List.getElem?_eq_getElem (by omega)⟩
    obtain ⟨xn, xd, xs⟩ := x
    have hIk : I[i]? = some [.i .i64 xn, .i .i64 xd, .s xs] := by rw [hI, List.getElem?_map, hx]; rfl
    refine W_run ti_ok hz 400 (by cbv) ?_
    refine W_val (by cbv) (by cbv) (Val_elem ti_ok (by cbv) k hik hLk rfl) ?_
    refine W_run ti_ok hz 400 (by cbv) ?_
    refine W_bool 21 (by cbv) (show _ = false by rw [z_eql hz, hk]; simpa using h4) ?_
    refine W_run ti_ok hz 400 (by cbv) ?_
    refine W_draw mixedB [(2, 0), (1, 1), (2, 2), (1, 3), (2, 4), (2, 5), (1, 6), (0, 7), (0, 8), (2, 9), (0, 10)] [10] (by kernel_rfl) ?_
    refine D_run ti_ok hz 400 (by cbv) ?_
    refine D_val (by cbv) (by cbv) (by cbv) (Val_elem ti_ok (by cbv) i hpv hIk rfl) ?_
    refine D_run ti_ok hz 400 (by cbv) ?_
    refine D_app ti_ok (by cbv) (by cbv) (by cbv) (by simp) (by simp; omega) ?_
    obtain ⟨o4, ho4⟩ := hide (o1 ++ [[.i .i64 xn, .i .i64 xd, .s xs]])
    rw [← ho4]
    refine D_run ti_ok hz 400 (by cbv) ?_
    refine D_last ti_ok hz (by cbv) (by cbv) (by cbv) (by cbv) (by cbv) ?_
    refine W_run ti_ok hz 400 (by cbv) ?_
    rcases hnm with hN0 | hN0
    · refine W_bool 46 (by cbv) (show _ = false by rw [z_gtr hz, z_len hz, hN, hN0]; rfl) ?_
      refine W_run ti_ok hz 400 (by cbv) ?_
      rw [hadd]
      refine W_inv [2, 4, 5, 13, 14, 15] [0, 1, 2, 3, 4, 5] (is.length - (k + 1)) (by omega) (by cbv) (by cbv) ⟨k + 1, ik1, o4, o3, hlt, rfl, by rw [hik1, hik]; rfl, by rw [ho4, ho1, subAt_succ hp hx, List.map_append]; rfl, by rw [ho3, hN0, subAt_nil, subAt_nil], by cbv, by cbv⟩
    · obtain ⟨y, hy⟩ : ∃ y, d.names[i]? = some y := ⟨_, List.getElem?_eq_getElem (by omega)⟩
      have hNk : N[i]? = some [C.s y] := by rw [hN, List.getElem?_map, hy]; rfl
      refine W_bool 46 (by cbv) (show _ = true by rw [z_gtr hz, z_len hz, hN, List.length_map]; exact decide_eq_true (by omega)) ?_
      refine W_run ti_ok hz 400 (by cbv) ?_
      refine W_draw mixedB [(2, 0), (1, 1), (2, 2), (1, 3), (2, 4), (2, 5), (1, 6), (0, 7), (0, 8), (2, 9), (0, 10)] [10] (by kernel_rfl) ?_
      refine D_run ti_ok hz 400 (by cbv) ?_
      refine D_val (by cbv) (by cbv) (by cbv) (Val_elem ti_ok (by cbv) i hpv hNk rfl) ?_
      refine D_run ti_ok hz 400 (by cbv) ?_
      refine D_app ti_ok (by cbv) (by cbv) (by cbv) (by simp) (by simp; omega) ?_
      obtain ⟨o6, ho6⟩ := hide (o3 ++ [[C.s y]])
      rw [← ho6]
      refine D_run ti_ok hz 400 (by cbv) ?_
      refine D_last ti_ok hz (by cbv) (by cbv) (by cbv) (by cbv) (by cbv) ?_
      refine W_run ti_ok hz 400 (by cbv) ?_
      rw [hadd]
      refine W_inv [2, 4, 5, 13, 14, 15] [0, 1, 2, 3, 4, 5] (is.length - (k + 1)) (by omega) (by cbv) (by cbv) ⟨k + 1, ik1, o4, o6, hlt, rfl, by rw [hik1, hik]; rfl, by rw [ho4, ho1, subAt_succ hp hx, List.map_append]; rfl, by rw [ho6, ho3, subAt_succ hp hy, List.map_append]; rfl, by cbv, by cbv⟩
  · have hle : k = is.length := by
      rw [z_lss hz, hls, hik] at h
      have h := of_decide_eq_false h
      omega
    rw [hle, List.take_length] at ho1 ho3
    rw [ho1, ho3, ← hoi, ← hon]
    refine W_run ti_ok hz 400 (by cbv) ?_
    refine W_call (by cbv) (by kernel_rfl) (c3) ?_
    rintro t rfl
    refine W_run ti_ok hz 400 (by cbv) ?_
    refine W_ret ti_ok rfl (by cbv) ?_
    rfl
theorem allE_iff (l : List (List UInt8)) : allE l = true ↔ ∀ s ∈ l, s = [] := by
  unfold allE
  rw [decide_eq_true_eq]
  constructor
  · intro h s hs
    obtain ⟨j, hj, rfl⟩ := List.getElem_of_mem hs
    exact h j hj
  · intro h j hj
    exact h _ (List.getElem_mem hj)
theorem allE_take {l : List (List UInt8)} {k : Nat} {x : List UInt8} (hk : l[k]? = some x) (h : allE (l.take k) = true) (hx : x = []) : allE (l.take (k + 1)) = true := by
  rw [allE_iff] at h ⊢
  intro s hs
  rw [List.take_add_one, hk] at hs
  rcases List.mem_append.1 hs with hs | hs
  · exact h s hs
  · rw [show s = x by simpa using hs, hx]
theorem allE_not {l : List (List UInt8)} {k : Nat} {x : List UInt8} (hk : l[k]? = some x) (h : x ≠ []) : allE l = false := by
  cases e : allE l
  · rfl
  · exact (h ((allE_iff l).1 e x (List.mem_of_getElem? hk))).elim
set_option maxHeartbeats 8000000 in
theorem ct_l4Clean (d : VecD) (hd : VecWf d) (hn : d.names.length ≤ 1000) : Ct Try.prog 48 [vT d] (fun t => t = vT (tidyD d)) := by
  obtain ⟨zb, zc, zs, zl, zn, zt, zp, zg, zv, zx, zm, hz⟩ := Vm.zE
  obtain ⟨kd, I, P, N, Q, L, cd, en, hT, hk, hI, hP, hN, hQ, hL, hcd, hen⟩ := vT_hide d
  have hT2 : allE d.names = true → vT (tidyD d) = .ag [.c (.i .i64 kd), .c (.sl I), .c (.sl P), .c (.sl []), .c (.sl Q), .c (.sl L), .c (.i .i64 cd), .c (.i .i64 en)] := fun h => by
    unfold tidyD
    rw [if_pos h, hk, hI, hP, hQ, hL, hcd, hen]; rfl
  have hT3 : allE d.names = false → vT (tidyD d) = .ag [.c (.i .i64 kd), .c (.sl I), .c (.sl P), .c (.sl N), .c (.sl Q), .c (.sl L), .c (.i .i64 cd), .c (.i .i64 en)] := fun h => by unfold tidyD; rw [h, ← hT]; rfl
  obtain ⟨F, hF⟩ := hide (vT (tidyD d))
  rw [← hF] at hT2 hT3 ⊢
  rw [hT]
  have hln : zl N = (d.names.length : Int) := by rw [z_len hz, hN]; simp
  refine Ct_of_W Try.func48 rfl (Nat.le_of_ble_eq_true rfl) fun w0 Z0 => ?_
  refine W_run ti_ok hz 400 (by cbv) ?_
  refine W_keep [1, 2, 3] [0, 1] 2 (by cbv) (by cbv) ?_
  refine W_run ti_ok hz 1 (by cbv) ?_
  refine W_loop (fun n' a m => ∃ (k : Nat) (ik : Int), k ≤ d.names.length ∧ n' = d.names.length - k ∧ ik = (k : Int) ∧ allE (d.names.take k) = true ∧
      a = [(1, T.pt 0 0), (2, T.pt 1 0), (3, T.c (C.i IntKind.i64 ik))] ∧
      m = [(0, Obj.box [T.c (C.i IntKind.i64 kd), T.c (C.sl I), T.c (C.sl P), T.c (C.sl N), T.c (C.sl Q), T.c (C.sl L), T.c (C.i IntKind.i64 cd), T.c (C.i IntKind.i64 en)]),
          (1, Obj.box [T.c (C.i IntKind.i64 0), T.nil, T.nil, T.nil, T.nil, T.nil, T.c (C.i IntKind.i64 0), T.c (C.i IntKind.i64 0)])]) d.names.length ⟨0, 0, Nat.zero_le _, rfl, rfl, rfl, rfl, rfl⟩ ?_
  rintro n' a m ⟨k, ik, hk', hn', hik, hall, rfl, rfl⟩
  have hadd : zb .add .i64 ik 1 = ik + 1 := z_add hz (by omega) (by omega)
  obtain ⟨ik1, hik1⟩ := hide (ik + 1)
  rw [← hik1] at hadd
  refine W_run ti_ok hz 400 (by cbv) ?_
  refine W_cond (by cbv) (fun h => ?_) (fun h => ?_)
  · have hlt : k < d.names.length := by
      rw [z_lss hz, hln, hik] at h
      simpa using h
    obtain ⟨y, hy⟩ : ∃ y, d.names[k]? = some y := ⟨_, List.getElem?_eq_getElem hlt⟩
    have hNk : N[k]? = some [C.s y] := by rw [hN, List.getElem?_map, hy]; rfl
    refine W_run ti_ok hz 400 (by cbv) ?_
    refine W_val (by cbv) (by cbv) (Val_elem ti_ok (by cbv) k hik hNk rfl) ?_
    refine W_run ti_ok hz 400 (by cbv) ?_
    refine W_cond (by cbv) (fun h1 => ?_) (fun h1 => ?_)
    · rw [(z_neqs hz y).1] at h1
      have hy0 : y ≠ [] := by rintro rfl; cases h1
      refine W_run ti_ok hz 400 (by cbv) ?_
      refine W_ret ti_ok rfl (by cbv) ?_
      rw [hT3 (allE_not hy hy0)]
    · rw [(z_neqs hz y).1] at h1
      have hy0 : y = [] := by simpa using h1
      refine W_run ti_ok hz 400 (by cbv) ?_
      rw [hadd]
      refine W_inv [1, 2, 3] [0, 1] (d.names.length - (k + 1)) (by omega) (by cbv) (by cbv) ⟨k + 1, ik1, hlt, rfl, by rw [hik1, hik]; rfl, allE_take hy hall hy0, by cbv, by cbv⟩
  · have hle : k = d.names.length := by
      rw [z_lss hz, hln, hik] at h
      have h := of_decide_eq_false h
      omega
    rw [hle, List.take_length] at hall
    refine W_run ti_ok hz 400 (by cbv) ?_
    refine W_ret ti_ok rfl (by cbv) ?_
    rw [hT2 hall]
end Go.Proofs.Ytjdimlhdkmkmbaa
namespace Go.Proofs.Ytjdimlhdkmkmbaa
set_option maxRecDepth 100000
open Go.ChangeShapes Go.WideShapes Go.ChangeAt Go.RowKit Go.Deep Go.Proofs.Ytjdimlhdkmkmbaa.Vm
set_option linter.unusedVariables false

theorem ct_l1In (a x y : Int) : Ct Try.prog 54 [.c (.i .i64 a), .c (.i .i64 x), .c (.i .i64 y)] (fun t => t = .q (decide (x ≤ a) && decide (a ≤ y))) :=
  Ct_scalar (fun Z => .q _) fun w Z vs hK hr => by
    obtain ⟨v1, vs1, rfl, h1, h2⟩ := hr.uncons
    obtain ⟨v2, v3, rfl, h3, h4⟩ := two_args h2
    rw [h1.cI.intI, h3.cI.intI, h4.cI.intI]
    exact (spec_l1In a x y w).mono fun e w' ⟨he, hw⟩ => ⟨he, by rw [← hw]; exact Below.refl _ _⟩
theorem tx_one (l : List (List UInt8)) : ∀ cs ∈ l.map txK, cs.length = 1 := fun cs h => by
  obtain ⟨s, _, rfl⟩ := List.mem_map.1 h
  rfl
set_option maxHeartbeats 16000000 in
theorem ct_l4Pick (d : VecD) (hd : VecWf d) (hz : szVector d ≤ 900000000000) (h5 : d.kind ≠ 5) (h4 : d.kind ≠ 4) (is : List Nat) (hlen : lenV d ≤ 40) (hi : ∀ i ∈ is, i < lenV d) (hil : is.length ≤ 1000)
    (hP4 : d.parts = []) (hnm : d.names = [] ∨ d.names.length = lenV d) (hcl : d.cls.length ≤ 1000 ∧ d.levels.length ≤ 1000) :
    Ct Try.prog 71 [vT d, .c (.sl ((plc is).map inK))] (fun t => t = vT (tidyD (subD d is))) := by
  have hsz := hz
  obtain ⟨zb, zc, zs, zl, zn, zt, zp, zg, zv, zx, zm, hz⟩ := Vm.zE
  have hl5 : lenV d = d.items.length := by unfold lenV; rw [if_neg h5, hP4]; simp
  have c2 := ct_l4Len d hd (by rw [hP4]; simp; omega)
  have c3 := ct_l4Clean (subD d is) (subD_wf hd is) (Nat.le_trans (subAt_length _ _) hil)
  obtain ⟨kd, I, P, N, Q, L, cd, en, hT, hk, hI, hP, hN, hQ, hL, hcd, hen⟩ := vT_hide d
  obtain ⟨Q', hQ'⟩ := hide ((clsOf d).map txK)
  obtain ⟨oi, hoi⟩ := hide ((subAt d.items is).map itK)
  obtain ⟨on, hon⟩ := hide ((subAt d.names is).map txK)
  have e2 : vT (subD d is) = .ag [.c (.i .i64 kd), .c (.sl oi), .c (.sl []), .c (.sl on), .c (.sl Q'), .c (.sl L), .c (.i .i64 0), .c (.i .i64 0)] := by
    have e3 : vT (subD d is) = .ag [.c (.i .i64 kd), .c (.sl oi), .c (.sl ((subAt d.parts is).map vK)), .c (.sl on), .c (.sl Q'), .c (.sl L), .c (.i .i64 0), .c (.i .i64 0)] := by rw [hoi, hon, hQ', hL, hk]; rfl
    rw [e3, hP4, subAt_nil]; rfl
  obtain ⟨fk, fI, fP, fN, fQ, fL, fcd, fen, hF, -⟩ := vT_hide (tidyD (subD d is))
  rw [e2, hF] at c3
  rw [hT] at c2 ⊢
  rw [hF]
  clear e2 hF
  obtain ⟨S, hS⟩ := hide ((plc is).map inK)
  rw [← hS]
  have hls : zl S = (is.length : Int) := by rw [z_len hz, hS]; simp [plc]
  obtain ⟨ll, hll⟩ := hide (lenV d : Int)
  rw [← hll] at c2
  have hsubl : zb .sub .i64 ll 1 = ll - 1 := z_sub hz (by omega) (by omega)
  obtain ⟨l1, hl1⟩ := hide (ll - 1)
  rw [← hl1] at hsubl
  have hQ1 : ∀ cs ∈ Q, cs.length = 1 := fun cs h => by rw [hQ] at h; exact tx_one _ cs h
  have hL1 : ∀ cs ∈ L, cs.length = 1 := fun cs h => by rw [hL] at h; exact tx_one _ cs h
  have hQl : Q.length ≤ 1000 := by rw [hQ, List.length_map]; exact hcl.1
  have hLl : L.length ≤ 1000 := by rw [hL, List.length_map]; exact hcl.2
  refine Ct_of_W Try.func71 rfl (Nat.le_of_ble_eq_true rfl) fun w0 Z0 => ?_
  refine W_run ti_ok hz 400 (by cbv) ?_
  refine W_cond (by cbv) (fun h => ?pos) (fun h => ?neg)
  case' pos =>
    have hlv : d.levels ≠ [] := by
      rintro h0
      rw [z_gtr hz, z_len hz, hL, h0] at h
      cases h
    have hQQ : Q' = Q := by rw [hQ', hQ]; unfold clsOf; rw [if_neg hlv]
    clear h
    refine W_run ti_ok hz 400 (by cbv) ?_
    refine W_app ti_ok (by cbv) (by cbv) hQ1 (by simp; omega) ?_
    rw [List.nil_append]
    refine W_run ti_ok hz 400 (by cbv) ?_
    refine W_app ti_ok (by cbv) (by cbv) hL1 (by simp; omega) ?_
    rw [List.nil_append]
    refine W_run ti_ok hz 400 (by cbv) ?_
    refine W_keep [1, 2, 4, 5, 6] [0, 1, 2, 3, 4] 5 (by cbv) (by cbv) ?_
    refine W_run ti_ok hz 1 (by cbv) ?_
    rw [show (T.sk 3 Q : T) = T.sk 3 Q' by rw [hQQ], show ((3, Vm.Obj.tok 1 Q) : Nat × Vm.Obj) = (3, Vm.Obj.tok 1 Q') by rw [hQQ]]
  case' neg =>
    have hlv : d.levels = [] := by
      rw [z_gtr hz, z_len hz, hL] at h
      have h := of_decide_eq_false h
      simpa using h
    have hQQ : Q' = [] := by rw [hQ']; unfold clsOf; rw [if_pos hlv]; rfl
    have hLL : L = [] := by rw [hL, hlv]; rfl
    clear h
    refine W_run ti_ok hz 400 (by cbv) ?_
    refine W_ownB 2 4 1 (by cbv) (by cbv) ?_
    refine W_ownB 2 5 1 (by cbv) (by cbv) ?_
    refine W_keep [1, 2, 4, 5, 6] [0, 1, 2, 3, 4] 5 (by cbv) (by cbv) ?_
    refine W_run ti_ok hz 1 (by cbv) ?_
    rw [show (T.sk 3 [] : T) = T.sk 3 Q' by rw [hQQ], show (T.sk 4 [] : T) = T.sk 4 L by rw [hLL], show ((3, Vm.Obj.tok 1 []) : Nat × Vm.Obj) = (3, Vm.Obj.tok 1 Q') by rw [hQQ], show ((4, Vm.Obj.tok 1 []) : Nat × Vm.Obj) = (4, Vm.Obj.tok 1 L) by rw [hLL]]
  all_goals
    refine W_ownB 2 1 3 (by cbv) (by cbv) ?_
    refine W_ownB 2 2 8 (by cbv) (by cbv) ?_
    refine W_ownB 2 3 1 (by cbv) (by cbv) ?_
    refine W_keep [1, 2, 4, 5, 6] [0, 1, 2, 3, 4, 5, 6, 7] 8 (by cbv) (by cbv) ?_
    refine W_run ti_ok hz 1 (by cbv) ?_
    refine W_loop (fun n' a m => ∃ (k : Nat) (ik : Int) (o1 o3 : List (List C)), k ≤ is.length ∧ n' = is.length - k ∧ ik = (k : Int) ∧ o1 = (subAt d.items (is.take k)).map itK ∧ o3 = (subAt d.names (is.take k)).map txK ∧
      a = [(1, T.c (C.sl S)), (2, T.pt 0 0), (4, T.pt 1 0), (5, T.pt 2 0), (6, T.c (C.i IntKind.i64 ik))] ∧
      m = [(0, Obj.box [T.c (C.i IntKind.i64 kd), T.c (C.sl I), T.c (C.sl P), T.c (C.sl N), T.c (C.sl Q), T.c (C.sl L), T.c (C.i IntKind.i64 cd), T.c (C.i IntKind.i64 en)]),
          (1, Obj.box [T.c (C.i IntKind.i64 0), T.nil, T.nil, T.nil, T.nil, T.nil, T.c (C.i IntKind.i64 0), T.c (C.i IntKind.i64 0)]),
          (2, Obj.box [T.c (C.i IntKind.i64 kd), T.sk 5 o1, T.sk 6 [], T.sk 7 o3, T.sk 3 Q', T.sk 4 L, T.c (C.i IntKind.i64 0), T.c (C.i IntKind.i64 0)]),
          (3, Obj.tok 1 Q'), (4, Obj.tok 1 L), (5, Obj.tok 3 o1), (6, Obj.tok 8 []), (7, Obj.tok 1 o3)]) is.length ⟨0, 0, [], [], Nat.zero_le _, rfl, rfl, rfl, rfl, rfl, rfl⟩ ?_
    rintro n' a m ⟨k, ik, o1, o3, hk', hn', hik, ho1, ho3, rfl, rfl⟩
    have hadd : zb .add .i64 ik 1 = ik + 1 := z_add hz (by omega) (by omega)
    obtain ⟨ik1, hik1⟩ := hide (ik + 1)
    rw [← hik1] at hadd
    have hol1 : o1.length ≤ is.length := by rw [ho1, List.length_map]; exact Nat.le_trans (subAt_length _ _) (List.length_take_le' _ _)
    have hol3 : o3.length ≤ is.length := by rw [ho3, List.length_map]; exact Nat.le_trans (subAt_length _ _) (List.length_take_le' _ _)
    refine W_run ti_ok hz 400 (by cbv) ?_
    refine W_cond (by cbv) (fun h => ?_) (fun h => ?_)
    · have hlt : k < is.length := by
        rw [z_lss hz, hls, hik] at h
        simpa using h
      obtain ⟨i, hp⟩ : ∃ i, is[k]? = some i := ⟨_, List.getElem?_eq_getElem hlt⟩
      have hil' := hi i (List.mem_of_getElem? hp)
      obtain ⟨pv, hpv⟩ := hide ((i : Int) + 1)
      have hLk : S[k]? = some [C.i .i64 pv] := by rw [hS, List.getElem?_map, plc, List.getElem?_map, hp, hpv]; rfl
      have hsub : zb .sub .i64 pv 1 = (i : Int) := by rw [z_sub hz (by omega) (by omega)]; omega
      obtain ⟨iv, hiv⟩ := hide (i : Int)
      rw [← hiv] at hsub
      obtain ⟨x, hx⟩ : ∃ x, d.items[i]? = some x := ⟨_, List.getElem?_eq_getElem (by omega)⟩
      obtain ⟨xn, xd, xs⟩ := x
      have hIk : I[i]? = some [.i .i64 xn, .i .i64 xd, .s xs] := by rw [hI, List.getElem?_map, hx]; rfl
      have c5 := ct_l1In iv 0 l1
      rw [show (decide (0 ≤ iv) && decide (iv ≤ l1)) = true by rw [decide_eq_true (by omega), decide_eq_true (by omega)]; rfl] at c5
      refine W_run ti_ok hz 400 (by cbv) ?_
      refine W_val (by cbv) (by cbv) (Val_elem ti_ok (by cbv) k hik hLk rfl) ?_
      refine W_run ti_ok hz 400 (by cbv) ?_
      rw [hsub]
      refine W_call (by cbv) (by kernel_rfl) (c2) ?_
      rintro t rfl
      refine W_run ti_ok hz 400 (by cbv) ?_
      rw [hsubl]
      refine W_call (by cbv) (by kernel_rfl) (c5) ?_
      rintro t rfl
      refine W_bool 41 (by cbv) (rfl) ?_
      refine W_run ti_ok hz 400 (by cbv) ?_
      refine W_bool 45 (by cbv) (show _ = false by rw [z_eql hz, hk]; simpa using h4) ?_
      refine W_run ti_ok hz 400 (by cbv) ?_
      refine W_bool 61 (by cbv) (show _ = false by rw [z_eql hz, hk]; simpa using h4) ?_
      refine W_run ti_ok hz 400 (by cbv) ?_
      refine W_draw mixedB [(2, 0), (1, 1), (2, 2), (1, 3), (2, 4), (2, 5), (1, 6), (0, 7), (0, 8), (2, 9), (0, 10)] [10] (by kernel_rfl) ?_
      refine D_run ti_ok hz 400 (by cbv) ?_
      refine D_val (by cbv) (by cbv) (by cbv) (Val_elem ti_ok (by cbv) i hiv hIk rfl) ?_
      refine D_run ti_ok hz 400 (by cbv) ?_
      refine D_app ti_ok (by cbv) (by cbv) (by cbv) (by simp) (by simp; omega) ?_
      obtain ⟨o4, ho4⟩ := hide (o1 ++ [[.i .i64 xn, .i .i64 xd, .s xs]])
      rw [← ho4]
      refine D_run ti_ok hz 400 (by cbv) ?_
      refine D_last ti_ok hz (by cbv) (by cbv) (by cbv) (by cbv) (by cbv) ?_
      refine W_run ti_ok hz 400 (by cbv) ?_
      rcases hnm with hN0 | hN0
      · refine W_bool 89 (by cbv) (show _ = false by rw [z_gtr hz, z_len hz, hN, hN0]; rfl) ?_
        refine W_run ti_ok hz 400 (by cbv) ?_
        refine W_bool 105 (by cbv) (show _ = false by rw [z_gtr hz, z_len hz, hN, hN0]; rfl) ?_
        refine W_run ti_ok hz 400 (by cbv) ?_
        rw [hadd]
        refine W_inv [1, 2, 4, 5, 6] [0, 1, 2, 3, 4, 5, 6, 7] (is.length - (k + 1)) (by omega) (by cbv) (by cbv) ⟨k + 1, ik1, o4, o3, hlt, rfl, by rw [hik1, hik]; rfl, by rw [ho4, ho1, subAt_succ hp hx, List.map_append]; rfl, by rw [ho3, hN0, subAt_nil, subAt_nil], by cbv, by cbv⟩
      · obtain ⟨y, hy⟩ : ∃ y, d.names[i]? = some y := ⟨_, List.getElem?_eq_getElem (by omega)⟩
        have hNk : N[i]? = some [C.s y] := by rw [hN, List.getElem?_map, hy]; rfl
        refine W_bool 89 (by cbv) (show _ = true by rw [z_gtr hz, z_len hz, hN, List.length_map]; exact decide_eq_true (by omega)) ?_
        refine W_run ti_ok hz 400 (by cbv) ?_
        refine W_draw mixedB [(2, 0), (1, 1), (2, 2), (1, 3), (2, 4), (2, 5), (1, 6), (0, 7), (0, 8), (2, 9), (0, 10)] [10] (by kernel_rfl) ?_
        refine D_run ti_ok hz 400 (by cbv) ?_
        refine D_val (by cbv) (by cbv) (by cbv) (Val_elem ti_ok (by cbv) i hiv hNk rfl) ?_
        refine D_run ti_ok hz 400 (by cbv) ?_
        refine D_app ti_ok (by cbv) (by cbv) (by cbv) (by simp) (by simp; omega) ?_
        obtain ⟨o6, ho6⟩ := hide (o3 ++ [[C.s y]])
        rw [← ho6]
        refine D_run ti_ok hz 400 (by cbv) ?_
        refine D_last ti_ok hz (by cbv) (by cbv) (by cbv) (by cbv) (by cbv) ?_
        refine W_run ti_ok hz 400 (by cbv) ?_
        rw [hadd]
        refine W_inv [1, 2, 4, 5, 6] [0, 1, 2, 3, 4, 5, 6, 7] (is.length - (k + 1)) (by omega) (by cbv) (by cbv) ⟨k + 1, ik1, o4, o6, hlt, rfl, by rw [hik1, hik]; rfl, by rw [ho4, ho1, subAt_succ hp hx, List.map_append]; rfl, by rw [ho6, ho3, subAt_succ hp hy, List.map_append]; rfl, by cbv, by cbv⟩
    · have hle : k = is.length := by
        rw [z_lss hz, hls, hik] at h
        have h := of_decide_eq_false h
        omega
      rw [hle, List.take_length] at ho1 ho3
      rw [ho1, ho3, ← hoi, ← hon]
      refine W_run ti_ok hz 400 (by cbv) ?_
      refine W_call (by cbv) (by kernel_rfl) (c3) ?_
      rintro t rfl
      refine W_run ti_ok hz 400 (by cbv) ?_
      refine W_ret ti_ok rfl (by cbv) ?_
      rfl
end Go.Proofs.Ytjdimlhdkmkmbaa
