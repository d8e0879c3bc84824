/-
  Contracts on trees: the positions that a logical subscript selects.
-/
import Derived.Test.YtjdimlhdkmkmbaaKVr
namespace Go.Proofs.Ytjdimlhdkmkmbaa
set_option maxRecDepth 100000
open Go.ChangeShapes Go.WideShapes Go.ChangeAt Go.RowKit Go.Deep Go.Proofs.Ytjdimlhdkmkmbaa.Vm
set_option linter.unusedVariables false

set_option maxHeartbeats 8000000 in
theorem ct_ResLog (n : Nat) (hn : n ≤ 40) (N : List (List C)) (hnm : NmOk N n) (d : VecD) (hd : VecWf d) (hz : szVector d ≤ 1000000000000) (hv : vecOk d = true) (hk : d.kind = 1) (hln : d.items.length = n) (h0 : 0 < n) (ht : ∀ x ∈ d.items, truth x ≠ 2) :
    Ct Try.prog 21 [.c (.i .i64 n), .c (.sl N), vT d] (fun t => t = .tu [.c (.sl ((posL d.items).map inK)), .c (.s [])]) := by
  have hz' := hz
  obtain ⟨zb, zc, zs, zl, zn, zt, zp, zg, zv, zx, zm, hz⟩ := Vm.zE
  have c1 := ct_IsVector d hd hz'
  rw [hv] at c1
  obtain ⟨kd, I, P, M, Q, L, cd, en, hT, hk', hI, hP, hM, hQ, hL, hcd, hen⟩ := vT_hide d
  rw [hT] at c1 ⊢
  rw [hk] at hk'
  subst hk'
  obtain ⟨hw0, hw1, -⟩ := (VecWf_eq d).1 hd
  have hlz : zl I = (n : Int) := by rw [z_len hz, hI, List.length_map, hln]
  generalize hl : d.items = l at *
  obtain ⟨ni, hni⟩ := hide (n : Int)
  rw [← hni]
  refine Ct_of_W Try.func21 rfl (Nat.le_of_ble_eq_true rfl) fun w0 Z0 => ?_
  refine W_run ti_ok hz 400 (by cbv) ?_
  refine W_call (by cbv) (by kernel_rfl) (c1) ?_
  rintro t rfl
  refine W_run ti_ok hz 400 (by cbv) ?_
  refine W_bool 12 (by cbv) (show _ = false by rw [z_not hz]; rfl) ?_
  refine W_run ti_ok hz 400 (by cbv) ?_
  refine W_bool 15 (by cbv) (show _ = false by rw [z_lss hz]; exact decide_eq_false (by omega)) ?_
  refine W_run ti_ok hz 400 (by cbv) ?_
  refine W_bool 19 (by cbv) (show _ = false by rw [z_gtr hz]; exact decide_eq_false (by omega)) ?_
  refine W_run ti_ok hz 400 (by cbv) ?_
  rcases hnm with hN0 | hN0
  case' inl =>
    refine W_bool 23 (by cbv) (show _ = false by rw [z_gtr hz, z_len hz, hN0]; rfl) ?_
    refine W_run ti_ok hz 400 (by cbv) ?_
  case' inr =>
    refine W_bool 23 (by cbv) (show _ = true by rw [z_gtr hz, z_len hz]; exact decide_eq_true (by omega)) ?_
    refine W_run ti_ok hz 400 (by cbv) ?_
    refine W_bool 29 (by cbv) (show _ = false by rw [z_neq hz, z_len hz, hN0.1, hni]; simp) ?_
    refine W_run ti_ok hz 400 (by cbv) ?_
  all_goals
    refine W_bool 32 (by cbv) (show _ = false by rw [z_eql hz]; rfl) ?_
    refine W_run ti_ok hz 400 (by cbv) ?_
    refine W_bool 34 (by cbv) (show _ = false by rw [z_eql hz]; rfl) ?_
    refine W_run ti_ok hz 400 (by cbv) ?_
    refine W_bool 42 (by cbv) (show _ = false by rw [z_eql hz]; rfl) ?_
    refine W_run ti_ok hz 400 (by cbv) ?_
    refine W_bool 51 (by cbv) (show _ = true by rw [z_eql hz]; rfl) ?_
    refine W_run ti_ok hz 400 (by cbv) ?_
    refine W_bool 56 (by cbv) (show _ = false by rw [z_eql hz, hlz]; simp; omega) ?_
    refine W_run ti_ok hz 400 (by cbv) ?_
    refine W_own 8 1 (by cbv) ?_
    refine W_keep [0, 5, 6, 7, 8, 9] [0, 1] 2 (by cbv) (by cbv) ?_
    refine W_run ti_ok hz 1 (by cbv) ?_
    refine W_loop (fun n' a m => ∃ (k : Nat) (ik : Int) (o : List (List C)), k ≤ n ∧ n' = n - k ∧ ik = (k : Int) ∧ o = (posL (l.take k)).map inK ∧
        a = [(0, T.c (C.i IntKind.i64 ni)), (5, T.pt 0 0), (6, T.nil), (7, T.c (C.s [])), (8, T.sk 1 o), (9, T.c (C.i IntKind.i64 ik))] ∧
        m = [(0, Obj.box [T.c (C.i IntKind.i64 1), T.c (C.sl I), T.c (C.sl P), T.c (C.sl M), T.c (C.sl Q), T.c (C.sl L), T.c (C.i IntKind.i64 cd), T.c (C.i IntKind.i64 en)]), (1, Obj.tok 1 o)]) n ⟨0, 0, [], Nat.zero_le _, rfl, rfl, rfl, rfl, rfl⟩ ?_
    rintro n' a m ⟨k, ik, o, hk, hn', hik, ho, rfl, rfl⟩
    have hol : o.length ≤ l.length := by rw [ho, List.length_map]; exact posL_le l k
    have hadd : zb .add .i64 ik 1 = ik + 1 := z_add hz (by omega) (by omega)
    obtain ⟨ik1, hik1⟩ := hide (ik + 1)
    rw [← hik1] at hadd
    refine W_run ti_ok hz 400 (by cbv) ?_
    refine W_val (by cbv) (by cbv) (Val_max (r := ni) (by cbv) (by rw [hlz, hni]; simp)) ?_
    refine W_run ti_ok hz 400 (by cbv) ?_
    refine W_cond (by cbv) (fun h => ?_) (fun h => ?_)
    · have hlt : k < n := by
        rw [z_lss hz, hni, hik] at h
        simpa using h
      obtain ⟨p, hp⟩ : ∃ p, l[k]? = some p := ⟨_, List.getElem?_eq_getElem (by omega)⟩
      have hLk : I[k]? = some (itK p) := by rw [hI, List.getElem?_map, hp]; rfl
      have hpw : ItWf p := hw1 p (List.mem_of_getElem? hp)
      have hst := posL_succ hp
      have ct := ct_truth p hpw
      have ht2 := ht p (List.mem_of_getElem? hp)
      obtain ⟨pn, pd, ps⟩ := p
      generalize htr : truth ⟨pn, pd, ps⟩ = tr at *
      refine W_run ti_ok hz 400 (by cbv) ?_
      refine W_draw mixedB [(2, 0), (1, 1), (2, 2), (2, 3), (1, 4), (2, 5), (2, 6), (2, 7), (1, 8), (0, 9)] [] (by kernel_rfl) ?_
      refine D_run ti_ok hz 400 (by cbv) ?_
      refine D_val (by cbv) (by cbv) (by cbv) (Val_rem (r := ik) (by cbv) (by rw [hlz]; omega) (by rw [hlz, hik]; exact (Int.tmod_eq_of_lt (by omega) (by omega)).symm)) ?_
      refine D_run ti_ok hz 400 (by cbv) ?_
      refine D_val (by cbv) (by cbv) (by cbv) (Val_elem ti_ok (by cbv) k hik hLk rfl) ?_
      refine D_run ti_ok hz 400 (by cbv) ?_
      refine D_call (by cbv) (by cbv) (by kernel_rfl) (ct) ?_
      rintro t rfl
      refine D_done ?_
      refine W_run ti_ok hz 400 (by cbv) ?_
      refine W_cond (by cbv) (fun h => ?_) (fun h => ?_)
      · have htr1 : tr = 1 := by rw [z_eql hz] at h; simpa using h
        refine W_run ti_ok hz 400 (by cbv) ?_
        rw [hadd]
        refine W_app ti_ok (by cbv) (by cbv) (by simp) (by simp; omega) ?_
        obtain ⟨o2, ho2⟩ := hide (o ++ [inK ik1])
        rw [show o ++ [[C.i IntKind.i64 ik1]] = o2 from ho2.symm]
        refine W_run ti_ok hz 400 (by cbv) ?_
        rw [hadd]
        refine W_inv [0, 5, 6, 7, 8, 9] [0, 1] (n - (k + 1)) (by omega) (by cbv) (by cbv) ⟨k + 1, ik1, o2, hlt, rfl, by rw [hik1, hik]; rfl, ?_, by cbv, by cbv⟩
        rw [hst, if_pos htr1, ho2, ho, List.map_append, hik1, hik]
        rfl
      · have htr1 : ¬ tr = 1 := by rw [z_eql hz] at h; simpa using h
        refine W_run ti_ok hz 400 (by cbv) ?_
        refine W_bool 83 (by cbv) (show _ = false by rw [z_eql hz]; simpa using ht2) ?_
        refine W_run ti_ok hz 400 (by cbv) ?_
        rw [hadd]
        refine W_inv [0, 5, 6, 7, 8, 9] [0, 1] (n - (k + 1)) (by omega) (by cbv) (by cbv) ⟨k + 1, ik1, o, hlt, rfl, by rw [hik1, hik]; rfl, ?_, by cbv, by cbv⟩
        rw [hst, if_neg htr1, ho, List.append_nil]
    · have hle : k = n := by
        rw [z_lss hz, hni, hik] at h
        have h := of_decide_eq_false h
        omega
      refine W_run ti_ok hz 400 (by cbv) ?_
      refine W_ret ti_ok rfl (by cbv) ?_
      rw [ho, hle, ← hln, List.take_length]
end Go.Proofs.Ytjdimlhdkmkmbaa
