/-
  The law of subscripts, on trees.
-/
import Derived.Test.YtjdimlhdkmkmbaaKVq
namespace Go.Proofs.Ytjdimlhdkmkmbaa
set_option maxRecDepth 100000
open Go.ChangeShapes Go.WideShapes Go.ChangeAt Go.RowKit Go.Deep Go.Proofs.Ytjdimlhdkmkmbaa.Vm
set_option linter.unusedVariables false

theorem itemOk_wh {n : Int} (h1 : -1000 ≤ n) (h2 : n ≤ 1000) : itemOk 2 (wh n) = true := by
  have : isNum (wh n) = true := by simp [isNum, wh, show -999999999 ≤ n by omega, show n ≤ 999999999 by omega]
  simp [itemOk, this]
def Tru (t : T) : Prop := t = .c (.b true) ∨ t = .q true
set_option maxHeartbeats 4000000 in
theorem ct_big (B : List (List C)) : Ct Try.prog 6 [.c (.sl B)] (fun t => t = .q (decide (1048576 < B.length))) := by
  obtain ⟨zb, zc, zs, zl, zn, zt, zp, zg, zv, zx, zm, hz⟩ := Vm.zE
  refine Ct_of_W Try.func6 rfl (Nat.le_of_ble_eq_true rfl) fun w0 Z0 => ?_
  refine W_run ti_ok hz 400 (by cbv) ?_
  refine W_ret ti_ok rfl (by cbv) ?_
  rw [z_gtr hz, z_len hz]
  congr 1
  exact decide_eq_decide.2 ⟨fun h => by omega, fun h => by omega⟩
set_option maxHeartbeats 64000000 in
theorem law_subscripts (l : List Nat) (hb : ∀ x ∈ l, x < 256) : Ct Try.prog 4 [.c (.sl (l.map byK))] Tru := by
  by_cases hl : l.length ≤ 1048576
  rotate_left
  · have c0 := ct_big (l.map byK)
    rw [List.length_map, decide_eq_true (by omega)] at c0
    obtain ⟨zb, zc, zs, zl, zn, zt, zp, zg, zv, zx, zm, hz⟩ := Vm.zE
    obtain ⟨B, hB⟩ := hide (l.map byK)
    rw [← hB] at c0 ⊢
    refine Ct_of_W Try.func4 rfl (Nat.le_of_ble_eq_true rfl) fun w0 Z0 => ?_
    refine W_run ti_ok hz 400 (by cbv) ?_
    refine W_call (by cbv) (by kernel_rfl) (c0) ?_
    rintro t rfl
    refine W_run ti_ok hz 400 (by cbv) ?_
    refine W_bool 21 (by cbv) (rfl) ?_
    refine W_run ti_ok hz 400 (by cbv) ?_
    refine W_ret ti_ok rfl (by cbv) ?_
    exact .inl rfl
  have c0 := ct_big (l.map byK)
  rw [List.length_map, decide_eq_false (by omega)] at c0
  have c1 := ct_DrawSubsetOf l hl hb
  obtain ⟨zb, zc, zs, zl, zn, zt, zp, zg, zv, zx, zm, hz⟩ := Vm.zE
  have hlB : zl (l.map byK) = (l.length : Int) := by rw [z_len hz, List.length_map]
  obtain ⟨B, hB⟩ := hide (l.map byK)
  rw [← hB] at c0 c1 hlB ⊢
  refine Ct_of_W Try.func4 rfl (Nat.le_of_ble_eq_true rfl) fun w0 Z0 => ?_
  refine W_run ti_ok hz 400 (by cbv) ?_
  refine W_call (by cbv) (by kernel_rfl) (c0) ?_
  rintro t rfl
  refine W_run ti_ok hz 400 (by cbv) ?_
  refine W_bool 21 (by cbv) (rfl) ?_
  refine W_run ti_ok hz 400 (by cbv) ?_
  refine W_call (by cbv) (by kernel_rfl) (c1) ?_
  rintro t ⟨d, f, rfl, hd, hsz⟩
  have c2 := ct_LengthOf d hd (by omega)
  have hVd := vT_hide d
  obtain ⟨kd, I, P, N, Q, Lv, cd, en, hT, hk, hI, hP, hN, -⟩ := hVd
  obtain ⟨fk, fI, fP, fN, fQ, fL, fc, fe, hF, -⟩ := vT_hide f
  obtain ⟨nn, hnn⟩ := hide (lenOk d : Int)
  rw [hT, ← hnn] at c2
  rw [hT, hF]
  have hn40 : lenOk d ≤ 40 := by
    unfold lenOk
    split
    · rename_i h; exact (shape_facts (vecOk_shape h)).len
    · exact Nat.zero_le _
  refine W_run ti_ok hz 400 (by cbv) ?_
  refine W_call (by cbv) (by kernel_rfl) (c2) ?_
  rintro t rfl
  refine W_run ti_ok hz 400 (by cbv) ?_
  refine W_call (by cbv) (by kernel_rfl) (ct_Logical0) ?_
  rintro t rfl
  refine W_run ti_ok hz 400 (by cbv) ?_
  refine W_ownB 3 1 3 (by cbv) (by cbv) ?_
  refine W_ownB 3 2 8 (by cbv) (by cbv) ?_
  refine W_ownB 3 3 1 (by cbv) (by cbv) ?_
  refine W_ownB 3 4 1 (by cbv) (by cbv) ?_
  refine W_ownB 3 5 1 (by cbv) (by cbv) ?_
  refine W_keep [0, 2, 3, 5, 6, 7] [0, 3, 4, 5, 6, 7, 8] 9 (by cbv) (by cbv) ?_
  refine W_run ti_ok hz 1 (by cbv) ?_
  generalize hn : lenOk d = n at *
  generalize hL : l.length = Ln at *
  refine W_loop (fun n' a m => ∃ (k : Nat) (ik : Int) (o : List (List C)), k ≤ n ∧ n' = n - k ∧ ik = (k : Int) ∧ o = (bitsS Ln k).map itK ∧
      a = [(0, T.c (C.sl B)), (2, T.c (C.b false)), (3, T.pt 0 0), (5, T.c (C.i IntKind.i64 nn)), (6, T.pt 3 0), (7, T.c (C.i IntKind.i64 ik))] ∧
      m = [(0, Obj.box [T.c (C.i IntKind.i64 kd), T.c (C.sl I), T.c (C.sl P), T.c (C.sl N), T.c (C.sl Q), T.c (C.sl Lv), T.c (C.i IntKind.i64 cd), T.c (C.i IntKind.i64 en)]),
          (3, Obj.box [T.c (C.i IntKind.i64 1), T.sk 4 o, T.sk 5 [], T.sk 6 [], T.sk 7 [], T.sk 8 [], T.c (C.i IntKind.i64 0), T.c (C.i IntKind.i64 0)]),
          (4, Obj.tok 3 o), (5, Obj.tok 8 []), (6, Obj.tok 1 []), (7, Obj.tok 1 []), (8, Obj.tok 1 [])]) n ⟨0, 0, [], Nat.zero_le _, rfl, rfl, rfl, rfl, rfl⟩ ?_
  rintro n' a m ⟨k, ik, o, hk', hn', hik, ho, rfl, rfl⟩
  have hadd : zb .add .i64 ik 1 = ik + 1 := z_add hz (by omega) (by omega)
  obtain ⟨ik1, hik1⟩ := hide (ik + 1)
  rw [← hik1] at hadd
  have hol : o.length = k := by rw [ho, List.length_map, bitsS_length]
  refine W_run ti_ok hz 400 (by cbv) ?_
  refine W_cond (by cbv) (fun h => ?_) (fun h => ?_)
  · have hlt : k < n := by
      rw [z_lss hz, hnn, hik] at h
      simpa using h
    obtain ⟨rm, hrm⟩ := hide ((k % 8 : Nat) : Int)
    have hdl : Ln / 2 ^ (k % 8) ≤ Ln := Nat.div_le_self _ _
    obtain ⟨qq, hqq⟩ := hide (Ln / 2 ^ (k % 8))
    rw [← hqq] at hdl
    obtain ⟨sh, hsh⟩ := hide (qq : Int)
    obtain ⟨bt, hbt⟩ := hide ((bitS Ln k : Nat) : Int)
    have hadd2 : zb .add .i64 sh ik = sh + ik := z_add hz (by omega) (by omega)
    obtain ⟨s2, hs2⟩ := hide (sh + ik)
    rw [← hs2] at hadd2
    refine W_run ti_ok hz 400 (by cbv) ?_
    refine W_draw mixedB [(2, 0), (1, 1), (2, 2), (2, 3), (2, 4), (2, 5), (2, 6), (2, 7), (2, 8), (2, 9), (0, 10), (0, 11), (0, 12), (2, 13), (0, 14)] [14] (by kernel_rfl) ?_
    refine D_run ti_ok hz 400 (by cbv) ?_
    refine D_val (by cbv) (by cbv) (by cbv) (Val_rem (r := rm) (by cbv) (by decide) (by rw [hrm, hik]; rfl)) ?_
    refine D_run ti_ok hz 400 (by cbv) ?_
    refine D_val (by cbv) (by cbv) (by cbv) (Val_shr (r := sh) (by cbv) (by omega) (by
      rw [hlB, hrm, Int.toNat_natCast, Nat.min_eq_left (by have := Nat.mod_lt k (show 0 < 8 by decide); omega), hsh, hqq]
      rw [Int.fdiv_eq_ediv_of_nonneg _ (Int.le_of_lt (Int.pow_pos (by decide)))]
      exact (Int.natCast_ediv _ _).trans (by rw [Int.natCast_pow]; rfl))) ?_
    refine D_run ti_ok hz 400 (by cbv) ?_
    rw [hadd2]
    refine D_val (by cbv) (by cbv) (by cbv) (Val_and (qq + k) 1 (by cbv) (by rw [hs2, hsh, hik]; rfl) rfl (by omega) (by decide)) ?_
    rw [show ((qq + k &&& 1 : Nat) : Int) = bt by rw [hbt, hqq]; rfl]
    refine D_run ti_ok hz 400 (by cbv) ?_
    refine D_call (by cbv) (by cbv) (by kernel_rfl) (ct_num bt) ?_
    rintro t rfl
    refine D_run ti_ok hz 400 (by cbv) ?_
    refine D_app ti_ok (by cbv) (by cbv) (by cbv) (by simp) (by simp; omega) ?_
    obtain ⟨o2, ho2⟩ := hide (o ++ [[.i .i64 bt, .i .i64 1, .s []]])
    rw [← ho2]
    refine D_run ti_ok hz 400 (by cbv) ?_
    refine D_last ti_ok hz (by cbv) (by cbv) (by cbv) (by cbv) (by cbv) ?_
    refine W_run ti_ok hz 400 (by cbv) ?_
    rw [hadd]
    refine W_inv [0, 2, 3, 5, 6, 7] [0, 3, 4, 5, 6, 7, 8] (n - (k + 1)) (by omega) (by cbv) (by cbv) ⟨k + 1, ik1, o2, hlt, rfl, by rw [hik1, hik]; rfl, by rw [ho2, ho, bitsS_succ, List.map_append, hbt]; rfl, by cbv, by cbv⟩
  · have hle : k = n := by
      rw [z_lss hz, hnn, hik] at h
      have h := of_decide_eq_false h
      omega
    subst hle
    have hits : ∀ x ∈ bitsS Ln k, itemOk 1 x = true ∧ ItWf x ∧ szItem x ≤ 100 ∧ truth x ≠ 2 := fun x hx => by
      obtain ⟨b, hb2, rfl⟩ := bitsS_mem hx
      refine ⟨?_, whWf (by omega) (by omega), Nat.zero_le _, by rw [truth_bit hb2]; omega⟩
      match b, hb2 with
      | 0, _ => rfl
      | 1, _ => rfl
    have sOk : vecOk (itemsV 1 (bitsS Ln k)) = true := vecOk_itemsV (.inl rfl) (by rw [bitsS_length]; exact hn40) fun x hx => (hits x hx).1
    have sWf : VecWf (itemsV 1 (bitsS Ln k)) := wf_itemsV i64o_ fun x hx => (hits x hx).2.1
    have sSz := sz_itemsV (k := 1) (its := bitsS Ln k) (by rw [bitsS_length]; exact hn40) fun x hx => (hits x hx).2.2.1
    have hT1 : vT (itemsV 1 (bitsS Ln k)) = logT o := by rw [ho]; rfl
    have c3 := ct_WhichOf (itemsV 1 (bitsS Ln k)) sWf (by omega) sOk rfl (by show (bitsS Ln k).length ≤ _; rw [bitsS_length]; omega)
    obtain ⟨wI, hwI⟩ := hide (((plc (selS Ln k)).map wh).map itK)
    have hT2 : vT (itemsV 2 ((posL (itemsV 1 (bitsS Ln k)).items).map wh)) = .ag [.c (.i .i64 2), .c (.sl wI), .c (.sl []), .c (.sl []), .c (.sl []), .c (.sl []), .c (.i .i64 0), .c (.i .i64 0)] := by
      rw [hwI, ← pos_bits]; rfl
    rw [hT1, hT2] at c3
    refine W_run ti_ok hz 400 (by cbv) ?_
    refine W_call (by cbv) (by kernel_rfl) (c3) ?_
    rintro t rfl
    refine W_run ti_ok hz 400 (by cbv) ?_
    refine W_bool 57 (by cbv) (show _ = false by rw [z_sne hz]; rfl) ?_
    refine W_run ti_ok hz 400 (by cbv) ?_
    rcases Nat.eq_zero_or_pos k with hk0 | hkp
    · refine W_bool 61 (by cbv) (show _ = true by rw [z_eql hz, hnn, hk0]; rfl) ?_
      refine W_run ti_ok hz 400 (by cbv) ?_
      refine W_ret ti_ok rfl (by cbv) ?_
      exact .inr (congrArg T.q (by rw [z_seq hz]; rfl))
    refine W_bool 61 (by cbv) (show _ = false by rw [z_eql hz, hnn]; exact decide_eq_false (by omega)) ?_
    refine W_run ti_ok hz 400 (by cbv) ?_
    by_cases h5 : d.kind = 5
    · refine W_bool 65 (by cbv) (show _ = true by rw [z_eql hz, hk, h5]; rfl) ?_
      refine W_run ti_ok hz 400 (by cbv) ?_
      refine W_ret ti_ok rfl (by cbv) ?_
      exact .inr (congrArg T.q (by rw [z_seq hz]; rfl))
    refine W_bool 65 (by cbv) (show _ = false by rw [z_eql hz, hk]; simpa using h5) ?_
    -- facts
    have hok : vecOk d = true := by
      unfold lenOk at hn
      split at hn
      · assumption
      · omega
    have hlv : lenV d = k := by unfold lenOk at hn; rw [if_pos hok] at hn; exact hn
    have hf := shape_facts (vecOk_shape hok)
    have h0 : d.kind ≠ 0 := fun e => by
      have h1 := vecOk_null hok e
      have h2 := hf.pk.resolve_right (by omega)
      have : lenV d = 0 := by unfold lenV; rw [if_neg h5, h1, h2]; rfl
      omega
    have hnm : NmOk (d.names.map txK) k := by
      rcases hf.nm with h | h
      · exact .inl (by rw [h]; rfl)
      · exact .inr ⟨by rw [List.length_map, h.1, hlv], hkp⟩
    have hsel : (selS Ln k).Sublist (List.range (lenV d)) := by rw [hlv]; exact sel_sub Ln k
    have hsi : ∀ i ∈ selS Ln k, i < k := fun i hm => List.mem_range.1 ((sel_sub Ln k).subset hm)
    have hsl : (selS Ln k).length ≤ k := by have := (sel_sub Ln k).length_le; simpa using this
    have hpl := plc_mem hsi hn40
    have hrA : Ct Try.prog 21 [.c (.i .i64 (lenV d : Int)), .c (.sl (d.names.map txK)), vT (itemsV 1 (bitsS Ln k))] (fun t => t = .tu [.c (.sl ((plc (selS Ln k)).map inK)), .c (.s [])]) := by
      have := ct_ResLog k hn40 (d.names.map txK) hnm (itemsV 1 (bitsS Ln k)) sWf (by omega) sOk rfl (bitsS_length Ln k) hkp (fun x hx => (hits x hx).2.2.2)
      rw [show posL (itemsV 1 (bitsS Ln k)).items = plc (selS Ln k) from pos_bits Ln k] at this
      rw [hlv]
      exact this
    have hwi : ∀ x ∈ (plc (selS Ln k)).map wh, itemOk 2 x = true ∧ ItWf x ∧ szItem x ≤ 100 := fun x hx => by
      obtain ⟨y, hy, rfl⟩ := List.mem_map.1 hx
      have := hpl y hy
      exact ⟨itemOk_wh (by omega) (by omega), whWf (by omega) (by omega), Nat.zero_le _⟩
    have hwl : ((plc (selS Ln k)).map wh).length ≤ 40 := by rw [List.length_map, plc, List.length_map]; omega
    have hrB : Ct Try.prog 21 [.c (.i .i64 (lenV d : Int)), .c (.sl (d.names.map txK)), vT (itemsV 2 ((plc (selS Ln k)).map wh))] (fun t => t = .tu [.c (.sl ((plc (selS Ln k)).map inK)), .c (.s [])]) := by
      have h1 := ct_numPos k hn40 (plc (selS Ln k)) hpl (by rw [plc, List.length_map]; omega)
      rw [hlv]
      refine ct_ResNum k hn40 (d.names.map txK) hnm (itemsV 2 ((plc (selS Ln k)).map wh)) (wf_itemsV ⟨by decide, by decide⟩ fun x hx => (hwi x hx).2.1) (by have := sz_itemsV (k := 2) hwl fun x hx => (hwi x hx).2.2; omega) (vecOk_itemsV (.inr (.inl rfl)) hwl fun x hx => (hwi x hx).1) rfl _ ?_
      rw [show (itemsV 2 ((plc (selS Ln k)).map wh)).items.map itK = (plc (selS Ln k)).map fun n => itK (wh n) by show ((plc (selS Ln k)).map wh).map itK = _; rw [List.map_map]; rfl]
      exact h1
    have c4 := ct_SubsetOf d hd (by omega) hok h0 h5 _ _ hsel hrA
    have c5 := ct_SubsetOf d hd (by omega) hok h0 h5 _ _ hsel hrB
    have hT2' : vT (itemsV 2 ((plc (selS Ln k)).map wh)) = .ag [.c (.i .i64 2), .c (.sl wI), .c (.sl []), .c (.sl []), .c (.sl []), .c (.sl []), .c (.i .i64 0), .c (.i .i64 0)] := by rw [hwI]; rfl
    have aWf := sub_wf hd (selS Ln k)
    have aOk := vecOk_sub hok h0 h5 hsel
    have aSz := sz_sub d hsel
    have c6 := ct_EqualSame _ aWf aOk (by omega)
    obtain ⟨ak, aI, aP, aN, aQ, aL, ac, ae, hA, -⟩ := vT_hide (tidyD (subD d (selS Ln k)))
    rw [hT, hT1, hA] at c4
    rw [hT, hT2', hA] at c5
    rw [hA] at c6
    obtain ⟨j, hj⟩ := hide (Ln % k)
    have hjk : j < k := by rw [hj]; exact Nat.mod_lt _ hkp
    obtain ⟨jr, hjr⟩ := hide (j : Int)
    obtain ⟨x1, hx1⟩ := hide (-((j + 1 : Nat) : Int))
    obtain ⟨j1, hj1⟩ := hide ((j + 1 : Nat) : Int)
    have hneg : zb .sub .i64 (zg .i64 jr) 1 = x1 := by rw [z_neg hz (by omega) (by omega), z_sub hz (by omega) (by omega)]; omega
    have hadd3 : zb .add .i64 jr 1 = j1 := by rw [z_add hz (by omega) (by omega)]; omega
    have c7 := ct_Number1 x1 (by omega) (by omega)
    obtain ⟨nI, hnI⟩ := hide [itK (wh x1)]
    have hT3 : vT (itemsV 2 [wh x1]) = .ag [.c (.i .i64 2), .c (.sl nI), .c (.sl []), .c (.sl []), .c (.sl []), .c (.sl []), .c (.i .i64 0), .c (.i .i64 0)] := by rw [hnI]; rfl
    obtain ⟨oI, hoI⟩ := hide ((others k (j + 1)).map inK)
    have hlo : zl oI = (k : Int) - 1 := by rw [z_len hz, hoI, List.length_map, others_len (by omega) (by omega)]; omega
    have c8 : Ct Try.prog 21 [.c (.i .i64 (k : Int)), .c (.sl (d.names.map txK)), vT (itemsV 2 [wh x1])] (fun t => t = .tu [.c (.sl oI), .c (.s [])]) := by
      have hw1 : ∀ x ∈ [wh x1], itemOk 2 x = true ∧ ItWf x ∧ szItem x ≤ 100 := fun x hx => by
        rw [List.mem_singleton.1 hx]
        exact ⟨itemOk_wh (by omega) (by omega), whWf (by omega) (by omega), Nat.zero_le _⟩
      refine ct_ResNum k hn40 (d.names.map txK) hnm (itemsV 2 [wh x1]) (wf_itemsV ⟨by decide, by decide⟩ fun x hx => (hw1 x hx).2.1) (by have := sz_itemsV (k := 2) (its := [wh x1]) (by simp) fun x hx => (hw1 x hx).2.2; omega) (vecOk_itemsV (.inr (.inl rfl)) (by simp) fun x hx => (hw1 x hx).1) rfl _ ?_
      have := ct_numOut k (j + 1) hn40 (by omega) (by omega)
      rw [← hx1, ← hoI] at this
      exact this
    rw [hT3] at c7 c8
    rw [← hN, ← hnn] at c8
    have c9 := ct_has (others k (j + 1)) j1 (others_i64 hn40)
    rw [decide_eq_false (by rw [hj1]; exact others_not), ← hoI] at c9
    refine W_run ti_ok hz 400 (by cbv) ?_
    refine W_call (by cbv) (by kernel_rfl) (c4) ?_
    rintro t rfl
    refine W_run ti_ok hz 400 (by cbv) ?_
    refine W_call (by cbv) (by kernel_rfl) (c5) ?_
    rintro t rfl
    refine W_run ti_ok hz 400 (by cbv) ?_
    refine W_val (by cbv) (by cbv) (Val_rem (r := jr) (by cbv) (by omega) (by rw [hlB, hnn, hjr, hj]; rfl)) ?_
    refine W_run ti_ok hz 400 (by cbv) ?_
    refine W_draw mixedB [(2, 0), (2, 1), (1, 2), (2, 3), (2, 4), (2, 5), (0, 6), (0, 7), (0, 8), (2, 9), (2, 10), (2, 11), (2, 12), (2, 13)] [] (by kernel_rfl) ?_
    refine D_run ti_ok hz 400 (by cbv) ?_
    rw [hneg]
    refine D_call (by cbv) (by cbv) (by kernel_rfl) (c7) ?_
    rintro t ⟨rfl, -⟩
    refine D_run ti_ok hz 400 (by cbv) ?_
    refine D_call (by cbv) (by cbv) (by kernel_rfl) (c8) ?_
    rintro t rfl
    refine D_run ti_ok hz 400 (by cbv) ?_
    refine D_done ?_
    refine W_run ti_ok hz 400 (by cbv) ?_
    refine W_bool 98 (by cbv) (show _ = false by rw [z_sne hz]; rfl) ?_
    refine W_run ti_ok hz 400 (by cbv) ?_
    refine W_bool 102 (by cbv) (show _ = false by rw [z_sne hz]; rfl) ?_
    refine W_run ti_ok hz 400 (by cbv) ?_
    refine W_bool 106 (by cbv) (show _ = false by rw [z_sne hz]; rfl) ?_
    refine W_run ti_ok hz 400 (by cbv) ?_
    refine W_call (by cbv) (by kernel_rfl) (c6) ?_
    rintro t rfl
    refine W_run ti_ok hz 400 (by cbv) ?_
    refine W_bool 112 (by cbv) (show _ = false by rw [z_not hz]; rfl) ?_
    refine W_run ti_ok hz 400 (by cbv) ?_
    refine W_bool 119 (by cbv) (show _ = false by rw [z_neq hz, hlo, z_sub hz (by omega) (by omega), hnn]; simp) ?_
    refine W_run ti_ok hz 400 (by cbv) ?_
    rw [hadd3]
    refine W_call (by cbv) (by kernel_rfl) (c9) ?_
    rintro t rfl
    refine W_run ti_ok hz 400 (by cbv) ?_
    refine W_bool 124 (by cbv) (rfl) ?_
    refine W_run ti_ok hz 400 (by cbv) ?_
    rcases hf.nm with hnm0 | hnm1
    · have hlN : zl N = 0 := by rw [z_len hz, hN, hnm0]; rfl
      refine W_bool 129 (by cbv) (show _ = true by rw [z_eql hz, hlN]; rfl) ?_
      refine W_run ti_ok hz 400 (by cbv) ?_
      refine W_ret ti_ok rfl (by cbv) ?_
      exact .inl rfl
    have hlN : zl N = (k : Int) := by rw [z_len hz, hN, List.length_map, hnm1.1, hlv]
    refine W_bool 129 (by cbv) (show _ = false by rw [z_eql hz, hlN]; exact decide_eq_false (by omega)) ?_
    refine W_run ti_ok hz 400 (by cbv) ?_
    obtain ⟨y, hy⟩ : ∃ y, d.names[j]? = some y := ⟨_, List.getElem?_eq_getElem (by rw [hnm1.1, hlv]; exact hjk)⟩
    have hNj : N[j]? = some [C.s y] := by rw [hN, List.getElem?_map, hy]; rfl
    have hyl := hf.nl y (List.mem_of_getElem? hy)
    refine W_val (by cbv) (by cbv) (Val_elem ti_ok (by cbv) j hjr hNj rfl) ?_
    refine W_run ti_ok hz 400 (by cbv) ?_
    refine W_cond (by cbv) (fun h => ?_) (fun h => ?_)
    · refine W_run ti_ok hz 400 (by cbv) ?_
      refine W_ret ti_ok rfl (by cbv) ?_
      exact .inl rfl
    have hy0 : y ≠ [] := by rw [z_seq hz] at h; simpa using h
    obtain ⟨m0, hm0, hmj, hmy, hml⟩ : ∃ m0 : Nat, findB d.names y = (m0 : Int) ∧ m0 ≤ j ∧ d.names[m0]? = some y ∧ ∀ i, i < m0 → d.names[i]? ≠ some y := by
      obtain ⟨hjl, hjy⟩ := List.getElem?_eq_some_iff.1 hy
      cases hfi : d.names.findIdx? (fun x => x == y) with
      | none =>
        rw [List.findIdx?_eq_none_iff] at hfi
        have := hfi y (List.mem_of_getElem? hy)
        simp at this
      | some m0 =>
        obtain ⟨q1, q2, q3⟩ := List.findIdx?_eq_some_iff_getElem.1 hfi
        refine ⟨m0, by unfold findB; rw [hfi], ?_, ?_, fun i hi e => ?_⟩
        · rcases Nat.lt_or_ge j m0 with hlt | hge
          · exact absurd (q3 j hlt) (by simp [hjy])
          · exact hge
        · rw [List.getElem?_eq_getElem q1]; simpa using q2
        · obtain ⟨r1, r2⟩ := List.getElem?_eq_some_iff.1 e
          exact q3 i hi (by simp [r2])
    have hnmw := ((VecWf_eq d).1 hd).2.2.2.1
    have c10 := ct_Text1 y hyl
    obtain ⟨tI, htI⟩ := hide [itK (txItem y)]
    have hT4 : vT (itemsV 3 [txItem y]) = .ag [.c (.i .i64 3), .c (.sl tI), .c (.sl []), .c (.sl []), .c (.sl []), .c (.sl []), .c (.i .i64 0), .c (.i .i64 0)] := by rw [htI]; rfl
    obtain ⟨tR, htR⟩ := hide [inK ((m0 : Int) + 1)]
    have c11 : Ct Try.prog 21 [.c (.i .i64 (k : Int)), .c (.sl (d.names.map txK)), vT (itemsV 3 [txItem y])] (fun t => t = .tu [.c (.sl tR), .c (.s [])]) := by
      have hw1 : ∀ x ∈ [txItem y], itemOk 3 x = true ∧ ItWf x ∧ szItem x ≤ 100 := fun x hx => by
        rw [List.mem_singleton.1 hx]
        exact ⟨by simp [itemOk, txItem, hyl], ⟨i64z_, i64o_, by show y.length ≤ _; unfold maxLen; omega⟩, by show y.length ≤ _; omega⟩
      refine ct_ResTxt k hn40 (d.names.map txK) hnm (itemsV 3 [txItem y]) (wf_itemsV ⟨by decide, by decide⟩ fun x hx => (hw1 x hx).2.1) (by have := sz_itemsV (k := 3) (its := [txItem y]) (by simp) fun x hx => (hw1 x hx).2.2; omega) (vecOk_itemsV (.inr (.inr rfl)) (by simp) fun x hx => (hw1 x hx).1) rfl _ ?_
      rw [htR]
      exact ct_textPos k hn40 d.names hnmw y (by unfold TxWf maxLen; omega) hy0 m0 hm0 (by omega)
    rw [hT4] at c10 c11
    rw [← hN, ← hnn] at c11
    refine W_run ti_ok hz 400 (by cbv) ?_
    refine W_draw mixedB [(2, 0), (2, 1), (1, 2), (2, 3), (1, 4), (2, 5), (2, 6), (1, 7), (0, 8), (0, 9), (0, 10), (2, 11), (2, 12), (2, 13), (2, 14), (2, 15)] [] (by kernel_rfl) ?_
    refine D_run ti_ok hz 400 (by cbv) ?_
    refine D_val (by cbv) (by cbv) (by cbv) (Val_elem ti_ok (by cbv) j hjr hNj rfl) ?_
    refine D_run ti_ok hz 400 (by cbv) ?_
    refine D_call (by cbv) (by cbv) (by kernel_rfl) (c10) ?_
    rintro t ⟨rfl, -⟩
    refine D_run ti_ok hz 400 (by cbv) ?_
    refine D_call (by cbv) (by cbv) (by kernel_rfl) (c11) ?_
    rintro t rfl
    refine D_run ti_ok hz 400 (by cbv) ?_
    refine D_done ?_
    refine W_run ti_ok hz 400 (by cbv) ?_
    refine W_keep [2, 3, 14, 17, 18, 19] [0] 1 (by cbv) (by cbv) ?_
    refine W_run ti_ok hz 1 (by cbv) ?_
    refine W_loop (fun n' a m => ∃ (i : Nat) (ii : Int), i ≤ j ∧ n' = j - i ∧ ii = (i : Int) ∧ (∀ i', i' < i → d.names[i']? ≠ some y) ∧
        a = [(2, T.c (C.b false)), (3, T.pt 0 0), (14, T.c (C.i IntKind.i64 jr)), (17, T.c (C.sl tR)), (18, T.c (C.s [])), (19, T.c (C.i IntKind.i64 ii))] ∧
        m = [(0, Obj.box [T.c (C.i IntKind.i64 kd), T.c (C.sl I), T.c (C.sl P), T.c (C.sl N), T.c (C.sl Q), T.c (C.sl Lv), T.c (C.i IntKind.i64 cd), T.c (C.i IntKind.i64 en)])]) j ⟨0, 0, Nat.zero_le _, rfl, rfl, (fun i' h => absurd h (Nat.not_lt_zero _)), rfl, rfl⟩ ?_
    rintro n' a m ⟨i, ii, hij, hn', hii, hno, rfl, rfl⟩
    have hadd4 : zb .add .i64 ii 1 = ii + 1 := z_add hz (by omega) (by omega)
    obtain ⟨ii1, hii1⟩ := hide (ii + 1)
    rw [← hii1] at hadd4
    refine W_run ti_ok hz 400 (by cbv) ?_
    refine W_cond (by cbv) (fun h2 => ?_) (fun h2 => ?_)
    · have hlt : i < j := by
        rw [z_lss hz, hjr, hii] at h2
        simpa using h2
      obtain ⟨x, hx⟩ : ∃ x, d.names[i]? = some x := ⟨_, List.getElem?_eq_getElem (by rw [hnm1.1, hlv]; omega)⟩
      have hNi : N[i]? = some [C.s x] := by rw [hN, List.getElem?_map, hx]; rfl
      refine W_run ti_ok hz 400 (by cbv) ?_
      refine W_draw mixedB [(2, 0), (1, 1), (2, 2), (2, 3), (1, 4), (2, 5), (1, 6), (2, 7), (2, 8), (1, 9), (2, 10)] [] (by kernel_rfl) ?_
      refine D_run ti_ok hz 400 (by cbv) ?_
      refine D_val (by cbv) (by cbv) (by cbv) (Val_elem ti_ok (by cbv) i hii hNi rfl) ?_
      refine D_run ti_ok hz 400 (by cbv) ?_
      refine D_val (by cbv) (by cbv) (by cbv) (Val_elem ti_ok (by cbv) j hjr hNj rfl) ?_
      refine D_run ti_ok hz 400 (by cbv) ?_
      refine D_done ?_
      refine W_run ti_ok hz 400 (by cbv) ?_
      refine W_cond (by cbv) (fun h3 => ?_) (fun h3 => ?_)
      · refine W_run ti_ok hz 400 (by cbv) ?_
        refine W_ret ti_ok rfl (by cbv) ?_
        exact .inr (congrArg T.q (by rw [z_seq hz]; rfl))
      · have hxy : x ≠ y := by rw [z_seq hz] at h3; simpa using h3
        refine W_run ti_ok hz 400 (by cbv) ?_
        rw [hadd4]
        refine W_inv [2, 3, 14, 17, 18, 19] [0] (j - (i + 1)) (by omega) (by cbv) (by cbv) ⟨i + 1, ii1, hlt, rfl, by rw [hii1, hii]; rfl, fun i' h' e => ?_, by cbv, by cbv⟩
        rcases Nat.lt_or_ge i' i with h6 | h6
        · exact hno i' h6 e
        · obtain rfl : i' = i := by omega
          rw [hx] at e
          injection e with e
          exact hxy e
    · have hle : i = j := by
        rw [z_lss hz, hjr, hii] at h2
        have h2 := of_decide_eq_false h2
        omega
      subst hle
      have hmi : m0 = i := by
        rcases Nat.lt_or_ge m0 i with h6 | h6
        · exact absurd hmy (hno m0 h6)
        · omega
      have c12 := ct_sameSame [j1] (fun x hx => by rw [List.mem_singleton.1 hx]; exact ⟨by omega, by omega⟩)
      have htR' : tR = [[C.i .i64 j1]] := by
        rw [htR, hmi, hj1]; rfl
      rw [htR']
      refine W_run ti_ok hz 400 (by cbv) ?_
      refine W_bool 171 (by cbv) (show _ = true by rw [z_seq hz]; rfl) ?_
      refine W_run ti_ok hz 400 (by cbv) ?_
      rw [hadd3]
      refine W_call (by cbv) (by kernel_rfl) (c12) ?_
      rintro t rfl
      refine W_run ti_ok hz 400 (by cbv) ?_
      refine W_ret ti_ok rfl (by cbv) ?_
      exact .inr rfl
end Go.Proofs.Ytjdimlhdkmkmbaa
