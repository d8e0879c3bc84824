/-
  Merged texts: VmOrdI, VmOrdO.
-/
import Derived.Test.YtjdimlhdkmkmbaaKOrd
import Derived.Test.YtjdimlhdkmkmbaaVmF
import Derived.Test.YtjdimlhdkmkmbaaKVq
namespace Go.Proofs.Ytjdimlhdkmkmbaa
set_option maxRecDepth 100000
set_option maxRecDepth 100000
open Go.ChangeShapes Go.WideShapes Go.ChangeAt Go.RowKit Go.Deep Go.Proofs.Ytjdimlhdkmkmbaa.Vm
set_option linter.unusedVariables false

set_option maxHeartbeats 4000000 in
theorem ct_before (k : Int) (dec : Bool) (x y : ItemD) (hx : ItWf x) (hy : ItWf y) : Ct Try.prog 105 [itT x, itT y, .pf [.i .i64 k], .pf [.b dec]] (fun t => t = .q (bef k dec x y)) := by
  obtain ⟨zb, zc, zs, zl, zn, zt, zp, zg, zv, zx, zm, hz⟩ := Vm.zE
  have c1 := ct_isMissing x hx
  have c2 := ct_isMissing y hy
  have c3 := ct_compareItems k x y hx hy
  unfold bef
  obtain ⟨cm, hcm⟩ := hide (cmpI k x y)
  rw [← hcm] at c3 ⊢
  clear hcm
  obtain ⟨m1, hm1⟩ := hide (missing x)
  obtain ⟨m2, hm2⟩ := hide (missing y)
  rw [← hm1] at c1 ⊢
  rw [← hm2] at c2 ⊢
  clear hm1 hm2
  obtain ⟨xn, xd, xs⟩ := x
  obtain ⟨yn, yd, ys⟩ := y
  refine Ct_of_W Try.func105 rfl (Nat.le_of_ble_eq_true rfl) fun w0 Z0 => ?_
  refine W_run ti_ok hz 400 (by cbv) ?_
  refine W_call (by cbv) (by kernel_rfl) (c1) ?_
  rintro t rfl
  cases m1 with
  | true =>
    refine W_bool 9 (by cbv) (rfl) ?_
    refine W_run ti_ok hz 400 (by cbv) ?_
    refine W_call (by cbv) (by kernel_rfl) (c1) ?_
    rintro t rfl
    refine W_bool 15 (by cbv) (rfl) ?_
    refine W_run ti_ok hz 400 (by cbv) ?_
    refine W_unb 6 (by cbv) ?_
    refine W_ret ti_ok rfl (by cbv) ?_
    rfl
  | false =>
    refine W_bool 9 (by cbv) (rfl) ?_
    refine W_run ti_ok hz 400 (by cbv) ?_
    refine W_call (by cbv) (by kernel_rfl) (c2) ?_
    rintro t rfl
    cases m2 with
    | true =>
      refine W_bool 12 (by cbv) (rfl) ?_
      refine W_run ti_ok hz 400 (by cbv) ?_
      refine W_call (by cbv) (by kernel_rfl) (c1) ?_
      rintro t rfl
      refine W_bool 15 (by cbv) (rfl) ?_
      refine W_run ti_ok hz 400 (by cbv) ?_
      refine W_call (by cbv) (by kernel_rfl) (c2) ?_
      rintro t rfl
      refine W_run ti_ok hz 400 (by cbv) ?_
      refine W_ret ti_ok rfl (by cbv) ?_
      rfl
    | false =>
      refine W_bool 12 (by cbv) (rfl) ?_
      refine W_run ti_ok hz 400 (by cbv) ?_
      refine W_call (by cbv) (by kernel_rfl) (c3) ?_
      rintro t rfl
      refine W_run ti_ok hz 400 (by cbv) ?_
      cases dec with
      | true =>
        refine W_bool 25 (by cbv) (rfl) ?_
        refine W_run ti_ok hz 400 (by cbv) ?_
        refine W_ret ti_ok rfl (by cbv) ?_
        rw [z_gtr hz]
        rfl
      | false =>
        refine W_bool 25 (by cbv) (rfl) ?_
        refine W_run ti_ok hz 400 (by cbv) ?_
        refine W_ret ti_ok rfl (by cbv) ?_
        rw [z_lss hz]
        rfl
theorem inN_len {l : List Nat} : ∀ cs ∈ l.map inN, cs.length = 1 := fun cs h => by
  obtain ⟨i, _, rfl⟩ := List.mem_map.1 h
  rfl
theorem setsL_one : ∀ (cs : List C) (els : List (List C)) (o : Nat), (∀ x ∈ els, x.length = 1) → ∀ x ∈ Vm.setsL els o cs, x.length = 1
  | [], els, o, h => h
  | c :: cs, els, o, h => by
    rw [Vm.setsL]
    refine setsL_one cs _ _ fun x hx => ?_
    rcases List.mem_or_eq_of_mem_set hx with h' | h'
    · exact h x h'
    · rw [h']; rfl
theorem shift_one {els : List (List C)} (h : ∀ x ∈ els, x.length = 1) (o1 o2 n : Nat) : ∀ x ∈ shiftL els o1 o2 n, x.length = 1 := setsL_one _ _ _ h
theorem shift_len (els : List (List C)) (o1 o2 n : Nat) : (shiftL els o1 o2 n).length = els.length := Vm.setsL_length _ _ _
set_option maxHeartbeats 8000000 in
theorem ct_orderItems (k : Int) (dec : Bool) (l : List ItemD) (hl : ∀ x ∈ l, ItWf x) (hn : l.length ≤ 1000) : CtO Try.prog 66 [.c (.i .i64 k), .c (.sl (l.map itK)), .c (.b dec)] (fun els => els = (insOrd (befL k dec l) l.length).map inN) := by
  obtain ⟨zb, zc, zs, zl, zn, zt, zp, zg, zv, zx, zm, hz⟩ := Vm.zE
  obtain ⟨I, hI⟩ := hide (l.map itK)
  rw [← hI]
  have hln : zl I = (l.length : Int) := by rw [z_len hz, hI]; simp
  refine CtO_of_W Try.func66 rfl (Nat.le_of_ble_eq_true rfl) fun w0 Z0 => ?_
  refine W_run ti_ok hz 400 (by cbv) ?_
  refine W_freezeB 3 (by cbv) (by cbv) (by cbv) ?_
  refine W_freezeB 5 (by cbv) (by cbv) (by cbv) ?_
  refine W_val (by cbv) (by cbv) (Val_makeFunc (by cbv)) ?_
  refine W_nilRow 7 (by cbv) ?_
  refine W_run ti_ok hz 400 (by cbv) ?_
  refine W_keep [1, 7, 8, 13, 14] [2] 3 (by cbv) (by cbv) ?_
  refine W_run ti_ok hz 1 (by cbv) ?_
  refine W_loop (fun n' a m => ∃ (i : Nat) (ik : Int) (els : List (List C)) (cap : Nat), i ≤ l.length ∧ n' = l.length - i ∧ ik = (i : Int) ∧ els = (insOrd (befL k dec l) i).map inN ∧
      a = [(1, T.c (C.sl I)), (7, T.rw 2 i cap), (8, T.fn 105 [] [T.pf [C.i IntKind.i64 k], T.pf [C.b dec]]), (13, T.c (C.i IntKind.i64 (zl I))), (14, T.c (C.i IntKind.i64 ik))] ∧ m = [(2, Obj.row els cap)]) l.length ⟨0, 0, [], 0, Nat.zero_le _, rfl, rfl, rfl, rfl, rfl⟩ ?_
  rintro n' a m ⟨i, ik, els, cap, hi, hn', hik, hels, rfl, rfl⟩
  have hadd : zb .add .i64 ik 1 = ik + 1 := z_add hz (by omega) (by omega)
  obtain ⟨ik1, hik1⟩ := hide (ik + 1)
  rw [← hik1] at hadd
  have hel : els.length = i := by rw [hels, List.length_map, insOrd_length]
  refine W_run ti_ok hz 400 (by cbv) ?_
  refine W_cond (by cbv) (fun h => ?_) (fun h => ?_)
  · have hlt : i < l.length := by
      rw [z_lss hz, hln, hik] at h
      simpa using h
    refine W_run ti_ok hz 400 (by cbv) ?_
    refine W_keep [1, 7, 8, 9, 10, 13, 14] [2] 3 (by cbv) (by cbv) ?_
    refine W_run ti_ok hz 1 (by cbv) ?_
    refine W_loop (fun n' a m => ∃ (p : Nat) (pk : Int), p ≤ i ∧ n' = p ∧ pk = (p : Int) ∧ posAt (befL k dec l) i (insOrd (befL k dec l) i) p = posAt (befL k dec l) i (insOrd (befL k dec l) i) i ∧
        a = [(1, T.c (C.sl I)), (7, T.rw 2 i cap), (8, T.fn 105 [] [T.pf [C.i IntKind.i64 k], T.pf [C.b dec]]), (9, T.c (C.i IntKind.i64 ik)), (10, T.c (C.i IntKind.i64 pk)), (13, T.c (C.i IntKind.i64 (zl I))), (14, T.c (C.i IntKind.i64 ik))] ∧ m = [(2, Obj.row els cap)]) i ⟨i, i, Nat.le_refl _, rfl, rfl, rfl, rfl, rfl⟩ ?_
    rintro n'' a m ⟨p, pk, hp, hn'', hpk, hpos, rfl, rfl⟩
    have hIi : I[i]? = some (itK (l[i]'hlt)) := by rw [hI, List.getElem?_map, List.getElem?_eq_getElem hlt]; rfl
    have hxw := hl _ (List.getElem_mem hlt)
    have hgi : l.getD i ⟨0, 0, []⟩ = l[i]'hlt := by simp [hlt]
    obtain ⟨x, hx⟩ := hide (l[i]'hlt)
    rw [← hx] at hIi hxw hgi
    cases p
    case' zero =>
      obtain ⟨q, hq, hpq, hqi⟩ : ∃ q : Nat, posAt (befL k dec l) i (insOrd (befL k dec l) i) i = q ∧ pk = (q : Int) ∧ q ≤ i := ⟨0, by rw [← hpos]; rfl, hpk, Nat.zero_le _⟩
      refine W_run ti_ok hz 400 (by cbv) ?_
      refine W_draw mixedB [(2, 0), (2, 1), (2, 2), (2, 3), (2, 4), (2, 5), (2, 6), (2, 7), (2, 8), (2, 9), (2, 10), (2, 11), (2, 12), (2, 13), (2, 14), (2, 15), (0, 16), (2, 17)] [] (by kernel_rfl) ?_
      refine D_run ti_ok hz 400 (by cbv) ?_
      refine D_bool 21 (by cbv) (show _ = false by rw [z_gtr hz, hpk]; rfl) ?_
      refine D_run ti_ok hz 400 (by cbv) ?_
      refine D_done ?_
      refine W_run ti_ok hz 400 (by cbv) ?_
    case' succ p =>
      obtain ⟨j, hj⟩ : ∃ j, (insOrd (befL k dec l) i)[p]? = some j := ⟨_, List.getElem?_eq_getElem (by rw [insOrd_length]; omega)⟩
      have hjl : j < l.length := by have := insOrd_mem.1 (List.mem_of_getElem? hj); omega
      have hIj : I[j]? = some (itK (l[j]'hjl)) := by rw [hI, List.getElem?_map, List.getElem?_eq_getElem hjl]; rfl
      have hyw := hl _ (List.getElem_mem hjl)
      have hgj : l.getD j ⟨0, 0, []⟩ = l[j]'hjl := by simp [hjl]
      obtain ⟨y, hy⟩ := hide (l[j]'hjl)
      rw [← hy] at hIj hyw hgj
      have c1 := ct_before k dec x y hxw hyw
      have hlt' : befL k dec l i j = bef k dec x y := by unfold befL; rw [hgi, hgj]
      obtain ⟨r, hr⟩ := hide (bef k dec x y)
      rw [← hr] at c1 hlt'
      have hpj : (insOrd (befL k dec l) i).getD p 0 = j := by rw [List.getD_eq_getElem?_getD, hj]; rfl
      rw [posAt, hpj, hlt'] at hpos
      obtain ⟨xn, xd, xs⟩ := x
      obtain ⟨yn, yd, ys⟩ := y
      have help : els[p]? = some [.i .i64 (j : Int)] := by rw [hels, List.getElem?_map, hj]; rfl
      have hsub : zb .sub .i64 pk 1 = (p : Int) := by rw [z_sub hz (by omega) (by omega)]; omega
      obtain ⟨jk, hjk⟩ := hide (j : Int)
      obtain ⟨pj, hpj2⟩ := hide (p : Int)
      rw [← hpj2] at hsub
      rw [← hjk] at help
      refine W_run ti_ok hz 400 (by cbv) ?_
      refine W_draw mixedB [(2, 0), (2, 1), (2, 2), (2, 3), (2, 4), (2, 5), (2, 6), (1, 7), (2, 8), (2, 9), (2, 10), (2, 11), (2, 12), (1, 13), (2, 14), (1, 15), (0, 16), (2, 17)] [] (by kernel_rfl) ?_
      refine D_run ti_ok hz 400 (by cbv) ?_
      refine D_bool 21 (by cbv) (show _ = true by rw [z_gtr hz, hpk]; exact decide_eq_true (by omega)) ?_
      refine D_run ti_ok hz 400 (by cbv) ?_
      refine D_val (by cbv) (by cbv) (by cbv) (Val_elem ti_ok (by cbv) i hik hIi rfl) ?_
      refine D_run ti_ok hz 400 (by cbv) ?_
      rw [hsub]
      have hpi : p < i := by omega
      refine D_val (by cbv) (by cbv) (by cbv) (Val_rwAt ti_ok (by cbv) p hpj2 hpi) ?_
      refine D_peLoad ti_ok (by cbv) (by cbv) (by cbv) help rfl rfl ?_
      refine D_run ti_ok hz 400 (by cbv) ?_
      refine D_val (by cbv) (by cbv) (by cbv) (Val_elem ti_ok (by cbv) j hjk hIj rfl) ?_
      refine D_run ti_ok hz 400 (by cbv) ?_
      refine D_call (by cbv) (by cbv) (by kernel_rfl) (c1) ?_
      rintro t rfl
      refine D_run ti_ok hz 400 (by cbv) ?_
      refine D_done ?_
      cases r
      case true =>
        refine W_bool 36 (by cbv) (rfl) ?_
        refine W_run ti_ok hz 400 (by cbv) ?_
        rw [hsub]
        refine W_inv [1, 7, 8, 9, 10, 13, 14] [2] p (by omega) (by cbv) (by cbv) ⟨p, pj, by omega, rfl, hpj2, by rw [← hpos]; simp, by cbv, by cbv⟩
      obtain ⟨q, hq, hpq, hqi⟩ : ∃ q : Nat, posAt (befL k dec l) i (insOrd (befL k dec l) i) i = q ∧ pk = (q : Int) ∧ q ≤ i := ⟨p + 1, by rw [← hpos]; simp, hpk, hp⟩
      refine W_bool 36 (by cbv) (rfl) ?_
      refine W_run ti_ok hz 400 (by cbv) ?_
    all_goals
      refine W_keep [1, 7, 8, 9, 10, 13, 14, 39, 40] [2, 3] 4 (by cbv) (by cbv) ?_
      refine W_run ti_ok hz 1 (by cbv) ?_
      refine W_rowApp ti_ok (by cbv) (by cbv) (by cbv) hel.symm (fun cs h => by rw [hels] at h; exact inN_len cs h) (by simp) (by simp; omega) (by simp) ?_
      intro cap' hc1 hc2
      rw [show els.length + [[C.i IntKind.i64 0]].length = i + 1 by simp [hel]] at hc1 ⊢
      obtain ⟨e2, he2⟩ := hide (els ++ [[C.i IntKind.i64 0]])
      rw [← he2]
      obtain ⟨n1, hn1⟩ := hide (i + 1)
      rw [← hn1] at hc1 ⊢
      have he2l : e2.length = n1 := by rw [he2, hn1, List.length_append, hel]; rfl
      have he21 : ∀ cs ∈ e2, cs.length = 1 := fun cs h => by
        rw [he2, hels] at h
        rcases List.mem_append.1 h with h | h
        · exact inN_len cs h
        · rw [List.mem_singleton.1 h]; rfl
      refine W_run ti_ok hz 400 (by cbv) ?_
      refine W_draw mixedB [(2, 0), (2, 1), (2, 2), (2, 3), (2, 4), (2, 5), (2, 6), (0, 7)] [7] (by kernel_rfl) ?_
      refine D_run ti_ok hz 400 (by cbv) ?_
      have ha1 : zb .add .i64 pk 1 = ((q + 1 : Nat) : Int) := by rw [z_add hz (by omega) (by omega)]; omega
      obtain ⟨o1, ho1⟩ := hide (if cap' = q + 1 then 0 else (q + 1) * 1)
      refine D_val (by cbv) (by cbv) (by cbv) (Val_rwPart ti_ok (by cbv) (q + 1) o1 ha1 (by omega) (by omega) ho1) ?_
      obtain ⟨u1, hu1⟩ := hide (n1 - (q + 1))
      obtain ⟨u2, hu2⟩ := hide (cap' - (q + 1))
      rw [← hu1, ← hu2]
      refine D_run ti_ok hz 400 (by cbv) ?_
      obtain ⟨o2, ho2⟩ := hide (if cap' = q then 0 else q * 1)
      refine D_val (by cbv) (by cbv) (by cbv) (Val_rwPart ti_ok (by cbv) q o2 hpq (by omega) (by omega) ho2) ?_
      obtain ⟨u3, hu3⟩ := hide (n1 - q)
      obtain ⟨u4, hu4⟩ := hide (cap' - q)
      rw [← hu3, ← hu4]
      have ho2' : o2 = q := by rw [ho2, if_neg (by omega), Nat.mul_one]
      have hmin : Nat.min u3 u1 = i - q := by rw [hu3, hu1]; show min _ _ = _; omega
      have ho1' : o1 = q + 1 ∨ q = i := by
        by_cases hcq : cap' = q + 1
        · exact .inr (by omega)
        · exact .inl (by rw [ho1, if_neg hcq, Nat.mul_one])
      have hb1 : o1 + Nat.min u3 u1 ≤ e2.length := by
        rw [hmin, he2l]
        rcases ho1' with h | h
        · omega
        · have : o1 ≤ q + 1 := by rw [ho1]; split <;> omega
          omega
      refine D_run ti_ok hz 400 (by cbv) ?_
      refine D_rowCopy ti_ok (by cbv) (by cbv) (by cbv) (by cbv) (by cbv) (by cbv) he21 hb1 (by rw [hmin, he2l, ho2']; omega) ?_
      rw [hmin, ho2']
      have hfin := shift_ins hq o1 ho1'
      rw [← hels, ← he2] at hfin
      have h31 := shift_one he21 o1 q (i - q)
      have h3l : (shiftL e2 o1 q (i - q)).length = n1 := by rw [shift_len, he2l]
      obtain ⟨e3, he3⟩ := hide (shiftL e2 o1 q (i - q))
      rw [← he3] at hfin h31 h3l ⊢
      obtain ⟨c3, hc3⟩ : ∃ c3, e3[q]? = some [c3] := by
        have hq3 : q < e3.length := by omega
        have := h31 _ (List.getElem_mem hq3)
        match h : e3[q], this with
        | [c], _ => exact ⟨c, by rw [List.getElem?_eq_getElem hq3, h]⟩
      refine W_run ti_ok hz 400 (by cbv) ?_
      have hqn : q < n1 := by omega
      refine W_val (by cbv) (by cbv) (Val_rwAt ti_ok (by cbv) q hpq hqn) ?_
      refine W_run ti_ok hz 400 (by cbv) ?_
      refine W_peStore ti_ok (by cbv) (by cbv) hc3 rfl (by first | decide | simp) ?_
      rw [show e3.set q ([c3].set 0 (C.i .i64 ik)) = e3.set q (inN i) by rw [hik]; rfl, hfin]
      obtain ⟨e4, he4⟩ := hide ((insOrd (befL k dec l) (i + 1)).map inN)
      rw [← he4]
      refine W_run ti_ok hz 400 (by cbv) ?_
      rw [hadd]
      refine W_inv [1, 7, 8, 13, 14] [2] (l.length - (i + 1)) (by omega) (by cbv) (by cbv) ⟨i + 1, ik1, e4, cap', hlt, rfl, by rw [hik1, hik]; rfl, he4, by rw [← hn1]; cbv, by cbv⟩
  · have hle : i = l.length := by
      rw [z_lss hz, hln, hik] at h
      have h := of_decide_eq_false h
      omega
    refine W_run ti_ok hz 400 (by cbv) ?_
    refine W_retO rfl (by cbv) (by cbv) hel.symm ?_
    rw [hels, hle]
end Go.Proofs.Ytjdimlhdkmkmbaa
namespace Go.Proofs.Ytjdimlhdkmkmbaa
set_option maxRecDepth 100000
open Go.ChangeShapes Go.WideShapes Go.ChangeAt Go.RowKit Go.Deep Go.Proofs.Ytjdimlhdkmkmbaa.Vm
set_option linter.unusedVariables false

/-- the places of an order, from 1 on -/
def ordL (d : VecD) (dec : Bool) : List Int := (insOrd (befL d.kind dec d.items) d.items.length).map fun (i : Nat) => (i : Int) + 1
def inP (i : Nat) : List C := [.i .i64 ((i : Int) + 1)]
def incL (o : List Nat) (k : Nat) : List (List C) := (o.take k).map inP ++ (o.drop k).map inN
theorem incL_get {o : List Nat} {k : Nat} (h : k < o.length) : (incL o k)[k]? = some (inN (o[k]'h)) := by
  unfold incL
  rw [List.getElem?_append_right (by simp; omega), List.length_map, List.length_take, Nat.min_eq_left (by omega), Nat.sub_self, List.getElem?_map, List.getElem?_drop, Nat.add_zero, List.getElem?_eq_getElem h]
  rfl
theorem incL_set {o : List Nat} {k : Nat} (h : k < o.length) : (incL o k).set k (inP (o[k]'h)) = incL o (k + 1) := by
  unfold incL
  rw [List.set_append_right _ _ (by simp; omega), List.length_map, List.length_take, Nat.min_eq_left (by omega), Nat.sub_self, List.drop_eq_getElem_cons h, List.map_cons, List.set_cons_zero, List.take_succ_eq_append_getElem h, List.map_append, List.append_assoc]
  rfl
theorem incL_len (o : List Nat) (k : Nat) : (incL o k).length = o.length := by
  simp only [incL, List.length_append, List.length_map, List.length_take, List.length_drop]; omega
set_option maxHeartbeats 8000000 in
theorem ct_OrderOf (d : VecD) (dec : Bool) (hd : VecWf d) (hz : szVector d ≤ 1000000000000) (hok : atomP d = [] → d.items.length ≤ 1000) : Ct Try.prog 27 [vT d, .c (.b dec)] (fun t => t = .tu [if atomP d = [] then .c (.sl ((ordL d dec).map inK)) else .nil, .c (.s (atomP d))]) := by
  have hz' := hz
  obtain ⟨zb, zc, zs, zl, zn, zt, zp, zg, zv, zx, zm, hz⟩ := Vm.zE
  have c1 := ct_atomicProblem d hd hz'
  have hwf := (VecWf_eq d).1 hd
  have c2 := fun h => ct_orderItems d.kind dec d.items hwf.2.1 (hok h)
  obtain ⟨res, hres⟩ := hide ((ordL d dec).map inK)
  rw [← hres]
  obtain ⟨ord, hord⟩ := hide (insOrd (befL d.kind dec d.items) d.items.length)
  rw [← hord] at c2
  unfold ordL at hres
  rw [← hord] at hres
  have hordl : ord.length = d.items.length := by rw [hord, insOrd_length]
  have hordm : ∀ i ∈ ord, i < d.items.length := fun i hi => by rw [hord] at hi; exact insOrd_mem.1 hi
  clear hord
  obtain ⟨kd, I, P, N, Q, L, cd, en, hT, hk, hI, hP, hN, hQ, hL, hcd, hen⟩ := vT_hide d
  obtain ⟨ap, hap⟩ := hide (atomP d)
  rw [← hap] at c1 c2 hok ⊢
  rw [hT] at c1 ⊢
  rw [← hk, ← hI] at c2
  refine Ct_of_W Try.func27 rfl (Nat.le_of_ble_eq_true rfl) fun w0 Z0 => ?_
  refine W_run ti_ok hz 400 (by cbv) ?_
  refine W_call (by cbv) (by kernel_rfl) (c1) ?_
  rintro t rfl
  refine W_run ti_ok hz 400 (by cbv) ?_
  refine W_cond (by cbv) (fun h => ?_) (fun h => ?_)
  · refine W_run ti_ok hz 400 (by cbv) ?_
    refine W_ret ti_ok rfl (by cbv) ?_
    rw [(z_neqs hz ap).1] at h
    have : ap ≠ [] := by rintro rfl; cases h
    rw [if_neg this]
  · have h0 : ap = [] := by rw [(z_neqs hz ap).1] at h; simpa using h
    subst h0
    refine W_run ti_ok hz 400 (by cbv) ?_
    refine W_callO (by cbv) (by kernel_rfl) (c2 rfl) ?_
    rintro els cap rfl
    have hbi : d.items.length ≤ 1000 := hok rfl
    rw [List.length_map, hordl]
    have hlen0 : (ord.map inN).length = ord.length := List.length_map _
    have h0' : ord.map inN = incL ord 0 := by simp [incL]
    rw [h0']
    obtain ⟨n, hn⟩ := hide d.items.length
    rw [← hn] at hordl hordm hbi ⊢
    obtain ⟨e0, he0⟩ := hide (incL ord 0)
    rw [← he0]
    refine W_run ti_ok hz 400 (by cbv) ?_
    refine W_keep [7, 20, 21, 22] [1] 2 (by cbv) (by cbv) ?_
    refine W_run ti_ok hz 1 (by cbv) ?_
    refine W_loop (fun n' a m => ∃ (k : Nat) (ik : Int) (e : List (List C)), k ≤ n ∧ n' = n - k ∧ ik = (k : Int) ∧ e = incL ord k ∧
      a = [(7, T.rw 1 n cap), (20, T.rw 1 n cap), (21, T.c (C.i IntKind.i64 (Int.ofNat n))), (22, T.c (C.i IntKind.i64 ik))] ∧ m = [(1, Obj.row e cap)]) n ⟨0, 0, e0, Nat.zero_le _, rfl, rfl, he0, rfl, rfl⟩ ?_
    rintro n' a m ⟨k, ik, e, hk', hn', hik, he, rfl, rfl⟩
    have hadd : zb .add .i64 ik 1 = ik + 1 := z_add hz (by omega) (by omega)
    obtain ⟨ik1, hik1⟩ := hide (ik + 1)
    rw [← hik1] at hadd
    have hel : e.length = n := by rw [he, incL_len, hordl]
    refine W_run ti_ok hz 400 (by cbv) ?_
    refine W_cond (by cbv) (fun h => ?_) (fun h => ?_)
    · have hlt : k < n := by
        rw [z_lss hz, hik] at h
        have h := of_decide_eq_true h
        exact Int.ofNat_lt.1 h
      have hlt' : k < ord.length := by omega
      have hge : e[k]? = some (inN (ord[k]'hlt')) := by rw [he]; exact incL_get hlt'
      have hse : e.set k (inP (ord[k]'hlt')) = incL ord (k + 1) := by rw [he]; exact incL_set hlt'
      have hjm := hordm _ (List.getElem_mem hlt')
      obtain ⟨j, hj⟩ := hide (ord[k]'hlt')
      rw [← hj] at hge hse hjm
      obtain ⟨jk, hjk⟩ := hide (j : Int)
      have hgj : e[k]? = some [.i .i64 jk] := by rw [hge, hjk]; rfl
      have hadj : zb .add .i64 jk 1 = jk + 1 := z_add hz (by omega) (by omega)
      obtain ⟨jk1, hjk1⟩ := hide (jk + 1)
      rw [← hjk1] at hadj
      refine W_run ti_ok hz 400 (by cbv) ?_
      refine W_val (by cbv) (by cbv) (Val_rwAt ti_ok (by cbv) k hik hlt) ?_
      refine W_run ti_ok hz 400 (by cbv) ?_
      refine W_peLoad ti_ok (by cbv) (by cbv) hgj rfl rfl ?_
      refine W_run ti_ok hz 400 (by cbv) ?_
      rw [hadj]
      refine W_val (by cbv) (by cbv) (Val_rwAt ti_ok (by cbv) k hik hlt) ?_
      refine W_run ti_ok hz 400 (by cbv) ?_
      refine W_peStore ti_ok (by cbv) (by cbv) hgj rfl (by first | decide | simp) ?_
      rw [show e.set k ([C.i .i64 jk].set 0 (C.i .i64 jk1)) = incL ord (k + 1) by rw [← hse, hjk1, hjk]; rfl]
      obtain ⟨e4, he4⟩ := hide (incL ord (k + 1))
      rw [← he4]
      refine W_run ti_ok hz 400 (by cbv) ?_
      rw [hadd]
      refine W_inv [7, 20, 21, 22] [1] (n - (k + 1)) (by omega) (by cbv) (by cbv) ⟨k + 1, ik1, e4, hlt, rfl, by rw [hik1, hik]; rfl, he4, by cbv, by cbv⟩
    · have hle : k = n := by
        rw [z_lss hz, hik] at h
        have h := of_decide_eq_false h
        have : ¬ k < n := fun h' => h (Int.ofNat_lt.2 h')
        omega
      have hfe : e = res := by
        rw [he, hle, ← hordl, hres]
        unfold incL
        rw [List.take_length, List.drop_length, List.map_nil, List.append_nil, List.map_map]
        rfl
      rw [hfe] at hel ⊢
      refine W_run ti_ok hz 400 (by cbv) ?_
      refine W_freeze 4 (by cbv) (by cbv) hel.symm ?_
      refine W_run ti_ok hz 400 (by cbv) ?_
      refine W_ret ti_ok rfl (by cbv) ?_
      rw [if_pos rfl]
end Go.Proofs.Ytjdimlhdkmkmbaa
