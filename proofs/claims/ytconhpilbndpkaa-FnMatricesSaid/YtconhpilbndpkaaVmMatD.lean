/-
  Contracts on trees: matrices.
-/
import Derived.Test.YtconhpilbndpkaaVmMatC
import Derived.Test.YtconhpilbndpkaaMatMul
namespace Go.Proofs.Ytconhpilbndpkaa
set_option maxRecDepth 100000
open Go.RowKit Go.Proofs.Ytconhpilbndpkaa.Vm
set_option linter.unusedVariables false

def mtT (r c : Int) (L : List It) : T := .ag [.c (.i .i64 r), .c (.i .i64 c), .c (.sl (L.map itK))]
theorem all_take (L : List It) {k : Nat} {x : It} (h : L[k]? = some x) : (L.take (k + 1)).all isN = ((L.take k).all isN && isN x) := by
  have e : L.take (k + 1) = L.take k ++ [x] := by rw [List.take_add_one, h]; rfl
  rw [e, List.all_append]
  simp
theorem all_false {L : List It} {x : It} (h : x ∈ L) (hx : isN x = false) : L.all isN = false := by
  cases ha : L.all isN with
  | false => rfl
  | true =>
    rw [List.all_eq_true] at ha
    rw [ha x h] at hx
    cases hx
set_option maxHeartbeats 4000000 in
theorem ct_allNumbers (L : List It) (hL : ∀ x ∈ L, okI x) (hn : L.length ≤ 1000000) : Ct Try.prog 36 [.c (.sl (L.map itK))] (fun t => t = .q (L.all isN)) := by
  refine Ct.bool ?_
  obtain ⟨zb, zc, zs, zl, zn, zt, zp, zg, zv, zx, zm, hz⟩ := Vm.zE
  obtain ⟨I, hI⟩ := hide (L.map itK)
  rw [← hI]
  obtain ⟨b, hb⟩ := hide (L.all isN)
  rw [← hb]
  have hln : zl I = (L.length : Int) := by rw [z_len hz, hI]; simp
  refine Ct_of_W Try.func36 rfl (Nat.le_of_ble_eq_true rfl) fun w0 Z0 => ?_
  refine W_run ti_ok hz 400 (by cbv) ?_
  refine W_keep [5, 6, 7] [] 0 (by cbv) (by cbv) ?_
  refine W_loop (fun n a m => ∃ (k : Nat) (ik : Int), k ≤ L.length ∧ n = L.length - k ∧ ik = (k : Int) ∧ (L.take k).all isN = true ∧ a = [(5, T.c (C.sl I)), (6, T.c (C.i IntKind.i64 (zl I))), (7, T.c (C.i IntKind.i64 ik))] ∧ m = []) L.length ⟨0, 0, Nat.zero_le _, rfl, rfl, rfl, rfl, rfl⟩ ?_
  rintro n a m ⟨k, ik, hk, hn', hik, hall, rfl, rfl⟩
  refine W_run ti_ok hz 400 (by cbv) ?_
  refine W_cond (by cbv) (fun h => ?_) (fun h => ?_)
  · have hlt : k < L.length := by
      rw [z_lss hz, hln, hik] at h
      simpa using h
    obtain ⟨p, hp⟩ : ∃ p, L[k]? = some p := ⟨_, List.getElem?_eq_getElem hlt⟩
    have hLk : I[k]? = some (itK p) := by rw [hI, List.getElem?_map, hp]; rfl
    have hpm := List.mem_of_getElem? hp
    have hpk := hL p hpm
    have ct := ct_IsNumber p (okI_lim hpk).1 (okI_lim hpk).2
    have hst := all_take L hp
    obtain ⟨c, hc⟩ := hide (isN p)
    rw [← hc] at ct hst
    obtain ⟨pn, pd⟩ := p
    refine W_run ti_ok hz 400 (by cbv) ?_
    refine W_val (by cbv) (by cbv) (Val_elem ti_ok (by cbv) k hik hLk rfl) ?_
    refine W_run ti_ok hz 400 (by cbv) ?_
    refine W_call (by cbv) (by kernel_rfl) (ct) ?_
    rintro t rfl
    refine W_run ti_ok hz 400 (by cbv) ?_
    have hadd : zb .add .i64 ik 1 = ik + 1 := z_add hz (by omega) (by omega)
    refine W_cond (by cbv) (fun h => ?_) (fun h => ?_)
    · rw [z_not hz] at h
      have h : c = false := by simpa using h
      subst h
      refine W_run ti_ok hz 400 (by cbv) ?_
      refine W_ret ti_ok rfl (by cbv) ?_
      refine .inr ?_
      rw [hb, all_false hpm hc.symm]
    · rw [z_not hz] at h
      have h : c = true := by simpa using h
      subst h
      refine W_run ti_ok hz 400 (by cbv) ?_
      obtain ⟨ik1, hik1⟩ := hide (ik + 1)
      rw [← hik1] at hadd
      rw [hadd]
      refine W_inv [5, 6, 7] [] (L.length - (k + 1)) (by omega) (by cbv) (by cbv) ⟨k + 1, ik1, hlt, rfl, by rw [hik1, hik]; rfl, by rw [hst, hall]; rfl, by cbv, by cbv⟩
  · have hle : k = L.length := by
      rw [z_lss hz, hln, hik] at h
      have h := of_decide_eq_false h
      omega
    refine W_run ti_ok hz 400 (by cbv) ?_
    refine W_ret ti_ok rfl (by cbv) ?_
    refine .inr ?_
    rw [hle, List.take_length] at hall
    rw [hb, hall]
set_option maxHeartbeats 4000000 in
theorem ct_l14Known (r c : Int) (L : List It) (hL : ∀ x ∈ L, okI x) (hn : L.length ≤ 1000000) : Ct Try.prog 32 [mtT r c L] (fun t => t = .q (L.all isN)) := by
  refine Ct.bool ?_
  obtain ⟨zb, zc, zs, zl, zn, zt, zp, zg, zv, zx, zm, hz⟩ := Vm.zE
  unfold mtT
  obtain ⟨I, hI⟩ := hide (L.map itK)
  rw [← hI]
  obtain ⟨b, hb⟩ := hide (L.all isN)
  rw [← hb]
  have hln : zl I = (L.length : Int) := by rw [z_len hz, hI]; simp
  refine Ct_of_W Try.func32 rfl (Nat.le_of_ble_eq_true rfl) fun w0 Z0 => ?_
  refine W_run ti_ok hz 400 (by cbv) ?_
  refine W_keep [1, 3] [0] 1 (by cbv) (by cbv) ?_
  refine W_loop (fun n a m => ∃ (k : Nat) (ik : Int), k ≤ L.length ∧ n = L.length - k ∧ ik = (k : Int) ∧ (L.take k).all isN = true ∧ a = [(1, T.pt 0 0), (3, T.c (C.i IntKind.i64 ik))] ∧ m = [(0, .box [.c (.i .i64 r), .c (.i .i64 c), .c (.sl I)])]) L.length ⟨0, 0, Nat.zero_le _, rfl, rfl, rfl, rfl, rfl⟩ ?_
  rintro n a m ⟨k, ik, hk, hn', hik, hall, rfl, rfl⟩
  refine W_run ti_ok hz 400 (by cbv) ?_
  refine W_cond (by cbv) (fun h => ?_) (fun h => ?_)
  · have hlt : k < L.length := by
      rw [z_lss hz, hln, hik] at h
      simpa using h
    obtain ⟨p, hp⟩ : ∃ p, L[k]? = some p := ⟨_, List.getElem?_eq_getElem hlt⟩
    have hLk : I[k]? = some (itK p) := by rw [hI, List.getElem?_map, hp]; rfl
    have hpm := List.mem_of_getElem? hp
    have hpk := hL p hpm
    have ct := ct_sIsNumber p (okI_lim hpk).1 (okI_lim hpk).2
    have hst := all_take L hp
    obtain ⟨c, hc⟩ := hide (isN p)
    rw [← hc] at ct hst
    obtain ⟨pn, pd⟩ := p
    refine W_run ti_ok hz 400 (by cbv) ?_
    refine W_val (by cbv) (by cbv) (Val_elem ti_ok (by cbv) k hik hLk rfl) ?_
    refine W_run ti_ok hz 400 (by cbv) ?_
    refine W_call (by cbv) (by kernel_rfl) (ct) ?_
    rintro t rfl
    refine W_run ti_ok hz 400 (by cbv) ?_
    have hadd : zb .add .i64 ik 1 = ik + 1 := z_add hz (by omega) (by omega)
    refine W_cond (by cbv) (fun h => ?_) (fun h => ?_)
    · rw [z_not hz] at h
      have h : c = false := by simpa using h
      subst h
      refine W_run ti_ok hz 400 (by cbv) ?_
      refine W_ret ti_ok rfl (by cbv) ?_
      refine .inr ?_
      rw [hb, all_false hpm hc.symm]
    · rw [z_not hz] at h
      have h : c = true := by simpa using h
      subst h
      refine W_run ti_ok hz 400 (by cbv) ?_
      obtain ⟨ik1, hik1⟩ := hide (ik + 1)
      rw [← hik1] at hadd
      rw [hadd]
      refine W_inv [1, 3] [0] (L.length - (k + 1)) (by omega) (by cbv) (by cbv) ⟨k + 1, ik1, hlt, rfl, by rw [hik1, hik]; rfl, by rw [hst, hall]; rfl, by cbv, by cbv⟩
  · have hle : k = L.length := by
      rw [z_lss hz, hln, hik] at h
      have h := of_decide_eq_false h
      omega
    refine W_run ti_ok hz 400 (by cbv) ?_
    refine W_ret ti_ok rfl (by cbv) ?_
    refine .inr ?_
    rw [hle, List.take_length] at hall
    rw [hb, hall]
def isM (r c : Int) (L : List It) : Bool := decide (0 ≤ r) && decide (r ≤ 12) && decide (0 ≤ c) && decide (c ≤ 12) && decide ((L.length : Int) = r * c) && L.all isN
theorem isM_nat {r c : Int} {L : List It} (h : isM r c L = true) : ∃ R Cn : Nat, r = (R : Int) ∧ c = (Cn : Int) ∧ R ≤ 12 ∧ Cn ≤ 12 ∧ L.length = R * Cn ∧ ∀ x ∈ L, isN x = true := by
  unfold isM at h
  simp only [Bool.and_eq_true, decide_eq_true_eq, List.all_eq_true] at h
  obtain ⟨⟨⟨⟨⟨h1, h2⟩, h3⟩, h4⟩, h5⟩, h6⟩ := h
  obtain ⟨R, rfl⟩ := Int.eq_ofNat_of_zero_le h1
  obtain ⟨Cn, rfl⟩ := Int.eq_ofNat_of_zero_le h3
  exact ⟨R, Cn, rfl, rfl, by omega, by omega, by exact_mod_cast h5, h6⟩
theorem prod12 {r c : Int} (h1 : 0 ≤ r) (h2 : r ≤ 12) (h3 : 0 ≤ c) (h4 : c ≤ 12) : -144 ≤ r * c ∧ r * c ≤ 144 := prod_le (a := 12) (b := 12) ⟨by omega, h2⟩ ⟨by omega, h4⟩
set_option maxHeartbeats 4000000 in
theorem ct_IsMatrix (r c : Int) (L : List It) (hL : ∀ x ∈ L, okI x) (hn : L.length ≤ 1000000) : Ct Try.prog 17 [mtT r c L] (fun t => t = .q (isM r c L)) := by
  have ca := ct_allNumbers L hL hn
  refine Ct.bool ?_
  unfold mtT isM
  obtain ⟨zb, zc, zs, zl, zn, zt, zp, zg, zv, zx, zm, hz⟩ := Vm.zE
  have hln : zl (L.map itK) = (L.length : Int) := by rw [z_len hz]; simp
  obtain ⟨I, hI⟩ := hide (L.map itK)
  rw [← hI] at ca hln ⊢
  obtain ⟨b, hb⟩ := hide (L.all isN)
  rw [← hb] at ca ⊢
  refine Ct_of_W Try.func17 rfl (Nat.le_of_ble_eq_true rfl) fun w0 Z0 => ?_
  refine W_run ti_ok hz 400 (by cbv) ?_
  by_cases k1 : 0 ≤ r
  rotate_left
  · refine W_bool 6 (by cbv) (show _ = true by rw [z_lss hz]; exact decide_eq_true (by omega)) ?_
    refine W_run ti_ok hz 400 (by cbv) ?_
    refine W_ret ti_ok rfl (by cbv) ?_
    exact .inr (by simp [k1])
  refine W_bool 6 (by cbv) (show _ = false by rw [z_lss hz]; exact decide_eq_false (by omega)) ?_
  refine W_run ti_ok hz 400 (by cbv) ?_
  by_cases k2 : r ≤ 12
  rotate_left
  · refine W_bool 11 (by cbv) (show _ = true by rw [z_gtr hz]; exact decide_eq_true (by omega)) ?_
    refine W_run ti_ok hz 400 (by cbv) ?_
    refine W_ret ti_ok rfl (by cbv) ?_
    exact .inr (by simp [k2])
  refine W_bool 11 (by cbv) (show _ = false by rw [z_gtr hz]; exact decide_eq_false (by omega)) ?_
  refine W_run ti_ok hz 400 (by cbv) ?_
  by_cases k3 : 0 ≤ c
  rotate_left
  · refine W_bool 16 (by cbv) (show _ = true by rw [z_lss hz]; exact decide_eq_true (by omega)) ?_
    refine W_run ti_ok hz 400 (by cbv) ?_
    refine W_ret ti_ok rfl (by cbv) ?_
    exact .inr (by simp [k3])
  refine W_bool 16 (by cbv) (show _ = false by rw [z_lss hz]; exact decide_eq_false (by omega)) ?_
  refine W_run ti_ok hz 400 (by cbv) ?_
  by_cases k4 : c ≤ 12
  rotate_left
  · refine W_bool 21 (by cbv) (show _ = true by rw [z_gtr hz]; exact decide_eq_true (by omega)) ?_
    refine W_run ti_ok hz 400 (by cbv) ?_
    refine W_ret ti_ok rfl (by cbv) ?_
    exact .inr (by simp [k4])
  refine W_bool 21 (by cbv) (show _ = false by rw [z_gtr hz]; exact decide_eq_false (by omega)) ?_
  refine W_run ti_ok hz 400 (by cbv) ?_
  have hp := prod12 k1 k2 k3 k4
  have hm : zb .mul .i64 r c = r * c := z_mul hz (by omega) (by omega)
  rw [decide_eq_true k1, decide_eq_true k2, decide_eq_true k3, decide_eq_true k4]
  refine W_cond (by cbv) (fun h => ?_) (fun h => ?_)
  · rw [z_neq hz, hln, hm] at h
    refine W_run ti_ok hz 400 (by cbv) ?_
    refine W_ret ti_ok rfl (by cbv) ?_
    refine .inr ?_
    rw [decide_eq_false (by simpa using h)]
    rfl
  · rw [z_neq hz, hln, hm] at h
    rw [decide_eq_true (by simpa using h)]
    refine W_run ti_ok hz 400 (by cbv) ?_
    refine W_call (by cbv) (by kernel_rfl) (ca) ?_
    rintro t rfl
    refine W_run ti_ok hz 400 (by cbv) ?_
    refine W_ret ti_ok rfl (by cbv) ?_
    exact .inl rfl
set_option maxHeartbeats 4000000 in
theorem ct_sIsMatrix (r c : Int) (L : List It) (hL : ∀ x ∈ L, okI x) (hn : L.length ≤ 1000000) : Ct Try.prog 20 [mtT r c L] (fun t => t = .q (isM r c L)) := by
  have ca := ct_l14Known r c L hL hn
  have c1 := ct_l1In r 0 12
  have c2 := ct_l1In c 0 12
  refine Ct.bool ?_
  have e : isM r c L = ((decide (0 ≤ r) && decide (r ≤ 12)) && (decide (0 ≤ c) && decide (c ≤ 12)) && decide ((L.length : Int) = r * c) && L.all isN) := by
    unfold isM
    simp only [Bool.and_assoc]
  rw [e]
  unfold mtT at ca ⊢
  obtain ⟨zb, zc, zs, zl, zn, zt, zp, zg, zv, zx, zm, hz⟩ := Vm.zE
  have hln : zl (L.map itK) = (L.length : Int) := by rw [z_len hz]; simp
  obtain ⟨I, hI⟩ := hide (L.map itK)
  rw [← hI] at ca hln ⊢
  obtain ⟨b, hb⟩ := hide (L.all isN)
  rw [← hb] at ca ⊢
  obtain ⟨b1, hb1⟩ := hide (decide (0 ≤ r) && decide (r ≤ 12))
  obtain ⟨b2, hb2⟩ := hide (decide (0 ≤ c) && decide (c ≤ 12))
  rw [← hb1] at c1 ⊢
  rw [← hb2] at c2 ⊢
  refine Ct_of_W Try.func20 rfl (Nat.le_of_ble_eq_true rfl) fun w0 Z0 => ?_
  refine W_run ti_ok hz 400 (by cbv) ?_
  refine W_call (by cbv) (by kernel_rfl) (c1) ?_
  rintro t rfl
  refine W_run ti_ok hz 400 (by cbv) ?_
  cases b1 with
  | false =>
    refine W_bool 7 (by cbv) (show _ = true by rw [z_not hz]; rfl) ?_
    refine W_run ti_ok hz 400 (by cbv) ?_
    refine W_ret ti_ok rfl (by cbv) ?_
    exact .inr rfl
  | true =>
  refine W_bool 7 (by cbv) (show _ = false by rw [z_not hz]; rfl) ?_
  refine W_run ti_ok hz 400 (by cbv) ?_
  refine W_call (by cbv) (by kernel_rfl) (c2) ?_
  rintro t rfl
  refine W_run ti_ok hz 400 (by cbv) ?_
  cases b2 with
  | false =>
    refine W_bool 13 (by cbv) (show _ = true by rw [z_not hz]; rfl) ?_
    refine W_run ti_ok hz 400 (by cbv) ?_
    refine W_ret ti_ok rfl (by cbv) ?_
    exact .inr rfl
  | true =>
  refine W_bool 13 (by cbv) (show _ = false by rw [z_not hz]; rfl) ?_
  refine W_run ti_ok hz 400 (by cbv) ?_
  have hb1 := hb1.symm
  have hb2 := hb2.symm
  simp only [Bool.and_eq_true, decide_eq_true_eq] at hb1 hb2
  have hp := prod12 hb1.1 hb1.2 hb2.1 hb2.2
  have hm : zb .mul .i64 r c = r * c := z_mul hz (by omega) (by omega)
  refine W_cond (by cbv) (fun h => ?_) (fun h => ?_)
  · rw [z_neq hz, hln, hm] at h
    refine W_run ti_ok hz 400 (by cbv) ?_
    refine W_ret ti_ok rfl (by cbv) ?_
    refine .inr ?_
    rw [decide_eq_false (by simpa using h)]
    rfl
  · rw [z_neq hz, hln, hm] at h
    rw [decide_eq_true (by simpa using h)]
    refine W_run ti_ok hz 400 (by cbv) ?_
    refine W_call (by cbv) (by kernel_rfl) (ca) ?_
    rintro t rfl
    refine W_run ti_ok hz 400 (by cbv) ?_
    refine W_ret ti_ok rfl (by cbv) ?_
    exact .inl rfl
set_option maxHeartbeats 4000000 in
theorem ct_cellAt (r : Int) (Cn i j : Nat) (L : List It) (x : It) (hi : i ≤ 1000) (hj : j ≤ 1000) (hc : Cn ≤ 12) (hx : L[i * Cn + j]? = some x) : Ct Try.prog 23 [mtT r (Cn : Int) L, .c (.i .i64 (i : Int)), .c (.i .i64 (j : Int))] (fun t => t = itT x) := by
  unfold mtT
  have hp : i * Cn ≤ 1000 * 12 := Nat.mul_le_mul hi hc
  obtain ⟨k, hk⟩ := hide (i * Cn + j)
  rw [← hk] at hx
  have hxI : (L.map itK)[k]? = some (itK x) := by rw [List.getElem?_map, hx]; rfl
  obtain ⟨I, hI⟩ := hide (L.map itK)
  rw [← hI] at hxI ⊢
  obtain ⟨c, hc'⟩ := hide (Cn : Int)
  obtain ⟨a, ha⟩ := hide (i : Int)
  obtain ⟨b, hb⟩ := hide (j : Int)
  rw [← hc', ← ha, ← hb]
  have hac : a * c = ((i * Cn : Nat) : Int) := by rw [ha, hc']; simp
  obtain ⟨p, hp'⟩ := hide (a * c)
  obtain ⟨n, d⟩ := x
  obtain ⟨zb, zc, zs, zl, zn, zt, zp, zg, zv, zx, zm, hz⟩ := Vm.zE
  have h1 : zb .mul .i64 a c = p := by rw [z_mul hz (by omega) (by omega), hp']
  have h2 : zb .add .i64 p b = (k : Int) := by rw [z_add hz (by omega) (by omega)]; omega
  obtain ⟨ik, hik⟩ := hide (k : Int)
  rw [← hik] at h2
  refine Ct_of_W Try.func23 rfl (Nat.le_of_ble_eq_true rfl) fun w0 Z0 => ?_
  refine W_run ti_ok hz 400 (by cbv) ?_
  rw [h1, h2]
  refine W_val (by cbv) (by cbv) (Val_elem ti_ok (by cbv) k hik hxI rfl) ?_
  refine W_run ti_ok hz 400 (by cbv) ?_
  refine W_ret ti_ok rfl (by cbv) ?_
  rfl
end Go.Proofs.Ytconhpilbndpkaa
