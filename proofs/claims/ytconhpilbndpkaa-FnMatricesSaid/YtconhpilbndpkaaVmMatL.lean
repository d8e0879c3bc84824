/-
  Contracts on trees: the null space.
-/
import Derived.Test.YtconhpilbndpkaaVmMatK
import Derived.Test.YtconhpilbndpkaaMatNul
namespace Go.Proofs.Ytconhpilbndpkaa
set_option maxRecDepth 100000
open Go.RowKit Go.Proofs.Ytconhpilbndpkaa.Vm
set_option linter.unusedVariables false

def inC (x : Int) : List C := [C.i .i64 x]
theorem inL_get {l : List Nat} {k c : Nat} (h : l[k]? = some c) : (inL l)[k]? = some [C.i .i64 (c : Int)] := by
  unfold inL
  rw [List.getElem?_map, h]; rfl
theorem redP_ok {R C : Nat} : ∀ (n col : Nat) (M : Mx) (piv : List Nat) (M' : Mx) (piv' : List Nat), redP R C n col M piv = some (M', piv') → (∀ a b, okI (M a b)) → ∀ a b, okI (M' a b)
  | 0, col, M, piv, M', piv', h, h1 => by injection h with h; injection h with h _; subst h; exact h1
  | n + 1, col, M, piv, M', piv', h, h1 => by
    rw [redP] at h
    split at h
    · split at h
      · exact redP_ok n (col + 1) M piv M' piv' h h1
      · split at h
        · exact redP_ok n (col + 1) _ _ M' piv' h (okM_step h1 _ _ _)
        · cases h
    · injection h with h; injection h with h _; subst h; exact h1
theorem hokR {R Cn : Nat} {L : List It} {M : Mx} {piv : List Nat} (hred : redP R Cn Cn 0 (cel L Cn) [] = some (M, piv)) (hlen : L.length = R * Cn) (hall : ∀ x ∈ L, isN x = true) : ∀ i j, i < R → j < Cn → okI (M i j) := fun i j _ _ =>
  redP_ok _ _ _ _ _ _ hred (fun a b => by
    unfold cel
    cases hx : L[a * Cn + b]? with
    | none => exact okI_zero
    | some x => exact isN_ok (hall x (List.mem_of_getElem? hx))) i j
set_option maxHeartbeats 64000000 in
theorem ct_NullSpace (R Cn : Nat) (L : List It) (hm : isM R Cn L = true) (M : Mx) (piv : List Nat) (hred : redP R Cn Cn 0 (cel L Cn) [] = some (M, piv)) (hpb : ∀ j ∈ piv, j < Cn) :
    Ct Try.prog 12 [mtT R Cn L] (fun t => t = .tu [mtT Cn (freeL (rof piv piv.length) Cn).length (gridL (nulF M (rof piv piv.length) (freeL (rof piv piv.length) Cn)) (freeL (rof piv piv.length) Cn).length Cn), .c (.b true)]) := by
  have cR := ct_ReduceRows R Cn L hm
  rw [hred] at cR
  obtain ⟨R', Cn', eR, eC, hR, hC, hlen, hall⟩ := isM_nat hm
  have eR : R = R' := by omega
  have eC : Cn = Cn' := by omega
  subst eR eC
  have hpl := redP_len _ _ _ _ _ _ hred (Nat.zero_le _) (Nat.zero_le _)
  have hpl : piv.length ≤ R ∧ piv.length ≤ Cn := ⟨hpl.1, by omega⟩
  have c1 := ct_intItem 1 (by omega) (by omega)
  have c0 := ct_intItem 0 (by omega) (by omega)
  have hfb : ∀ j, 0 ≤ rof piv piv.length j → ∃ t, t < R ∧ rof piv piv.length j = (t : Int) := fun j h => by
    obtain ⟨t, q1, q2, q3⟩ := (rof_bound piv piv.length j).2.2 h
    exact ⟨t, by omega, q2⟩
  have hfl := freeL_length (rof piv piv.length) Cn
  have hfj := freeL_lt (rof piv piv.length) Cn
  -- the cells of the reduced matrix are numbers or missing
  have hMk : ∀ o, o = (gridL M Cn R).map itK → ∀ i j x, i < R → j < Cn → x = M i j → ∀ ik jk : Int, ik = i → jk = j → Ct Try.prog 23 [.ag [.c (.i .i64 (R : Int)), .c (.i .i64 (Cn : Int)), .c (.sl o)], .c (.i .i64 ik), .c (.i .i64 jk)] (fun t => t = itT x) := fun o ho i j x hi hj hx ik jk hik hjk =>
    cellM ho hR hC rfl rfl hik hjk hi hj hx
  have hokM : ∀ i j, i < R → j < Cn → okI (M i j) := hokR hred hlen hall
  refine Ct.weak (R := fun t => ∃ u, u = (gridL (nulF M (rof piv piv.length) (freeL (rof piv piv.length) Cn)) (freeL (rof piv piv.length) Cn).length Cn).map itK ∧ t = .tu [.ag [.c (.i .i64 Cn), .c (.i .i64 ((freeL (rof piv piv.length) Cn).length : Int)), .c (.sl u)], .c (.b true)]) ?_ fun t ⟨u, hu, h⟩ => ⟨_, rfl, by rw [h, hu]; exact Le.refl _⟩
  unfold mtT at cR ⊢
  obtain ⟨IL, hIL⟩ := hide (L.map itK)
  rw [← hIL] at cR ⊢
  obtain ⟨r, hr⟩ := hide (R : Int)
  obtain ⟨c, hc⟩ := hide (Cn : Int)
  rw [← hr, ← hc] at cR hMk
  rw [← hr, ← hc]
  clear hIL hall hlen hm hred
  obtain ⟨zb, zc, zs, zl, zn, zt, zp, zg, zv, zx, zm, hz⟩ := Vm.zE
  refine Ct_of_W Try.func12 rfl (Nat.le_of_ble_eq_true rfl) fun w0 Z0 => ?_
  refine W_run ti_ok hz 400 (by cbv) ?_
  refine W_call (by cbv) (by kernel_rfl) (cR) ?_
  rintro t ⟨pv, o, hpv, ho, rfl⟩
  have hMk := hMk o ho
  have hlen : zl pv = (piv.length : Int) := by rw [z_len hz, hpv, inL_length]
  obtain ⟨np, hnp⟩ := hide (zl pv)
  refine W_run ti_ok hz 400 (by cbv) ?_
  refine W_make ti_ok (by cbv) Cn hc hc (by omega) ?_
  obtain ⟨els, hels⟩ := hide (List.replicate Cn [C.i IntKind.i64 0])
  rw [← hels]
  refine W_run ti_ok hz 400 (by cbv) ?_
  rw [show Int.ofNat Cn = c from hc.symm]
  refine W_keep [1, 2, 3, 4, 5, 7, 8, 30, 31, 32] [0, 1, 2, 3] 4 (by cbv) (by cbv) ?_
  refine W_loopS (fun n' a m => ∃ (k : Nat) (ik : Int) (els : List (List C)), k ≤ Cn ∧ n' = Cn - k ∧ ik = (k : Int) ∧ els = rowL (fun j => inC (if j < k then -1 else 0)) Cn ∧ a = [(1, T.pt 0 0), (2, T.pt 1 0), (3, T.c (C.b false)), (4, T.pt 2 0), (5, T.c (C.sl pv)), (7, T.nil), (8, T.rw 3 Cn Cn), (30, T.rw 3 Cn Cn), (31, T.c (C.i IntKind.i64 c)), (32, T.c (C.i IntKind.i64 ik))] ∧ m = [(0, Obj.box [T.c (C.i IntKind.i64 r), T.c (C.i IntKind.i64 c), T.c (C.sl IL)]), (1, Obj.box [T.c (C.i IntKind.i64 0), T.c (C.i IntKind.i64 0), T.nil]), (2, Obj.box [T.c (C.i IntKind.i64 r), T.c (C.i IntKind.i64 c), T.c (C.sl o)]), (3, Obj.row els Cn)]) Cn
    (fun a m => ∃ (els : List (List C)), els = rowL (fun j => inC (rof piv 0 j)) Cn ∧ a = [(1, T.pt 0 0), (2, T.pt 1 0), (3, T.c (C.b false)), (4, T.pt 2 0), (5, T.c (C.sl pv)), (7, T.nil), (8, T.rw 3 Cn Cn)] ∧ m = [(0, Obj.box [T.c (C.i IntKind.i64 r), T.c (C.i IntKind.i64 c), T.c (C.sl IL)]), (1, Obj.box [T.c (C.i IntKind.i64 0), T.c (C.i IntKind.i64 0), T.nil]), (2, Obj.box [T.c (C.i IntKind.i64 r), T.c (C.i IntKind.i64 c), T.c (C.sl o)]), (3, Obj.row els Cn)]) 4 ⟨0, 0, els, Nat.zero_le _, rfl, rfl, by rw [hels, rowL_rep]; exact rowL_congr _ (fun i _ => rfl), by cbv, by cbv⟩ ?_ ?_
  · clear hels
    rintro n' a m ⟨k, ik, els, hk, hn', hik, hels, rfl, rfl⟩
    refine W_run ti_ok hz 400 (by cbv) ?_
    refine W_cond (by cbv) (fun h => ?_) (fun h => ?_)
    rotate_left
    · rw [z_lss hz] at h
      have h := of_decide_eq_false h
      have e : k = Cn := by omega
      refine W_run ti_ok hz 400 (by cbv) ?_
      refine W_fin [1, 2, 3, 4, 5, 7, 8] [0, 1, 2, 3] (by cbv) (by cbv) ⟨els, ?_, by cbv, by cbv⟩
      rw [hels]
      exact rowL_congr _ fun i hi => by rw [if_pos (by omega)]; rfl
    rw [z_lss hz] at h
    have h := of_decide_eq_true h
    have hlt : k < Cn := by omega
    have e1 : els[k]? = some (inC 0) := by rw [hels, rowL_get _ _ _ hlt, if_neg (by omega)]
    obtain ⟨els2, hE⟩ := hide (els.set k (inC (-1)))
    have e2 : els2 = rowL (fun j => inC (if j < k + 1 then -1 else 0)) Cn := by
      rw [hE, hels, rowL_set hlt]
      refine rowL_congr _ fun i hi => ?_
      by_cases h1 : i = k
      · rw [if_pos h1, if_pos (by omega)]
      · rw [if_neg h1]
        by_cases h2 : i < k
        · rw [if_pos h2, if_pos (by omega)]
        · rw [if_neg h2, if_neg (by omega)]
    unfold inC at e1 hE
    refine W_run ti_ok hz 400 (by cbv) ?_
    refine W_val (by cbv) (by cbv) (Val_rwAt ti_ok (by cbv) k hik hlt) ?_
    refine W_run ti_ok hz 400 (by cbv) ?_
    refine W_peSt ti_ok (by cbv) (by cbv) (by cbv) (by cbv) e1 rfl (by rfl) (by rfl) ?_
    rw [← hE]
    refine W_run ti_ok hz 400 (by cbv) ?_
    obtain ⟨ik1, hik1⟩ := hide (ik + 1)
    have hadd : zb .add .i64 ik 1 = ik1 := by rw [z_add hz (by omega) (by omega), hik1]
    rw [hadd]
    exact W_inv [1, 2, 3, 4, 5, 7, 8, 30, 31, 32] [0, 1, 2, 3] (Cn - (k + 1)) (by omega) (by cbv) (by cbv) ⟨k + 1, ik1, els2, hlt, rfl, by rw [hik1, hik]; rfl, e2, by cbv, by cbv⟩
  clear hels
  rintro a m ⟨els, hels, rfl, rfl⟩
  refine W_run ti_ok hz 400 (by cbv) ?_
  rw [← hnp]
  refine W_keep [1, 2, 3, 4, 7, 8, 39, 40, 41] [0, 1, 2, 3] 4 (by cbv) (by cbv) ?_
  refine W_loopS (fun n' a m => ∃ (k : Nat) (ik : Int) (els : List (List C)), k ≤ piv.length ∧ n' = piv.length - k ∧ ik = (k : Int) ∧ els = rowL (fun j => inC (rof piv k j)) Cn ∧ a = [(1, T.pt 0 0), (2, T.pt 1 0), (3, T.c (C.b false)), (4, T.pt 2 0), (7, T.nil), (8, T.rw 3 Cn Cn), (39, T.c (C.sl pv)), (40, T.c (C.i IntKind.i64 np)), (41, T.c (C.i IntKind.i64 ik))] ∧ m = [(0, Obj.box [T.c (C.i IntKind.i64 r), T.c (C.i IntKind.i64 c), T.c (C.sl IL)]), (1, Obj.box [T.c (C.i IntKind.i64 0), T.c (C.i IntKind.i64 0), T.nil]), (2, Obj.box [T.c (C.i IntKind.i64 r), T.c (C.i IntKind.i64 c), T.c (C.sl o)]), (3, Obj.row els Cn)]) piv.length
    (fun a m => ∃ (els : List (List C)), els = rowL (fun j => inC (rof piv piv.length j)) Cn ∧ a = [(1, T.pt 0 0), (2, T.pt 1 0), (3, T.c (C.b false)), (4, T.pt 2 0), (7, T.nil), (8, T.rw 3 Cn Cn)] ∧ m = [(0, Obj.box [T.c (C.i IntKind.i64 r), T.c (C.i IntKind.i64 c), T.c (C.sl IL)]), (1, Obj.box [T.c (C.i IntKind.i64 0), T.c (C.i IntKind.i64 0), T.nil]), (2, Obj.box [T.c (C.i IntKind.i64 r), T.c (C.i IntKind.i64 c), T.c (C.sl o)]), (3, Obj.row els Cn)]) 4 ⟨0, 0, els, Nat.zero_le _, rfl, rfl, hels, by cbv, by cbv⟩ ?_ ?_
  · clear hels
    rintro n' a m ⟨k, ik, els, hk, hn', hik, hels, rfl, rfl⟩
    refine W_run ti_ok hz 400 (by cbv) ?_
    refine W_cond (by cbv) (fun h => ?_) (fun h => ?_)
    rotate_left
    · rw [z_lss hz] at h
      have h := of_decide_eq_false h
      have e : k = piv.length := by omega
      refine W_run ti_ok hz 400 (by cbv) ?_
      exact W_fin [1, 2, 3, 4, 7, 8] [0, 1, 2, 3] (by cbv) (by cbv) ⟨els, by rw [hels, e], by cbv, by cbv⟩
    rw [z_lss hz] at h
    have h := of_decide_eq_true h
    have hlt : k < piv.length := by omega
    obtain ⟨j, hj⟩ : ∃ j, piv[k]? = some j := ⟨_, List.getElem?_eq_getElem hlt⟩
    have hjC := hpb j (List.mem_of_getElem? hj)
    have hpk : pv[k]? = some [C.i IntKind.i64 (j : Int)] := by rw [hpv]; exact inL_get hj
    have e1 : els[j]? = some (inC (rof piv k j)) := by rw [hels, rowL_get _ _ _ hjC]
    obtain ⟨v0, hv0⟩ := hide (rof piv k j)
    rw [← hv0] at e1
    obtain ⟨els2, hE⟩ := hide (els.set j (inC ik))
    have e2 : els2 = rowL (fun j => inC (rof piv (k + 1) j)) Cn := by
      rw [hE, hels, rowL_set hjC]
      refine rowL_congr _ fun i hi => ?_
      rw [rof, hj]
      by_cases h1 : i = j
      · rw [if_pos h1, if_pos (by rw [h1]), hik]
      · rw [if_neg h1, if_neg fun e => h1 (by injection e with e; exact e.symm)]
    unfold inC at e1 hE
    obtain ⟨jj, hjj⟩ := hide (j : Int)
    rw [← hjj] at hpk
    refine W_run ti_ok hz 400 (by cbv) ?_
    refine W_val (by cbv) (by cbv) (Val_elem ti_ok (by cbv) k hik hpk rfl) ?_
    refine W_run ti_ok hz 400 (by cbv) ?_
    refine W_val (by cbv) (by cbv) (Val_rwAt ti_ok (by cbv) j hjj hjC) ?_
    refine W_run ti_ok hz 400 (by cbv) ?_
    refine W_peSt ti_ok (by cbv) (by cbv) (by cbv) (by cbv) e1 rfl (by rfl) (by rfl) ?_
    rw [← hE]
    refine W_run ti_ok hz 400 (by cbv) ?_
    obtain ⟨ik1, hik1⟩ := hide (ik + 1)
    have hadd : zb .add .i64 ik 1 = ik1 := by rw [z_add hz (by omega) (by omega), hik1]
    rw [hadd]
    exact W_inv [1, 2, 3, 4, 7, 8, 39, 40, 41] [0, 1, 2, 3] (piv.length - (k + 1)) (by omega) (by cbv) (by cbv) ⟨k + 1, ik1, els2, hlt, rfl, by rw [hik1, hik]; rfl, e2, by cbv, by cbv⟩
  clear hels
  rintro a m ⟨els, hels, rfl, rfl⟩
  obtain ⟨f, hf⟩ := hide (rof piv piv.length)
  rw [← hf] at hels hfb hfl hfj
  rw [← hf]
  clear hf hpv hpb hlen hnp np hpl pv
  refine W_run ti_ok hz 400 (by cbv) ?_
  rw [show Int.ofNat Cn = c from hc.symm]
  refine W_own 7 1 (by cbv) ?_
  refine W_keep [1, 2, 3, 4, 7, 8, 51, 52, 53] [0, 1, 2, 3, 4] 5 (by cbv) (by cbv) ?_
  refine W_loopS (fun n' a m => ∃ (k : Nat) (ik : Int) (fv : List (List C)), k ≤ Cn ∧ n' = Cn - k ∧ ik = (k : Int) ∧ fv = inL (freeL f k) ∧ a = [(1, T.pt 0 0), (2, T.pt 1 0), (3, T.c (C.b false)), (4, T.pt 2 0), (7, T.sk 4 fv), (8, T.rw 3 Cn Cn), (51, T.rw 3 Cn Cn), (52, T.c (C.i IntKind.i64 c)), (53, T.c (C.i IntKind.i64 ik))] ∧ m = [(0, Obj.box [T.c (C.i IntKind.i64 r), T.c (C.i IntKind.i64 c), T.c (C.sl IL)]), (1, Obj.box [T.c (C.i IntKind.i64 0), T.c (C.i IntKind.i64 0), T.nil]), (2, Obj.box [T.c (C.i IntKind.i64 r), T.c (C.i IntKind.i64 c), T.c (C.sl o)]), (3, Obj.row els Cn), (4, Obj.tok 1 fv)]) Cn
    (fun a m => ∃ (fv : List (List C)), fv = inL (freeL f Cn) ∧ a = [(1, T.pt 0 0), (2, T.pt 1 0), (3, T.c (C.b false)), (4, T.pt 2 0), (7, T.sk 4 fv), (8, T.rw 3 Cn Cn)] ∧ m = [(0, Obj.box [T.c (C.i IntKind.i64 r), T.c (C.i IntKind.i64 c), T.c (C.sl IL)]), (1, Obj.box [T.c (C.i IntKind.i64 0), T.c (C.i IntKind.i64 0), T.nil]), (2, Obj.box [T.c (C.i IntKind.i64 r), T.c (C.i IntKind.i64 c), T.c (C.sl o)]), (3, Obj.row els Cn), (4, Obj.tok 1 fv)]) 5 ⟨0, 0, [], Nat.zero_le _, rfl, rfl, rfl, by cbv, by cbv⟩ ?_ ?_
  · rintro n' a m ⟨k, ik, fv, hk, hn', hik, hfv, rfl, rfl⟩
    refine W_run ti_ok hz 400 (by cbv) ?_
    refine W_cond (by cbv) (fun h => ?_) (fun h => ?_)
    rotate_left
    · rw [z_lss hz] at h
      have h := of_decide_eq_false h
      have e : k = Cn := by omega
      refine W_run ti_ok hz 400 (by cbv) ?_
      exact W_fin [1, 2, 3, 4, 7, 8] [0, 1, 2, 3, 4] (by cbv) (by cbv) ⟨fv, by rw [hfv, e], by cbv, by cbv⟩
    rw [z_lss hz] at h
    have h := of_decide_eq_true h
    have hlt : k < Cn := by omega
    have e1 : els[k]? = some (inC (f k)) := by rw [hels, rowL_get _ _ _ hlt]
    have hst : freeL f (k + 1) = if f k < 0 then freeL f k ++ [k] else freeL f k := rfl
    have hfvl : fv.length ≤ 12 := by rw [hfv, inL_length]; have := freeL_length f k; omega
    obtain ⟨v, hv⟩ := hide (f k)
    rw [← hv] at e1 hst
    unfold inC at e1
    refine W_run ti_ok hz 400 (by cbv) ?_
    refine W_val (by cbv) (by cbv) (Val_rwAt ti_ok (by cbv) k hik hlt) ?_
    refine W_run ti_ok hz 400 (by cbv) ?_
    refine W_peLd ti_ok (by cbv) (by cbv) (by cbv) (by cbv) e1 rfl (by cbv) ?_
    refine W_run ti_ok hz 400 (by cbv) ?_
    refine W_cond (by cbv) (fun h => ?_) (fun h => ?_)
    · rw [z_lss hz] at h
      have h := of_decide_eq_true h
      rw [if_pos h] at hst
      refine W_run ti_ok hz 400 (by cbv) ?_
      refine W_app ti_ok (by cbv) (by cbv) (by simp) (by simp; omega) ?_
      obtain ⟨fv2, hfv2⟩ := hide (fv ++ [[C.i IntKind.i64 ik]])
      rw [← hfv2]
      refine W_run ti_ok hz 400 (by cbv) ?_
      obtain ⟨ik1, hik1⟩ := hide (ik + 1)
      have hadd : zb .add .i64 ik 1 = ik1 := by rw [z_add hz (by omega) (by omega), hik1]
      rw [hadd]
      exact W_inv [1, 2, 3, 4, 7, 8, 51, 52, 53] [0, 1, 2, 3, 4] (Cn - (k + 1)) (by omega) (by cbv) (by cbv) ⟨k + 1, ik1, fv2, hlt, rfl, by rw [hik1, hik]; rfl, by rw [hfv2, hst, inL_push, hfv, hik], by cbv, by cbv⟩
    · rw [z_lss hz] at h
      have h := of_decide_eq_false h
      rw [if_neg h] at hst
      refine W_run ti_ok hz 400 (by cbv) ?_
      obtain ⟨ik1, hik1⟩ := hide (ik + 1)
      have hadd : zb .add .i64 ik 1 = ik1 := by rw [z_add hz (by omega) (by omega), hik1]
      rw [hadd]
      exact W_inv [1, 2, 3, 4, 7, 8, 51, 52, 53] [0, 1, 2, 3, 4] (Cn - (k + 1)) (by omega) (by cbv) (by cbv) ⟨k + 1, ik1, fv, hlt, rfl, by rw [hik1, hik]; rfl, by rw [hst, hfv], by cbv, by cbv⟩
  rintro a m ⟨fv, hfv, rfl, rfl⟩
  obtain ⟨fr, hfr⟩ := hide (freeL f Cn)
  rw [← hfr] at hfv hfl hfj
  rw [← hfr]
  obtain ⟨fc, hfc⟩ := hide (fr.length : Int)
  have hzf : zl fv = fc := by rw [z_len hz, hfv, inL_length, hfc]
  have hnl : ∀ i t j, fr[t]? = some j → nulF M f fr i t = if 0 ≤ f i then negI (M (f i).toNat j) else if i = j then wh 1 else wh 0 := fun i t j h => by unfold nulF; rw [h]; rfl
  obtain ⟨g, hg⟩ := hide (nulF M f fr)
  have hnl : ∀ i t j, fr[t]? = some j → g i t = if 0 ≤ f i then negI (M (f i).toNat j) else if i = j then wh 1 else wh 0 := fun i t j h => by rw [hg]; exact hnl i t j h
  rw [← hg, ← hfc]
  clear hg hfr
  have hFC := mul_le144 (Nat.le_refl Cn) hC (show fr.length ≤ 12 by omega)
  refine W_run ti_ok hz 400 (by cbv) ?_
  rw [hzf]
  refine W_ownB 5 2 3 (by cbv) (by cbv) ?_
  refine W_keep [1, 2, 3, 4, 7, 8, 14, 15] [0, 1, 2, 3, 4, 5, 6] 7 (by cbv) (by cbv) ?_
  refine W_loopS (fun n' a m => ∃ (i : Nat) (ik : Int) (u : List (List C)), i ≤ Cn ∧ n' = Cn - i ∧ ik = (i : Int) ∧ u = (gridL g fr.length i).map itK ∧ a = [(1, T.pt 0 0), (2, T.pt 1 0), (3, T.c (C.b false)), (4, T.pt 2 0), (7, T.sk 4 fv), (8, T.rw 3 Cn Cn), (14, T.pt 5 0), (15, T.c (C.i IntKind.i64 ik))] ∧ m = [(0, Obj.box [T.c (C.i IntKind.i64 r), T.c (C.i IntKind.i64 c), T.c (C.sl IL)]), (1, Obj.box [T.c (C.i IntKind.i64 0), T.c (C.i IntKind.i64 0), T.nil]), (2, Obj.box [T.c (C.i IntKind.i64 r), T.c (C.i IntKind.i64 c), T.c (C.sl o)]), (3, Obj.row els Cn), (4, Obj.tok 1 fv), (5, Obj.box [T.c (C.i IntKind.i64 c), T.c (C.i IntKind.i64 fc), T.sk 6 u]), (6, Obj.tok 3 u)]) Cn
    (fun a m => ∃ (u : List (List C)), u = (gridL g fr.length Cn).map itK ∧ a = [(1, T.pt 0 0), (2, T.pt 1 0), (3, T.c (C.b false)), (4, T.pt 2 0), (7, T.sk 4 fv), (8, T.rw 3 Cn Cn), (14, T.pt 5 0)] ∧ m = [(0, Obj.box [T.c (C.i IntKind.i64 r), T.c (C.i IntKind.i64 c), T.c (C.sl IL)]), (1, Obj.box [T.c (C.i IntKind.i64 0), T.c (C.i IntKind.i64 0), T.nil]), (2, Obj.box [T.c (C.i IntKind.i64 r), T.c (C.i IntKind.i64 c), T.c (C.sl o)]), (3, Obj.row els Cn), (4, Obj.tok 1 fv), (5, Obj.box [T.c (C.i IntKind.i64 c), T.c (C.i IntKind.i64 fc), T.sk 6 u]), (6, Obj.tok 3 u)]) 7 ⟨0, 0, [], Nat.zero_le _, rfl, rfl, rfl, by cbv, by cbv⟩ ?_ ?_
  · rintro n' a m ⟨i, ik, u, hi, hn', hik, hu, rfl, rfl⟩
    refine W_run ti_ok hz 400 (by cbv) ?_
    refine W_cond (by cbv) (fun h => ?_) (fun h => ?_)
    rotate_left
    · rw [z_lss hz] at h
      have h := of_decide_eq_false h
      have e : i = Cn := by omega
      refine W_run ti_ok hz 400 (by cbv) ?_
      exact W_fin [1, 2, 3, 4, 7, 8, 14] [0, 1, 2, 3, 4, 5, 6] (by cbv) (by cbv) ⟨u, by rw [hu, e], by cbv, by cbv⟩
    rw [z_lss hz] at h
    have h := of_decide_eq_true h
    have hi' : i < Cn := by omega
    have e1 : els[i]? = some (inC (f i)) := by rw [hels, rowL_get _ _ _ hi']
    have hfbi := hfb i
    have hnli := hnl i
    obtain ⟨v, hv⟩ := hide (f i)
    rw [← hv] at e1 hfbi hnli
    unfold inC at e1
    refine W_run ti_ok hz 400 (by cbv) ?_
    rw [hzf]
    refine W_keep [1, 2, 3, 4, 7, 8, 14, 15, 76, 77, 78] [0, 1, 2, 3, 4, 5, 6] 7 (by cbv) (by cbv) ?_
    refine W_loopS (fun n' a m => ∃ (j : Nat) (jk : Int) (u : List (List C)), j ≤ fr.length ∧ n' = fr.length - j ∧ jk = (j : Int) ∧ u = (gridL g fr.length i ++ rowL (g i) j).map itK ∧ a = [(1, T.pt 0 0), (2, T.pt 1 0), (3, T.c (C.b false)), (4, T.pt 2 0), (7, T.sk 4 fv), (8, T.rw 3 Cn Cn), (14, T.pt 5 0), (15, T.c (C.i IntKind.i64 ik)), (76, T.sk 4 fv), (77, T.c (C.i IntKind.i64 fc)), (78, T.c (C.i IntKind.i64 jk))] ∧ m = [(0, Obj.box [T.c (C.i IntKind.i64 r), T.c (C.i IntKind.i64 c), T.c (C.sl IL)]), (1, Obj.box [T.c (C.i IntKind.i64 0), T.c (C.i IntKind.i64 0), T.nil]), (2, Obj.box [T.c (C.i IntKind.i64 r), T.c (C.i IntKind.i64 c), T.c (C.sl o)]), (3, Obj.row els Cn), (4, Obj.tok 1 fv), (5, Obj.box [T.c (C.i IntKind.i64 c), T.c (C.i IntKind.i64 fc), T.sk 6 u]), (6, Obj.tok 3 u)]) fr.length
      (fun a m => ∃ (u : List (List C)), u = (gridL g fr.length (i + 1)).map itK ∧ a = [(1, T.pt 0 0), (2, T.pt 1 0), (3, T.c (C.b false)), (4, T.pt 2 0), (7, T.sk 4 fv), (8, T.rw 3 Cn Cn), (14, T.pt 5 0), (15, T.c (C.i IntKind.i64 ik))] ∧ m = [(0, Obj.box [T.c (C.i IntKind.i64 r), T.c (C.i IntKind.i64 c), T.c (C.sl IL)]), (1, Obj.box [T.c (C.i IntKind.i64 0), T.c (C.i IntKind.i64 0), T.nil]), (2, Obj.box [T.c (C.i IntKind.i64 r), T.c (C.i IntKind.i64 c), T.c (C.sl o)]), (3, Obj.row els Cn), (4, Obj.tok 1 fv), (5, Obj.box [T.c (C.i IntKind.i64 c), T.c (C.i IntKind.i64 fc), T.sk 6 u]), (6, Obj.tok 3 u)]) 7 ⟨0, 0, u, Nat.zero_le _, rfl, rfl, by rw [hu]; simp [rowL], by cbv, by cbv⟩ ?_ ?_
    · clear hu
      rintro n' a m ⟨j, jk, u, hj, hn', hjk, hu, rfl, rfl⟩
      have hul : u.length ≤ 156 := by
        rw [hu, List.length_map, List.length_append, gridL_length, rowL_length]
        have := mul_le144 hi hC (show fr.length ≤ 12 by omega)
        omega
      refine W_run ti_ok hz 400 (by cbv) ?_
      refine W_cond (by cbv) (fun h => ?_) (fun h => ?_)
      rotate_left
      · rw [z_lss hz] at h
        have h := of_decide_eq_false h
        have e : j = fr.length := by omega
        refine W_run ti_ok hz 400 (by cbv) ?_
        exact W_fin [1, 2, 3, 4, 7, 8, 14, 15] [0, 1, 2, 3, 4, 5, 6] (by cbv) (by cbv) ⟨u, by rw [hu, e, gridL], by cbv, by cbv⟩
      rw [z_lss hz] at h
      have h := of_decide_eq_true h
      have hj' : j < fr.length := by omega
      obtain ⟨q, hq⟩ : ∃ q, fr[j]? = some q := ⟨_, List.getElem?_eq_getElem hj'⟩
      have hqC := (hfj q (List.mem_of_getElem? hq)).1
      have hq2 : fv[j]? = some [C.i IntKind.i64 (q : Int)] := by rw [hfv]; exact inL_get hq
      have hgv := hnli j q hq
      have hstep : (gridL g fr.length i ++ rowL (g i) (j + 1)).map itK = u ++ [itK (g i j)] := by
        rw [hu, rowL, ← List.append_assoc, List.map_append (l₂ := [g i j])]; rfl
      obtain ⟨qq, hqq⟩ := hide (q : Int)
      rw [← hqq] at hq2
      refine W_run ti_ok hz 400 (by cbv) ?_
      refine W_val (by cbv) (by cbv) (Val_elem ti_ok (by cbv) j hjk hq2 rfl) ?_
      refine W_run ti_ok hz 400 (by cbv) ?_
      refine W_val (by cbv) (by cbv) (Val_rwAt ti_ok (by cbv) i hik hi') ?_
      refine W_run ti_ok hz 400 (by cbv) ?_
      refine W_peLd ti_ok (by cbv) (by cbv) (by cbv) (by cbv) e1 rfl (by cbv) ?_
      refine W_run ti_ok hz 400 (by cbv) ?_
      refine W_cut (fun a m => a = [(1, T.pt 0 0), (2, T.pt 1 0), (3, T.c (C.b false)), (4, T.pt 2 0), (7, T.sk 4 fv), (8, T.rw 3 Cn Cn), (14, T.pt 5 0), (15, T.c (C.i IntKind.i64 ik)), (76, T.sk 4 fv), (77, T.c (C.i IntKind.i64 fc)), (78, T.c (C.i IntKind.i64 jk))] ∧ m = [(0, Obj.box [T.c (C.i IntKind.i64 r), T.c (C.i IntKind.i64 c), T.c (C.sl IL)]), (1, Obj.box [T.c (C.i IntKind.i64 0), T.c (C.i IntKind.i64 0), T.nil]), (2, Obj.box [T.c (C.i IntKind.i64 r), T.c (C.i IntKind.i64 c), T.c (C.sl o)]), (3, Obj.row els Cn), (4, Obj.tok 1 fv), (5, Obj.box [T.c (C.i IntKind.i64 c), T.c (C.i IntKind.i64 fc), T.sk 6 (u ++ [itK (g i j)])]), (6, Obj.tok 3 (u ++ [itK (g i j)]))]) 7 ?_ ?_
      · obtain ⟨gv, hgv'⟩ := hide (g i j)
        rw [← hgv'] at hgv hstep
        rw [← hgv']
        obtain ⟨u2, hu2⟩ := hide (u ++ [itK gv])
        rw [← hu2]
        refine W_cond (by cbv) (fun h => ?_) (fun h => ?_)
        · rw [z_geq hz] at h
          have h := of_decide_eq_true h
          rw [if_pos h] at hgv
          obtain ⟨tr, ht1, ht2⟩ := hfbi h
          have etn : v.toNat = tr := by omega
          rw [etn] at hgv
          obtain ⟨x, hx⟩ := hide (M tr q)
          have cA := hMk tr q x ht1 hqC hx v qq ht2 hqq
          have cB := ct_NegateNumber x (by rw [hx]; exact hokM tr q ht1 hqC)
          rw [← hx] at hgv
          rw [← hgv] at cB
          clear hx hgv hgv' hstep
          obtain ⟨x1, x2⟩ := x
          obtain ⟨g1, g2⟩ := gv
          refine W_run ti_ok hz 400 (by cbv) ?_
          refine W_draw mixedB [(2, 0), (1, 1), (1, 2), (2, 3), (2, 4), (2, 5), (1, 6), (2, 7), (0, 8), (0, 9), (0, 10), (0, 11), (2, 12), (0, 13)] [13] (by kernel_rfl) ?_
          refine D_run ti_ok hz 400 (by cbv) ?_
          refine D_val (by cbv) (by cbv) (by cbv) (Val_rwAt ti_ok (by cbv) i hik hi') ?_
          refine D_peLd1 ti_ok (by cbv) (by cbv) (by cbv) (by cbv) (by cbv) e1 rfl (by cbv) ?_
          refine D_run ti_ok hz 400 (by cbv) ?_
          refine D_call (by cbv) (by cbv) (by kernel_rfl) (cA) ?_
          rintro t rfl
          refine D_run ti_ok hz 400 (by cbv) ?_
          refine D_call (by cbv) (by cbv) (by kernel_rfl) (cB) ?_
          rintro t rfl
          refine D_run ti_ok hz 400 (by cbv) ?_
          refine D_app ti_ok (by cbv) (by cbv) (by cbv) (by simp) (by simp; omega) ?_
          rw [show u ++ [[C.i IntKind.i64 g1, C.i IntKind.i64 g2, C.s []]] = u2 from hu2.symm]
          refine D_run ti_ok hz 400 (by cbv) ?_
          refine D_last ti_ok hz (by cbv) (by cbv) (by cbv) (by cbv) (by cbv) ?_
          exact W_fin [1, 2, 3, 4, 7, 8, 14, 15, 76, 77, 78] [0, 1, 2, 3, 4, 5, 6] (by cbv) (by cbv) ⟨by cbv, by cbv⟩
        · rw [z_geq hz] at h
          have h := of_decide_eq_false h
          rw [if_neg h] at hgv
          refine W_run ti_ok hz 400 (by cbv) ?_
          refine W_cond (by cbv) (fun h => ?_) (fun h => ?_)
          · rw [z_eql hz] at h
            have h : ik = qq := by simpa using h
            rw [if_pos (by omega)] at hgv
            rw [hgv] at hu2
            refine W_run ti_ok hz 400 (by cbv) ?_
            refine W_draw mixedB [(2, 0), (1, 1), (0, 2), (0, 3), (0, 4), (2, 5), (0, 6)] [6] (by kernel_rfl) ?_
            refine D_run ti_ok hz 400 (by cbv) ?_
            refine D_call (by cbv) (by cbv) (by kernel_rfl) (c1) ?_
            rintro t rfl
            refine D_run ti_ok hz 400 (by cbv) ?_
            refine D_app ti_ok (by cbv) (by cbv) (by cbv) (by simp) (by simp; omega) ?_
            rw [show u ++ [[C.i IntKind.i64 1, C.i IntKind.i64 1, C.s []]] = u2 from hu2.symm]
            refine D_run ti_ok hz 400 (by cbv) ?_
            refine D_last ti_ok hz (by cbv) (by cbv) (by cbv) (by cbv) (by cbv) ?_
            exact W_fin [1, 2, 3, 4, 7, 8, 14, 15, 76, 77, 78] [0, 1, 2, 3, 4, 5, 6] (by cbv) (by cbv) ⟨by cbv, by cbv⟩
          · rw [z_eql hz] at h
            have h : ¬ ik = qq := by simpa using h
            rw [if_neg (by omega)] at hgv
            rw [hgv] at hu2
            refine W_run ti_ok hz 400 (by cbv) ?_
            refine W_draw mixedB [(2, 0), (1, 1), (0, 2), (0, 3), (0, 4), (2, 5), (0, 6)] [6] (by kernel_rfl) ?_
            refine D_run ti_ok hz 400 (by cbv) ?_
            refine D_call (by cbv) (by cbv) (by kernel_rfl) (c0) ?_
            rintro t rfl
            refine D_run ti_ok hz 400 (by cbv) ?_
            refine D_app ti_ok (by cbv) (by cbv) (by cbv) (by simp) (by simp; omega) ?_
            rw [show u ++ [[C.i IntKind.i64 0, C.i IntKind.i64 1, C.s []]] = u2 from hu2.symm]
            refine D_run ti_ok hz 400 (by cbv) ?_
            refine D_last ti_ok hz (by cbv) (by cbv) (by cbv) (by cbv) (by cbv) ?_
            exact W_fin [1, 2, 3, 4, 7, 8, 14, 15, 76, 77, 78] [0, 1, 2, 3, 4, 5, 6] (by cbv) (by cbv) ⟨by cbv, by cbv⟩
      rintro a m ⟨rfl, rfl⟩
      rw [← hstep]
      obtain ⟨u2, hu2⟩ := hide ((gridL g fr.length i ++ rowL (g i) (j + 1)).map itK)
      rw [← hu2]
      refine W_run ti_ok hz 400 (by cbv) ?_
      obtain ⟨jk1, hjk1⟩ := hide (jk + 1)
      have hadd : zb .add .i64 jk 1 = jk1 := by rw [z_add hz (by omega) (by omega), hjk1]
      rw [hadd]
      exact W_inv [1, 2, 3, 4, 7, 8, 14, 15, 76, 77, 78] [0, 1, 2, 3, 4, 5, 6] (fr.length - (j + 1)) (by omega) (by cbv) (by cbv) ⟨j + 1, jk1, u2, hj', rfl, by rw [hjk1, hjk]; rfl, hu2, by cbv, by cbv⟩
    clear hu
    rintro a m ⟨u, hu, rfl, rfl⟩
    refine W_run ti_ok hz 400 (by cbv) ?_
    obtain ⟨ik1, hik1⟩ := hide (ik + 1)
    have hadd : zb .add .i64 ik 1 = ik1 := by rw [z_add hz (by omega) (by omega), hik1]
    rw [hadd]
    exact W_inv [1, 2, 3, 4, 7, 8, 14, 15] [0, 1, 2, 3, 4, 5, 6] (Cn - (i + 1)) (by omega) (by cbv) (by cbv) ⟨i + 1, ik1, u, hi', rfl, by rw [hik1, hik]; rfl, hu, by cbv, by cbv⟩
  rintro a m ⟨u, hu, rfl, rfl⟩
  refine W_run ti_ok hz 400 (by cbv) ?_
  refine W_ret ti_ok rfl (by cbv) ?_
  exact ⟨u, hu, rfl⟩
end Go.Proofs.Ytconhpilbndpkaa
