/-
  The law of matrices, on trees.
-/
import Derived.Test.YtconhpilbndpkaaVmMatP
import Derived.Test.YtconhpilbndpkaaMatLawB
import Derived.Test.YtconhpilbndpkaaVmMatR
namespace Go.Proofs.Ytconhpilbndpkaa
set_option maxRecDepth 100000
open Go.RowKit Go.Proofs.Ytconhpilbndpkaa.Vm
set_option linter.unusedVariables false

theorem Val_neB {X : Ctx} {a : Slots} {m : Mem} {o : Oper} {t : TypeId} {xo yo : Operand} {x y r : Bool} (hq : bopQ a o = some (.neq, t, xo, yo)) (hx : evT a xo = .c (.b x)) (hy : evT a yo = .c (.b y)) (ht : X.P.underlying t = some .bool) (hr : r = (x != y)) : Val X a m o (.c (.b r)) :=
  Val_binop hq fun Z ρ u v h1 h2 => by
    rw [hx] at h1
    rw [hy] at h2
    rw [h1.cI.boolI, h2.cI.boolI, hr]
    refine ⟨.bool (x != y), fun w => ?_, .c _ _ (.b _)⟩
    cases x <;> cases y <;> simp [eqGuard, binOp, run_equal_bool w t _ _ ht]
theorem Val_eqB {X : Ctx} {a : Slots} {m : Mem} {o : Oper} {t : TypeId} {xo yo : Operand} {x y r : Bool} (hq : bopQ a o = some (.eql, t, xo, yo)) (hx : evT a xo = .c (.b x)) (hy : evT a yo = .c (.b y)) (ht : X.P.underlying t = some .bool) (hr : r = (x == y)) : Val X a m o (.c (.b r)) :=
  Val_binop hq fun Z ρ u v h1 h2 => by
    rw [hx] at h1
    rw [hy] at h2
    rw [h1.cI.boolI, h2.cI.boolI, hr]
    refine ⟨.bool (x == y), fun w => ?_, .c _ _ (.b _)⟩
    cases x <;> cases y <;> simp [eqGuard, binOp, run_equal_bool w t _ _ ht]
def byK (n : Nat) : List C := [C.i .u8 (n : Int)]
theorem byteL (l : List Nat) (hl : l.length ≤ 1048576) : ByteL (l.map byK) := ⟨by rw [List.length_map]; exact hl, fun cs h => by
  obtain ⟨x, _, rfl⟩ := List.mem_map.1 h
  exact ⟨_, rfl⟩⟩
set_option maxHeartbeats 64000000 in
theorem law_mat (l : List Nat) : Ct Try.prog 3 [.c (.sl (l.map byK))] TruO := by
  by_cases hl : l.length ≤ 1048576
  rotate_left
  · have c0 := ct_big (l.map byK)
    rw [List.length_map, decide_eq_true (by omega)] at c0
    obtain ⟨zb, zc, zs, zl, zn, zt, zp, zg, zv, zx, zm, hz⟩ := Vm.zE
    obtain ⟨B, hB⟩ := hide (l.map byK)
    rw [← hB] at c0 ⊢
    refine Ct_of_W Try.func3 rfl (Nat.le_of_ble_eq_true rfl) fun w0 Z0 => ?_
    refine W_run ti_ok hz 400 (by cbv) ?_
    refine W_call (by cbv) (by kernel_rfl) (c0) ?_
    rintro t rfl
    refine W_run ti_ok hz 400 (by cbv) ?_
    refine W_bool 27 (by cbv) (rfl) ?_
    refine W_run ti_ok hz 400 (by cbv) ?_
    refine W_ret ti_ok rfl (by cbv) ?_
    exact .inl rfl
  have c0 := ct_big (l.map byK)
  rw [List.length_map, decide_eq_false (by omega)] at c0
  have cD := ct_DrawReduceRows (l.map byK) (byteL l hl)
  obtain ⟨zb, zc, zs, zl, zn, zt, zp, zg, zv, zx, zm, hz⟩ := Vm.zE
  obtain ⟨B, hB⟩ := hide (l.map byK)
  rw [← hB] at c0 cD ⊢
  clear hB hl
  refine Ct_of_W Try.func3 rfl (Nat.le_of_ble_eq_true rfl) fun w0 Z0 => ?_
  refine W_run ti_ok hz 400 (by cbv) ?_
  refine W_call (by cbv) (by kernel_rfl) (c0) ?_
  rintro t rfl
  refine W_run ti_ok hz 400 (by cbv) ?_
  refine W_bool 27 (by cbv) (rfl) ?_
  refine W_run ti_ok hz 400 (by cbv) ?_
  refine W_call (by cbv) (by kernel_rfl) (cD) ?_
  rintro t ⟨r, c, L, hr, hc, hL, hLl, rfl⟩
  have s0 : Ct Try.prog 8 [.ag [.c (.i .i64 0), .c (.i .i64 0), .c (.sl [])], .ag [.c (.i .i64 0), .c (.i .i64 0), .c (.sl [])]] (fun t => t = .q true) := ct_sameMatrices 0 0 [] (by decide)
  have i0 : Ct Try.prog 9 [.c (.sl []), .c (.sl [])] (fun t => t = .q true) := ct_sameInts [] (by decide)
  by_cases hm : isM r c L = true
  rotate_left
  · have hm : isM r c L = false := by simpa using hm
    have cR1 := ct_ReduceRows0 r c L hL (by omega) hm
    have cR2 := ct_sReduceRows0 r c L hL (by omega) hm
    have cT1 := ct_Transpose0 r c L hL (by omega) hm
    have cT2 := ct_sTranspose0 r c L hL (by omega) hm
    have cT3 : Ct Try.prog 10 [.ag [.c (.i .i64 0), .c (.i .i64 0), .c (.sl [])]] (fun t => t = .tu [.ag [.c (.i .i64 0), .c (.i .i64 0), .c (.sl [])], .c (.b true)]) := ct_Transpose 0 0 [] (by simp) (by decide)
    unfold mtT at cR1 cR2 cT1 cT2 ⊢
    obtain ⟨I, hI⟩ := hide (L.map itK)
    rw [← hI] at cR1 cR2 cT1 cT2 ⊢
    refine W_run ti_ok hz 400 (by cbv) ?_
    refine W_call (by cbv) (by kernel_rfl) (cR1) ?_
    rintro t rfl
    refine W_run ti_ok hz 400 (by cbv) ?_
    refine W_call (by cbv) (by kernel_rfl) (cR2) ?_
    rintro t rfl
    refine W_run ti_ok hz 400 (by cbv) ?_
    refine W_val (by cbv) (by cbv) (Val_neB (r := false) (by cbv) (by cbv) (by cbv) (by kernel_rfl) rfl) ?_
    refine W_run ti_ok hz 400 (by cbv) ?_
    refine W_call (by cbv) (by kernel_rfl) (s0) ?_
    rintro t rfl
    refine W_run ti_ok hz 400 (by cbv) ?_
    refine W_bool 51 (by cbv) (show _ = false by rw [z_not hz]; rfl) ?_
    refine W_run ti_ok hz 400 (by cbv) ?_
    refine W_call (by cbv) (by kernel_rfl) (i0) ?_
    rintro t rfl
    refine W_run ti_ok hz 400 (by cbv) ?_
    refine W_bool 56 (by cbv) (show _ = false by rw [z_not hz]; rfl) ?_
    refine W_run ti_ok hz 400 (by cbv) ?_
    refine W_call (by cbv) (by kernel_rfl) (cT1) ?_
    rintro t rfl
    refine W_run ti_ok hz 400 (by cbv) ?_
    refine W_call (by cbv) (by kernel_rfl) (cT2) ?_
    rintro t rfl
    refine W_run ti_ok hz 400 (by cbv) ?_
    refine W_call (by cbv) (by kernel_rfl) (cT3) ?_
    rintro t rfl
    refine W_run ti_ok hz 400 (by cbv) ?_
    refine W_val (by cbv) (by cbv) (Val_neB (r := false) (by cbv) (by cbv) (by cbv) (by kernel_rfl) rfl) ?_
    refine W_run ti_ok hz 400 (by cbv) ?_
    refine W_call (by cbv) (by kernel_rfl) (s0) ?_
    rintro t rfl
    refine W_run ti_ok hz 400 (by cbv) ?_
    refine W_bool 81 (by cbv) (show _ = false by rw [z_not hz]; rfl) ?_
    refine W_run ti_ok hz 400 (by cbv) ?_
    refine W_ret ti_ok rfl (by cbv) ?_
    exact .inl rfl
  obtain ⟨R, Cn, rfl, rfl, hR, hC, hlen, hall⟩ := isM_nat hm
  have h144 := mul_le144 (Nat.le_refl R) hR hC
  have cR1 := ct_ReduceRows R Cn L hm
  have cR2 := ct_sReduceRows R Cn L hm
  have cT1 := ct_Transpose R Cn L hL hm
  have cT2 := ct_sTranspose R Cn L hL hm
  have hTl : (trL L R Cn).length = Cn * R := gridL_length _ _ _
  have hTn : ∀ x ∈ trL L R Cn, isN x = true := fun x hx => by
    obtain ⟨i, j, hi, hj, rfl⟩ := grid_mem hx
    exact hall _ (List.mem_of_getElem? (cel_get hlen hj hi))
  have hTm : isM Cn R (trL L R Cn) = true := by
    unfold isM
    rw [decide_eq_true (by omega), decide_eq_true (by omega), decide_eq_true (by omega), decide_eq_true (by omega), decide_eq_true (by rw [hTl]; exact_mod_cast rfl), List.all_eq_true.2 hTn]
    rfl
  have cT3 := ct_Transpose Cn R (trL L R Cn) (fun x h => isN_ok (hTn x h)) hTm
  rw [show trL (trL L R Cn) Cn R = L from tr_tr hlen] at cT3
  have h144' := mul_le144 (Nat.le_refl Cn) hC hR
  have sT := ct_sameMatrices Cn R (trL L R Cn) (by omega)
  have sM := ct_sameMatrices R Cn L (by omega)
  have hNc : ∀ a b, a < R → b < Cn → isN (cel L Cn a b) = true := fun a b ha hb => hall _ (List.mem_of_getElem? (cel_get hlen ha hb))
  obtain ⟨res, hres⟩ := hide (redP R Cn Cn 0 (cel L Cn) [])
  rw [← hres] at cR1 cR2
  cases res with
  | none =>
    unfold mtT at cR1 cR2 cT1 cT2 cT3 sT sM ⊢
    obtain ⟨I, hI⟩ := hide (L.map itK)
    obtain ⟨J, hJ⟩ := hide ((trL L R Cn).map itK)
    rw [← hI] at cR1 cR2 cT1 cT2 cT3 sM ⊢
    rw [← hJ] at cT1 cT2 cT3 sT
    obtain ⟨r, hr'⟩ := hide (R : Int)
    obtain ⟨c, hc'⟩ := hide (Cn : Int)
    rw [← hr', ← hc'] at cR1 cR2 cT1 cT2 cT3 sT sM ⊢
    clear hI hJ hTm hTn hTl hm
    refine W_run ti_ok hz 400 (by cbv) ?_
    refine W_call (by cbv) (by kernel_rfl) (cR1) ?_
    intro t ht
    have ht : t = row0 := ht
    subst ht
    refine W_run ti_ok hz 400 (by cbv) ?_
    refine W_call (by cbv) (by kernel_rfl) (cR2) ?_
    intro t ht
    have ht : t = row0 := ht
    subst ht
    refine W_run ti_ok hz 400 (by cbv) ?_
    refine W_val (by cbv) (by cbv) (Val_neB (r := false) (by cbv) (by cbv) (by cbv) (by kernel_rfl) rfl) ?_
    refine W_run ti_ok hz 400 (by cbv) ?_
    refine W_call (by cbv) (by kernel_rfl) (s0) ?_
    rintro t rfl
    refine W_run ti_ok hz 400 (by cbv) ?_
    refine W_bool 51 (by cbv) (show _ = false by rw [z_not hz]; rfl) ?_
    refine W_run ti_ok hz 400 (by cbv) ?_
    refine W_call (by cbv) (by kernel_rfl) (i0) ?_
    rintro t rfl
    refine W_run ti_ok hz 400 (by cbv) ?_
    refine W_bool 56 (by cbv) (show _ = false by rw [z_not hz]; rfl) ?_
    refine W_run ti_ok hz 400 (by cbv) ?_
    refine W_call (by cbv) (by kernel_rfl) (cT1) ?_
    rintro t rfl
    refine W_run ti_ok hz 400 (by cbv) ?_
    refine W_call (by cbv) (by kernel_rfl) (cT2) ?_
    rintro t rfl
    refine W_run ti_ok hz 400 (by cbv) ?_
    refine W_call (by cbv) (by kernel_rfl) (cT3) ?_
    rintro t rfl
    refine W_run ti_ok hz 400 (by cbv) ?_
    refine W_val (by cbv) (by cbv) (Val_neB (r := false) (by cbv) (by cbv) (by cbv) (by kernel_rfl) rfl) ?_
    refine W_run ti_ok hz 400 (by cbv) ?_
    refine W_call (by cbv) (by kernel_rfl) (sT) ?_
    rintro t rfl
    refine W_run ti_ok hz 400 (by cbv) ?_
    refine W_bool 81 (by cbv) (show _ = false by rw [z_not hz]; rfl) ?_
    refine W_run ti_ok hz 400 (by cbv) ?_
    refine W_call (by cbv) (by kernel_rfl) (sM) ?_
    rintro t rfl
    refine W_run ti_ok hz 400 (by cbv) ?_
    refine W_bool 93 (by cbv) (show _ = false by rw [z_not hz]; rfl) ?_
    refine W_run ti_ok hz 400 (by cbv) ?_
    refine W_ret ti_ok rfl (by cbv) ?_
    exact .inl rfl
  | some p =>
    obtain ⟨M, piv⟩ := p
    have hred := hres.symm
    obtain ⟨col', hRF, hcl, hd⟩ := redP_RF Cn 0 _ _ _ _ (by omega) (RF.init hNc) hred
    have hpl := hRF.len
    -- the reduced matrix
    have hXl : (gridL M Cn R).length = R * Cn := gridL_length _ _ _
    have hXn : ∀ x ∈ gridL M Cn R, isN x = true := fun x hx => by
      obtain ⟨i, j, hi, hj, rfl⟩ := grid_mem hx
      exact hRF.num i j hi hj
    have hXm : isM R Cn (gridL M Cn R) = true := by
      unfold isM
      rw [decide_eq_true (by omega), decide_eq_true (by omega), decide_eq_true (by omega), decide_eq_true (by omega), decide_eq_true (by rw [hXl]; exact_mod_cast rfl), List.all_eq_true.2 hXn]
      rfl
    have cR3 := ct_ReduceRows R Cn (gridL M Cn R) hXm
    obtain ⟨M2, hM2, hM2e⟩ := redP_again hRF hcl hd Cn 0 0 (cel (gridL M Cn R) Cn) (by omega) (Nat.zero_le _) (fun s j e => ⟨fun h => absurd h (Nat.not_lt_zero _), fun h => absurd h (Nat.not_lt_zero _)⟩) (fun a b ha hb => by
      unfold cel
      rw [gridL_get M Cn R a b ha hb]; rfl)
    rw [List.take_zero] at hM2
    rw [hM2] at cR3
    have hX2 : gridL M2 Cn R = gridL M Cn R := gridL_congr R hM2e
    have s1 := ct_sameMatrices R Cn (gridL M Cn R) (by omega)
    have i1 := ct_sameInts piv (by omega)
    -- the null space
    have hsz := null_size hRF hcl
    have hpb : ∀ j ∈ piv, j < Cn := fun j hj => by
      obtain ⟨u, hu, he⟩ := List.getElem_of_mem hj
      have := hRF.lt u j (by rw [List.getElem?_eq_getElem hu, he])
      omega
    have cN := ct_NullSpace R Cn L hm M piv hred hpb
    obtain ⟨F, hF⟩ := hide (freeL (rof piv piv.length) Cn).length
    rw [← hF] at cN hsz
    obtain ⟨Nn, hNn⟩ := hide (gridL (nulF M (rof piv piv.length) (freeL (rof piv piv.length) Cn)) F Cn)
    rw [← hNn] at cN
    have hNl : Nn.length = Cn * F := by rw [hNn, gridL_length]
    have hNa : ∀ x ∈ Nn, isN x = true := fun x hx => by
      rw [hNn] at hx
      obtain ⟨i, j, hi, hj, rfl⟩ := grid_mem hx
      exact nul_isN hRF hcl (by omega)
    have hNm : isM Cn F Nn = true := by
      unfold isM
      rw [decide_eq_true (by omega), decide_eq_true (by omega), decide_eq_true (by omega), decide_eq_true (by omega), decide_eq_true (by rw [hNl]; exact_mod_cast rfl), List.all_eq_true.2 hNa]
      rfl
    have cM1 := ct_Multiply R Cn F L Nn hm hNm
    have cM2 := ct_sMultiply2 R Cn F L Nn hm hNm
    have hzero := null_zero hlen hall hred hF hNn
    have hWl : (gridL (mulF L Nn Cn F) F R).length = R * F := gridL_length _ _ _
    obtain ⟨b, hb⟩ := hide ((gridL (mulF L Nn Cn F) F R).all isN)
    rw [← hb] at cM1 cM2 hzero
    obtain ⟨Wl, hW⟩ := hide (gridL (mulF L Nn Cn F) F R)
    rw [← hW] at cM1 hzero hWl
    have hWb : Wl.length ≤ 144 := by rw [hWl]; exact mul_le144 (Nat.le_refl R) hR (by omega)
    have cM1 := cM1.mono (R' := fun t => (b = true ∧ t = .tu [mtT R F Wl, .c (.b true)]) ∨ (b = false ∧ t = .tu [mt0, .c (.b false)])) (fun t ht => by
      cases b
      · exact .inr ⟨rfl, ht⟩
      · exact .inl ⟨rfl, ht⟩)
    have hmt : mt0 = .ag [.c (.i .i64 0), .c (.i .i64 0), .c (.sl [])] := rfl
    rw [hmt] at cM1
    unfold RowT at cR1 cR2 cR3
    simp only at cR1 cR2 cR3
    rw [hX2] at cR3
    unfold mtT at cR1 cR2 cR3 cT1 cT2 cT3 sT sM s1 cN cM1 cM2 ⊢
    obtain ⟨I, hI⟩ := hide (L.map itK)
    obtain ⟨J, hJ⟩ := hide ((trL L R Cn).map itK)
    obtain ⟨Xi, hXi⟩ := hide ((gridL M Cn R).map itK)
    obtain ⟨Ni, hNi⟩ := hide (Nn.map itK)
    obtain ⟨Wi, hWi⟩ := hide (Wl.map itK)
    obtain ⟨pv, hpv⟩ := hide (inL piv)
    rw [← hI] at cR1 cR2 cT1 cT2 cT3 sM cN cM1 cM2 ⊢
    rw [← hJ] at cT1 cT2 cT3 sT
    rw [← hXi] at cR1 cR2 cR3 s1
    rw [← hNi] at cN cM1 cM2
    rw [← hWi] at cM1
    rw [← hpv] at cR1 cR2 cR3 i1
    obtain ⟨r, hr'⟩ := hide (R : Int)
    obtain ⟨c, hc'⟩ := hide (Cn : Int)
    obtain ⟨f, hf'⟩ := hide (F : Int)
    rw [← hr', ← hc'] at cR1 cR2 cR3 cT1 cT2 cT3 sT sM s1 cN ⊢
    rw [← hr', ← hc', ← hf'] at cM1 cM2
    rw [← hf'] at cN
    have hpvl : zl pv = (piv.length : Int) := by rw [z_len hz, hpv, inL_length]
    have hWz : zl Wi = (Wl.length : Int) := by rw [z_len hz, hWi]; simp
    have hsum : zb .add .i64 f (zl pv) = c := by rw [z_add hz (by omega) (by omega)]; omega
    have hWk : b = true → ∀ (k : Nat), k < Wl.length → ∃ d : Int, Wi[k]? = some [C.i .i64 0, C.i .i64 d, C.s []] := fun hbt k hk => by
      obtain ⟨x, hx⟩ : ∃ x, Wl[k]? = some x := ⟨_, List.getElem?_eq_getElem hk⟩
      have h0 := hzero hbt x (List.mem_of_getElem? hx)
      obtain ⟨x1, x2⟩ := x
      simp only at h0
      subst h0
      exact ⟨x2, by rw [hWi, List.getElem?_map, hx]; rfl⟩
    clear hI hJ hXi hNi hWi hTm hTn hTl hm hXm hXn hXl hNm hNa hNl hW hb hNn hred hres hRF hpb hM2 hM2e hX2 hzero
    refine W_run ti_ok hz 400 (by cbv) ?_
    refine W_call (by cbv) (by kernel_rfl) (cR1) ?_
    rintro t ⟨_, _, rfl, rfl, rfl⟩
    refine W_run ti_ok hz 400 (by cbv) ?_
    refine W_call (by cbv) (by kernel_rfl) (cR2) ?_
    rintro t ⟨_, _, rfl, rfl, rfl⟩
    refine W_run ti_ok hz 400 (by cbv) ?_
    refine W_val (by cbv) (by cbv) (Val_neB (r := false) (by cbv) (by cbv) (by cbv) (by kernel_rfl) rfl) ?_
    refine W_run ti_ok hz 400 (by cbv) ?_
    refine W_call (by cbv) (by kernel_rfl) (s1) ?_
    rintro t rfl
    refine W_run ti_ok hz 400 (by cbv) ?_
    refine W_bool 51 (by cbv) (show _ = false by rw [z_not hz]; rfl) ?_
    refine W_run ti_ok hz 400 (by cbv) ?_
    refine W_call (by cbv) (by kernel_rfl) (i1) ?_
    rintro t rfl
    refine W_run ti_ok hz 400 (by cbv) ?_
    refine W_bool 56 (by cbv) (show _ = false by rw [z_not hz]; rfl) ?_
    refine W_run ti_ok hz 400 (by cbv) ?_
    refine W_call (by cbv) (by kernel_rfl) (cT1) ?_
    rintro t rfl
    refine W_run ti_ok hz 400 (by cbv) ?_
    refine W_call (by cbv) (by kernel_rfl) (cT2) ?_
    rintro t rfl
    refine W_run ti_ok hz 400 (by cbv) ?_
    refine W_call (by cbv) (by kernel_rfl) (cT3) ?_
    rintro t rfl
    refine W_run ti_ok hz 400 (by cbv) ?_
    refine W_val (by cbv) (by cbv) (Val_neB (r := false) (by cbv) (by cbv) (by cbv) (by kernel_rfl) rfl) ?_
    refine W_run ti_ok hz 400 (by cbv) ?_
    refine W_call (by cbv) (by kernel_rfl) (sT) ?_
    rintro t rfl
    refine W_run ti_ok hz 400 (by cbv) ?_
    refine W_bool 81 (by cbv) (show _ = false by rw [z_not hz]; rfl) ?_
    refine W_run ti_ok hz 400 (by cbv) ?_
    refine W_call (by cbv) (by kernel_rfl) (sM) ?_
    rintro t rfl
    refine W_run ti_ok hz 400 (by cbv) ?_
    refine W_bool 93 (by cbv) (show _ = false by rw [z_not hz]; rfl) ?_
    refine W_run ti_ok hz 400 (by cbv) ?_
    refine W_call (by cbv) (by kernel_rfl) (cR3) ?_
    rintro t ⟨_, _, rfl, rfl, rfl⟩
    refine W_run ti_ok hz 400 (by cbv) ?_
    refine W_call (by cbv) (by kernel_rfl) (cN) ?_
    rintro t rfl
    refine W_run ti_ok hz 400 (by cbv) ?_
    refine W_call (by cbv) (by kernel_rfl) (s1) ?_
    rintro t rfl
    refine W_run ti_ok hz 400 (by cbv) ?_
    refine W_bool 115 (by cbv) (show _ = false by rw [z_not hz]; rfl) ?_
    refine W_run ti_ok hz 400 (by cbv) ?_
    refine W_call (by cbv) (by kernel_rfl) (i1) ?_
    rintro t rfl
    refine W_run ti_ok hz 400 (by cbv) ?_
    refine W_bool 121 (by cbv) (show _ = false by rw [z_not hz]; rfl) ?_
    refine W_run ti_ok hz 400 (by cbv) ?_
    refine W_bool 132 (by cbv) (show _ = false by rw [z_neq hz]; simp) ?_
    refine W_run ti_ok hz 400 (by cbv) ?_
    refine W_bool 141 (by cbv) (show _ = false by rw [z_neq hz, hsum]; simp) ?_
    refine W_run ti_ok hz 400 (by cbv) ?_
    refine W_call (by cbv) (by kernel_rfl) (cM1) ?_
    rintro t (⟨hbt, rfl⟩ | ⟨hbt, rfl⟩)
    · refine W_run ti_ok hz 400 (by cbv) ?_
      refine W_call (by cbv) (by kernel_rfl) (cM2) ?_
      rintro t ⟨x, y, z, rfl, hzz⟩
      subst hbt
      have hWk := hWk rfl
      rcases hzz with rfl | ⟨e, rfl⟩
      · skip
        refine W_run ti_ok hz 400 (by cbv) ?_
        refine W_keep [2, 21, 22, 24, 25] [8] 10 (by cbv) (by cbv) ?_
        refine W_loopS (fun n' a m => ∃ (k : Nat) (ik : Int), k ≤ Wl.length ∧ n' = Wl.length - k ∧ ik = (k : Int) ∧ a = [(2, T.c (C.b false)), (21, T.pt 8 0), (22, T.c (C.b true)), (24, T.c (C.b true)), (25, T.c (C.i IntKind.i64 ik))] ∧ m = [(8, Obj.box [T.c (C.i IntKind.i64 r), T.c (C.i IntKind.i64 f), T.c (C.sl Wi)])]) Wl.length
          (fun a m => a = [(2, T.c (C.b false)), (22, T.c (C.b true)), (24, T.c (C.b true))] ∧ m = []) 9 ⟨0, 0, Nat.zero_le _, rfl, rfl, by cbv, by cbv⟩ ?_ ?_
        · rintro n' a m ⟨k, ik, hk, hn', hik, rfl, rfl⟩
          refine W_run ti_ok hz 400 (by cbv) ?_
          refine W_cond (by cbv) (fun h => ?_) (fun h => ?_)
          rotate_left
          · refine W_run ti_ok hz 400 (by cbv) ?_
            exact W_fin [2, 22, 24] [] (by cbv) (by cbv) ⟨by cbv, by cbv⟩
          rw [z_lss hz, hWz] at h
          have h := of_decide_eq_true h
          obtain ⟨d, hd'⟩ := hWk k (by omega)
          refine W_run ti_ok hz 400 (by cbv) ?_
          refine W_val (by cbv) (by cbv) (Val_elem ti_ok (by cbv) k hik hd' rfl) ?_
          refine W_run ti_ok hz 400 (by cbv) ?_
          refine W_bool 170 (by cbv) (show _ = false by rw [z_neq hz]; rfl) ?_
          refine W_run ti_ok hz 400 (by cbv) ?_
          obtain ⟨ik1, hik1⟩ := hide (ik + 1)
          have hadd : zb .add .i64 ik 1 = ik1 := by rw [z_add hz (by omega) (by omega), hik1]
          rw [hadd]
          exact W_inv [2, 21, 22, 24, 25] [8] (Wl.length - (k + 1)) (by omega) (by cbv) (by cbv) ⟨k + 1, ik1, by omega, rfl, by rw [hik1, hik]; rfl, by cbv, by cbv⟩
        rintro a m ⟨rfl, rfl⟩
        refine W_run ti_ok hz 400 (by cbv) ?_
        refine W_val (by cbv) (by cbv) (Val_eqB (r := true) (by cbv) (by cbv) (by cbv) (by kernel_rfl) rfl) ?_
        refine W_run ti_ok hz 400 (by cbv) ?_
        refine W_ret ti_ok rfl (by cbv) ?_
        exact .inl rfl
      · skip
        refine W_run ti_ok hz 400 (by cbv) ?_
        refine W_keep [2, 21, 22, 24, 25] [8] 10 (by cbv) (by cbv) ?_
        refine W_loopS (fun n' a m => ∃ (k : Nat) (ik : Int), k ≤ Wl.length ∧ n' = Wl.length - k ∧ ik = (k : Int) ∧ a = [(2, T.c (C.b false)), (21, T.pt 8 0), (22, T.c (C.b true)), (24, T.c (C.b true)), (25, T.c (C.i IntKind.i64 ik))] ∧ m = [(8, Obj.box [T.c (C.i IntKind.i64 r), T.c (C.i IntKind.i64 f), T.c (C.sl Wi)])]) Wl.length
          (fun a m => a = [(2, T.c (C.b false)), (22, T.c (C.b true)), (24, T.c (C.b true))] ∧ m = []) 9 ⟨0, 0, Nat.zero_le _, rfl, rfl, by cbv, by cbv⟩ ?_ ?_
        · rintro n' a m ⟨k, ik, hk, hn', hik, rfl, rfl⟩
          refine W_run ti_ok hz 400 (by cbv) ?_
          refine W_cond (by cbv) (fun h => ?_) (fun h => ?_)
          rotate_left
          · refine W_run ti_ok hz 400 (by cbv) ?_
            exact W_fin [2, 22, 24] [] (by cbv) (by cbv) ⟨by cbv, by cbv⟩
          rw [z_lss hz, hWz] at h
          have h := of_decide_eq_true h
          obtain ⟨d, hd'⟩ := hWk k (by omega)
          refine W_run ti_ok hz 400 (by cbv) ?_
          refine W_val (by cbv) (by cbv) (Val_elem ti_ok (by cbv) k hik hd' rfl) ?_
          refine W_run ti_ok hz 400 (by cbv) ?_
          refine W_bool 170 (by cbv) (show _ = false by rw [z_neq hz]; rfl) ?_
          refine W_run ti_ok hz 400 (by cbv) ?_
          obtain ⟨ik1, hik1⟩ := hide (ik + 1)
          have hadd : zb .add .i64 ik 1 = ik1 := by rw [z_add hz (by omega) (by omega), hik1]
          rw [hadd]
          exact W_inv [2, 21, 22, 24, 25] [8] (Wl.length - (k + 1)) (by omega) (by cbv) (by cbv) ⟨k + 1, ik1, by omega, rfl, by rw [hik1, hik]; rfl, by cbv, by cbv⟩
        rintro a m ⟨rfl, rfl⟩
        refine W_run ti_ok hz 400 (by cbv) ?_
        refine W_val (by cbv) (by cbv) (Val_eqB (r := true) (by cbv) (by cbv) (by cbv) (by kernel_rfl) rfl) ?_
        refine W_run ti_ok hz 400 (by cbv) ?_
        refine W_ret ti_ok rfl (by cbv) ?_
        exact .inl rfl
    · refine W_run ti_ok hz 400 (by cbv) ?_
      refine W_call (by cbv) (by kernel_rfl) (cM2) ?_
      rintro t ⟨x, y, z, rfl, hzz⟩
      subst hbt
      rcases hzz with rfl | ⟨e, rfl⟩
      · skip
        refine W_run ti_ok hz 400 (by cbv) ?_
        refine W_keep [2, 21, 22, 24, 25] [8] 10 (by cbv) (by cbv) ?_
        refine W_loopS (fun n' a m => a = [(2, T.c (C.b false)), (21, T.pt 8 0), (22, T.c (C.b false)), (24, T.c (C.b false)), (25, T.c (C.i IntKind.i64 0))] ∧ m = [(8, Obj.box [T.c (C.i IntKind.i64 0), T.c (C.i IntKind.i64 0), T.c (C.sl [])])]) 0
          (fun a m => a = [(2, T.c (C.b false)), (22, T.c (C.b false)), (24, T.c (C.b false))] ∧ m = []) 9 ⟨by cbv, by cbv⟩ ?_ ?_
        · rintro n' a m ⟨rfl, rfl⟩
          refine W_run ti_ok hz 400 (by cbv) ?_
          exact W_fin [2, 22, 24] [] (by cbv) (by cbv) ⟨by cbv, by cbv⟩
        rintro a m ⟨rfl, rfl⟩
        refine W_run ti_ok hz 400 (by cbv) ?_
        refine W_val (by cbv) (by cbv) (Val_eqB (r := true) (by cbv) (by cbv) (by cbv) (by kernel_rfl) rfl) ?_
        refine W_run ti_ok hz 400 (by cbv) ?_
        refine W_ret ti_ok rfl (by cbv) ?_
        exact .inl rfl
      · skip
        refine W_run ti_ok hz 400 (by cbv) ?_
        refine W_keep [2, 21, 22, 24, 25] [8] 10 (by cbv) (by cbv) ?_
        refine W_loopS (fun n' a m => a = [(2, T.c (C.b false)), (21, T.pt 8 0), (22, T.c (C.b false)), (24, T.c (C.b false)), (25, T.c (C.i IntKind.i64 0))] ∧ m = [(8, Obj.box [T.c (C.i IntKind.i64 0), T.c (C.i IntKind.i64 0), T.c (C.sl [])])]) 0
          (fun a m => a = [(2, T.c (C.b false)), (22, T.c (C.b false)), (24, T.c (C.b false))] ∧ m = []) 9 ⟨by cbv, by cbv⟩ ?_ ?_
        · rintro n' a m ⟨rfl, rfl⟩
          refine W_run ti_ok hz 400 (by cbv) ?_
          exact W_fin [2, 22, 24] [] (by cbv) (by cbv) ⟨by cbv, by cbv⟩
        rintro a m ⟨rfl, rfl⟩
        refine W_run ti_ok hz 400 (by cbv) ?_
        refine W_val (by cbv) (by cbv) (Val_eqB (r := true) (by cbv) (by cbv) (by cbv) (by kernel_rfl) rfl) ?_
        refine W_run ti_ok hz 400 (by cbv) ?_
        refine W_ret ti_ok rfl (by cbv) ?_
        exact .inl rfl
end Go.Proofs.Ytconhpilbndpkaa
