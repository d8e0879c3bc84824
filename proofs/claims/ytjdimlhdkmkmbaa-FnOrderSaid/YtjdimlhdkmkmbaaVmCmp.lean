/-
  Contracts on trees: two elements compared (what impl.CompareVectors calls, on vectors of one element).
-/
import Derived.Test.YtjdimlhdkmkmbaaKSort
import Derived.Test.YtjdimlhdkmkmbaaKVq
namespace Go.Proofs.Ytjdimlhdkmkmbaa
set_option maxRecDepth 100000
open Go.ChangeShapes Go.WideShapes Go.ChangeAt Go.RowKit Go.Deep Go.Proofs.Ytjdimlhdkmkmbaa.Vm
set_option linter.unusedVariables false

theorem z_eqs {bi : BinOp → IntKind → Int → Int → Int} {ci : BinOp → Int → Int → Bool} {cs : BinOp → List UInt8 → List UInt8 → Bool} {ln : List (List C) → Int} {lns : List UInt8 → Int} {nt : Bool → Bool} {pk : Bool → Bool → Bool → Bool} {ng cv : IntKind → Int → Int} {mx mn : Int → Int → Int} (hz : (⟨bi, ci, cs, ln, lns, nt, pk, ng, cv, mx, mn⟩ : ZO) = realZ) (x y : List UInt8) : cs .eql x y = (x == y) := by
  rw [show cs = realZ.cs from congrArg ZO.cs hz]; rfl
/-- '<=' or '>=' -/
def opD (dec : Bool) : List UInt8 := if dec = true then [62, 61] else [60, 61]
set_option maxHeartbeats 4000000 in
theorem ct_isComparison (dec : Bool) : Ct Try.prog 73 [.c (.s (opD dec))] (fun t => t = .q true) := by
  obtain ⟨zb, zc, zs, zl, zn, zt, zp, zg, zv, zx, zm, hz⟩ := Vm.zE
  cases dec with
  | false =>
    unfold opD
    rw [if_neg (by decide)]
    refine Ct_of_W Try.func73 rfl (Nat.le_of_ble_eq_true rfl) fun w0 Z0 => ?_
    refine W_run ti_ok hz 400 (by cbv) ?_
    refine W_bool 5 (by cbv) (show _ = false by rw [z_eqs hz]; rfl) ?_
    refine W_run ti_ok hz 400 (by cbv) ?_
    refine W_bool 9 (by cbv) (show _ = false by rw [z_eqs hz]; rfl) ?_
    refine W_run ti_ok hz 400 (by cbv) ?_
    refine W_bool 13 (by cbv) (show _ = false by rw [z_eqs hz]; rfl) ?_
    refine W_run ti_ok hz 400 (by cbv) ?_
    refine W_bool 17 (by cbv) (show _ = true by rw [z_eqs hz]; rfl) ?_
    refine W_run ti_ok hz 400 (by cbv) ?_
    refine W_unb 2 (by cbv) ?_
    refine W_ret ti_ok rfl (by cbv) ?_
    rfl
  | true =>
    unfold opD
    rw [if_pos rfl]
    refine Ct_of_W Try.func73 rfl (Nat.le_of_ble_eq_true rfl) fun w0 Z0 => ?_
    refine W_run ti_ok hz 400 (by cbv) ?_
    refine W_bool 5 (by cbv) (show _ = false by rw [z_eqs hz]; rfl) ?_
    refine W_run ti_ok hz 400 (by cbv) ?_
    refine W_bool 9 (by cbv) (show _ = false by rw [z_eqs hz]; rfl) ?_
    refine W_run ti_ok hz 400 (by cbv) ?_
    refine W_bool 13 (by cbv) (show _ = false by rw [z_eqs hz]; rfl) ?_
    refine W_run ti_ok hz 400 (by cbv) ?_
    refine W_bool 17 (by cbv) (show _ = false by rw [z_eqs hz]; rfl) ?_
    refine W_run ti_ok hz 400 (by cbv) ?_
    refine W_bool 21 (by cbv) (show _ = false by rw [z_eqs hz]; rfl) ?_
    refine W_run ti_ok hz 400 (by cbv) ?_
    refine W_ret ti_ok rfl (by cbv) ?_
    rw [z_eqs hz]
    rfl
/-- does the comparison hold? -/
def cmpB (dec : Bool) (c : Int) : Bool := if dec = true then decide (0 ≤ c) else decide (c ≤ 0)
set_option maxHeartbeats 4000000 in
theorem ct_compared (dec : Bool) (c : Int) : Ct Try.prog 79 [.c (.s (opD dec)), .c (.i .i64 c)] (fun t => t = .q (cmpB dec c)) := by
  obtain ⟨zb, zc, zs, zl, zn, zt, zp, zg, zv, zx, zm, hz⟩ := Vm.zE
  cases dec with
  | false =>
    unfold opD cmpB
    rw [if_neg (by decide), if_neg (by decide)]
    refine Ct_of_W Try.func79 rfl (Nat.le_of_ble_eq_true rfl) fun w0 Z0 => ?_
    refine W_run ti_ok hz 400 (by cbv) ?_
    refine W_bool 6 (by cbv) (show _ = false by rw [z_eqs hz]; rfl) ?_
    refine W_run ti_ok hz 400 (by cbv) ?_
    refine W_bool 10 (by cbv) (show _ = false by rw [z_eqs hz]; rfl) ?_
    refine W_run ti_ok hz 400 (by cbv) ?_
    refine W_bool 14 (by cbv) (show _ = false by rw [z_eqs hz]; rfl) ?_
    refine W_run ti_ok hz 400 (by cbv) ?_
    refine W_bool 18 (by cbv) (show _ = true by rw [z_eqs hz]; rfl) ?_
    refine W_run ti_ok hz 400 (by cbv) ?_
    refine W_ret ti_ok rfl (by cbv) ?_
    rw [z_leq hz]
  | true =>
    unfold opD cmpB
    rw [if_pos rfl, if_pos rfl]
    refine Ct_of_W Try.func79 rfl (Nat.le_of_ble_eq_true rfl) fun w0 Z0 => ?_
    refine W_run ti_ok hz 400 (by cbv) ?_
    refine W_bool 6 (by cbv) (show _ = false by rw [z_eqs hz]; rfl) ?_
    refine W_run ti_ok hz 400 (by cbv) ?_
    refine W_bool 10 (by cbv) (show _ = false by rw [z_eqs hz]; rfl) ?_
    refine W_run ti_ok hz 400 (by cbv) ?_
    refine W_bool 14 (by cbv) (show _ = false by rw [z_eqs hz]; rfl) ?_
    refine W_run ti_ok hz 400 (by cbv) ?_
    refine W_bool 18 (by cbv) (show _ = false by rw [z_eqs hz]; rfl) ?_
    refine W_run ti_ok hz 400 (by cbv) ?_
    refine W_bool 22 (by cbv) (show _ = false by rw [z_eqs hz]; rfl) ?_
    refine W_run ti_ok hz 400 (by cbv) ?_
    refine W_ret ti_ok rfl (by cbv) ?_
    rw [z_geq hz]
theorem ct_boolItem (b : Bool) : Ct Try.prog 78 [.q b] (fun t => t = itT (wh (if b = true then 1 else 0))) := by
  obtain ⟨zb, zc, zs, zl, zn, zt, zp, zg, zv, zx, zm, hz⟩ := Vm.zE
  refine Ct_of_W Try.func78 rfl (Nat.le_of_ble_eq_true rfl) fun w0 Z0 => ?_
  refine W_run ti_ok hz 400 (by cbv) ?_
  refine W_cond (by cbv) (fun h => ?_) (fun h => ?_)
  · refine W_run ti_ok hz 400 (by cbv) ?_
    refine W_ret ti_ok rfl (by cbv) ?_
    rw [if_pos h]; rfl
  · refine W_run ti_ok hz 400 (by cbv) ?_
    refine W_ret ti_ok rfl (by cbv) ?_
    rw [if_neg (by rw [h]; decide)]; rfl
set_option maxHeartbeats 4000000 in
theorem ct_cmpF (dec : Bool) (k : Int) (x y : ItemD) (hx : ItWf x) (hy : ItWf y) (mx : missing x = false) (my : missing y = false) : Ct Try.prog 77 [itT x, itT y, .pf [.s (opD dec)], .pf [.i .i64 k]] (fun t => t = itT (wh (if cmpB dec (cmpI k x y) = true then 1 else 0))) := by
  obtain ⟨zb, zc, zs, zl, zn, zt, zp, zg, zv, zx, zm, hz⟩ := Vm.zE
  have c1 := ct_isMissing x hx
  have c2 := ct_isMissing y hy
  rw [mx] at c1
  rw [my] at c2
  have c3 := ct_compareItems k x y hx hy
  have c4 := ct_compared dec (cmpI k x y)
  have c5 := ct_boolItem (cmpB dec (cmpI k x y))
  obtain ⟨cm, hcm⟩ := hide (cmpI k x y)
  rw [← hcm] at c3 c4 c5 ⊢
  obtain ⟨b, hb⟩ := hide (cmpB dec cm)
  rw [← hb] at c4 c5 ⊢
  obtain ⟨op, hop⟩ := hide (opD dec)
  rw [← hop] at c4 ⊢
  obtain ⟨r, hr⟩ : ∃ r : Int, r = if b = true then 1 else 0 := ⟨_, rfl⟩
  rw [← hr] at c5 ⊢
  clear hcm hb hop hr mx my
  obtain ⟨xn, xd, xs⟩ := x
  obtain ⟨yn, yd, ys⟩ := y
  refine Ct_of_W Try.func77 rfl (Nat.le_of_ble_eq_true rfl) fun w0 Z0 => ?_
  refine W_run ti_ok hz 400 (by cbv) ?_
  refine W_call (by cbv) (by kernel_rfl) (c1) ?_
  rintro t rfl
  refine W_bool 8 (by cbv) (rfl) ?_
  refine W_run ti_ok hz 400 (by cbv) ?_
  refine W_call (by cbv) (by kernel_rfl) (c2) ?_
  rintro t rfl
  refine W_bool 11 (by cbv) (rfl) ?_
  refine W_run ti_ok hz 400 (by cbv) ?_
  refine W_draw mixedB [(1, 0), (1, 1), (1, 2), (1, 3), (0, 4), (0, 5), (0, 6), (0, 7)] [7] (by kernel_rfl) ?_
  refine D_run ti_ok hz 400 (by cbv) ?_
  refine D_call (by cbv) (by cbv) (by kernel_rfl) (c3) ?_
  rintro t rfl
  refine D_run ti_ok hz 400 (by cbv) ?_
  refine D_call (by cbv) (by cbv) (by kernel_rfl) (c4) ?_
  rintro t rfl
  refine D_run ti_ok hz 400 (by cbv) ?_
  refine D_call (by cbv) (by cbv) (by kernel_rfl) (c5) ?_
  rintro t rfl
  refine D_run ti_ok hz 400 (by cbv) ?_
  refine D_last ti_ok hz (by cbv) (by cbv) (by cbv) (by cbv) (by cbv) ?_
  refine W_run ti_ok hz 400 (by cbv) ?_
  refine W_ret ti_ok rfl (by cbv) ?_
  rfl
theorem ct_convertItem (x : ItemD) (hx : ItWf x) (mx : missing x = false) (a b : Int) (h : a = b ∨ b = 2) : Ct Try.prog 110 [itT x, .c (.i .i64 a), .c (.i .i64 b)] (fun t => t = itT x) := by
  obtain ⟨zb, zc, zs, zl, zn, zt, zp, zg, zv, zx, zm, hz⟩ := Vm.zE
  have c1 := ct_isMissing x hx
  rw [mx] at c1
  clear mx
  obtain ⟨xn, xd, xs⟩ := x
  refine Ct_of_W Try.func110 rfl (Nat.le_of_ble_eq_true rfl) fun w0 Z0 => ?_
  refine W_run ti_ok hz 400 (by cbv) ?_
  refine W_call (by cbv) (by kernel_rfl) (c1) ?_
  rintro t rfl
  refine W_bool 8 (by cbv) (rfl) ?_
  refine W_run ti_ok hz 400 (by cbv) ?_
  by_cases hab : a = b
  · refine W_bool 14 (by cbv) (show _ = true by rw [z_eql hz]; simpa using hab) ?_
    refine W_run ti_ok hz 400 (by cbv) ?_
    refine W_ret ti_ok rfl (by cbv) ?_
    rfl
  · refine W_bool 14 (by cbv) (show _ = false by rw [z_eql hz]; simpa using hab) ?_
    refine W_run ti_ok hz 400 (by cbv) ?_
    refine W_bool 17 (by cbv) (show _ = true by rw [z_eql hz]; simpa using h.resolve_left hab) ?_
    refine W_run ti_ok hz 400 (by cbv) ?_
    refine W_ret ti_ok rfl (by cbv) ?_
    rfl
theorem ct_recycled1 : Ct Try.prog 111 [.c (.i .i64 1), .c (.i .i64 1)] (fun t => t = .tu [.c (.i .i64 1), .q true]) := by
  obtain ⟨zb, zc, zs, zl, zn, zt, zp, zg, zv, zx, zm, hz⟩ := Vm.zE
  refine Ct_of_W Try.func111 rfl (Nat.le_of_ble_eq_true rfl) fun w0 Z0 => ?_
  refine W_run ti_ok hz 400 (by cbv) ?_
  refine W_bool 8 (by cbv) (show _ = false by rw [z_eql hz]; rfl) ?_
  refine W_run ti_ok hz 400 (by cbv) ?_
  refine W_bool 11 (by cbv) (show _ = false by rw [z_eql hz]; rfl) ?_
  refine W_run ti_ok hz 400 (by cbv) ?_
  refine W_draw mixedB [(2, 0), (2, 1), (2, 2), (2, 3), (2, 4), (2, 5), (2, 6), (2, 7), (2, 8), (2, 9), (2, 10), (2, 11), (2, 12)] [] (by kernel_rfl) ?_
  refine D_run ti_ok hz 400 (by cbv) ?_
  refine D_val (by cbv) (by cbv) (by cbv) (Val_max (r := 1) (by cbv) rfl) ?_
  refine D_run ti_ok hz 400 (by cbv) ?_
  refine D_val (by cbv) (by cbv) (by cbv) (Val_max (r := 1) (by cbv) rfl) ?_
  refine D_run ti_ok hz 400 (by cbv) ?_
  refine D_val (by cbv) (by cbv) (by cbv) (Val_min (r := 1) (by cbv) rfl) ?_
  refine D_run ti_ok hz 400 (by cbv) ?_
  refine D_val (by cbv) (by cbv) (by cbv) (Val_rem (r := 0) (by cbv) (by decide) (by decide)) ?_
  refine D_run ti_ok hz 400 (by cbv) ?_
  refine D_done ?_
  refine W_run ti_ok hz 400 (by cbv) ?_
  refine W_ret ti_ok rfl (by cbv) ?_
  rw [z_eql hz]
  rfl
/-- a vector of one element -/
def one (k : Int) (x : ItemD) : VecD := itemsV k [x]
theorem oneT (k : Int) (x : ItemD) : vT (one k x) = .ag [.c (.i .i64 k), .c (.sl [[.i .i64 x.num, .i .i64 x.den, .s x.text]]), .c (.sl []), .c (.sl []), .c (.sl []), .c (.sl []), .c (.i .i64 0), .c (.i .i64 0)] := rfl
theorem one_wf {k : Int} {x : ItemD} (hk : I64 k) (hx : ItWf x) : VecWf (one k x) := wf_itemsV hk fun y hy => by rw [List.mem_singleton.1 hy]; exact hx
theorem one_sz {k : Int} {x : ItemD} (hx : szItem x ≤ 100) : szVector (one k x) ≤ 100000 := sz_itemsV (by simp) fun y hy => by rw [List.mem_singleton.1 hy]; exact hx
set_option maxHeartbeats 4000000 in
theorem ct_plain1 (k : Int) (x : ItemD) (hk : I64 k) (hx : ItWf x) (hxl : szItem x ≤ 100) : Ct Try.prog 74 [vT (one k x)] (fun t => t = vT (one k x)) := by
  have c1 := ct_copyVector (one k x) (one_wf hk hx) (by have := one_sz (k := k) hxl; omega)
  obtain ⟨zb, zc, zs, zl, zn, zt, zp, zg, zv, zx, zm, hz⟩ := Vm.zE
  rw [oneT] at c1 ⊢
  have hI : zl ([] : List (List C)) = 0 := by rw [z_len hz]; rfl
  obtain ⟨I, hII⟩ := hide [[C.i .i64 x.num, C.i .i64 x.den, C.s x.text]]
  rw [← hII] at c1 ⊢
  refine Ct.weak (R := fun t => t = .ag [.c (.i .i64 k), .c (.sl I), .c (.sl []), .nil, .nil, .nil, .c (.i .i64 0), .c (.i .i64 0)]) ?_ fun t h => ?_
  · refine Ct_of_W Try.func74 rfl (Nat.le_of_ble_eq_true rfl) fun w0 Z0 => ?_
    refine W_run ti_ok hz 400 (by cbv) ?_
    refine W_call (by cbv) (by kernel_rfl) (c1) ?_
    rintro t ⟨rfl, -⟩
    refine W_run ti_ok hz 400 (by cbv) ?_
    refine W_bool 14 (by cbv) (show _ = false by rw [z_gtr hz, hI]; rfl) ?_
    refine W_run ti_ok hz 400 (by cbv) ?_
    refine W_ret ti_ok rfl (by cbv) ?_
    rfl
  · refine ⟨_, rfl, ?_⟩
    rw [h]
    exact Le.ag ⟨Le.refl _, Le.refl _, Le.refl _, Le.nil, Le.nil, Le.nil, Le.refl _, Le.refl _, trivial⟩ (by simp [T.one])
set_option maxHeartbeats 8000000 in
theorem ct_convert1 (a b : Int) (x : ItemD) (ha : I64 a) (hx : ItWf x) (mx : missing x = false) (h : a = b ∨ b = 2) (hab : a ≤ b) (h5 : a ≠ 5) (h4 : b ≠ 4) : Ct Try.prog 75 [vT (one a x), .c (.i .i64 b)] (fun t => t = .tu [vT (one b x), .c (.b true)]) := by
  have c1 := ct_copyTexts [] (fun _ h => by cases h) (Nat.zero_le _)
  have c2 := ct_convertItem x hx mx a b h
  obtain ⟨zb, zc, zs, zl, zn, zt, zp, zg, zv, zx, zm, hz⟩ := Vm.zE
  clear mx h hx ha
  rw [oneT, oneT]
  obtain ⟨xn, xd, xs⟩ := x
  obtain ⟨I, hII⟩ := hide [[C.i .i64 xn, C.i .i64 xd, C.s xs]]
  show Ct _ _ [.ag [_, .c (.sl [[C.i .i64 xn, C.i .i64 xd, C.s xs]]), _, _, _, _, _, _], _] (fun t => t = .tu [.ag [_, .c (.sl [[C.i .i64 xn, C.i .i64 xd, C.s xs]]), _, _, _, _, _, _], _])
  rw [← hII]
  have hI : zl I = 1 := by rw [z_len hz, hII]; rfl
  have hI0 : I[0]? = some [C.i .i64 xn, C.i .i64 xd, C.s xs] := by rw [hII]; rfl
  refine Ct.weak (R := fun t => t = .tu [.ag [.c (.i .i64 b), .c (.sl I), .nil, .c (.sl []), .nil, .nil, .c (.i .i64 0), .c (.i .i64 0)], .c (.b true)]) ?_ fun t h => ?_
  · refine Ct_of_W Try.func75 rfl (Nat.le_of_ble_eq_true rfl) fun w0 Z0 => ?_
    refine W_run ti_ok hz 400 (by cbv) ?_
    refine W_call (by cbv) (by kernel_rfl) (c1) ?_
    rintro t rfl
    refine W_run ti_ok hz 400 (by cbv) ?_
    refine W_bool 20 (by cbv) (show _ = false by rw [z_eql hz]; simpa using h5) ?_
    refine W_run ti_ok hz 400 (by cbv) ?_
    refine W_bool 31 (by cbv) (show _ = false by rw [z_gtr hz]; exact decide_eq_false (by omega)) ?_
    refine W_run ti_ok hz 400 (by cbv) ?_
    refine W_bool 34 (by cbv) (show _ = false by rw [z_eql hz]; simpa using h4) ?_
    refine W_run ti_ok hz 400 (by cbv) ?_
    refine W_ownB 2 1 3 (by cbv) (by cbv) ?_
    refine W_keep [1, 2, 4, 5, 6, 70, 71, 72] [0, 1, 2, 3] 4 (by cbv) (by cbv) ?_
    refine W_run ti_ok hz 1 (by cbv) ?_
    refine W_loop (fun n' aa m => ∃ (ik : Int) (o : List (List C)), ((n' = 1 ∧ ik = 0 ∧ o = []) ∨ (n' = 0 ∧ ik = 1 ∧ o = I)) ∧
        aa = [(1, T.c (C.i IntKind.i64 b)), (2, T.pt 0 0), (4, T.pt 1 0), (5, T.c (C.b false)), (6, T.pt 2 0), (70, T.c (C.sl I)), (71, T.c (C.i IntKind.i64 (zl I))), (72, T.c (C.i IntKind.i64 ik))] ∧
        m = [(0, Obj.box [T.c (C.i IntKind.i64 a), T.c (C.sl I), T.c (C.sl []), T.c (C.sl []), T.c (C.sl []), T.c (C.sl []), T.c (C.i IntKind.i64 0), T.c (C.i IntKind.i64 0)]), (1, Obj.box [T.c (C.i IntKind.i64 0), T.nil, T.nil, T.nil, T.nil, T.nil, T.c (C.i IntKind.i64 0), T.c (C.i IntKind.i64 0)]), (2, Obj.box [T.c (C.i IntKind.i64 b), T.sk 3 o, T.nil, T.c (C.sl []), T.nil, T.nil, T.c (C.i IntKind.i64 0), T.c (C.i IntKind.i64 0)]), (3, Obj.tok 3 o)]) 1 ⟨0, [], .inl ⟨rfl, rfl, rfl⟩, rfl, rfl⟩ ?_
    rintro n' aa m ⟨ik, o, hc, rfl, rfl⟩
    rcases hc with ⟨hn', hik, ho⟩ | ⟨hn', hik, ho⟩
    · subst hik ho
      have hadd : zb .add .i64 0 1 = 1 := z_add hz (by omega) (by omega)
      refine W_run ti_ok hz 400 (by cbv) ?_
      refine W_bool 73 (by cbv) (show _ = true by rw [z_lss hz, hI]; rfl) ?_
      refine W_run ti_ok hz 400 (by cbv) ?_
      refine W_val (by cbv) (by cbv) (Val_elem ti_ok (by cbv) 0 rfl hI0 rfl) ?_
      refine W_run ti_ok hz 400 (by cbv) ?_
      refine W_draw mixedB [(2, 0), (1, 1), (1, 2), (2, 3), (1, 4), (2, 5), (0, 6), (0, 7), (0, 8), (2, 9), (0, 10)] [10] (by kernel_rfl) ?_
      refine D_run ti_ok hz 400 (by cbv) ?_
      refine D_call (by cbv) (by cbv) (by kernel_rfl) (c2) ?_
      rintro t rfl
      refine D_run ti_ok hz 400 (by cbv) ?_
      refine D_app ti_ok (by cbv) (by cbv) (by cbv) (by simp) (by simp) ?_
      rw [show ([] : List (List C)) ++ [[C.i .i64 xn, C.i .i64 xd, C.s xs]] = I by rw [hII]; rfl]
      refine D_run ti_ok hz 400 (by cbv) ?_
      refine D_last ti_ok hz (by cbv) (by cbv) (by cbv) (by cbv) (by cbv) ?_
      refine W_run ti_ok hz 400 (by cbv) ?_
      rw [hadd]
      refine W_inv [1, 2, 4, 5, 6, 70, 71, 72] [0, 1, 2, 3] 0 (by omega) (by cbv) (by cbv) ⟨1, I, .inr ⟨rfl, rfl, rfl⟩, by cbv, by cbv⟩
    · subst hik ho
      refine W_run ti_ok hz 400 (by cbv) ?_
      refine W_bool 73 (by cbv) (show _ = false by rw [z_lss hz, hI]; rfl) ?_
      refine W_run ti_ok hz 400 (by cbv) ?_
      refine W_ret ti_ok rfl (by cbv) ?_
      rfl
  · refine ⟨_, rfl, ?_⟩
    rw [h]
    exact Le.tu ⟨Le.ag ⟨Le.refl _, Le.refl _, Le.nil, Le.refl _, Le.nil, Le.nil, Le.refl _, Le.refl _, trivial⟩ (by simp [T.one]), Le.refl _, trivial⟩
set_option maxHeartbeats 8000000 in
theorem ct_pairwise1 (k kd : Int) (x y : ItemD) (op : List UInt8) (r : ItemD) (hc : Ct Try.prog 77 [itT x, itT y, .pf [.s op], .pf [.i .i64 kd]] (fun t => t = itT r)) : Ct Try.prog 76 [.c (.i .i64 1), vT (one k x), vT (one k y), .fn 77 [] [.pf [.s op], .pf [.i .i64 kd]]] (fun t => t = .tu [.ag [.c (.i .i64 1), .c (.sl [[.i .i64 r.num, .i .i64 r.den, .s r.text]]), .nil, .nil, .nil, .nil, .c (.i .i64 0), .c (.i .i64 0)], .c (.s [])]) := by
  have c1 := ct_recycled1
  obtain ⟨zb, zc, zs, zl, zn, zt, zp, zg, zv, zx, zm, hz⟩ := Vm.zE
  rw [oneT, oneT]
  obtain ⟨xn, xd, xs⟩ := x
  obtain ⟨yn, yd, ys⟩ := y
  obtain ⟨rn, rd, rs⟩ := r
  show Ct _ _ [_, .ag [_, .c (.sl [[C.i .i64 xn, C.i .i64 xd, C.s xs]]), _, _, _, _, _, _], .ag [_, .c (.sl [[C.i .i64 yn, C.i .i64 yd, C.s ys]]), _, _, _, _, _, _], _] (fun t => t = .tu [.ag [_, .c (.sl [[C.i .i64 rn, C.i .i64 rd, C.s rs]]), _, _, _, _, _, _], _])
  obtain ⟨I, hII⟩ := hide [[C.i .i64 xn, C.i .i64 xd, C.s xs]]
  obtain ⟨J, hJJ⟩ := hide [[C.i .i64 yn, C.i .i64 yd, C.s ys]]
  obtain ⟨O, hOO⟩ := hide [[C.i .i64 rn, C.i .i64 rd, C.s rs]]
  rw [← hII, ← hJJ, ← hOO]
  have hI : zl I = 1 := by rw [z_len hz, hII]; rfl
  have hJ : zl J = 1 := by rw [z_len hz, hJJ]; rfl
  have hI0 : I[0]? = some [C.i .i64 xn, C.i .i64 xd, C.s xs] := by rw [hII]; rfl
  have hJ0 : J[0]? = some [C.i .i64 yn, C.i .i64 yd, C.s ys] := by rw [hJJ]; rfl
  refine Ct_of_W Try.func76 rfl (Nat.le_of_ble_eq_true rfl) fun w0 Z0 => ?_
  refine W_run ti_ok hz 400 (by cbv) ?_
  rw [hI, hJ]
  refine W_call (by cbv) (by kernel_rfl) (c1) ?_
  rintro t rfl
  refine W_run ti_ok hz 400 (by cbv) ?_
  refine W_bool 25 (by cbv) (show _ = false by rw [z_not hz]; rfl) ?_
  refine W_run ti_ok hz 400 (by cbv) ?_
  refine W_ownB 3 1 3 (by cbv) (by cbv) ?_
  refine W_keep [3, 5, 6, 8, 9, 10, 12, 13] [0, 1, 2, 3, 4] 5 (by cbv) (by cbv) ?_
  refine W_run ti_ok hz 1 (by cbv) ?_
  refine W_loop (fun n' aa m => ∃ (ik : Int) (o : List (List C)), ((n' = 1 ∧ ik = 0 ∧ o = []) ∨ (n' = 0 ∧ ik = 1 ∧ o = O)) ∧
      aa = [(3, T.fn 77 [] [T.pf [C.s op], T.pf [C.i IntKind.i64 kd]]), (5, T.pt 0 0), (6, T.pt 1 0), (8, T.pt 2 0), (9, T.c (C.s [])), (10, T.c (C.i IntKind.i64 1)), (12, T.pt 3 0), (13, T.c (C.i IntKind.i64 ik))] ∧
      m = [(0, Obj.box [T.c (C.i IntKind.i64 k), T.c (C.sl I), T.c (C.sl []), T.c (C.sl []), T.c (C.sl []), T.c (C.sl []), T.c (C.i IntKind.i64 0), T.c (C.i IntKind.i64 0)]), (1, Obj.box [T.c (C.i IntKind.i64 k), T.c (C.sl J), T.c (C.sl []), T.c (C.sl []), T.c (C.sl []), T.c (C.sl []), T.c (C.i IntKind.i64 0), T.c (C.i IntKind.i64 0)]), (2, Obj.box [T.c (C.i IntKind.i64 0), T.nil, T.nil, T.nil, T.nil, T.nil, T.c (C.i IntKind.i64 0), T.c (C.i IntKind.i64 0)]), (3, Obj.box [T.c (C.i IntKind.i64 1), T.sk 4 o, T.nil, T.nil, T.nil, T.nil, T.c (C.i IntKind.i64 0), T.c (C.i IntKind.i64 0)]), (4, Obj.tok 3 o)]) 1 ⟨0, [], .inl ⟨rfl, rfl, rfl⟩, rfl, rfl⟩ ?_
  rintro n' aa m ⟨ik, o, hcs, rfl, rfl⟩
  rcases hcs with ⟨hn', hik, ho⟩ | ⟨hn', hik, ho⟩
  · subst hik ho
    have hadd : zb .add .i64 0 1 = 1 := z_add hz (by omega) (by omega)
    refine W_run ti_ok hz 400 (by cbv) ?_
    refine W_bool 31 (by cbv) (show _ = true by rw [z_lss hz]; rfl) ?_
    refine W_run ti_ok hz 400 (by cbv) ?_
    refine W_draw mixedB [(2, 0), (1, 1), (2, 2), (2, 3), (1, 4), (2, 5), (2, 6), (1, 7), (2, 8), (2, 9), (2, 10), (1, 11), (2, 12), (1, 13), (2, 14), (2, 15), (1, 16), (2, 17), (2, 18), (2, 19), (1, 20), (0, 21), (0, 22), (0, 23), (2, 24), (0, 25)] [25] (by kernel_rfl) ?_
    refine D_run ti_ok hz 400 (by cbv) ?_
    rw [hI]
    refine D_val (by cbv) (by cbv) (by cbv) (Val_rem (r := 0) (by cbv) (by decide) (by decide)) ?_
    refine D_run ti_ok hz 400 (by cbv) ?_
    refine D_val (by cbv) (by cbv) (by cbv) (Val_elem ti_ok (by cbv) 0 rfl hI0 rfl) ?_
    refine D_run ti_ok hz 400 (by cbv) ?_
    rw [hJ]
    refine D_val (by cbv) (by cbv) (by cbv) (Val_rem (r := 0) (by cbv) (by decide) (by decide)) ?_
    refine D_run ti_ok hz 400 (by cbv) ?_
    refine D_val (by cbv) (by cbv) (by cbv) (Val_elem ti_ok (by cbv) 0 rfl hJ0 rfl) ?_
    refine D_run ti_ok hz 400 (by cbv) ?_
    refine D_call (by cbv) (by cbv) (by kernel_rfl) (hc) ?_
    rintro t rfl
    refine D_run ti_ok hz 400 (by cbv) ?_
    refine D_app ti_ok (by cbv) (by cbv) (by cbv) (by simp) (by simp) ?_
    rw [show ([] : List (List C)) ++ [[C.i .i64 rn, C.i .i64 rd, C.s rs]] = O by rw [hOO]; rfl]
    refine D_run ti_ok hz 400 (by cbv) ?_
    refine D_last ti_ok hz (by cbv) (by cbv) (by cbv) (by cbv) (by cbv) ?_
    refine W_run ti_ok hz 400 (by cbv) ?_
    rw [hadd]
    refine W_inv [3, 5, 6, 8, 9, 10, 12, 13] [0, 1, 2, 3, 4] 0 (by omega) (by cbv) (by cbv) ⟨1, O, .inr ⟨rfl, rfl, rfl⟩, by cbv, by cbv⟩
  · subst hik ho
    refine W_run ti_ok hz 400 (by cbv) ?_
    refine W_bool 31 (by cbv) (show _ = false by rw [z_lss hz]; rfl) ?_
    refine W_run ti_ok hz 400 (by cbv) ?_
    refine W_ret ti_ok rfl (by cbv) ?_
    rfl
end Go.Proofs.Ytjdimlhdkmkmbaa
