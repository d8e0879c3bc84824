/-
  The law of orders, on trees.
-/
import Derived.Test.YtjdimlhdkmkmbaaVmOrdL
import Derived.Test.YtjdimlhdkmkmbaaKSort
import Derived.Test.YtjdimlhdkmkmbaaKCmpV
import Derived.Test.YtjdimlhdkmkmbaaKDrO
namespace Go.Proofs.Ytjdimlhdkmkmbaa
set_option maxRecDepth 100000
open Go.ChangeShapes Go.WideShapes Go.ChangeAt Go.RowKit Go.Deep Go.Proofs.Ytjdimlhdkmkmbaa.Vm
set_option linter.unusedVariables false

theorem z_neS {bi : BinOp → IntKind → Int → Int → Int} {ci : BinOp → Int → Int → Bool} {cs : BinOp → List UInt8 → List UInt8 → Bool} {ln : List (List C) → Int} {lns : List UInt8 → Int} {nt : Bool → Bool} {pk : Bool → Bool → Bool → Bool} {ng cv : IntKind → Int → Int} {mx mn : Int → Int → Int} (hz : (⟨bi, ci, cs, ln, lns, nt, pk, ng, cv, mx, mn⟩ : ZO) = realZ) (x y : List UInt8) : cs .neq x y = !(x == y) := by
  rw [show cs = realZ.cs from congrArg ZO.cs hz]; rfl
/-- a loop that is left in one state -/
theorem W_loopX {X : Ctx} {c : Code} {rest : List K} {id : Nat} {a : Vm.Slots} {m : Mem} {nx : Nat} (I : Nat → Vm.Slots → Mem → Prop) (n : Nat) (h0 : I n a m) (a1 : Vm.Slots) (m1 : Mem) (nx1 : Nat)
    (round : W X ⟨rest, a1, m1, nx1⟩ → ∀ n a m, I n a m → W X ⟨.code c :: .inv I n nx :: .blk id :: rest, a, m, nx⟩) (hf : W X ⟨rest, a1, m1, nx1⟩) : W X ⟨.code (.loop c) :: .blk id :: rest, a, m, nx⟩ := W_loop I n h0 (round hf)
/-- two ways that meet in one state -/
theorem W_condC {X : Ctx} {c : Operand} {x y : Code} {ks : List K} {a : Vm.Slots} {m : Mem} {nx : Nat} {e : Bool} (hc : evT a c = .q e) (a1 : Vm.Slots) (m1 : Mem) (nx1 : Nat) (h1 : W X ⟨ks, a1, m1, nx1⟩ → e = true → W X ⟨.code x :: ks, a, m, nx⟩) (h2 : W X ⟨ks, a1, m1, nx1⟩ → e = false → W X ⟨.code y :: ks, a, m, nx⟩) (hf : W X ⟨ks, a1, m1, nx1⟩) : W X ⟨.code (.cond c x y) :: ks, a, m, nx⟩ := W_cond hc (h1 hf) (h2 hf)
def TruO (t : T) : Prop := t = .c (.b true) ∨ t = .q true
set_option maxHeartbeats 4000000 in
theorem ct_bigO (B : List (List C)) : Ct Try.prog 6 [.c (.sl B)] (fun t => t = .q (decide (1048576 < B.length))) := by
  obtain ⟨zb, zc, zs, zl, zn, zt, zp, zg, zv, zx, zm, hz⟩ := Vm.zE
  refine Ct_of_W Try.func6 rfl (Nat.le_of_ble_eq_true rfl) fun w0 Z0 => ?_
  refine W_run ti_ok hz 400 (by cbv) ?_
  refine W_ret ti_ok rfl (by cbv) ?_
  rw [z_gtr hz, z_len hz]
  congr 1
  exact decide_eq_decide.2 ⟨fun h => by omega, fun h => by omega⟩
theorem ct_sameNil : Ct Try.prog 25 [.nil, .c (.sl [])] (fun t => t = .q true) := fun w Z vs hk hv => by
  obtain ⟨v, x, rfl, h1, h2⟩ := two_args hv
  have e := h1.nilI
  subst e
  exact ct_sameSame [] (fun _ h => by cases h) w Z [_, x] hk (.cons (.c _ _ (.nl none 0 (Nat.zero_le _))) (.cons h2 (.nil _ _)))
set_option maxHeartbeats 64000000 in
theorem law_order (l : List Nat) (hb : ∀ x ∈ l, x < 256) : Ct Try.prog 5 [.c (.sl (l.map byK))] TruO := by
  by_cases hl : l.length ≤ 1048576
  rotate_left
  · have c0 := ct_bigO (l.map byK)
    rw [List.length_map, decide_eq_true (by omega)] at c0
    obtain ⟨zb, zc, zs, zl, zn, zt, zp, zg, zv, zx, zm, hz⟩ := Vm.zE
    obtain ⟨B, hB⟩ := hide (l.map byK)
    rw [← hB] at c0 ⊢
    refine Ct_of_W Try.func5 rfl (Nat.le_of_ble_eq_true rfl) fun w0 Z0 => ?_
    refine W_run ti_ok hz 400 (by cbv) ?_
    refine W_call (by cbv) (by kernel_rfl) (c0) ?_
    rintro t rfl
    refine W_run ti_ok hz 400 (by cbv) ?_
    refine W_bool 30 (by cbv) (rfl) ?_
    refine W_run ti_ok hz 400 (by cbv) ?_
    refine W_ret ti_ok rfl (by cbv) ?_
    exact .inl rfl
  have c0 := ct_bigO (l.map byK)
  rw [List.length_map, decide_eq_false (by omega)] at c0
  have c1 := ct_DrawOrderOf l hl hb
  obtain ⟨zb, zc, zs, zl, zn, zt, zp, zg, zv, zx, zm, hz⟩ := Vm.zE
  obtain ⟨B, hB⟩ := hide (l.map byK)
  rw [← hB] at c0 c1 ⊢
  refine Ct_of_W Try.func5 rfl (Nat.le_of_ble_eq_true rfl) fun w0 Z0 => ?_
  refine W_run ti_ok hz 400 (by cbv) ?_
  refine W_call (by cbv) (by kernel_rfl) (c0) ?_
  rintro t rfl
  refine W_run ti_ok hz 400 (by cbv) ?_
  refine W_bool 30 (by cbv) (rfl) ?_
  refine W_run ti_ok hz 400 (by cbv) ?_
  refine W_call (by cbv) (by kernel_rfl) (c1) ?_
  rintro t ⟨d, dec, rfl, hd, hsz⟩
  have hmd : atomP d = [] → ∀ x ∈ d.items, missing x = (x.den == 0) := fun h x hx => missing_den ((atom_facts h).it x hx)
  have h40 : atomP d = [] → d.items.length ≤ 1000 := fun h => by have := (atom_facts h).l40; omega
  have c2 := ct_OrderOf d dec hd (by omega) h40
  have c3 := ct_sOrderOf d dec hd (by omega) h40 hmd
  have c4 := ct_SortOf d dec hd (by omega)
  have c5 := ct_sSortOf d dec hd (by omega) hmd
  have c7 := ct_EqualSame (srtD d dec) (wf_srt hd dec) (vecOk_srt d dec) (by have := sz_srt dec hsz; omega)
  by_cases ha : atomP d = []
  rotate_left
  · rw [if_neg ha] at c2 c3
    have hX : vT (srtD d dec) = .ag [.c (.i .i64 0), .c (.sl []), .c (.sl []), .c (.sl []), .c (.sl []), .c (.sl []), .c (.i .i64 0), .c (.i .i64 0)] := by unfold srtD; rw [if_neg ha]; rfl
    rw [hX] at c4 c5 c7
    obtain ⟨ap, hap⟩ := hide (atomP d)
    rw [← hap] at c2 c3 c4 c5 ha
    obtain ⟨kd, I, P, N, Q, Lv, cd, en, hT, -⟩ := vT_hide d
    rw [hT] at c2 c3 c4 c5 ⊢
    refine W_run ti_ok hz 400 (by cbv) ?_
    refine W_bool 4 (by cbv) (rfl) ?_
    refine W_bool 38 (by cbv) (rfl) ?_
    refine W_call (by cbv) (by kernel_rfl) (c2) ?_
    rintro t rfl
    refine W_run ti_ok hz 400 (by cbv) ?_
    refine W_call (by cbv) (by kernel_rfl) (c3) ?_
    rintro t rfl
    refine W_run ti_ok hz 400 (by cbv) ?_
    refine W_call (by cbv) (by kernel_rfl) (c4) ?_
    rintro t rfl
    refine W_run ti_ok hz 400 (by cbv) ?_
    refine W_call (by cbv) (by kernel_rfl) (c5) ?_
    rintro t rfl
    refine W_run ti_ok hz 400 (by cbv) ?_
    refine W_bool 63 (by cbv) (show _ = false by rw [z_neS hz]; simp) ?_
    refine W_run ti_ok hz 400 (by cbv) ?_
    refine W_call (by cbv) (by kernel_rfl) (ct_sameNil) ?_
    rintro t rfl
    refine W_run ti_ok hz 400 (by cbv) ?_
    refine W_bool 69 (by cbv) (show _ = false by rw [z_not hz]; rfl) ?_
    refine W_run ti_ok hz 400 (by cbv) ?_
    refine W_bool 74 (by cbv) (show _ = false by rw [z_neS hz]; simp) ?_
    refine W_run ti_ok hz 400 (by cbv) ?_
    refine W_call (by cbv) (by kernel_rfl) (c7) ?_
    rintro t rfl
    refine W_run ti_ok hz 400 (by cbv) ?_
    refine W_bool 80 (by cbv) (show _ = false by rw [z_not hz]; rfl) ?_
    refine W_run ti_ok hz 400 (by cbv) ?_
    refine W_bool 83 (by cbv) (show _ = true by rw [z_neS hz]; simpa using ha) ?_
    refine W_run ti_ok hz 400 (by cbv) ?_
    refine W_bool 87 (by cbv) (show _ = true by rw [z_eqs hz]; simp) ?_
    refine W_run ti_ok hz 400 (by cbv) ?_
    refine W_ret ti_ok rfl (by cbv) ?_
    refine .inr ?_
    rw [z_eqs hz]
    simp
  rw [if_pos ha] at c2 c3
  have hf := atom_facts ha
  have hl40 := hf.l40
  rw [ha] at c2 c3 c4 c5
  have c6 := ct_sameSame (ordL d dec) (ord_i64 hl40)
  have c8 := fun i : Int => ct_has (ordL d dec) i (ord_i64 hl40)
  have hhas : ∀ i : Nat, 1 ≤ i → i ≤ d.items.length → decide ((i : Int) ∈ ordL d dec) = true := fun i h1 h2 => decide_eq_true (ord_has h1 h2)
  have hoL : (ordL d dec).map inK = (insOrd (befL d.kind dec d.items) d.items.length).map inP := by unfold ordL; rw [List.map_map]; rfl
  have hLl : ((ordL d dec).map inK).length = d.items.length := by rw [hoL, List.length_map, insOrd_length]
  obtain ⟨Lm, hLm⟩ := hide ((ordL d dec).map inK)
  rw [← hLm] at c2 c3 c6 c8 hLl
  obtain ⟨kd, I, P, N, Q, Lv, cd, en, hT, hk, hI, hP, hN, hQ, hLv, -⟩ := vT_hide d
  obtain ⟨xk, xI, xP, xN, xQ, xL, xc, xe, hX, hxk, hxI, -⟩ := vT_hide (srtD d dec)
  rw [hX] at c4 c5 c7
  rw [hT] at c2 c3 c4 c5 ⊢
  refine W_run ti_ok hz 400 (by cbv) ?_
  refine W_bool 4 (by cbv) (rfl) ?_
  refine W_bool 38 (by cbv) (rfl) ?_
  refine W_call (by cbv) (by kernel_rfl) (c2) ?_
  rintro t rfl
  refine W_run ti_ok hz 400 (by cbv) ?_
  refine W_call (by cbv) (by kernel_rfl) (c3) ?_
  rintro t rfl
  refine W_run ti_ok hz 400 (by cbv) ?_
  refine W_call (by cbv) (by kernel_rfl) (c4) ?_
  rintro t rfl
  refine W_run ti_ok hz 400 (by cbv) ?_
  refine W_call (by cbv) (by kernel_rfl) (c5) ?_
  rintro t rfl
  refine W_run ti_ok hz 400 (by cbv) ?_
  refine W_bool 63 (by cbv) (show _ = false by rw [z_neS hz]; rfl) ?_
  refine W_run ti_ok hz 400 (by cbv) ?_
  refine W_call (by cbv) (by kernel_rfl) (c6) ?_
  rintro t rfl
  refine W_run ti_ok hz 400 (by cbv) ?_
  refine W_bool 69 (by cbv) (show _ = false by rw [z_not hz]; rfl) ?_
  refine W_run ti_ok hz 400 (by cbv) ?_
  refine W_bool 74 (by cbv) (show _ = false by rw [z_neS hz]; rfl) ?_
  refine W_run ti_ok hz 400 (by cbv) ?_
  refine W_call (by cbv) (by kernel_rfl) (c7) ?_
  rintro t rfl
  refine W_run ti_ok hz 400 (by cbv) ?_
  refine W_bool 80 (by cbv) (show _ = false by rw [z_not hz]; rfl) ?_
  refine W_run ti_ok hz 400 (by cbv) ?_
  refine W_bool 83 (by cbv) (show _ = false by rw [z_neS hz]; rfl) ?_
  refine W_run ti_ok hz 400 (by cbv) ?_
  have hlI : zl I = (d.items.length : Int) := by rw [z_len hz, hI]; simp
  have hlL : zl Lm = (d.items.length : Int) := by rw [z_len hz, hLl]
  obtain ⟨n, hn⟩ := hide d.items.length
  rw [← hn] at hlI hlL hhas hl40
  refine W_keep [3, 4, 5, 7, 11, 13] [0, 2] 3 (by cbv) (by cbv) ?_
  refine W_run ti_ok hz 0 (by cbv) ?_
  refine W_loop (fun n' a m => ∃ (i : Nat) (ik : Int), 1 ≤ i ∧ i ≤ n + 1 ∧ n' = n + 1 - i ∧ ik = (i : Int) ∧
      a = [(3, T.pt 0 0), (4, T.c (C.b dec)), (5, T.c (C.sl Lm)), (7, T.c (C.sl Lm)), (11, T.pt 2 0), (13, T.c (C.i IntKind.i64 ik))] ∧ m = [(0, Obj.box [T.c (C.i IntKind.i64 kd), T.c (C.sl I), T.c (C.sl P), T.c (C.sl N), T.c (C.sl Q), T.c (C.sl Lv), T.c (C.i IntKind.i64 cd), T.c (C.i IntKind.i64 en)]), (2, Obj.box [T.c (C.i IntKind.i64 xk), T.c (C.sl xI), T.c (C.sl xP), T.c (C.sl xN), T.c (C.sl xQ), T.c (C.sl xL), T.c (C.i IntKind.i64 xc), T.c (C.i IntKind.i64 xe)])]) n ⟨1, 1, by omega, by omega, by omega, rfl, rfl, rfl⟩ ?_
  rintro n' a m ⟨i, ik, hi1, hin, hn', hik, rfl, rfl⟩
  refine W_run ti_ok hz 400 (by cbv) ?_
  refine W_cond (by cbv) (fun h => ?_) (fun h => ?_)
  · have hle : i ≤ n := by
      rw [z_leq hz, hlI, hik] at h
      have := of_decide_eq_true h
      omega
    have hadd : zb .add .i64 ik 1 = ik + 1 := z_add hz (by omega) (by omega)
    obtain ⟨ik1, hik1⟩ := hide (ik + 1)
    rw [← hik1] at hadd
    have c9 := c8 ik
    rw [show decide (ik ∈ ordL d dec) = true by rw [hik]; exact hhas i hi1 hle] at c9
    refine W_run ti_ok hz 400 (by cbv) ?_
    refine W_call (by cbv) (by kernel_rfl) (c9) ?_
    rintro t rfl
    refine W_run ti_ok hz 400 (by cbv) ?_
    refine W_bool 102 (by cbv) (show _ = false by rw [z_not hz]; rfl) ?_
    refine W_run ti_ok hz 400 (by cbv) ?_
    rw [hadd]
    refine W_inv [3, 4, 5, 7, 11, 13] [0, 2] (n + 1 - (i + 1)) (by omega) (by cbv) (by cbv) ⟨i + 1, ik1, by omega, by omega, rfl, by rw [hik1, hik]; rfl, by cbv, by cbv⟩
  refine W_unb 4 (by cbv) ?_
  refine W_run ti_ok hz 400 (by cbv) ?_
  obtain ⟨op, hop⟩ := hide (opD dec)
  refine W_condC (by cbv) [(3, T.pt 0 0), (5, T.c (C.sl Lm)), (7, T.c (C.sl Lm)), (11, T.pt 2 0), (14, T.c (C.s op))] [(0, Obj.box [T.c (C.i IntKind.i64 kd), T.c (C.sl I), T.c (C.sl P), T.c (C.sl N), T.c (C.sl Q), T.c (C.sl Lv), T.c (C.i IntKind.i64 cd), T.c (C.i IntKind.i64 en)]), (2, Obj.box [T.c (C.i IntKind.i64 xk), T.c (C.sl xI), T.c (C.sl xP), T.c (C.sl xN), T.c (C.sl xQ), T.c (C.sl xL), T.c (C.i IntKind.i64 xc), T.c (C.i IntKind.i64 xe)])] 3 (fun hfin h => ?_) (fun hfin h => ?_) ?_
  · rw [show op = [62, 61] by rw [hop, h]; rfl] at hfin
    refine W_run ti_ok hz 3 (by cbv) ?_
    refine W_keep [3, 5, 7, 11, 14] [0, 2] 3 (by cbv) (by cbv) ?_
    refine W_run ti_ok hz 0 (by cbv) ?_
    exact hfin
  · rw [show op = [60, 61] by rw [hop, h]; rfl] at hfin
    refine W_run ti_ok hz 1 (by cbv) ?_
    refine W_keep [3, 5, 7, 11, 14] [0, 2] 3 (by cbv) (by cbv) ?_
    refine W_run ti_ok hz 0 (by cbv) ?_
    exact hfin
  have hxs : (srtD d dec).items = subAt d.items (srtL d dec) := by unfold srtD; rw [if_pos ha, tidy_eq]; rfl
  have hxkd : (srtD d dec).kind = d.kind := by unfold srtD; rw [if_pos ha, tidy_eq]; rfl
  have hxlv : (srtD d dec).levels = d.levels := by unfold srtD; rw [if_pos ha, tidy_eq]; rfl
  have hfx : AtomF (srtD d dec) := atom_facts (by
    unfold atomP
    rw [vecOk_srt, if_neg (by decide), hxkd, if_neg (by have := hf.k4; omega)])
  have hxl40 := hfx.l40
  have hxI2 : zl xI = ((srtD d dec).items.length : Int) := by rw [z_len hz, hxI]; simp
  have hLvl : zl Lv = (d.levels.length : Int) := by rw [z_len hz, hLv]; simp
  obtain ⟨xn, hxn⟩ := hide (srtD d dec).items.length
  rw [← hxn] at hxl40 hxI2
  refine W_run ti_ok hz 400 (by cbv) ?_
  refine W_keep [3, 5, 7, 11, 14, 15] [0, 2] 3 (by cbv) (by cbv) ?_
  refine W_run ti_ok hz 0 (by cbv) ?_
  refine W_loopX (fun n' a m => ∃ (k : Nat) (ik : Int), k ≤ xn ∧ n' = xn - k ∧ ik = (k : Int) ∧
      a = [(3, T.pt 0 0), (5, T.c (C.sl Lm)), (7, T.c (C.sl Lm)), (11, T.pt 2 0), (14, T.c (C.s op)), (15, T.c (C.i IntKind.i64 ik))] ∧ m = [(0, Obj.box [T.c (C.i IntKind.i64 kd), T.c (C.sl I), T.c (C.sl P), T.c (C.sl N), T.c (C.sl Q), T.c (C.sl Lv), T.c (C.i IntKind.i64 cd), T.c (C.i IntKind.i64 en)]), (2, Obj.box [T.c (C.i IntKind.i64 xk), T.c (C.sl xI), T.c (C.sl xP), T.c (C.sl xN), T.c (C.sl xQ), T.c (C.sl xL), T.c (C.i IntKind.i64 xc), T.c (C.i IntKind.i64 xe)])]) xn ⟨0, 0, Nat.zero_le _, rfl, rfl, rfl, rfl⟩
      [(3, T.pt 0 0), (5, T.c (C.sl Lm)), (7, T.c (C.sl Lm))] [(0, Obj.box [T.c (C.i IntKind.i64 kd), T.c (C.sl I), T.c (C.sl P), T.c (C.sl N), T.c (C.sl Q), T.c (C.sl Lv), T.c (C.i IntKind.i64 cd), T.c (C.i IntKind.i64 en)])] 1 (fun hfin => ?_) ?_
  · rintro n' a m ⟨k, ik, hk', hn', hik, rfl, rfl⟩
    have hadd : zb .add .i64 ik 1 = ik + 1 := z_add hz (by omega) (by omega)
    have hadd2 : zb .add .i64 ik 2 = ik + 2 := z_add hz (by omega) (by omega)
    obtain ⟨ik1, hik1⟩ := hide (ik + 1)
    obtain ⟨ik2, hik2⟩ := hide (ik + 2)
    rw [← hik1] at hadd
    rw [← hik2] at hadd2
    refine W_run ti_ok hz 400 (by cbv) ?_
    rw [hadd]
    by_cases h1 : k + 1 < xn
    rotate_left
    · refine W_bool 110 (by cbv) (show _ = false by rw [z_lss hz, hxI2]; exact decide_eq_false (by omega)) ?_
      refine W_run ti_ok hz 8 (by cbv) ?_
      refine W_keep [3, 5, 7] [0] 1 (by cbv) (by cbv) ?_
      refine W_run ti_ok hz 0 (by cbv) ?_
      exact hfin
    refine W_bool 110 (by cbv) (show _ = true by rw [z_lss hz, hxI2]; exact decide_eq_true (by omega)) ?_
    refine W_run ti_ok hz 400 (by cbv) ?_
    by_cases hlv : d.levels = []
    rotate_left
    · have : d.levels.length ≠ 0 := fun h => hlv (List.eq_nil_of_length_eq_zero h)
      refine W_bool 115 (by cbv) (show _ = false by rw [z_eql hz, hLvl]; simp; omega) ?_
      refine W_run ti_ok hz 2 (by cbv) ?_
      refine W_keep [3, 5, 7] [0] 1 (by cbv) (by cbv) ?_
      refine W_run ti_ok hz 0 (by cbv) ?_
      exact hfin
    refine W_bool 115 (by cbv) (show _ = true by rw [z_eql hz, hLvl, hlv]; rfl) ?_
    clear hfin
    obtain ⟨x, hx⟩ : ∃ x, (srtD d dec).items[k]? = some x := ⟨_, List.getElem?_eq_getElem (by omega)⟩
    obtain ⟨y, hy⟩ : ∃ y, (srtD d dec).items[k + 1]? = some y := ⟨_, List.getElem?_eq_getElem (by omega)⟩
    have hxx := hx
    have hyy := hy
    rw [hxs] at hxx hyy
    obtain ⟨mx1, my1, mx, my, hcmp⟩ := srt_cmp hf dec hxx hyy
    have ox := hf.it x mx1
    have oy := hf.it y my1
    have wx := ((VecWf_eq d).1 hd).2.1 x mx1
    have wy := ((VecWf_eq d).1 hd).2.1 y my1
    have hk123 : kd = 1 ∨ kd = 2 ∨ kd = 3 := by
      have h3 := (shape_facts (vecOk_shape hf.ok)).it x mx1
      unfold itemT atomV at h3
      simp only [Bool.and_eq_true, Bool.or_eq_true, beq_iff_eq] at h3
      have := h3.1.1
      omega
    have hcb : cmpB dec (cmpI kd x y) = true := by
      rw [hk]
      unfold cmpB
      cases dec <;> simpa using hcmp
    have szx : szVector (srtD d dec) ≤ 900000000000 := by have := sz_srt dec hsz; omega
    have f1 := ct_ElementOf1 (srtD d dec) (wf_srt hd dec) szx hfx (by rw [hxlv]; exact hlv) k x hx
    have f2 := ct_ElementOf1 (srtD d dec) (wf_srt hd dec) szx hfx (by rw [hxlv]; exact hlv) (k + 1) y hy
    have c9 := ct_CompareVectors1 dec kd x y hk123 wx wy mx my (by rw [hk]; exact ox) (by rw [hk]; exact oy) (by have := itemOk_sz ox; omega) (by have := itemOk_sz oy; omega)
    rw [if_pos hcb, ← hop] at c9
    have e1 : (k : Int) + 1 = ik1 := by rw [hik1, hik]
    have e2 : ((k + 1 : Nat) : Int) + 1 = ik2 := by rw [hik2, hik]; omega
    rw [hxkd, ← hk, hX, oneT, oneT, e1] at f1
    rw [hxkd, ← hk, hX, oneT, oneT, e2] at f2
    rw [oneT, oneT] at c9
    have g1 := ct_Number1 ik1 (by omega) (by omega)
    have g2 := ct_Number1 ik2 (by omega) (by omega)
    have hS : ∀ p : Int, vT (itemsV 2 [wh p]) = .ag [.c (.i .i64 2), .c (.sl [[C.i .i64 p, C.i .i64 1, C.s []]]), .c (.sl []), .c (.sl []), .c (.sl []), .c (.sl []), .c (.i .i64 0), .c (.i .i64 0)] := fun _ => rfl
    have hW : ∀ p : Int, [[C.i .i64 (wh p).num, C.i .i64 (wh p).den, C.s (wh p).text]] = [[C.i .i64 p, C.i .i64 1, C.s []]] := fun _ => rfl
    rw [hS] at g1 g2
    rw [hW] at f1 f2
    change Ct _ _ [T.c (C.sl [[C.i .i64 ik1]])] _ at g1
    change Ct _ _ [T.c (C.sl [[C.i .i64 ik2]])] _ at g2
    obtain ⟨S1, hS1⟩ := hide [[C.i .i64 ik1, C.i .i64 1, C.s []]]
    obtain ⟨S2, hS2⟩ := hide [[C.i .i64 ik2, C.i .i64 1, C.s []]]
    obtain ⟨X1, hX1⟩ := hide [[C.i .i64 x.num, C.i .i64 x.den, C.s x.text]]
    obtain ⟨X2, hX2⟩ := hide [[C.i .i64 y.num, C.i .i64 y.den, C.s y.text]]
    obtain ⟨O, hO⟩ := hide [[C.i .i64 1, C.i .i64 1, C.s []]]
    rw [← hS1] at g1 f1
    rw [← hS2] at g2 f2
    rw [← hX1] at f1 c9
    rw [← hX2] at f2 c9
    rw [← hO] at c9
    have hOl : zl O = 1 := by rw [z_len hz, hO]; rfl
    have hO0 : O[0]? = some [C.i .i64 1, C.i .i64 1, C.s []] := by rw [hO]; rfl
    clear hx hy hxx hyy hcmp hcb mx1 my1 ox oy wx wy hS hW
    refine W_run ti_ok hz 400 (by cbv) ?_
    refine W_keep [3, 5, 7, 11, 14, 15] [0, 2] 4 (by cbv) (by cbv) ?_
    refine W_run ti_ok hz 0 (by cbv) ?_
    refine W_drawC mixedB (.cons (1, 0) (.cons (2, 1) (.cons (2, 2) (.fork (.cons (0, 3) (.fork (.cons (0, 4) (.fork (.cons (0, 5) (.cons (2, 6) (.cons (2, 7) (.cons (2, 8) (.cons (0, 9) (.cons (0, 10) (.cons (2, 11) .nil))))))) (.cons (0, 9) (.cons (0, 5) (.cons (2, 6) (.cons (2, 7) (.cons (2, 8) (.cons (0, 10) (.cons (2, 11) .nil))))))))) (.cons (0, 9) (.cons (0, 4) (.cons (0, 5) (.cons (2, 6) (.cons (2, 7) (.cons (2, 8) (.cons (0, 10) (.cons (2, 11) .nil)))))))))) (.cons (0, 9) (.cons (0, 3) (.cons (0, 4) (.cons (0, 5) (.cons (2, 6) (.cons (2, 7) (.cons (2, 8) (.cons (0, 10) (.cons (2, 11) .nil))))))))))))) [] (by kernel_rfl) [(3, T.pt 0 0), (5, T.c (C.sl Lm)), (7, T.c (C.sl Lm)), (11, T.pt 2 0), (14, T.c (C.s op)), (15, T.c (C.i IntKind.i64 ik)), (16, T.pt 3 0), (17, T.c (C.s []))]
      [(0, Obj.box [T.c (C.i IntKind.i64 kd), T.c (C.sl I), T.c (C.sl P), T.c (C.sl N), T.c (C.sl Q), T.c (C.sl Lv), T.c (C.i IntKind.i64 cd), T.c (C.i IntKind.i64 en)]), (2, Obj.box [T.c (C.i IntKind.i64 xk), T.c (C.sl xI), T.c (C.sl xP), T.c (C.sl xN), T.c (C.sl xQ), T.c (C.sl xL), T.c (C.i IntKind.i64 xc), T.c (C.i IntKind.i64 xe)]), (3, Obj.box [T.c (C.i IntKind.i64 kd), T.c (C.sl X1), T.c (C.sl []), T.c (C.sl []), T.c (C.sl []), T.c (C.sl []), T.c (C.i IntKind.i64 0), T.c (C.i IntKind.i64 0)])] 4 (fun hfin => ?_) ?_
    · refine D_run ti_ok hz 3 (by cbv) ?_
      refine D_fork ?_ ?_
      · refine D_run ti_ok hz 1 (by cbv) ?_
        refine D_fork ?_ ?_
        · rw [hadd]
          refine D_call (by cbv) (by cbv) (by kernel_rfl) g1 ?_
          rintro t ⟨rfl, -⟩
          refine D_fork ?_ ?_
          · refine D_call (by cbv) (by cbv) (by kernel_rfl) f1 ?_
            rintro t rfl
            refine D_run ti_ok hz 3 (by cbv) ?_
            refine D_allocAt ti_ok 3 16 (by cbv) (by cbv) (by cbv) (by cbv) (by cbv) (by cbv) (by cbv) (by cbv) ?_
            refine D_store ti_ok (by cbv) (by cbv) (by cbv) (by cbv) (by cbv) ?_
            refine D_run ti_ok hz 1 (by cbv) ?_
            refine D_done ?_
            refine W_keep [3, 5, 7, 11, 14, 15, 16, 17] [0, 2, 3] 4 (by cbv) (by cbv) ?_
            refine W_run ti_ok hz 0 (by cbv) ?_
            exact hfin
          · refine D_allocAt ti_ok 3 16 (by cbv) (by cbv) (by cbv) (by cbv) (by cbv) (by cbv) (by cbv) (by cbv) ?_
            refine D_call (by cbv) (by cbv) (by kernel_rfl) f1 ?_
            rintro t rfl
            refine D_run ti_ok hz 3 (by cbv) ?_
            refine D_store ti_ok (by cbv) (by cbv) (by cbv) (by cbv) (by cbv) ?_
            refine D_run ti_ok hz 1 (by cbv) ?_
            refine D_done ?_
            refine W_keep [3, 5, 7, 11, 14, 15, 16, 17] [0, 2, 3] 4 (by cbv) (by cbv) ?_
            refine W_run ti_ok hz 0 (by cbv) ?_
            exact hfin
        · refine D_allocAt ti_ok 3 16 (by cbv) (by cbv) (by cbv) (by cbv) (by cbv) (by cbv) (by cbv) (by cbv) ?_
          rw [hadd]
          refine D_call (by cbv) (by cbv) (by kernel_rfl) g1 ?_
          rintro t ⟨rfl, -⟩
          refine D_call (by cbv) (by cbv) (by kernel_rfl) f1 ?_
          rintro t rfl
          refine D_run ti_ok hz 3 (by cbv) ?_
          refine D_store ti_ok (by cbv) (by cbv) (by cbv) (by cbv) (by cbv) ?_
          refine D_run ti_ok hz 1 (by cbv) ?_
          refine D_done ?_
          refine W_keep [3, 5, 7, 11, 14, 15, 16, 17] [0, 2, 3] 4 (by cbv) (by cbv) ?_
          refine W_run ti_ok hz 0 (by cbv) ?_
          exact hfin
      · refine D_allocAt ti_ok 3 16 (by cbv) (by cbv) (by cbv) (by cbv) (by cbv) (by cbv) (by cbv) (by cbv) ?_
        refine D_run ti_ok hz 1 (by cbv) ?_
        rw [hadd]
        refine D_call (by cbv) (by cbv) (by kernel_rfl) g1 ?_
        rintro t ⟨rfl, -⟩
        refine D_call (by cbv) (by cbv) (by kernel_rfl) f1 ?_
        rintro t rfl
        refine D_run ti_ok hz 3 (by cbv) ?_
        refine D_store ti_ok (by cbv) (by cbv) (by cbv) (by cbv) (by cbv) ?_
        refine D_run ti_ok hz 1 (by cbv) ?_
        refine D_done ?_
        refine W_keep [3, 5, 7, 11, 14, 15, 16, 17] [0, 2, 3] 4 (by cbv) (by cbv) ?_
        refine W_run ti_ok hz 0 (by cbv) ?_
        exact hfin
    refine W_run ti_ok hz 400 (by cbv) ?_
    refine W_keep [3, 5, 7, 11, 14, 15, 16, 17] [0, 2, 3] 5 (by cbv) (by cbv) ?_
    refine W_run ti_ok hz 0 (by cbv) ?_
    refine W_drawC mixedB (.cons (1, 0) (.cons (2, 1) (.cons (2, 2) (.fork (.cons (0, 3) (.fork (.cons (0, 4) (.fork (.cons (0, 5) (.cons (2, 6) (.cons (2, 7) (.cons (2, 8) (.cons (0, 9) (.cons (0, 10) (.cons (2, 11) .nil))))))) (.cons (0, 9) (.cons (0, 5) (.cons (2, 6) (.cons (2, 7) (.cons (2, 8) (.cons (0, 10) (.cons (2, 11) .nil))))))))) (.cons (0, 9) (.cons (0, 4) (.cons (0, 5) (.cons (2, 6) (.cons (2, 7) (.cons (2, 8) (.cons (0, 10) (.cons (2, 11) .nil)))))))))) (.cons (0, 9) (.cons (0, 3) (.cons (0, 4) (.cons (0, 5) (.cons (2, 6) (.cons (2, 7) (.cons (2, 8) (.cons (0, 10) (.cons (2, 11) .nil))))))))))))) [] (by kernel_rfl) [(3, T.pt 0 0), (5, T.c (C.sl Lm)), (7, T.c (C.sl Lm)), (11, T.pt 2 0), (14, T.c (C.s op)), (15, T.c (C.i IntKind.i64 ik)), (16, T.pt 3 0), (17, T.c (C.s [])), (18, T.pt 4 0), (19, T.c (C.s []))]
      [(0, Obj.box [T.c (C.i IntKind.i64 kd), T.c (C.sl I), T.c (C.sl P), T.c (C.sl N), T.c (C.sl Q), T.c (C.sl Lv), T.c (C.i IntKind.i64 cd), T.c (C.i IntKind.i64 en)]), (2, Obj.box [T.c (C.i IntKind.i64 xk), T.c (C.sl xI), T.c (C.sl xP), T.c (C.sl xN), T.c (C.sl xQ), T.c (C.sl xL), T.c (C.i IntKind.i64 xc), T.c (C.i IntKind.i64 xe)]), (3, Obj.box [T.c (C.i IntKind.i64 kd), T.c (C.sl X1), T.c (C.sl []), T.c (C.sl []), T.c (C.sl []), T.c (C.sl []), T.c (C.i IntKind.i64 0), T.c (C.i IntKind.i64 0)]), (4, Obj.box [T.c (C.i IntKind.i64 kd), T.c (C.sl X2), T.c (C.sl []), T.c (C.sl []), T.c (C.sl []), T.c (C.sl []), T.c (C.i IntKind.i64 0), T.c (C.i IntKind.i64 0)])] 5 (fun hfin => ?_) ?_
    · refine D_run ti_ok hz 3 (by cbv) ?_
      refine D_fork ?_ ?_
      · refine D_run ti_ok hz 1 (by cbv) ?_
        refine D_fork ?_ ?_
        · rw [hadd2]
          refine D_call (by cbv) (by cbv) (by kernel_rfl) g2 ?_
          rintro t ⟨rfl, -⟩
          refine D_fork ?_ ?_
          · refine D_call (by cbv) (by cbv) (by kernel_rfl) f2 ?_
            rintro t rfl
            refine D_run ti_ok hz 3 (by cbv) ?_
            refine D_allocAt ti_ok 4 18 (by cbv) (by cbv) (by cbv) (by cbv) (by cbv) (by cbv) (by cbv) (by cbv) ?_
            refine D_store ti_ok (by cbv) (by cbv) (by cbv) (by cbv) (by cbv) ?_
            refine D_run ti_ok hz 1 (by cbv) ?_
            refine D_done ?_
            refine W_keep [3, 5, 7, 11, 14, 15, 16, 17, 18, 19] [0, 2, 3, 4] 5 (by cbv) (by cbv) ?_
            refine W_run ti_ok hz 0 (by cbv) ?_
            exact hfin
          · refine D_allocAt ti_ok 4 18 (by cbv) (by cbv) (by cbv) (by cbv) (by cbv) (by cbv) (by cbv) (by cbv) ?_
            refine D_call (by cbv) (by cbv) (by kernel_rfl) f2 ?_
            rintro t rfl
            refine D_run ti_ok hz 3 (by cbv) ?_
            refine D_store ti_ok (by cbv) (by cbv) (by cbv) (by cbv) (by cbv) ?_
            refine D_run ti_ok hz 1 (by cbv) ?_
            refine D_done ?_
            refine W_keep [3, 5, 7, 11, 14, 15, 16, 17, 18, 19] [0, 2, 3, 4] 5 (by cbv) (by cbv) ?_
            refine W_run ti_ok hz 0 (by cbv) ?_
            exact hfin
        · refine D_allocAt ti_ok 4 18 (by cbv) (by cbv) (by cbv) (by cbv) (by cbv) (by cbv) (by cbv) (by cbv) ?_
          rw [hadd2]
          refine D_call (by cbv) (by cbv) (by kernel_rfl) g2 ?_
          rintro t ⟨rfl, -⟩
          refine D_call (by cbv) (by cbv) (by kernel_rfl) f2 ?_
          rintro t rfl
          refine D_run ti_ok hz 3 (by cbv) ?_
          refine D_store ti_ok (by cbv) (by cbv) (by cbv) (by cbv) (by cbv) ?_
          refine D_run ti_ok hz 1 (by cbv) ?_
          refine D_done ?_
          refine W_keep [3, 5, 7, 11, 14, 15, 16, 17, 18, 19] [0, 2, 3, 4] 5 (by cbv) (by cbv) ?_
          refine W_run ti_ok hz 0 (by cbv) ?_
          exact hfin
      · refine D_allocAt ti_ok 4 18 (by cbv) (by cbv) (by cbv) (by cbv) (by cbv) (by cbv) (by cbv) (by cbv) ?_
        refine D_run ti_ok hz 1 (by cbv) ?_
        rw [hadd2]
        refine D_call (by cbv) (by cbv) (by kernel_rfl) g2 ?_
        rintro t ⟨rfl, -⟩
        refine D_call (by cbv) (by cbv) (by kernel_rfl) f2 ?_
        rintro t rfl
        refine D_run ti_ok hz 3 (by cbv) ?_
        refine D_store ti_ok (by cbv) (by cbv) (by cbv) (by cbv) (by cbv) ?_
        refine D_run ti_ok hz 1 (by cbv) ?_
        refine D_done ?_
        refine W_keep [3, 5, 7, 11, 14, 15, 16, 17, 18, 19] [0, 2, 3, 4] 5 (by cbv) (by cbv) ?_
        refine W_run ti_ok hz 0 (by cbv) ?_
        exact hfin
    refine W_run ti_ok hz 400 (by cbv) ?_
    refine W_call (by cbv) (by kernel_rfl) (c9) ?_
    rintro t rfl
    refine W_run ti_ok hz 400 (by cbv) ?_
    refine W_draw mixedB [(2, 0), (2, 1), (2, 2), (2, 3), (1, 4), (2, 5), (2, 6), (2, 7), (2, 8), (2, 9), (1, 10), (2, 11), (1, 12), (0, 13), (2, 14), (2, 15)] [] (by kernel_rfl) ?_
    refine D_run ti_ok hz 400 (by cbv) ?_
    refine D_bool 145 (by cbv) (show _ = false by rw [z_neS hz]; rfl) ?_
    refine D_run ti_ok hz 400 (by cbv) ?_
    rw [hOl]
    refine D_bool 151 (by cbv) (show _ = false by rw [z_neq hz]; rfl) ?_
    refine D_run ti_ok hz 400 (by cbv) ?_
    refine D_val (by cbv) (by cbv) (by cbv) (Val_elem ti_ok (by cbv) 0 rfl hO0 rfl) ?_
    refine D_run ti_ok hz 400 (by cbv) ?_
    refine D_call (by cbv) (by cbv) (by kernel_rfl) ((ct_num 1)) ?_
    rintro t rfl
    refine D_val (by cbv) (by cbv) (by cbv) (Val_neIt rfl (wh 1) (wh 1) (by cbv) (by cbv) (by cbv)) ?_
    refine D_run ti_ok hz 400 (by cbv) ?_
    refine D_done ?_
    refine W_bool 158 (by cbv) (show _ = false by decide) ?_
    refine W_run ti_ok hz 400 (by cbv) ?_
    rw [hadd]
    refine W_inv [3, 5, 7, 11, 14, 15] [0, 2] (xn - (k + 1)) (by omega) (by cbv) (by cbv) ⟨k + 1, ik1, by omega, rfl, by rw [hik1, hik]; rfl, by cbv, by cbv⟩
  have hordl := insOrd_length (befL d.kind dec d.items) d.items.length
  have hordm : ∀ i ∈ insOrd (befL d.kind dec d.items) d.items.length, i < d.items.length := fun i hi => insOrd_mem.1 hi
  have hsta := fun (k a b : Nat) => ord_stable hf dec (k := k) (a := a) (b := b)
  obtain ⟨o, ho⟩ := hide (insOrd (befL d.kind dec d.items) d.items.length)
  rw [← ho] at hoL hordl hordm hsta
  refine W_run ti_ok hz 400 (by cbv) ?_
  refine W_keep [3, 5, 7, 22] [0] 1 (by cbv) (by cbv) ?_
  refine W_run ti_ok hz 0 (by cbv) ?_
  refine W_loop (fun n' a m => ∃ (q : Nat) (ik : Int), q ≤ n ∧ n' = n - q ∧ ik = (q : Int) ∧
      a = [(3, T.pt 0 0), (5, T.c (C.sl Lm)), (7, T.c (C.sl Lm)), (22, T.c (C.i IntKind.i64 ik))] ∧ m = [(0, Obj.box [T.c (C.i IntKind.i64 kd), T.c (C.sl I), T.c (C.sl P), T.c (C.sl N), T.c (C.sl Q), T.c (C.sl Lv), T.c (C.i IntKind.i64 cd), T.c (C.i IntKind.i64 en)])]) n ⟨0, 0, Nat.zero_le _, rfl, rfl, rfl, rfl⟩ ?_
  rintro n' a m ⟨q, ik, hq', hn', hik, rfl, rfl⟩
  have hadd : zb .add .i64 ik 1 = ik + 1 := z_add hz (by omega) (by omega)
  obtain ⟨ik1, hik1⟩ := hide (ik + 1)
  rw [← hik1] at hadd
  have hikq : ik1 = ((q + 1 : Nat) : Int) := by omega
  refine W_run ti_ok hz 400 (by cbv) ?_
  rw [hadd]
  refine W_cond (by cbv) (fun h => ?_) (fun h => ?_)
  · have hlt : q + 1 < n := by
      rw [z_lss hz, hlL] at h
      have := of_decide_eq_true h
      omega
    obtain ⟨a, hoa⟩ : ∃ a, o[q]? = some a := ⟨_, List.getElem?_eq_getElem (by omega)⟩
    obtain ⟨b, hob⟩ : ∃ b, o[q + 1]? = some b := ⟨_, List.getElem?_eq_getElem (by omega)⟩
    have hab := hsta q a b hoa hob
    have hal := hordm a (List.mem_of_getElem? hoa)
    have hbl := hordm b (List.mem_of_getElem? hob)
    obtain ⟨x, hx⟩ : ∃ x, d.items[a]? = some x := ⟨_, List.getElem?_eq_getElem hal⟩
    obtain ⟨y, hy⟩ : ∃ y, d.items[b]? = some y := ⟨_, List.getElem?_eq_getElem hbl⟩
    rw [show d.items.getD a ⟨0, 0, []⟩ = x by rw [List.getD_eq_getElem?_getD, hx]; rfl, show d.items.getD b ⟨0, 0, []⟩ = y by rw [List.getD_eq_getElem?_getD, hy]; rfl] at hab
    have hIa : I[a]? = some (itK x) := by rw [hI, List.getElem?_map, hx]; rfl
    have hIb : I[b]? = some (itK y) := by rw [hI, List.getElem?_map, hy]; rfl
    obtain ⟨av, hav⟩ := hide ((a : Int) + 1)
    obtain ⟨bv, hbv⟩ := hide ((b : Int) + 1)
    have hLa : Lm[q]? = some [C.i .i64 av] := by rw [hLm, hoL, List.getElem?_map, hoa, hav]; rfl
    have hLb : Lm[q + 1]? = some [C.i .i64 bv] := by rw [hLm, hoL, List.getElem?_map, hob, hbv]; rfl
    obtain ⟨az, haz⟩ := hide (a : Int)
    obtain ⟨bz, hbz⟩ := hide (b : Int)
    have hsa : zb .sub .i64 av 1 = az := by rw [z_sub hz (by omega) (by omega)]; omega
    have hsb : zb .sub .i64 bv 1 = bz := by rw [z_sub hz (by omega) (by omega)]; omega
    have hsame := @sameIt_iff x y
    clear hx hy
    obtain ⟨xn, xd, xs⟩ := x
    obtain ⟨yn, yd, ys⟩ := y
    by_cases hs : sameIt ⟨xn, xd, xs⟩ ⟨yn, yd, ys⟩ = true
    · have hlt2 := hab (hsame.1 hs)
      refine W_run ti_ok hz 400 (by cbv) ?_
      refine W_draw mixedB [(2, 0), (1, 1), (2, 2), (2, 3), (2, 4), (1, 5), (2, 6), (2, 7), (1, 8), (2, 9), (1, 10), (2, 11), (2, 12), (2, 13), (2, 14), (1, 15), (2, 16), (2, 17), (1, 18), (2, 19), (2, 20), (2, 21), (2, 22), (2, 23), (1, 24), (2, 25), (2, 26), (2, 27), (2, 28), (1, 29), (2, 30), (2, 31)] [] (by kernel_rfl) ?_
      refine D_run ti_ok hz 400 (by cbv) ?_
      refine D_val (by cbv) (by cbv) (by cbv) (Val_elem ti_ok (by cbv) q hik hLa rfl) ?_
      refine D_run ti_ok hz 400 (by cbv) ?_
      rw [hsa]
      refine D_val (by cbv) (by cbv) (by cbv) (Val_elem ti_ok (by cbv) a haz hIa rfl) ?_
      refine D_run ti_ok hz 400 (by cbv) ?_
      rw [hadd]
      refine D_val (by cbv) (by cbv) (by cbv) (Val_elem ti_ok (by cbv) (q+1) hikq hLb rfl) ?_
      refine D_run ti_ok hz 400 (by cbv) ?_
      rw [hsb]
      refine D_val (by cbv) (by cbv) (by cbv) (Val_elem ti_ok (by cbv) b hbz hIb rfl) ?_
      refine D_run ti_ok hz 400 (by cbv) ?_
      refine D_val (by cbv) (by cbv) (by cbv) (Val_eqIt rfl ⟨xn, xd, xs⟩ ⟨yn, yd, ys⟩ (by cbv) (by cbv) (by cbv)) ?_
      obtain ⟨sb, hsbb⟩ := hide (sameIt ⟨xn, xd, xs⟩ ⟨yn, yd, ys⟩)
      rw [← hsbb] at hs ⊢
      refine D_run ti_ok hz 1 (by cbv) ?_
      refine D_bool 186 (by cbv) (hs) ?_
      refine D_run ti_ok hz 400 (by cbv) ?_
      refine D_val (by cbv) (by cbv) (by cbv) (Val_elem ti_ok (by cbv) q hik hLa rfl) ?_
      refine D_run ti_ok hz 400 (by cbv) ?_
      rw [hadd]
      refine D_val (by cbv) (by cbv) (by cbv) (Val_elem ti_ok (by cbv) (q+1) hikq hLb rfl) ?_
      refine D_run ti_ok hz 400 (by cbv) ?_
      refine D_done ?_
      refine W_bool 197 (by cbv) (show _ = false by rw [z_gtr hz]; exact decide_eq_false (by omega)) ?_
      refine W_run ti_ok hz 400 (by cbv) ?_
      rw [hadd]
      refine W_inv [3, 5, 7, 22] [0] (n - (q + 1)) (by omega) (by cbv) (by cbv) ⟨q + 1, ik1, by omega, rfl, hikq, by cbv, by cbv⟩
    · refine W_run ti_ok hz 400 (by cbv) ?_
      refine W_draw mixedB [(2, 0), (1, 1), (2, 2), (2, 3), (2, 4), (1, 5), (2, 6), (2, 7), (1, 8), (2, 9), (1, 10), (2, 11), (2, 12), (2, 13), (2, 14), (1, 15), (2, 16), (2, 17), (1, 18), (2, 19), (2, 20), (2, 21), (2, 22), (2, 23), (2, 24), (2, 25), (2, 26), (2, 27), (2, 28), (2, 29), (2, 30), (2, 31)] [] (by kernel_rfl) ?_
      refine D_run ti_ok hz 400 (by cbv) ?_
      refine D_val (by cbv) (by cbv) (by cbv) (Val_elem ti_ok (by cbv) q hik hLa rfl) ?_
      refine D_run ti_ok hz 400 (by cbv) ?_
      rw [hsa]
      refine D_val (by cbv) (by cbv) (by cbv) (Val_elem ti_ok (by cbv) a haz hIa rfl) ?_
      refine D_run ti_ok hz 400 (by cbv) ?_
      rw [hadd]
      refine D_val (by cbv) (by cbv) (by cbv) (Val_elem ti_ok (by cbv) (q+1) hikq hLb rfl) ?_
      refine D_run ti_ok hz 400 (by cbv) ?_
      rw [hsb]
      refine D_val (by cbv) (by cbv) (by cbv) (Val_elem ti_ok (by cbv) b hbz hIb rfl) ?_
      refine D_run ti_ok hz 400 (by cbv) ?_
      refine D_val (by cbv) (by cbv) (by cbv) (Val_eqIt rfl ⟨xn, xd, xs⟩ ⟨yn, yd, ys⟩ (by cbv) (by cbv) (by cbv)) ?_
      obtain ⟨sb, hsbb⟩ := hide (sameIt ⟨xn, xd, xs⟩ ⟨yn, yd, ys⟩)
      rw [← hsbb] at hs ⊢
      refine D_run ti_ok hz 1 (by cbv) ?_
      refine D_bool 186 (by cbv) (show _ = false by simpa using hs) ?_
      refine D_run ti_ok hz 400 (by cbv) ?_
      refine D_done ?_
      refine W_run ti_ok hz 400 (by cbv) ?_
      rw [hadd]
      refine W_inv [3, 5, 7, 22] [0] (n - (q + 1)) (by omega) (by cbv) (by cbv) ⟨q + 1, ik1, by omega, rfl, hikq, by cbv, by cbv⟩
  · obtain ⟨rw1, rw2, rw3⟩ := rankD_facts hd hf
    have hra : atomP (rankD d) = [] := by
      unfold atomP
      rw [rw2, if_neg (by decide)]
      exact if_neg (show ¬ (4 : Int) ≤ 2 by decide)
    have c10 := ct_RanksOf d hd (by omega) ha
    have c11 := ct_OrderOf (rankD d) false rw1 (by omega) (fun _ => by show (d.items.map _).length ≤ 1000; rw [List.length_map]; omega)
    rw [hra, if_pos rfl, rank_order hf] at c11
    have c12 := ct_sOrderOf d false hd (by omega) h40 hmd
    rw [if_pos ha, ha] at c12
    have c13 := ct_sameSame (ordL d false) (ord_i64 hf.l40)
    obtain ⟨L2, hL2⟩ := hide ((ordL d false).map inK)
    rw [← hL2] at c11 c12 c13
    obtain ⟨kk, kI, kP, kN, kQ, kL, kc, ke, hK, -⟩ := vT_hide (rankD d)
    rw [hK] at c10 c11
    rw [hT] at c10 c12
    refine W_run ti_ok hz 400 (by cbv) ?_
    refine W_call (by cbv) (by kernel_rfl) (c10) ?_
    rintro t rfl
    refine W_run ti_ok hz 400 (by cbv) ?_
    refine W_call (by cbv) (by kernel_rfl) (c11) ?_
    rintro t rfl
    refine W_run ti_ok hz 400 (by cbv) ?_
    refine W_call (by cbv) (by kernel_rfl) (c12) ?_
    rintro t rfl
    refine W_run ti_ok hz 400 (by cbv) ?_
    refine W_bool 219 (by cbv) (show _ = true by rw [z_eql hz, hlL, hlI]; simp) ?_
    refine W_run ti_ok hz 400 (by cbv) ?_
    refine W_bool 223 (by cbv) (show _ = true by rw [(z_neqs hz []).2]; rfl) ?_
    refine W_run ti_ok hz 400 (by cbv) ?_
    refine W_call (by cbv) (by kernel_rfl) (c13) ?_
    rintro t rfl
    refine W_run ti_ok hz 400 (by cbv) ?_
    refine W_ret ti_ok rfl (by cbv) ?_
    exact .inr rfl
end Go.Proofs.Ytjdimlhdkmkmbaa
