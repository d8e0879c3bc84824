/-
  Merged texts: VmCmpV, VmElem.
-/
import Derived.Test.YtjdimlhdkmkmbaaVmCmp
namespace Go.Proofs.Ytjdimlhdkmkmbaa
set_option maxRecDepth 100000
set_option maxRecDepth 100000
open Go.ChangeShapes Go.WideShapes Go.ChangeAt Go.RowKit Go.Deep Go.Proofs.Ytjdimlhdkmkmbaa.Vm
set_option linter.unusedVariables false

theorem one_len {k : Int} {x : ItemD} (h : k ≠ 5) : lenV (one k x) = 1 := by
  unfold lenV
  rw [if_neg (show ¬ (one k x).kind = 5 from h)]
  rfl
set_option maxHeartbeats 4000000 in
theorem ct_resultNames1 (a b : Int) (x y : ItemD) (ha : I64 a) (hb : I64 b) (hx : ItWf x) (hy : ItWf y) (h5 : a ≠ 5) (h5' : b ≠ 5) : Ct Try.prog 81 [.c (.i .i64 1), vT (one a x), vT (one b y)] (fun t => t = .c (.sl [])) := by
  have c1 := ct_length (one a x) (one_wf ha hx) (show 1 + 0 ≤ _ by decide)
  have c2 := ct_length (one b y) (one_wf hb hy) (show 1 + 0 ≤ _ by decide)
  have c3 := ct_copyTexts [] (fun _ h => by cases h) (Nat.zero_le _)
  rw [one_len h5] at c1
  rw [one_len h5'] at c2
  obtain ⟨zb, zc, zs, zl, zn, zt, zp, zg, zv, zx, zm, hz⟩ := Vm.zE
  have hN : zl ([] : List (List C)) = 0 := by rw [z_len hz]; rfl
  rw [oneT] at c1 c2
  rw [oneT, oneT]
  obtain ⟨I, hII⟩ := hide [[C.i .i64 x.num, C.i .i64 x.den, C.s x.text]]
  obtain ⟨J, hJJ⟩ := hide [[C.i .i64 y.num, C.i .i64 y.den, C.s y.text]]
  rw [← hII] at c1 ⊢
  rw [← hJJ] at c2 ⊢
  refine Ct_of_W Try.func81 rfl (Nat.le_of_ble_eq_true rfl) fun w0 Z0 => ?_
  refine W_run ti_ok hz 400 (by cbv) ?_
  refine W_bool 9 (by cbv) (show _ = true by rw [z_gtr hz]; rfl) ?_
  refine W_run ti_ok hz 400 (by cbv) ?_
  refine W_call (by cbv) (by kernel_rfl) (c1) ?_
  rintro t rfl
  refine W_run ti_ok hz 400 (by cbv) ?_
  refine W_bool 15 (by cbv) (show _ = true by rw [z_eql hz]; rfl) ?_
  refine W_run ti_ok hz 400 (by cbv) ?_
  refine W_bool 20 (by cbv) (show _ = false by rw [z_gtr hz, hN]; rfl) ?_
  refine W_run ti_ok hz 400 (by cbv) ?_
  refine W_bool 26 (by cbv) (show _ = true by rw [z_gtr hz]; rfl) ?_
  refine W_run ti_ok hz 400 (by cbv) ?_
  refine W_call (by cbv) (by kernel_rfl) (c2) ?_
  rintro t rfl
  refine W_run ti_ok hz 400 (by cbv) ?_
  refine W_bool 31 (by cbv) (show _ = true by rw [z_eql hz]; rfl) ?_
  refine W_run ti_ok hz 400 (by cbv) ?_
  refine W_call (by cbv) (by kernel_rfl) (c3) ?_
  rintro t rfl
  refine W_run ti_ok hz 400 (by cbv) ?_
  refine W_ret ti_ok rfl (by cbv) ?_
  rfl
set_option maxHeartbeats 8000000 in
theorem ct_CompareVectors1 (dec : Bool) (k : Int) (x y : ItemD) (hk : k = 1 ∨ k = 2 ∨ k = 3) (hx : ItWf x) (hy : ItWf y) (mx : missing x = false) (my : missing y = false) (ox : itemOk k x = true) (oy : itemOk k y = true) (sx : szItem x ≤ 100) (sy : szItem y ≤ 100) :
    Ct Try.prog 32 [.c (.s (opD dec)), vT (one k x), vT (one k y)] (fun t => t = .tu [.ag [.c (.i .i64 1), .c (.sl [[.i .i64 (if cmpB dec (cmpI k x y) = true then 1 else 0), .i .i64 1, .s []]]), .nil, .c (.sl []), .nil, .nil, .c (.i .i64 0), .c (.i .i64 0)], .c (.s [])]) := by
  have ik : I64 k := by rcases hk with rfl | rfl | rfl <;> exact ⟨by decide, by decide⟩
  have c1 := ct_IsVector (one k x) (one_wf ik hx) (by have := one_sz (k := k) sx; omega)
  have c2 := ct_IsVector (one k y) (one_wf ik hy) (by have := one_sz (k := k) sy; omega)
  have e1 : vecOk (one k x) = true := vecOk_itemsV hk (by simp) fun z hz => by rw [List.mem_singleton.1 hz]; exact ox
  have e2 : vecOk (one k y) = true := vecOk_itemsV hk (by simp) fun z hz => by rw [List.mem_singleton.1 hz]; exact oy
  rw [e1] at c1
  rw [e2] at c2
  have c3 := ct_isComparison dec
  have c4 := ct_plain1 k x ik hx sx
  have c4' := ct_plain1 k y ik hy sy
  have c8 := ct_resultNames1 k k x y ik ik hx hy (by omega) (by omega)
  have hci : k ≠ 3 → cmpI k x y = cmpI 2 x y := fun h => by unfold cmpI; rw [if_neg h, if_neg (by decide)]
  have f3 := ct_cmpF dec 3 x y hx hy mx my
  have f2 := ct_cmpF dec 2 x y hx hy mx my
  have g3 := fun h : k = 3 => ct_convert1 k 3 x ik hx mx (.inl h) (by omega) (by omega) (by decide)
  have g3' := fun h : k = 3 => ct_convert1 k 3 y ik hy my (.inl h) (by omega) (by omega) (by decide)
  have g2 := fun h : k ≠ 3 => ct_convert1 k 2 x ik hx mx (.inr rfl) (by omega) (by omega) (by decide)
  have g2' := fun h : k ≠ 3 => ct_convert1 k 2 y ik hy my (.inr rfl) (by omega) (by omega) (by decide)
  have p3 := ct_pairwise1 3 3 x y (opD dec) _ f3
  have p2 := ct_pairwise1 2 2 x y (opD dec) _ f2
  obtain ⟨zb, zc, zs, zl, zn, zt, zp, zg, zv, zx, zm, hz⟩ := Vm.zE
  clear f3 f2 e1 e2 ox oy
  rw [oneT] at c1 c2 c4 c4'
  rw [oneT, oneT] at c8 p3 p2 ⊢
  simp only [oneT] at g3 g3' g2 g2'
  have hW : ∀ r : Int, [C.i .i64 (wh r).num, C.i .i64 (wh r).den, C.s (wh r).text] = [C.i .i64 r, C.i .i64 1, C.s []] := fun _ => rfl
  rw [hW] at p3 p2
  obtain ⟨I, hII⟩ := hide [[C.i .i64 x.num, C.i .i64 x.den, C.s x.text]]
  obtain ⟨J, hJJ⟩ := hide [[C.i .i64 y.num, C.i .i64 y.den, C.s y.text]]
  rw [← hII] at c1 c4 c8 p3 p2 g3 g2 ⊢
  rw [← hJJ] at c2 c4' c8 p3 p2 g3' g2' ⊢
  obtain ⟨op, hop⟩ := hide (opD dec)
  rw [← hop] at c3 p3 p2 ⊢
  refine Ct_of_W Try.func32 rfl (Nat.le_of_ble_eq_true rfl) fun w0 Z0 => ?_
  refine W_run ti_ok hz 400 (by cbv) ?_
  refine W_call (by cbv) (by kernel_rfl) (c1) ?_
  rintro t rfl
  refine W_run ti_ok hz 400 (by cbv) ?_
  refine W_bool 20 (by cbv) (show _ = false by rw [z_not hz]; rfl) ?_
  refine W_run ti_ok hz 400 (by cbv) ?_
  refine W_call (by cbv) (by kernel_rfl) (c2) ?_
  rintro t rfl
  refine W_run ti_ok hz 400 (by cbv) ?_
  refine W_bool 24 (by cbv) (show _ = false by rw [z_not hz]; rfl) ?_
  refine W_run ti_ok hz 400 (by cbv) ?_
  refine W_call (by cbv) (by kernel_rfl) (c3) ?_
  rintro t rfl
  refine W_run ti_ok hz 400 (by cbv) ?_
  refine W_bool 28 (by cbv) (show _ = false by rw [z_not hz]; rfl) ?_
  refine W_run ti_ok hz 400 (by cbv) ?_
  refine W_bool 33 (by cbv) (show _ = false by rw [z_geq hz]; exact decide_eq_false (by omega)) ?_
  refine W_run ti_ok hz 400 (by cbv) ?_
  refine W_bool 37 (by cbv) (show _ = false by rw [z_geq hz]; exact decide_eq_false (by omega)) ?_
  refine W_run ti_ok hz 400 (by cbv) ?_
  refine W_keep [3, 4, 5, 6, 7] [0, 1, 2, 3] 6 (by cbv) (by cbv) ?_
  refine W_run ti_ok hz 1 (by cbv) ?_
  refine W_drawC mixedB (.cons (1, 0) (.cons (1, 2) (.fork (.cons (0, 1) (.fork (.cons (0, 3) (.fork (.cons (0, 4) (.cons (0, 5) (.cons (0, 6) (.cons (0, 7) .nil)))) (.cons (0, 5) (.cons (0, 4) (.cons (0, 6) (.cons (0, 7) .nil)))))) (.fork (.cons (0, 4) (.fork (.cons (0, 3) (.cons (0, 5) (.cons (0, 6) (.cons (0, 7) .nil)))) (.cons (0, 5) (.cons (0, 3) (.cons (0, 6) (.cons (0, 7) .nil)))))) (.cons (0, 5) (.fork (.cons (0, 3) (.cons (0, 4) (.cons (0, 6) (.cons (0, 7) .nil)))) (.cons (0, 4) (.cons (0, 3) (.cons (0, 6) (.cons (0, 7) .nil))))))))) (.fork (.cons (0, 4) (.fork (.cons (0, 1) (.fork (.cons (0, 3) (.cons (0, 5) (.cons (0, 6) (.cons (0, 7) .nil)))) (.cons (0, 5) (.cons (0, 3) (.cons (0, 6) (.cons (0, 7) .nil)))))) (.cons (0, 5) (.cons (0, 1) (.cons (0, 3) (.cons (0, 6) (.cons (0, 7) .nil))))))) (.cons (0, 5) (.fork (.cons (0, 1) (.fork (.cons (0, 3) (.cons (0, 4) (.cons (0, 6) (.cons (0, 7) .nil)))) (.cons (0, 4) (.cons (0, 3) (.cons (0, 6) (.cons (0, 7) .nil)))))) (.cons (0, 4) (.cons (0, 1) (.cons (0, 3) (.cons (0, 6) (.cons (0, 7) .nil))))))))))) [7] (by kernel_rfl) [(3, T.pt 0 0), (4, T.pt 1 0), (5, T.pt 2 0), (6, T.pt 3 0), (7, T.c (C.s [])), (8, T.pt 4 0), (9, T.pt 5 0)]
    [(0, Obj.box [T.c (C.s op)]), (1, Obj.box [T.c (C.i IntKind.i64 k), T.c (C.sl I), T.c (C.sl []), T.c (C.sl []), T.c (C.sl []), T.c (C.sl []), T.c (C.i IntKind.i64 0), T.c (C.i IntKind.i64 0)]), (2, Obj.box [T.c (C.i IntKind.i64 k), T.c (C.sl J), T.c (C.sl []), T.c (C.sl []), T.c (C.sl []), T.c (C.sl []), T.c (C.i IntKind.i64 0), T.c (C.i IntKind.i64 0)]), (3, Obj.box [T.c (C.i IntKind.i64 0), T.nil, T.nil, T.nil, T.nil, T.nil, T.c (C.i IntKind.i64 0), T.c (C.i IntKind.i64 0)]), (4, Obj.box [T.c (C.i IntKind.i64 k), T.c (C.sl I), T.c (C.sl []), T.c (C.sl []), T.c (C.sl []), T.c (C.sl []), T.c (C.i IntKind.i64 0), T.c (C.i IntKind.i64 0)]), (5, Obj.box [T.c (C.i IntKind.i64 k), T.c (C.sl J), T.c (C.sl []), T.c (C.sl []), T.c (C.sl []), T.c (C.sl []), T.c (C.i IntKind.i64 0), T.c (C.i IntKind.i64 0)])] 6 (fun hfin => ?_) ?_
  · refine D_run ti_ok hz 400 (by cbv) ?_
    refine D_fork ?_ ?_
    · refine D_call (by cbv) (by cbv) (by kernel_rfl) c4 ?_
      rintro t rfl
      refine D_fork ?_ ?_
      · refine D_call (by cbv) (by cbv) (by kernel_rfl) c4' ?_
        rintro t rfl
        refine D_fork ?_ ?_
        · refine D_allocAt ti_ok 4 8 (by cbv) (by cbv) (by cbv) (by cbv) (by cbv) (by cbv) (by cbv) (by cbv) ?_
          refine D_allocAt ti_ok 5 9 (by cbv) (by cbv) (by cbv) (by cbv) (by cbv) (by cbv) (by cbv) (by cbv) ?_
          refine D_store ti_ok (by cbv) (by cbv) (by cbv) (by cbv) (by cbv) ?_
          refine D_last ti_ok hz (by cbv) (by cbv) (by cbv) (by cbv) (by cbv) ?_
          refine W_keep [3, 4, 5, 6, 7, 8, 9] [0, 1, 2, 3, 4, 5] 6 (by cbv) (by cbv) ?_
          refine W_run ti_ok hz 0 (by cbv) ?_
          exact hfin
        · refine D_allocAt ti_ok 5 9 (by cbv) (by cbv) (by cbv) (by cbv) (by cbv) (by cbv) (by cbv) (by cbv) ?_
          refine D_allocAt ti_ok 4 8 (by cbv) (by cbv) (by cbv) (by cbv) (by cbv) (by cbv) (by cbv) (by cbv) ?_
          refine D_store ti_ok (by cbv) (by cbv) (by cbv) (by cbv) (by cbv) ?_
          refine D_last ti_ok hz (by cbv) (by cbv) (by cbv) (by cbv) (by cbv) ?_
          refine W_keep [3, 4, 5, 6, 7, 8, 9] [0, 1, 2, 3, 4, 5] 6 (by cbv) (by cbv) ?_
          refine W_run ti_ok hz 0 (by cbv) ?_
          exact hfin
      · refine D_fork ?_ ?_
        · refine D_allocAt ti_ok 4 8 (by cbv) (by cbv) (by cbv) (by cbv) (by cbv) (by cbv) (by cbv) (by cbv) ?_
          refine D_fork ?_ ?_
          · refine D_call (by cbv) (by cbv) (by kernel_rfl) c4' ?_
            rintro t rfl
            refine D_allocAt ti_ok 5 9 (by cbv) (by cbv) (by cbv) (by cbv) (by cbv) (by cbv) (by cbv) (by cbv) ?_
            refine D_store ti_ok (by cbv) (by cbv) (by cbv) (by cbv) (by cbv) ?_
            refine D_last ti_ok hz (by cbv) (by cbv) (by cbv) (by cbv) (by cbv) ?_
            refine W_keep [3, 4, 5, 6, 7, 8, 9] [0, 1, 2, 3, 4, 5] 6 (by cbv) (by cbv) ?_
            refine W_run ti_ok hz 0 (by cbv) ?_
            exact hfin
          · refine D_allocAt ti_ok 5 9 (by cbv) (by cbv) (by cbv) (by cbv) (by cbv) (by cbv) (by cbv) (by cbv) ?_
            refine D_call (by cbv) (by cbv) (by kernel_rfl) c4' ?_
            rintro t rfl
            refine D_store ti_ok (by cbv) (by cbv) (by cbv) (by cbv) (by cbv) ?_
            refine D_last ti_ok hz (by cbv) (by cbv) (by cbv) (by cbv) (by cbv) ?_
            refine W_keep [3, 4, 5, 6, 7, 8, 9] [0, 1, 2, 3, 4, 5] 6 (by cbv) (by cbv) ?_
            refine W_run ti_ok hz 0 (by cbv) ?_
            exact hfin
        · refine D_allocAt ti_ok 5 9 (by cbv) (by cbv) (by cbv) (by cbv) (by cbv) (by cbv) (by cbv) (by cbv) ?_
          refine D_fork ?_ ?_
          · refine D_call (by cbv) (by cbv) (by kernel_rfl) c4' ?_
            rintro t rfl
            refine D_allocAt ti_ok 4 8 (by cbv) (by cbv) (by cbv) (by cbv) (by cbv) (by cbv) (by cbv) (by cbv) ?_
            refine D_store ti_ok (by cbv) (by cbv) (by cbv) (by cbv) (by cbv) ?_
            refine D_last ti_ok hz (by cbv) (by cbv) (by cbv) (by cbv) (by cbv) ?_
            refine W_keep [3, 4, 5, 6, 7, 8, 9] [0, 1, 2, 3, 4, 5] 6 (by cbv) (by cbv) ?_
            refine W_run ti_ok hz 0 (by cbv) ?_
            exact hfin
          · refine D_allocAt ti_ok 4 8 (by cbv) (by cbv) (by cbv) (by cbv) (by cbv) (by cbv) (by cbv) (by cbv) ?_
            refine D_call (by cbv) (by cbv) (by kernel_rfl) c4' ?_
            rintro t rfl
            refine D_store ti_ok (by cbv) (by cbv) (by cbv) (by cbv) (by cbv) ?_
            refine D_last ti_ok hz (by cbv) (by cbv) (by cbv) (by cbv) (by cbv) ?_
            refine W_keep [3, 4, 5, 6, 7, 8, 9] [0, 1, 2, 3, 4, 5] 6 (by cbv) (by cbv) ?_
            refine W_run ti_ok hz 0 (by cbv) ?_
            exact hfin
    · refine D_fork ?_ ?_
      · refine D_allocAt ti_ok 4 8 (by cbv) (by cbv) (by cbv) (by cbv) (by cbv) (by cbv) (by cbv) (by cbv) ?_
        refine D_fork ?_ ?_
        · refine D_call (by cbv) (by cbv) (by kernel_rfl) c4 ?_
          rintro t rfl
          refine D_fork ?_ ?_
          · refine D_call (by cbv) (by cbv) (by kernel_rfl) c4' ?_
            rintro t rfl
            refine D_allocAt ti_ok 5 9 (by cbv) (by cbv) (by cbv) (by cbv) (by cbv) (by cbv) (by cbv) (by cbv) ?_
            refine D_store ti_ok (by cbv) (by cbv) (by cbv) (by cbv) (by cbv) ?_
            refine D_last ti_ok hz (by cbv) (by cbv) (by cbv) (by cbv) (by cbv) ?_
            refine W_keep [3, 4, 5, 6, 7, 8, 9] [0, 1, 2, 3, 4, 5] 6 (by cbv) (by cbv) ?_
            refine W_run ti_ok hz 0 (by cbv) ?_
            exact hfin
          · refine D_allocAt ti_ok 5 9 (by cbv) (by cbv) (by cbv) (by cbv) (by cbv) (by cbv) (by cbv) (by cbv) ?_
            refine D_call (by cbv) (by cbv) (by kernel_rfl) c4' ?_
            rintro t rfl
            refine D_store ti_ok (by cbv) (by cbv) (by cbv) (by cbv) (by cbv) ?_
            refine D_last ti_ok hz (by cbv) (by cbv) (by cbv) (by cbv) (by cbv) ?_
            refine W_keep [3, 4, 5, 6, 7, 8, 9] [0, 1, 2, 3, 4, 5] 6 (by cbv) (by cbv) ?_
            refine W_run ti_ok hz 0 (by cbv) ?_
            exact hfin
        · refine D_allocAt ti_ok 5 9 (by cbv) (by cbv) (by cbv) (by cbv) (by cbv) (by cbv) (by cbv) (by cbv) ?_
          refine D_call (by cbv) (by cbv) (by kernel_rfl) c4 ?_
          rintro t rfl
          refine D_call (by cbv) (by cbv) (by kernel_rfl) c4' ?_
          rintro t rfl
          refine D_store ti_ok (by cbv) (by cbv) (by cbv) (by cbv) (by cbv) ?_
          refine D_last ti_ok hz (by cbv) (by cbv) (by cbv) (by cbv) (by cbv) ?_
          refine W_keep [3, 4, 5, 6, 7, 8, 9] [0, 1, 2, 3, 4, 5] 6 (by cbv) (by cbv) ?_
          refine W_run ti_ok hz 0 (by cbv) ?_
          exact hfin
      · refine D_allocAt ti_ok 5 9 (by cbv) (by cbv) (by cbv) (by cbv) (by cbv) (by cbv) (by cbv) (by cbv) ?_
        refine D_fork ?_ ?_
        · refine D_call (by cbv) (by cbv) (by kernel_rfl) c4 ?_
          rintro t rfl
          refine D_fork ?_ ?_
          · refine D_call (by cbv) (by cbv) (by kernel_rfl) c4' ?_
            rintro t rfl
            refine D_allocAt ti_ok 4 8 (by cbv) (by cbv) (by cbv) (by cbv) (by cbv) (by cbv) (by cbv) (by cbv) ?_
            refine D_store ti_ok (by cbv) (by cbv) (by cbv) (by cbv) (by cbv) ?_
            refine D_last ti_ok hz (by cbv) (by cbv) (by cbv) (by cbv) (by cbv) ?_
            refine W_keep [3, 4, 5, 6, 7, 8, 9] [0, 1, 2, 3, 4, 5] 6 (by cbv) (by cbv) ?_
            refine W_run ti_ok hz 0 (by cbv) ?_
            exact hfin
          · refine D_allocAt ti_ok 4 8 (by cbv) (by cbv) (by cbv) (by cbv) (by cbv) (by cbv) (by cbv) (by cbv) ?_
            refine D_call (by cbv) (by cbv) (by kernel_rfl) c4' ?_
            rintro t rfl
            refine D_store ti_ok (by cbv) (by cbv) (by cbv) (by cbv) (by cbv) ?_
            refine D_last ti_ok hz (by cbv) (by cbv) (by cbv) (by cbv) (by cbv) ?_
            refine W_keep [3, 4, 5, 6, 7, 8, 9] [0, 1, 2, 3, 4, 5] 6 (by cbv) (by cbv) ?_
            refine W_run ti_ok hz 0 (by cbv) ?_
            exact hfin
        · refine D_allocAt ti_ok 4 8 (by cbv) (by cbv) (by cbv) (by cbv) (by cbv) (by cbv) (by cbv) (by cbv) ?_
          refine D_call (by cbv) (by cbv) (by kernel_rfl) c4 ?_
          rintro t rfl
          refine D_call (by cbv) (by cbv) (by kernel_rfl) c4' ?_
          rintro t rfl
          refine D_store ti_ok (by cbv) (by cbv) (by cbv) (by cbv) (by cbv) ?_
          refine D_last ti_ok hz (by cbv) (by cbv) (by cbv) (by cbv) (by cbv) ?_
          refine W_keep [3, 4, 5, 6, 7, 8, 9] [0, 1, 2, 3, 4, 5] 6 (by cbv) (by cbv) ?_
          refine W_run ti_ok hz 0 (by cbv) ?_
          exact hfin
  refine W_run ti_ok hz 400 (by cbv) ?_
  by_cases h3 : k = 3
  case' pos =>
    have q1 := g3 h3
    have q2 := g3' h3
    have q3 := p3
    have hfin : cmpI 3 x y = cmpI k x y := by rw [h3]
    rw [hfin] at q3
    refine W_bool 46 (by cbv) (show _ = true by rw [z_eql hz]; simpa using h3) ?_
    refine W_run ti_ok hz 400 (by cbv) ?_
  case' neg =>
    have q1 := g2 h3
    have q2 := g2' h3
    have q3 := p2
    rw [← hci h3] at q3
    refine W_bool 46 (by cbv) (show _ = false by rw [z_eql hz]; simpa using h3) ?_
    refine W_run ti_ok hz 400 (by cbv) ?_
    refine W_bool 50 (by cbv) (show _ = false by rw [z_eql hz]; simpa using h3) ?_
    refine W_run ti_ok hz 400 (by cbv) ?_
  all_goals
    clear g3 g2 g3' g2' p3 p2 c1 c2 c3 c4 c4'
    obtain ⟨O, hO⟩ := hide [[C.i .i64 (if cmpB dec (cmpI k x y) = true then 1 else 0), C.i .i64 1, C.s []]]
    have hOl : zl O = 1 := by rw [z_len hz, hO]; rfl
    rw [← hO] at q3 ⊢
    refine W_call (by cbv) (by kernel_rfl) (q1) ?_
    rintro t rfl
    refine W_run ti_ok hz 400 (by cbv) ?_
    refine W_call (by cbv) (by kernel_rfl) (q2) ?_
    rintro t rfl
    refine W_run ti_ok hz 400 (by cbv) ?_
    refine W_freezeB 3 (by cbv) (by cbv) (by cbv) ?_
    refine W_freezeB 10 (by cbv) (by cbv) (by cbv) ?_
    refine W_val (by cbv) (by cbv) (Val_makeFunc (by cbv)) ?_
    refine W_run ti_ok hz 400 (by cbv) ?_
    refine W_call (by cbv) (by kernel_rfl) (q3) ?_
    rintro t rfl
    refine W_run ti_ok hz 400 (by cbv) ?_
    refine W_bool 71 (by cbv) (show _ = false by rw [(z_neqs hz []).1]; rfl) ?_
    refine W_run ti_ok hz 400 (by cbv) ?_
    rw [hOl]
    refine W_call (by cbv) (by kernel_rfl) (c8) ?_
    rintro t rfl
    refine W_run ti_ok hz 400 (by cbv) ?_
    refine W_ret ti_ok rfl (by cbv) ?_
    rfl
end Go.Proofs.Ytjdimlhdkmkmbaa
namespace Go.Proofs.Ytjdimlhdkmkmbaa
set_option maxRecDepth 100000
open Go.ChangeShapes Go.WideShapes Go.ChangeAt Go.RowKit Go.Deep Go.Proofs.Ytjdimlhdkmkmbaa.Vm
set_option linter.unusedVariables false

set_option maxHeartbeats 8000000 in
theorem ct_l9Numbers1 (n p : Int) (h1 : 1 ≤ p) (h2 : p ≤ 40) : Ct Try.prog 107 [.c (.i .i64 n), .c (.sl [[.i .i64 p, .i .i64 1, .s []]])] (fun t => t = .tu [.c (.sl [[.i .i64 p]]), .c (.s [])]) := by
  have c1 := ct_l1In p (-40) 40
  rw [show (decide (-40 ≤ p) && decide (p ≤ 40)) = true by rw [decide_eq_true (by omega), decide_eq_true (by omega)]; rfl] at c1
  obtain ⟨zb, zc, zs, zl, zn, zt, zp, zg, zv, zx, zm, hz⟩ := Vm.zE
  obtain ⟨I, hII⟩ := hide [[C.i .i64 p, C.i .i64 1, C.s []]]
  rw [← hII]
  have hI : zl I = 1 := by rw [z_len hz, hII]; rfl
  have hI0 : I[0]? = some [C.i .i64 p, C.i .i64 1, C.s []] := by rw [hII]; rfl
  refine Ct_of_W Try.func107 rfl (Nat.le_of_ble_eq_true rfl) fun w0 Z0 => ?_
  refine W_run ti_ok hz 400 (by cbv) ?_
  refine W_keep [0, 1, 6, 7, 8, 9] [0] 1 (by cbv) (by cbv) ?_
  refine W_run ti_ok hz 1 (by cbv) ?_
  refine W_loop (fun n' aa m => ∃ (ik : Int) (o : List (List C)) (b : Bool), ((n' = 1 ∧ ik = 0 ∧ o = [] ∧ b = false) ∨ (n' = 0 ∧ ik = 1 ∧ o = [[.i .i64 p]] ∧ b = true)) ∧
      aa = [(0, T.c (C.i IntKind.i64 n)), (1, T.c (C.sl I)), (6, T.sk 0 o), (7, T.c (C.b false)), (8, T.c (C.b b)), (9, T.c (C.i IntKind.i64 ik))] ∧
      m = [(0, Obj.tok 1 o)]) 1 ⟨0, [], false, .inl ⟨rfl, rfl, rfl, rfl⟩, rfl, rfl⟩ ?_
  rintro n' aa m ⟨ik, o, b, hcs, rfl, rfl⟩
  rcases hcs with ⟨hn', hik, ho, hb⟩ | ⟨hn', hik, ho, hb⟩
  · subst hik ho hb
    have hadd : zb .add .i64 0 1 = 1 := z_add hz (by omega) (by omega)
    refine W_run ti_ok hz 400 (by cbv) ?_
    refine W_bool 19 (by cbv) (show _ = true by rw [z_lss hz, hI]; rfl) ?_
    refine W_run ti_ok hz 400 (by cbv) ?_
    refine W_val (by cbv) (by cbv) (Val_elem ti_ok (by cbv) 0 rfl hI0 rfl) ?_
    refine W_run ti_ok hz 400 (by cbv) ?_
    refine W_bool 28 (by cbv) (show _ = false by rw [z_gtr hz]; rfl) ?_
    refine W_run ti_ok hz 400 (by cbv) ?_
    refine W_call (by cbv) (by kernel_rfl) (c1) ?_
    rintro t rfl
    refine W_run ti_ok hz 400 (by cbv) ?_
    refine W_bool 33 (by cbv) (show _ = false by rw [z_not hz]; rfl) ?_
    refine W_run ti_ok hz 400 (by cbv) ?_
    refine W_bool 7 (by cbv) (show _ = false by rw [z_lss hz]; exact decide_eq_false (by omega)) ?_
    refine W_bool 47 (by cbv) (show _ = true by rw [z_gtr hz]; exact decide_eq_true (by omega)) ?_
    refine W_run ti_ok hz 400 (by cbv) ?_
    refine W_bool 55 (by cbv) (show _ = true by rw [z_neq hz]; simp; omega) ?_
    refine W_run ti_ok hz 400 (by cbv) ?_
    refine W_app ti_ok (by cbv) (by cbv) (by simp) (by simp) ?_
    refine W_run ti_ok hz 400 (by cbv) ?_
    rw [hadd]
    refine W_inv [0, 1, 6, 7, 8, 9] [0] 0 (by omega) (by cbv) (by cbv) ⟨1, [[.i .i64 p]], true, .inr ⟨rfl, rfl, rfl, rfl⟩, by cbv, by cbv⟩
  · subst hik ho hb
    refine W_run ti_ok hz 400 (by cbv) ?_
    refine W_bool 19 (by cbv) (show _ = false by rw [z_lss hz, hI]; rfl) ?_
    refine W_run ti_ok hz 400 (by cbv) ?_
    refine W_ret ti_ok rfl (by cbv) ?_
    rfl
set_option maxHeartbeats 8000000 in
theorem ct_sResolve1 (n : Nat) (hn : n ≤ 40) (N : List (List C)) (hnm : NmOk N n) (p : Int) (h1 : 1 ≤ p) (h2 : p ≤ 40) : Ct Try.prog 72 [.c (.i .i64 (n : Int)), .c (.sl N), vT (one 2 (wh p))] (fun t => t = .tu [.c (.sl [[.i .i64 p]]), .c (.s [])]) := by
  have w1 : ItWf (wh p) := ⟨⟨by show _ ≤ p; omega, by show p ≤ _; omega⟩, i64o_, Nat.zero_le _⟩
  have o1 : itemOk 2 (wh p) = true := by
    have : isNum (wh p) = true := by
      unfold isNum wh
      simp
      omega
    simp [itemOk, this]
  have c1 := ct_sIsVector (one 2 (wh p)) (one_wf ⟨by decide, by decide⟩ w1) (by have := one_sz (k := 2) (x := wh p) (Nat.zero_le _); omega)
  have e1 : vecOk (one 2 (wh p)) = true := vecOk_itemsV (.inr (.inl rfl)) (by simp) fun z hz => by rw [List.mem_singleton.1 hz]; exact o1
  rw [e1] at c1
  have c2 := ct_l1In (n : Int) 0 40
  rw [show (decide ((0 : Int) ≤ (n : Int)) && decide ((n : Int) ≤ 40)) = true by rw [decide_eq_true (by omega), decide_eq_true (by omega)]; rfl] at c2
  obtain ⟨nk, hnk⟩ := hide (n : Int)
  rw [← hnk] at c2 ⊢
  have c3 := ct_l9Numbers1 nk p h1 h2
  obtain ⟨zb, zc, zs, zl, zn, zt, zp, zg, zv, zx, zm, hz⟩ := Vm.zE
  rw [oneT] at c1 ⊢
  rw [show [[C.i .i64 (wh p).num, C.i .i64 (wh p).den, C.s (wh p).text]] = [[C.i .i64 p, C.i .i64 1, C.s []]] from rfl] at c1 ⊢
  obtain ⟨I, hII⟩ := hide [[C.i .i64 p, C.i .i64 1, C.s []]]
  rw [← hII] at c1 c3 ⊢
  clear e1 o1 w1
  refine Ct_of_W Try.func72 rfl (Nat.le_of_ble_eq_true rfl) fun w0 Z0 => ?_
  refine W_run ti_ok hz 400 (by cbv) ?_
  refine W_call (by cbv) (by kernel_rfl) (c1) ?_
  rintro t rfl
  refine W_run ti_ok hz 400 (by cbv) ?_
  refine W_bool 18 (by cbv) (show _ = false by rw [z_not hz]; rfl) ?_
  refine W_run ti_ok hz 400 (by cbv) ?_
  refine W_call (by cbv) (by kernel_rfl) (c2) ?_
  rintro t rfl
  refine W_run ti_ok hz 400 (by cbv) ?_
  refine W_bool 27 (by cbv) (show _ = false by rw [z_not hz]; rfl) ?_
  refine W_run ti_ok hz 400 (by cbv) ?_
  rcases hnm with h0 | ⟨h0, h0'⟩
  case' inl =>
    refine W_bool 31 (by cbv) (show _ = false by rw [z_neq hz, z_len hz, h0]; rfl) ?_
    refine W_run ti_ok hz 400 (by cbv) ?_
  case' inr =>
    refine W_bool 31 (by cbv) (show _ = true by rw [z_neq hz, z_len hz, h0]; simp; omega) ?_
    refine W_run ti_ok hz 400 (by cbv) ?_
    refine W_bool 23 (by cbv) (show _ = false by rw [z_neq hz, z_len hz, h0, hnk]; simp) ?_
    refine W_run ti_ok hz 400 (by cbv) ?_
  all_goals
    refine W_bool 39 (by cbv) (show _ = false by rw [z_geq hz]; rfl) ?_
    refine W_run ti_ok hz 400 (by cbv) ?_
    refine W_bool 44 (by cbv) (show _ = true by rw [z_eql hz]; rfl) ?_
    refine W_run ti_ok hz 400 (by cbv) ?_
    refine W_call (by cbv) (by kernel_rfl) (c3) ?_
    rintro t rfl
    refine W_run ti_ok hz 400 (by cbv) ?_
    refine W_ret ti_ok rfl (by cbv) ?_
    rfl
set_option maxHeartbeats 8000000 in
theorem ct_ElementOf1 (d : VecD) (hd : VecWf d) (hz : szVector d ≤ 900000000000) (hf : AtomF d) (hlv : d.levels = []) (i : Nat) (x : ItemD) (hx : d.items[i]? = some x) : Ct Try.prog 31 [vT d, vT (one 2 (wh ((i : Int) + 1)))] (fun t => t = .tu [vT (one d.kind x), .c (.s [])]) := by
  have hi := (List.getElem?_eq_some_iff.1 hx).1
  have hl40 := hf.l40
  have k4 := hf.k4
  have hle := hf.len
  have c1 := ct_sIsVector d hd (by omega)
  rw [hf.ok] at c1
  have c2 := ct_l4Len d hd (by rw [hf.parts]; simp; omega)
  have w1 : ItWf (wh ((i : Int) + 1)) := ⟨⟨by show _ ≤ (i : Int) + 1; omega, by show (i : Int) + 1 ≤ _; omega⟩, i64o_, Nat.zero_le _⟩
  have c2' := ct_l4Len (one 2 (wh ((i : Int) + 1))) (one_wf ⟨by decide, by decide⟩ w1) (show 1 + 0 ≤ _ by decide)
  have e1 : lenV (one 2 (wh ((i : Int) + 1))) = 1 := rfl
  rw [e1] at c2'
  have c3 := ct_sResolve1 (lenV d) (by omega) (d.names.map txK) (by
    rcases hf.nm with h | h
    · exact .inl (by rw [h]; rfl)
    · exact .inr ⟨by rw [List.length_map, h], by omega⟩) ((i : Int) + 1) (by omega) (by omega)
  have c4 := ct_l1In ((i : Int) + 1) 1 (lenV d : Int)
  rw [show (decide ((1 : Int) ≤ (i : Int) + 1) && decide ((i : Int) + 1 ≤ (lenV d : Int))) = true by rw [decide_eq_true (by omega), decide_eq_true (by omega)]; rfl] at c4
  have c5 := ct_l4Pick d hd hz (by omega) (by omega) [i] (by omega) (fun j hj => by rw [List.mem_singleton.1 hj]; omega) (by simp) hf.parts hf.nm hf.cl
  have hpl : (plc [i]).map inK = [[C.i .i64 ((i : Int) + 1)]] := rfl
  rw [hpl] at c5
  have hT5 : ∃ N', vT (tidyD (subD d [i])) = .ag [.c (.i .i64 d.kind), .c (.sl [itK x]), .c (.sl []), .c (.sl N'), .c (.sl []), .c (.sl []), .c (.i .i64 0), .c (.i .i64 0)] := by
    refine ⟨(tidyN (subAt d.names [i])).map txK, ?_⟩
    rw [tidy_eq]
    have e1 : subAt d.items [i] = [x] := by simp [subAt, hx]
    have e2 : clsOf d = [] := by unfold clsOf; rw [if_pos hlv]
    show T.ag [_, .c (.sl ((subAt d.items [i]).map itK)), .c (.sl ((subAt d.parts [i]).map vK)), _, .c (.sl ((clsOf d).map txK)), .c (.sl (d.levels.map txK)), _, _] = _
    rw [e1, hf.parts, subAt_nil, e2, hlv]
    rfl
  obtain ⟨N', hT5⟩ := hT5
  rw [hT5] at c5
  clear hT5 hpl hf hx hlv e1 w1
  obtain ⟨p, hp⟩ := hide ((i : Int) + 1)
  rw [← hp] at c2' c3 c4 c5 ⊢
  obtain ⟨ll, hll⟩ := hide (lenV d : Int)
  rw [← hll] at c2 c3 c4
  obtain ⟨zb, zc, zs, zl, zn, zt, zp, zg, zv, zx, zm, hz⟩ := Vm.zE
  rw [oneT] at c2' c3
  rw [oneT, oneT]
  rw [show [[C.i .i64 (wh p).num, C.i .i64 (wh p).den, C.s (wh p).text]] = [[C.i .i64 p, C.i .i64 1, C.s []]] from rfl] at c2' c3 ⊢
  obtain ⟨kd, I, P, N, Q, L, cd, en, hT, hk, hI, hP, hN, hQ, hL, hcd, hen⟩ := vT_hide d
  rw [hT] at c1 c2 c5 ⊢
  rw [← hN] at c3
  rw [← hk] at c5 ⊢
  rw [← hk] at k4
  show Ct _ _ _ (fun t => t = .tu [.ag [_, .c (.sl [itK x]), _, _, _, _, _, _], _])
  obtain ⟨X, hXX⟩ := hide [itK x]
  obtain ⟨S, hSS⟩ := hide [[C.i .i64 p, C.i .i64 1, C.s []]]
  have hl0 : ([[C.i .i64 p]] : List (List C))[0]? = some [C.i .i64 p] := rfl
  obtain ⟨R, hRR⟩ := hide [[C.i .i64 p]]
  rw [← hXX] at c5 ⊢
  rw [← hSS] at c2' c3 ⊢
  rw [← hRR] at c3 c5 hl0
  have hR : zl R = 1 := by rw [z_len hz, hRR]; rfl
  refine Ct_of_W Try.func31 rfl (Nat.le_of_ble_eq_true rfl) fun w0 Z0 => ?_
  refine W_run ti_ok hz 400 (by cbv) ?_
  refine W_call (by cbv) (by kernel_rfl) (c1) ?_
  rintro t rfl
  refine W_run ti_ok hz 400 (by cbv) ?_
  refine W_bool 11 (by cbv) (show _ = false by rw [z_not hz]; rfl) ?_
  refine W_run ti_ok hz 400 (by cbv) ?_
  refine W_bool 17 (by cbv) (show _ = false by rw [z_eql hz]; simp; omega) ?_
  refine W_run ti_ok hz 400 (by cbv) ?_
  refine W_draw mixedB [(1, 0), (2, 2), (1, 3), (1, 4), (0, 1), (0, 5), (2, 6), (2, 7), (2, 8), (2, 9), (2, 10)] [] (by kernel_rfl) ?_
  refine D_run ti_ok hz 400 (by cbv) ?_
  refine D_call (by cbv) (by cbv) (by kernel_rfl) (c2) ?_
  rintro t rfl
  refine D_run ti_ok hz 400 (by cbv) ?_
  refine D_call (by cbv) (by cbv) (by kernel_rfl) (c3) ?_
  rintro t rfl
  refine D_run ti_ok hz 400 (by cbv) ?_
  refine D_done ?_
  refine W_run ti_ok hz 400 (by cbv) ?_
  refine W_bool 29 (by cbv) (show _ = false by rw [(z_neqs hz []).1]; rfl) ?_
  refine W_run ti_ok hz 400 (by cbv) ?_
  refine W_draw mixedB [(1, 0), (0, 1), (2, 2), (2, 3), (2, 4), (2, 5), (2, 6), (2, 7), (2, 8), (2, 9), (2, 10), (1, 11), (1, 12), (0, 13), (0, 14), (2, 15), (2, 16)] [] (by kernel_rfl) ?_
  refine D_run ti_ok hz 400 (by cbv) ?_
  refine D_callS (by cbv) (by cbv) (by kernel_rfl) (c2') (by rintro t rfl; rfl) ?_
  rintro t rfl
  refine D_run ti_ok hz 400 (by cbv) ?_
  refine D_bool 35 (by cbv) (show _ = false by rw [z_neq hz]; rfl) ?_
  refine D_run ti_ok hz 400 (by cbv) ?_
  rw [hR]
  refine D_bool 40 (by cbv) (show _ = false by rw [z_neq hz]; rfl) ?_
  refine D_run ti_ok hz 400 (by cbv) ?_
  refine D_val (by cbv) (by cbv) (by cbv) (Val_elem ti_ok (by cbv) 0 rfl hl0 rfl) ?_
  refine D_run ti_ok hz 400 (by cbv) ?_
  refine D_callS (by cbv) (by cbv) (by kernel_rfl) (c2) (by rintro t rfl; rfl) ?_
  rintro t rfl
  refine D_run ti_ok hz 400 (by cbv) ?_
  refine D_callS (by cbv) (by cbv) (by kernel_rfl) (c4) (by rintro t rfl; rfl) ?_
  rintro t rfl
  refine D_run ti_ok hz 400 (by cbv) ?_
  refine D_done ?_
  refine W_bool 48 (by cbv) (show _ = false by rw [z_not hz]; rfl) ?_
  refine W_run ti_ok hz 400 (by cbv) ?_
  refine W_bool 52 (by cbv) (show _ = false by rw [z_eql hz]; simp; omega) ?_
  refine W_run ti_ok hz 400 (by cbv) ?_
  refine W_call (by cbv) (by kernel_rfl) (c5) ?_
  rintro t rfl
  refine W_run ti_ok hz 400 (by cbv) ?_
  refine W_ret ti_ok rfl (by cbv) ?_
  rfl
end Go.Proofs.Ytjdimlhdkmkmbaa
