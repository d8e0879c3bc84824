/-
  Contracts on trees: elements at positions (impl.subset, impl.SubsetOf).
-/
import Derived.Test.YtjdimlhdkmkmbaaVmResL
namespace Go.Proofs.Ytjdimlhdkmkmbaa
set_option maxRecDepth 100000
open Go.ChangeShapes Go.WideShapes Go.ChangeAt Go.RowKit Go.Deep Go.Proofs.Ytjdimlhdkmkmbaa.Vm
set_option linter.unusedVariables false

def plc (is : List Nat) : List Int := is.map fun (i : Nat) => (i : Int) + 1
def subAt {α : Type} (l : List α) (is : List Nat) : List α := is.filterMap (l[·]?)
def subD (d : VecD) (is : List Nat) : VecD := .mk d.kind (subAt d.items is) (subAt d.parts is) (subAt d.names is) (clsOf d) d.levels 0 0
theorem subAt_nil {α : Type} (is : List Nat) : subAt ([] : List α) is = [] := by
  unfold subAt
  induction is with
  | nil => rfl
  | cons i is ih => simp
theorem subAt_succ {α : Type} {l : List α} {is : List Nat} {k i : Nat} {x : α} (hk : is[k]? = some i) (h : l[i]? = some x) : subAt l (is.take (k + 1)) = subAt l (is.take k) ++ [x] := by
  unfold subAt
  rw [List.take_add_one, hk, List.filterMap_append]
  congr 1
  simp [h]
theorem subAt_mem {α : Type} {l : List α} {is : List Nat} {x : α} (h : x ∈ subAt l is) : x ∈ l := by
  unfold subAt at h
  obtain ⟨i, _, hi⟩ := List.mem_filterMap.1 h
  exact List.mem_of_getElem? hi
theorem subAt_length {α : Type} (l : List α) (is : List Nat) : (subAt l is).length ≤ is.length := List.length_filterMap_le _ _
theorem subD_wf {d : VecD} (hd : VecWf d) (is : List Nat) : VecWf (subD d is) := by
  obtain ⟨h0, h1, h2, h3, h4, h5, h6, h7⟩ := (VecWf_eq d).1 hd
  refine (VecWf_eq _).2 ⟨h0, fun x hx => h1 x (subAt_mem hx), fun x hx => h2 x (subAt_mem hx), fun x hx => h3 x (subAt_mem hx), fun x hx => ?_, h5, i64z_, i64z_⟩
  have hx' : x ∈ clsOf d := hx
  unfold clsOf at hx'
  split at hx'
  · cases hx'
  · exact h4 x hx'
theorem szVs_mem : ∀ {l : List VecD} {x : VecD}, x ∈ l → szVector x ≤ szVs l
  | a :: l, x, h => by
    rcases List.mem_cons.1 h with rfl | h
    · rw [szVs]; omega
    · have := szVs_mem h
      rw [szVs]; omega
theorem sz_part {d x : VecD} (h : x ∈ d.parts) : szVector x ≤ szVector d := by
  have h1 := szVs_mem h
  have h2 := szVs_eq d.parts
  have h3 := szVector_eq d
  omega
/-- a part's fields, under names -/
theorem vK_hide (d : VecD) : ∃ (k : Int) (I P N Q L : List (List C)) (cd en : Int), vK d = [.i .i64 k, .sl I, .sl P, .sl N, .sl Q, .sl L, .i .i64 cd, .i .i64 en] ∧ vT d = .ag [.c (.i .i64 k), .c (.sl I), .c (.sl P), .c (.sl N), .c (.sl Q), .c (.sl L), .c (.i .i64 cd), .c (.i .i64 en)] :=
  ⟨_, _, _, _, _, _, _, _, vK_eq d, rfl⟩
set_option maxHeartbeats 16000000 in
theorem ct_subset (d : VecD) (hd : VecWf d) (hz : szVector d ≤ 900000000000) (h5 : d.kind ≠ 5) (is : List Nat) (hlen : lenV d ≤ 40) (hi : ∀ i ∈ is, i < lenV d) (hil : is.length ≤ 1000)
    (hP4 : d.kind ≠ 4 → d.parts = []) (hI4 : d.kind = 4 → d.items = []) (hnm : d.names = [] ∨ d.names.length = lenV d) (hcl : d.cls.length ≤ 1000 ∧ d.levels.length ≤ 1000) :
    Ct Try.prog 59 [vT d, .c (.sl ((plc is).map inK))] (fun t => t = vT (tidyD (subD d is))) := by
  have hsz := hz
  obtain ⟨zb, zc, zs, zl, zn, zt, zp, zg, zv, zx, zm, hz⟩ := Vm.zE
  have hl5 : lenV d = d.items.length + d.parts.length := by unfold lenV; rw [if_neg h5]
  have c1 := ct_withLevels d.kind d hd ⟨by omega, by omega⟩
  have c2 := ct_length d hd (by omega)
  have c3 := ct_tidyNames (subD d is) (subD_wf hd is)
  have hwf := (VecWf_eq d).1 hd
  obtain ⟨kd, I, P, N, Q, L, cd, en, hT, hk, hI, hP, hN, hQ, hL, hcd, hen⟩ := vT_hide d
  obtain ⟨Q', hQ'⟩ := hide ((clsOf d).map txK)
  have e1 : vKd d.kind d = .ag [.c (.i .i64 kd), .nil, .nil, .nil, .c (.sl Q'), .c (.sl L), .c (.i .i64 0), .c (.i .i64 0)] := by unfold vKd; rw [← hQ', ← hL, hk]
  obtain ⟨oi, hoi⟩ := hide ((subAt d.items is).map itK)
  obtain ⟨op, hop⟩ := hide ((subAt d.parts is).map vK)
  obtain ⟨on, hon⟩ := hide ((subAt d.names is).map txK)
  have e2 : vT (subD d is) = .ag [.c (.i .i64 kd), .c (.sl oi), .c (.sl op), .c (.sl on), .c (.sl Q'), .c (.sl L), .c (.i .i64 0), .c (.i .i64 0)] := by rw [hoi, hop, hon, hQ', hL, hk]; rfl
  obtain ⟨fk, fI, fP, fN, fQ, fL, fcd, fen, hF, -⟩ := vT_hide (tidyD (subD d is))
  rw [e2, hF] at c3
  rw [e1, hT, ← hk] at c1
  rw [hT] at c2 ⊢
  rw [hF]
  clear e1 e2 hF
  obtain ⟨S, hS⟩ := hide ((plc is).map inK)
  rw [← hS]
  have hls : zl S = (is.length : Int) := by rw [z_len hz, hS]; simp [plc]
  obtain ⟨ll, hll⟩ := hide (lenV d : Int)
  rw [← hll] at c2
  refine Ct_of_W Try.func59 rfl (Nat.le_of_ble_eq_true rfl) fun w0 Z0 => ?_
  refine W_run ti_ok hz 400 (by cbv) ?_
  refine W_call (by cbv) (by kernel_rfl) (c1) ?_
  rintro t rfl
  refine W_run ti_ok hz 400 (by cbv) ?_
  refine W_ownB 2 1 3 (by cbv) (by cbv) ?_
  refine W_ownB 2 2 8 (by cbv) (by cbv) ?_
  refine W_ownB 2 3 1 (by cbv) (by cbv) ?_
  refine W_keep [2, 4, 5, 14, 15, 16] [0, 1, 2, 3, 4, 5] 6 (by cbv) (by cbv) ?_
  refine W_run ti_ok hz 1 (by cbv) ?_
  refine W_loop (fun n' a m => ∃ (k : Nat) (ik : Int) (o1 o2 o3 : List (List C)), k ≤ is.length ∧ n' = is.length - k ∧ ik = (k : Int) ∧ o1 = (subAt d.items (is.take k)).map itK ∧ o2 = (subAt d.parts (is.take k)).map vK ∧ o3 = (subAt d.names (is.take k)).map txK ∧
      a = [(2, T.pt 0 0), (4, T.pt 1 0), (5, T.pt 2 0), (14, T.c (C.sl S)), (15, T.c (C.i IntKind.i64 (zl S))), (16, T.c (C.i IntKind.i64 ik))] ∧
      m = [(0, Obj.box [T.c (C.i IntKind.i64 kd), T.c (C.sl I), T.c (C.sl P), T.c (C.sl N), T.c (C.sl Q), T.c (C.sl L), T.c (C.i IntKind.i64 cd), T.c (C.i IntKind.i64 en)]),
          (1, Obj.box [T.c (C.i IntKind.i64 0), T.nil, T.nil, T.nil, T.nil, T.nil, T.c (C.i IntKind.i64 0), T.c (C.i IntKind.i64 0)]),
          (2, Obj.box [T.c (C.i IntKind.i64 kd), T.sk 3 o1, T.sk 4 o2, T.sk 5 o3, T.c (C.sl Q'), T.c (C.sl L), T.c (C.i IntKind.i64 0), T.c (C.i IntKind.i64 0)]),
          (3, Obj.tok 3 o1), (4, Obj.tok 8 o2), (5, Obj.tok 1 o3)]) is.length ⟨0, 0, [], [], [], Nat.zero_le _, rfl, rfl, rfl, rfl, rfl, rfl, rfl⟩ ?_
  rintro n' a m ⟨k, ik, o1, o2, o3, hk', hn', hik, ho1, ho2, ho3, rfl, rfl⟩
  have hadd : zb .add .i64 ik 1 = ik + 1 := z_add hz (by omega) (by omega)
  obtain ⟨ik1, hik1⟩ := hide (ik + 1)
  rw [← hik1] at hadd
  have hol1 : o1.length ≤ is.length := by rw [ho1, List.length_map]; exact Nat.le_trans (subAt_length _ _) (List.length_take_le' _ _)
  have hol2 : o2.length ≤ is.length := by rw [ho2, List.length_map]; exact Nat.le_trans (subAt_length _ _) (List.length_take_le' _ _)
  have hol3 : o3.length ≤ is.length := by rw [ho3, List.length_map]; exact Nat.le_trans (subAt_length _ _) (List.length_take_le' _ _)
  refine W_run ti_ok hz 400 (by cbv) ?_
  refine W_cond (by cbv) (fun h => ?_) (fun h => ?_)
  · have hlt : k < is.length := by
      rw [z_lss hz, hls, hik] at h
      simpa using h
    obtain ⟨i, hp⟩ : ∃ i, is[k]? = some i := ⟨_, List.getElem?_eq_getElem hlt⟩
    have hil' := hi i (List.mem_of_getElem? hp)
    obtain ⟨pv, hpv⟩ := hide ((i : Int) + 1)
    have hLk : S[k]? = some [C.i .i64 pv] := by rw [hS, List.getElem?_map, plc, List.getElem?_map, hp, hpv]; rfl
    have hsub : zb .sub .i64 pv 1 = (i : Int) := by rw [z_sub hz (by omega) (by omega)]; omega
    refine W_run ti_ok hz 400 (by cbv) ?_
    refine W_val (by cbv) (by cbv) (Val_elem ti_ok (by cbv) k hik hLk rfl) ?_
    refine W_run ti_ok hz 400 (by cbv) ?_
    refine W_bool 22 (by cbv) (show _ = true by rw [z_geq hz]; exact decide_eq_true (by omega)) ?_
    refine W_run ti_ok hz 400 (by cbv) ?_
    refine W_call (by cbv) (by kernel_rfl) (c2) ?_
    rintro t rfl
    refine W_run ti_ok hz 400 (by cbv) ?_
    refine W_bool 8 (by cbv) (show _ = true by rw [z_leq hz, hll]; exact decide_eq_true (by omega)) ?_
    refine W_run ti_ok hz 400 (by cbv) ?_
    by_cases h4 : d.kind = 4
    · refine W_bool 38 (by cbv) (show _ = true by rw [z_eql hz, hk, h4]; rfl) ?_
      refine W_run ti_ok hz 400 (by cbv) ?_
      obtain ⟨x, hx⟩ : ∃ x, d.parts[i]? = some x := ⟨_, List.getElem?_eq_getElem (by have := hI4 h4; rw [this] at hl5; simp at hl5; omega)⟩
      have hxm := List.mem_of_getElem? hx
      have c4 := ct_copyVector x (hwf.2.2.1 x hxm) (Nat.le_trans (sz_part hxm) hsz)
      obtain ⟨xk, xI, xP, xN, xQ, xL, xcd, xen, hxK, hxT⟩ := vK_hide x
      have hPk : P[i]? = some [.i .i64 xk, .sl xI, .sl xP, .sl xN, .sl xQ, .sl xL, .i .i64 xcd, .i .i64 xen] := by rw [hP, List.getElem?_map, hx, Option.map_some, hxK]
      rw [hxT] at c4
      refine W_draw mixedB [(2, 0), (1, 1), (2, 2), (1, 3), (2, 4), (2, 5), (2, 6), (1, 7), (0, 8), (0, 9), (0, 10), (2, 11), (0, 12)] [12] (by kernel_rfl) ?_
      refine D_run ti_ok hz 400 (by cbv) ?_
      refine D_val (by cbv) (by cbv) (by cbv) (Val_elem ti_ok (by cbv) i hsub hPk rfl) ?_
      refine D_run ti_ok hz 400 (by cbv) ?_
      refine D_call (by cbv) (by cbv) (by kernel_rfl) (c4) ?_
      rintro t ⟨rfl, -⟩
      refine D_run ti_ok hz 400 (by cbv) ?_
      refine D_app ti_ok (by cbv) (by cbv) (by cbv) (by simp) (by simp; omega) ?_
      obtain ⟨o4, ho4⟩ := hide (o2 ++ [[.i .i64 xk, .sl xI, .sl xP, .sl xN, .sl xQ, .sl xL, .i .i64 xcd, .i .i64 xen]])
      rw [← ho4]
      refine D_run ti_ok hz 400 (by cbv) ?_
      refine D_last ti_ok hz (by cbv) (by cbv) (by cbv) (by cbv) (by cbv) ?_
      refine W_run ti_ok hz 400 (by cbv) ?_
      rcases hnm with hN0 | hN0
      · refine W_bool 80 (by cbv) (show _ = false by rw [z_gtr hz, z_len hz, hN, hN0]; rfl) ?_
        refine W_run ti_ok hz 400 (by cbv) ?_
        refine W_bool 97 (by cbv) (show _ = false by rw [z_gtr hz, z_len hz, hN, hN0]; rfl) ?_
        refine W_run ti_ok hz 400 (by cbv) ?_
        rw [hadd]
        refine W_inv [2, 4, 5, 14, 15, 16] [0, 1, 2, 3, 4, 5] (is.length - (k + 1)) (by omega) (by cbv) (by cbv) ⟨k + 1, ik1, o1, o4, o3, hlt, rfl, by rw [hik1, hik]; rfl, by rw [ho1, hI4 h4, subAt_nil, subAt_nil], by rw [ho4, ho2, subAt_succ hp hx, List.map_append, ← hxK]; rfl, by rw [ho3, hN0, subAt_nil, subAt_nil], by cbv, by cbv⟩
      · obtain ⟨y, hy⟩ : ∃ y, d.names[i]? = some y := ⟨_, List.getElem?_eq_getElem (by omega)⟩
        have hNk : N[i]? = some [C.s y] := by rw [hN, List.getElem?_map, hy]; rfl
        refine W_bool 80 (by cbv) (show _ = true by rw [z_gtr hz, z_len hz, hN, List.length_map]; exact decide_eq_true (by omega)) ?_
        refine W_run ti_ok hz 400 (by cbv) ?_
        refine W_draw mixedB [(2, 0), (1, 1), (2, 2), (1, 3), (2, 4), (2, 5), (2, 6), (1, 7), (0, 8), (0, 9), (2, 10), (0, 11)] [11] (by kernel_rfl) ?_
        refine D_run ti_ok hz 400 (by cbv) ?_
        refine D_val (by cbv) (by cbv) (by cbv) (Val_elem ti_ok (by cbv) i hsub hNk rfl) ?_
        refine D_run ti_ok hz 400 (by cbv) ?_
        refine D_app ti_ok (by cbv) (by cbv) (by cbv) (by simp) (by simp; omega) ?_
        obtain ⟨o6, ho6⟩ := hide (o3 ++ [[C.s y]])
        rw [← ho6]
        refine D_run ti_ok hz 400 (by cbv) ?_
        refine D_last ti_ok hz (by cbv) (by cbv) (by cbv) (by cbv) (by cbv) ?_
        refine W_run ti_ok hz 400 (by cbv) ?_
        rw [hadd]
        refine W_inv [2, 4, 5, 14, 15, 16] [0, 1, 2, 3, 4, 5] (is.length - (k + 1)) (by omega) (by cbv) (by cbv) ⟨k + 1, ik1, o1, o4, o6, hlt, rfl, by rw [hik1, hik]; rfl, by rw [ho1, hI4 h4, subAt_nil, subAt_nil], by rw [ho4, ho2, subAt_succ hp hx, List.map_append, ← hxK]; rfl, by rw [ho6, ho3, subAt_succ hp hy, List.map_append]; rfl, by cbv, by cbv⟩
    · refine W_bool 38 (by cbv) (show _ = false by rw [z_eql hz, hk]; simpa using h4) ?_
      refine W_run ti_ok hz 400 (by cbv) ?_
      refine W_bool 53 (by cbv) (show _ = false by rw [z_eql hz, hk]; simpa using h4) ?_
      refine W_run ti_ok hz 400 (by cbv) ?_
      obtain ⟨x, hx⟩ : ∃ x, d.items[i]? = some x := ⟨_, List.getElem?_eq_getElem (by have := hP4 h4; rw [this] at hl5; simp at hl5; omega)⟩
      obtain ⟨xn, xd, xs⟩ := x
      have hIk : I[i]? = some [.i .i64 xn, .i .i64 xd, .s xs] := by rw [hI, List.getElem?_map, hx]; rfl
      refine W_draw mixedB [(2, 0), (1, 1), (2, 2), (1, 3), (2, 4), (2, 5), (2, 6), (1, 7), (0, 8), (0, 9), (2, 10), (0, 11)] [11] (by kernel_rfl) ?_
      refine D_run ti_ok hz 400 (by cbv) ?_
      refine D_val (by cbv) (by cbv) (by cbv) (Val_elem ti_ok (by cbv) i hsub hIk rfl) ?_
      refine D_run ti_ok hz 400 (by cbv) ?_
      refine D_app ti_ok (by cbv) (by cbv) (by cbv) (by simp) (by simp; omega) ?_
      obtain ⟨o4, ho4⟩ := hide (o1 ++ [[.i .i64 xn, .i .i64 xd, .s xs]])
      rw [← ho4]
      refine D_run ti_ok hz 400 (by cbv) ?_
      refine D_last ti_ok hz (by cbv) (by cbv) (by cbv) (by cbv) (by cbv) ?_
      refine W_run ti_ok hz 400 (by cbv) ?_
      rcases hnm with hN0 | hN0
      · refine W_bool 80 (by cbv) (show _ = false by rw [z_gtr hz, z_len hz, hN, hN0]; rfl) ?_
        refine W_run ti_ok hz 400 (by cbv) ?_
        refine W_bool 97 (by cbv) (show _ = false by rw [z_gtr hz, z_len hz, hN, hN0]; rfl) ?_
        refine W_run ti_ok hz 400 (by cbv) ?_
        rw [hadd]
        refine W_inv [2, 4, 5, 14, 15, 16] [0, 1, 2, 3, 4, 5] (is.length - (k + 1)) (by omega) (by cbv) (by cbv) ⟨k + 1, ik1, o4, o2, o3, hlt, rfl, by rw [hik1, hik]; rfl, by rw [ho4, ho1, subAt_succ hp hx, List.map_append]; rfl, by rw [ho2, hP4 h4, subAt_nil, subAt_nil], by rw [ho3, hN0, subAt_nil, subAt_nil], by cbv, by cbv⟩
      · obtain ⟨y, hy⟩ : ∃ y, d.names[i]? = some y := ⟨_, List.getElem?_eq_getElem (by omega)⟩
        have hNk : N[i]? = some [C.s y] := by rw [hN, List.getElem?_map, hy]; rfl
        refine W_bool 80 (by cbv) (show _ = true by rw [z_gtr hz, z_len hz, hN, List.length_map]; exact decide_eq_true (by omega)) ?_
        refine W_run ti_ok hz 400 (by cbv) ?_
        refine W_draw mixedB [(2, 0), (1, 1), (2, 2), (1, 3), (2, 4), (2, 5), (2, 6), (1, 7), (0, 8), (0, 9), (2, 10), (0, 11)] [11] (by kernel_rfl) ?_
        refine D_run ti_ok hz 400 (by cbv) ?_
        refine D_val (by cbv) (by cbv) (by cbv) (Val_elem ti_ok (by cbv) i hsub hNk rfl) ?_
        refine D_run ti_ok hz 400 (by cbv) ?_
        refine D_app ti_ok (by cbv) (by cbv) (by cbv) (by simp) (by simp; omega) ?_
        obtain ⟨o6, ho6⟩ := hide (o3 ++ [[C.s y]])
        rw [← ho6]
        refine D_run ti_ok hz 400 (by cbv) ?_
        refine D_last ti_ok hz (by cbv) (by cbv) (by cbv) (by cbv) (by cbv) ?_
        refine W_run ti_ok hz 400 (by cbv) ?_
        rw [hadd]
        refine W_inv [2, 4, 5, 14, 15, 16] [0, 1, 2, 3, 4, 5] (is.length - (k + 1)) (by omega) (by cbv) (by cbv) ⟨k + 1, ik1, o4, o2, o6, hlt, rfl, by rw [hik1, hik]; rfl, by rw [ho4, ho1, subAt_succ hp hx, List.map_append]; rfl, by rw [ho2, hP4 h4, subAt_nil, subAt_nil], by rw [ho6, ho3, subAt_succ hp hy, List.map_append]; rfl, by cbv, by cbv⟩
  · have hle : k = is.length := by
      rw [z_lss hz, hls, hik] at h
      have h := of_decide_eq_false h
      omega
    rw [hle, List.take_length] at ho1 ho2 ho3
    rw [ho1, ho2, ho3, ← hoi, ← hop, ← hon]
    refine W_run ti_ok hz 400 (by cbv) ?_
    refine W_call (by cbv) (by kernel_rfl) (c3) ?_
    rintro t rfl
    refine W_run ti_ok hz 400 (by cbv) ?_
    refine W_ret ti_ok rfl (by cbv) ?_
    rfl
end Go.Proofs.Ytjdimlhdkmkmbaa
