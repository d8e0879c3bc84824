/-
  Merged texts: VmSort, VmSortS.
-/
import Derived.Test.YtjdimlhdkmkmbaaKOrdS
import Derived.Test.YtjdimlhdkmkmbaaKPick
import Derived.Test.YtjdimlhdkmkmbaaKVq
namespace Go.Proofs.Ytjdimlhdkmkmbaa
set_option maxRecDepth 100000
set_option maxRecDepth 100000
open Go.ChangeShapes Go.WideShapes Go.ChangeAt Go.RowKit Go.Deep Go.Proofs.Ytjdimlhdkmkmbaa.Vm
set_option linter.unusedVariables false

structure AtomF (d : VecD) : Prop where
  ok : vecOk d = true
  k0 : 0 ≤ d.kind
  k4 : d.kind < 4
  parts : d.parts = []
  len : lenV d = d.items.length
  l40 : d.items.length ≤ 40
  nm : d.names = [] ∨ d.names.length = lenV d
  cl : d.cls.length ≤ 1000 ∧ d.levels.length ≤ 1000
  it : ∀ x ∈ d.items, itemOk d.kind x = true
theorem atom_facts {d : VecD} (h : atomP d = []) : AtomF d := by
  unfold atomP at h
  by_cases h1 : vecOk d = false
  · rw [if_pos h1] at h; cases h
  · rw [if_neg h1] at h
    by_cases h2 : 4 ≤ d.kind
    · rw [if_pos h2] at h; cases h
    · have hv : vecOk d = true := by simpa using h1
      have hf := shape_facts (vecOk_shape hv)
      have hp : d.parts = [] := hf.pk.resolve_right (by omega)
      have hl : lenV d = d.items.length := by unfold lenV; rw [if_neg (by omega), hp]; simp
      have e1 := labels_len hf.cls
      have e2 := labels_len hf.lv
      have := hf.len
      refine ⟨hv, hf.k0, by omega, hp, hl, by omega, ?_, ⟨by omega, by omega⟩, fun x hx => ?_⟩
      · rcases hf.nm with h | h
        · exact .inl h
        · exact .inr h.1
      · have h3 := hf.it x hx
        unfold itemT at h3
        simp only [Bool.and_eq_true] at h3
        exact h3.1.2
/-- the places of the known elements, in order -/
def srtL (d : VecD) (dec : Bool) : List Nat := (insOrd (befL d.kind dec d.items) d.items.length).filter fun i => !missing (d.items.getD i ⟨0, 0, []⟩)
def srtD (d : VecD) (dec : Bool) : VecD := if atomP d = [] then tidyD (subD d (srtL d dec)) else itemsV 0 []
theorem filter_take {α : Type} {p : α → Bool} {l : List α} {k : Nat} {x : α} (h : l[k]? = some x) : (l.take (k + 1)).filter p = (l.take k).filter p ++ if p x = true then [x] else [] := by
  rw [List.take_add_one, h, List.filter_append]
  congr 1
  simp [List.filter_cons]
theorem srtL_lt {d : VecD} {dec : Bool} : ∀ i ∈ srtL d dec, i < d.items.length := fun i h => insOrd_mem.1 (List.mem_filter.1 h).1
theorem srtL_len {d : VecD} {dec : Bool} : (srtL d dec).length ≤ d.items.length := by
  refine Nat.le_trans (List.length_filter_le _ _) ?_
  rw [insOrd_length]; exact Nat.le_refl _
set_option maxHeartbeats 8000000 in
theorem ct_SortOf (d : VecD) (dec : Bool) (hd : VecWf d) (hz : szVector d ≤ 900000000000) : Ct Try.prog 29 [vT d, .c (.b dec)] (fun t => t = .tu [vT (srtD d dec), .c (.s (atomP d))]) := by
  have hz' : szVector d ≤ 1000000000000 := by omega
  have hsz := hz
  obtain ⟨zb, zc, zs, zl, zn, zt, zp, zg, zv, zx, zm, hz⟩ := Vm.zE
  have c1 := ct_atomicProblem d hd hz'
  have hwf := (VecWf_eq d).1 hd
  have hfa := @atom_facts d
  have c2 := fun h : atomP d = [] => ct_orderItems d.kind dec d.items hwf.2.1 (by have := (hfa h).l40; omega)
  have c4 := fun h : atomP d = [] => ct_pick d hd hsz (by have := (hfa h).k4; omega) (by have := (hfa h).k4; omega) (srtL d dec) (by rw [(hfa h).len]; exact (hfa h).l40) (fun i hi => by rw [(hfa h).len]; exact srtL_lt i hi) (by have := srtL_len (d := d) (dec := dec); have := (hfa h).l40; omega) (hfa h).parts (hfa h).nm (hfa h).cl
  obtain ⟨kd, I, P, N, Q, L, cd, en, hT, hk, hI, hP, hN, hQ, hL, hcd, hen⟩ := vT_hide d
  have hF : ∃ (k : Int) (I P N Q L : List (List C)) (cd en : Int), vT (tidyD (subD d (srtL d dec))) = .ag [.c (.i .i64 k), .c (.sl I), .c (.sl P), .c (.sl N), .c (.sl Q), .c (.sl L), .c (.i .i64 cd), .c (.i .i64 en)] := by
    obtain ⟨k, I, P, N, Q, L, cd, en, h, -⟩ := vT_hide (tidyD (subD d (srtL d dec)))
    exact ⟨k, I, P, N, Q, L, cd, en, h⟩
  obtain ⟨fk, fI, fP, fN, fQ, fL, fc, fe, hF⟩ := hF
  have hR0 : atomP d = [] → vT (srtD d dec) = vT (tidyD (subD d (srtL d dec))) := fun h => by unfold srtD; rw [if_pos h]
  have hR1 : atomP d ≠ [] → vT (srtD d dec) = vT (itemsV 0 []) := fun h => by unfold srtD; rw [if_neg h]
  rw [hF] at c4 hR0
  obtain ⟨res, hres⟩ := hide (vT (srtD d dec))
  rw [← hres] at hR0 hR1 ⊢
  clear hres hF
  obtain ⟨ap, hap⟩ := hide (atomP d)
  rw [← hap] at c1 c2 c4 hfa hR0 hR1 ⊢
  clear hap
  have hso : srtL d dec = (insOrd (befL d.kind dec d.items) d.items.length).filter (fun i => !missing (d.items.getD i ⟨0, 0, []⟩)) := rfl
  obtain ⟨srt, hsrt⟩ := hide (srtL d dec)
  rw [← hsrt] at c4 hso
  clear hsrt
  have hordm : ∀ i ∈ insOrd (befL d.kind dec d.items) d.items.length, i < d.items.length := fun i hi => insOrd_mem.1 hi
  have hordl := insOrd_length (befL d.kind dec d.items) d.items.length
  obtain ⟨ord, hord⟩ := hide (insOrd (befL d.kind dec d.items) d.items.length)
  rw [← hord] at c2 hso hordm hordl
  clear hord
  rw [hT] at c1 c4 ⊢
  rw [← hk, ← hI] at c2
  refine Ct.weak (R := fun t => if ap = [] then t = .tu [res, .c (.s [])] else t = .tu [.ag [.c (.i .i64 0), .nil, .nil, .nil, .nil, .nil, .c (.i .i64 0), .c (.i .i64 0)], .c (.s ap)]) ?_ fun t h => ?_
  · refine Ct_of_W Try.func29 rfl (Nat.le_of_ble_eq_true rfl) fun w0 Z0 => ?_
    refine W_run ti_ok hz 400 (by cbv) ?_
    refine W_call (by cbv) (by kernel_rfl) (c1) ?_
    rintro t rfl
    refine W_run ti_ok hz 400 (by cbv) ?_
    refine W_cond (by cbv) (fun h => ?_) (fun h => ?_)
    · rw [(z_neqs hz ap).1] at h
      have ha : ap ≠ [] := by rintro rfl; cases h
      refine W_run ti_ok hz 400 (by cbv) ?_
      refine W_ret ti_ok rfl (by cbv) ?_
      rw [if_neg ha]
    · have ha : ap = [] := by rw [(z_neqs hz ap).1] at h; simpa using h
      subst ha
      have hbi := (hfa rfl).l40
      have hwi := hwf.2.1
      obtain ⟨l, hl⟩ := hide d.items
      rw [← hl] at hso hordm hordl hbi hwi hI
      refine W_run ti_ok hz 400 (by cbv) ?_
      refine W_callO (by cbv) (by kernel_rfl) (c2 rfl) ?_
      rintro els cap rfl
      have hlen0 : (ord.map inN).length = ord.length := List.length_map _
      rw [hlen0]
      have hOg : ∀ k (h : k < ord.length), (ord.map inN)[k]? = some (inN (ord[k]'h)) := fun k h => by rw [List.getElem?_map, List.getElem?_eq_getElem h]; rfl
      obtain ⟨O, hO⟩ := hide (ord.map inN)
      rw [← hO] at hOg hlen0 ⊢
      obtain ⟨n, hn⟩ := hide ord.length
      rw [← hn] at hlen0 ⊢
      refine W_freeze 21 (by cbv) (by cbv) hlen0.symm ?_
      have hlO : zl O = (n : Int) := by rw [z_len hz, hlen0]
      refine W_run ti_ok hz 400 (by cbv) ?_
      refine W_own 7 1 (by cbv) ?_
      refine W_keep [2, 4, 5, 7, 21, 22, 23] [0, 1, 3] 4 (by cbv) (by cbv) ?_
      refine W_run ti_ok hz 1 (by cbv) ?_
      refine W_loop (fun n' a m => ∃ (k : Nat) (ik : Int) (o : List (List C)), k ≤ n ∧ n' = n - k ∧ ik = (k : Int) ∧ o = ((ord.take k).filter fun i => !missing (l.getD i ⟨0, 0, []⟩)).map inN ∧
          a = [(2, T.pt 0 0), (4, T.pt 1 0), (5, T.c (C.s [])), (7, T.sk 3 o), (21, T.c (C.sl O)), (22, T.c (C.i IntKind.i64 (zl O))), (23, T.c (C.i IntKind.i64 ik))] ∧
          m = [(0, Obj.box [T.c (C.i IntKind.i64 kd), T.c (C.sl I), T.c (C.sl P), T.c (C.sl N), T.c (C.sl Q), T.c (C.sl L), T.c (C.i IntKind.i64 cd), T.c (C.i IntKind.i64 en)]),
              (1, Obj.box [T.c (C.i IntKind.i64 0), T.nil, T.nil, T.nil, T.nil, T.nil, T.c (C.i IntKind.i64 0), T.c (C.i IntKind.i64 0)]), (3, Obj.tok 1 o)]) n ⟨0, 0, [], Nat.zero_le _, rfl, rfl, rfl, rfl, rfl⟩ ?_
      rintro n' a m ⟨k, ik, o, hk', hn', hik, ho, rfl, rfl⟩
      have hadd : zb .add .i64 ik 1 = ik + 1 := z_add hz (by omega) (by omega)
      obtain ⟨ik1, hik1⟩ := hide (ik + 1)
      rw [← hik1] at hadd
      have hol : o.length ≤ n := by
        rw [ho, List.length_map]
        exact Nat.le_trans (List.length_filter_le _ _) (Nat.le_trans (List.length_take_le' _ _) (by omega))
      refine W_run ti_ok hz 400 (by cbv) ?_
      refine W_cond (by cbv) (fun h => ?_) (fun h => ?_)
      · have hlt : k < n := by
          rw [z_lss hz, hik, hlO] at h
          exact Int.ofNat_lt.1 (of_decide_eq_true h)
        have hlt' : k < ord.length := by omega
        have hOk := hOg k hlt'
        have hjm := hordm _ (List.getElem_mem hlt')
        have hoj : ord[k]? = some (ord[k]'hlt') := List.getElem?_eq_getElem hlt'
        have hst := filter_take (p := fun i => !missing (l.getD i ⟨0, 0, []⟩)) hoj
        obtain ⟨j, hj⟩ := hide (ord[k]'hlt')
        rw [← hj] at hOk hjm hst
        obtain ⟨jk, hjk⟩ := hide (j : Int)
        have hOk' : O[k]? = some [C.i .i64 jk] := by rw [hOk, hjk]; rfl
        have hIj : I[j]? = some (itK (l[j]'hjm)) := by rw [hI, List.getElem?_map, List.getElem?_eq_getElem hjm]; rfl
        have hgj : l.getD j ⟨0, 0, []⟩ = l[j]'hjm := by simp [hjm]
        have cm := ct_isMissing _ (hwi _ (List.getElem_mem hjm))
        rw [hgj] at hst
        obtain ⟨x, hx⟩ := hide (l[j]'hjm)
        rw [← hx] at hIj cm hst
        obtain ⟨b, hb⟩ := hide (missing x)
        rw [← hb] at cm hst
        obtain ⟨xn, xd, xs⟩ := x
        refine W_run ti_ok hz 400 (by cbv) ?_
        refine W_val (by cbv) (by cbv) (Val_elem ti_ok (by cbv) k hik hOk' rfl) ?_
        refine W_run ti_ok hz 400 (by cbv) ?_
        refine W_val (by cbv) (by cbv) (Val_elem ti_ok (by cbv) j hjk hIj rfl) ?_
        refine W_run ti_ok hz 400 (by cbv) ?_
        refine W_call (by cbv) (by kernel_rfl) (cm) ?_
        rintro t rfl
        refine W_run ti_ok hz 400 (by cbv) ?_
        refine W_cond (by cbv) (fun h2 => ?_) (fun h2 => ?_)
        · rw [z_not hz] at h2
          rw [if_pos h2] at hst
          refine W_run ti_ok hz 400 (by cbv) ?_
          refine W_app ti_ok (by cbv) (by cbv) (by simp) (by simp; omega) ?_
          obtain ⟨o2, ho2⟩ := hide (o ++ [[C.i .i64 jk]])
          rw [← ho2]
          refine W_run ti_ok hz 400 (by cbv) ?_
          rw [hadd]
          refine W_inv [2, 4, 5, 7, 21, 22, 23] [0, 1, 3] (n - (k + 1)) (by omega) (by cbv) (by cbv) ⟨k + 1, ik1, o2, hlt, rfl, by rw [hik1, hik]; rfl, ?_, by cbv, by cbv⟩
          rw [hst, List.map_append, ho2, ho, hjk]
          rfl
        · rw [z_not hz] at h2
          rw [if_neg (by rw [h2]; decide), List.append_nil] at hst
          refine W_run ti_ok hz 400 (by cbv) ?_
          rw [hadd]
          refine W_inv [2, 4, 5, 7, 21, 22, 23] [0, 1, 3] (n - (k + 1)) (by omega) (by cbv) (by cbv) ⟨k + 1, ik1, o, hlt, rfl, by rw [hik1, hik]; rfl, by rw [hst, ho], by cbv, by cbv⟩
      · have hle : k = n := by
          rw [z_lss hz, hik, hlO] at h
          have h := of_decide_eq_false h
          have : ¬ k < n := fun h' => h (Int.ofNat_lt.2 h')
          omega
        have hfo : o = srt.map inN := by
          rw [ho, hso, hle, hn, List.take_length]
        have c5 := c4 rfl
        rw [← hfo] at c5
        clear c4 hfo ho
        refine W_run ti_ok hz 400 (by cbv) ?_
        refine W_call (by cbv) (by kernel_rfl) (c5) ?_
        rintro t rfl
        refine W_run ti_ok hz 400 (by cbv) ?_
        refine W_ret ti_ok rfl (by cbv) ?_
        rw [if_pos rfl, hR0 rfl]
  · by_cases ha : ap = []
    · rw [if_pos ha] at h
      exact ⟨_, by rw [ha], by rw [h]; exact Le.refl _⟩
    · rw [if_neg ha] at h
      refine ⟨_, rfl, ?_⟩
      rw [h, hR1 ha]
      exact Le.tu ⟨Le.ag ⟨Le.refl _, Le.nil, Le.nil, Le.nil, Le.nil, Le.nil, Le.refl _, Le.refl _, trivial⟩ (by simp [T.one]), Le.refl _, trivial⟩
end Go.Proofs.Ytjdimlhdkmkmbaa
namespace Go.Proofs.Ytjdimlhdkmkmbaa
set_option maxRecDepth 100000
open Go.ChangeShapes Go.WideShapes Go.ChangeAt Go.RowKit Go.Deep Go.Proofs.Ytjdimlhdkmkmbaa.Vm
set_option linter.unusedVariables false

set_option maxHeartbeats 8000000 in
theorem ct_sSortOf (d : VecD) (dec : Bool) (hd : VecWf d) (hz : szVector d ≤ 900000000000) (hmd : atomP d = [] → ∀ x ∈ d.items, missing x = (x.den == 0)) : Ct Try.prog 30 [vT d, .c (.b dec)] (fun t => t = .tu [vT (srtD d dec), .c (.s (atomP d))]) := by
  have hz' : szVector d ≤ 1000000000000 := by omega
  have hsz := hz
  obtain ⟨zb, zc, zs, zl, zn, zt, zp, zg, zv, zx, zm, hz⟩ := Vm.zE
  have hwf := (VecWf_eq d).1 hd
  have hfa := @atom_facts d
  have c1 := ct_sOrderOf d dec hd hz' (fun h => by have := (hfa h).l40; omega) hmd
  have c4 := fun h : atomP d = [] => ct_l4Pick d hd hsz (by have := (hfa h).k4; omega) (by have := (hfa h).k4; omega) (srtL d dec) (by rw [(hfa h).len]; exact (hfa h).l40) (fun i hi => by rw [(hfa h).len]; exact srtL_lt i hi) (by have := srtL_len (d := d) (dec := dec); have := (hfa h).l40; omega) (hfa h).parts (hfa h).nm (hfa h).cl
  obtain ⟨kd, I, P, N, Q, L, cd, en, hT, hk, hI, hP, hN, hQ, hL, hcd, hen⟩ := vT_hide d
  have hF : ∃ (k : Int) (I P N Q L : List (List C)) (cd en : Int), vT (tidyD (subD d (srtL d dec))) = .ag [.c (.i .i64 k), .c (.sl I), .c (.sl P), .c (.sl N), .c (.sl Q), .c (.sl L), .c (.i .i64 cd), .c (.i .i64 en)] := by
    obtain ⟨k, I, P, N, Q, L, cd, en, h, -⟩ := vT_hide (tidyD (subD d (srtL d dec)))
    exact ⟨k, I, P, N, Q, L, cd, en, h⟩
  obtain ⟨fk, fI, fP, fN, fQ, fL, fc, fe, hF⟩ := hF
  have hR0 : atomP d = [] → vT (srtD d dec) = vT (tidyD (subD d (srtL d dec))) := fun h => by unfold srtD; rw [if_pos h]
  have hR1 : atomP d ≠ [] → vT (srtD d dec) = vT (itemsV 0 []) := fun h => by unfold srtD; rw [if_neg h]
  rw [hF] at c4 hR0
  obtain ⟨res, hres⟩ := hide (vT (srtD d dec))
  rw [← hres] at hR0 hR1 ⊢
  clear hres hF
  obtain ⟨ap, hap⟩ := hide (atomP d)
  rw [← hap] at c1 c4 hfa hR0 hR1 hmd ⊢
  clear hap
  have hso : srtL d dec = (insOrd (befL d.kind dec d.items) d.items.length).filter (fun i => !missing (d.items.getD i ⟨0, 0, []⟩)) := rfl
  obtain ⟨srt, hsrt⟩ := hide (srtL d dec)
  rw [← hsrt] at c4 hso
  clear hsrt
  have hordm : ∀ i ∈ insOrd (befL d.kind dec d.items) d.items.length, i < d.items.length := fun i hi => insOrd_mem.1 hi
  have hordl := insOrd_length (befL d.kind dec d.items) d.items.length
  have hordL : (ordL d dec).map inK = (insOrd (befL d.kind dec d.items) d.items.length).map inP := by unfold ordL; rw [List.map_map]; rfl
  rw [hordL] at c1
  clear hordL
  obtain ⟨ord, hord⟩ := hide (insOrd (befL d.kind dec d.items) d.items.length)
  rw [← hord] at c1 hso hordm hordl
  clear hord
  rw [hT] at c1 c4 ⊢
  refine Ct.weak (R := fun t => if ap = [] then t = .tu [res, .c (.s [])] else t = .tu [.ag [.c (.i .i64 0), .nil, .nil, .nil, .nil, .nil, .c (.i .i64 0), .c (.i .i64 0)], .c (.s ap)]) ?_ fun t h => ?_
  · have hOg : ∀ k (h : k < ord.length), (ord.map inP)[k]? = some (inP (ord[k]'h)) := fun k h => by rw [List.getElem?_map, List.getElem?_eq_getElem h]; rfl
    have hlen0 : (ord.map inP).length = ord.length := List.length_map _
    obtain ⟨O, hO⟩ := hide (ord.map inP)
    rw [← hO] at hOg hlen0 c1
    obtain ⟨O2, hO2⟩ := hide (if ap = [] then O else [])
    rw [← hO2] at c1
    refine Ct_of_W Try.func30 rfl (Nat.le_of_ble_eq_true rfl) fun w0 Z0 => ?_
    refine W_run ti_ok hz 400 (by cbv) ?_
    refine W_call (by cbv) (by kernel_rfl) (c1) ?_
    rintro t rfl
    refine W_run ti_ok hz 400 (by cbv) ?_
    refine W_cond (by cbv) (fun h => ?_) (fun h => ?_)
    · rw [(z_neqs hz ap).1] at h
      have ha : ap ≠ [] := by rintro rfl; cases h
      refine W_run ti_ok hz 400 (by cbv) ?_
      refine W_ret ti_ok rfl (by cbv) ?_
      rw [if_neg ha]
    · have ha : ap = [] := by rw [(z_neqs hz ap).1] at h; simpa using h
      subst ha
      rw [if_pos rfl] at hO2
      subst hO2
      have hbi := (hfa rfl).l40
      have hwi := hwf.2.1
      have hmd := hmd rfl
      obtain ⟨l, hl⟩ := hide d.items
      rw [← hl] at hso hordm hordl hbi hwi hI hmd
      obtain ⟨n, hn⟩ := hide ord.length
      rw [← hn] at hlen0
      have hlO : zl O2 = (n : Int) := by rw [z_len hz, hlen0]
      refine W_run ti_ok hz 400 (by cbv) ?_
      refine W_keep [2, 4, 5, 6, 7, 8, 9] [0, 1, 2] 3 (by cbv) (by cbv) ?_
      refine W_run ti_ok hz 1 (by cbv) ?_
      refine W_loop (fun n' a m => ∃ (k : Nat) (ik : Int) (o : List (List C)), k ≤ n ∧ n' = n - k ∧ ik = (k : Int) ∧ o = ((ord.take k).filter fun i => !missing (l.getD i ⟨0, 0, []⟩)).map inP ∧
          a = [(2, T.pt 0 0), (4, T.pt 1 0), (5, T.c (C.s [])), (6, T.c (C.sl O2)), (7, T.c (C.s [])), (8, T.sk 2 o), (9, T.c (C.i IntKind.i64 ik))] ∧
          m = [(0, Obj.box [T.c (C.i IntKind.i64 kd), T.c (C.sl I), T.c (C.sl P), T.c (C.sl N), T.c (C.sl Q), T.c (C.sl L), T.c (C.i IntKind.i64 cd), T.c (C.i IntKind.i64 en)]),
              (1, Obj.box [T.c (C.i IntKind.i64 0), T.nil, T.nil, T.nil, T.nil, T.nil, T.c (C.i IntKind.i64 0), T.c (C.i IntKind.i64 0)]), (2, Obj.tok 1 o)]) n ⟨0, 0, [], Nat.zero_le _, rfl, rfl, rfl, rfl, rfl⟩ ?_
      rintro n' a m ⟨k, ik, o, hk', hn', hik, ho, rfl, rfl⟩
      have hadd : zb .add .i64 ik 1 = ik + 1 := z_add hz (by omega) (by omega)
      obtain ⟨ik1, hik1⟩ := hide (ik + 1)
      rw [← hik1] at hadd
      have hol : o.length ≤ n := by
        rw [ho, List.length_map]
        exact Nat.le_trans (List.length_filter_le _ _) (Nat.le_trans (List.length_take_le' _ _) (by omega))
      refine W_run ti_ok hz 400 (by cbv) ?_
      refine W_cond (by cbv) (fun h => ?_) (fun h => ?_)
      · have hlt : k < n := by
          rw [z_lss hz, hik, hlO] at h
          exact Int.ofNat_lt.1 (of_decide_eq_true h)
        have hlt' : k < ord.length := by omega
        have hOk := hOg k hlt'
        have hjm := hordm _ (List.getElem_mem hlt')
        have hoj : ord[k]? = some (ord[k]'hlt') := List.getElem?_eq_getElem hlt'
        have hst := filter_take (p := fun i => !missing (l.getD i ⟨0, 0, []⟩)) hoj
        obtain ⟨j, hj⟩ := hide (ord[k]'hlt')
        rw [← hj] at hOk hjm hst
        obtain ⟨jk, hjk⟩ := hide ((j : Int) + 1)
        have hOk' : O2[k]? = some [C.i .i64 jk] := by rw [hOk, hjk]; rfl
        obtain ⟨jz, hjz⟩ := hide (j : Int)
        have hsubj : zb .sub .i64 jk 1 = jz := by rw [z_sub hz (by omega) (by omega)]; omega
        have hIj : I[j]? = some (itK (l[j]'hjm)) := by rw [hI, List.getElem?_map, List.getElem?_eq_getElem hjm]; rfl
        have hgj : l.getD j ⟨0, 0, []⟩ = l[j]'hjm := by simp [hjm]
        have hmj := hmd _ (List.getElem_mem hjm)
        rw [hgj] at hst
        obtain ⟨x, hx⟩ := hide (l[j]'hjm)
        rw [← hx] at hIj hst hmj
        rw [hmj] at hst
        obtain ⟨xn, xd, xs⟩ := x
        have hst : _ = _ ++ if (!(xd == 0)) = true then [j] else [] := hst
        refine W_run ti_ok hz 400 (by cbv) ?_
        refine W_draw mixedB [(2, 0), (1, 1), (2, 2), (2, 3), (2, 4), (1, 5), (2, 6), (2, 7), (2, 8), (1, 9), (2, 10)] [] (by kernel_rfl) ?_
        refine D_run ti_ok hz 400 (by cbv) ?_
        refine D_val (by cbv) (by cbv) (by cbv) (Val_elem ti_ok (by cbv) k hik hOk' rfl) ?_
        refine D_run ti_ok hz 400 (by cbv) ?_
        rw [hsubj]
        refine D_val (by cbv) (by cbv) (by cbv) (Val_elem ti_ok (by cbv) j hjz hIj rfl) ?_
        refine D_run ti_ok hz 400 (by cbv) ?_
        refine D_done ?_
        refine W_cond (by cbv) (fun h2 => ?_) (fun h2 => ?_)
        · rw [z_neq hz] at h2
          rw [if_pos (by simpa using h2)] at hst
          refine W_run ti_ok hz 400 (by cbv) ?_
          refine W_val (by cbv) (by cbv) (Val_elem ti_ok (by cbv) k hik hOk' rfl) ?_
          refine W_run ti_ok hz 400 (by cbv) ?_
          refine W_app ti_ok (by cbv) (by cbv) (by simp) (by simp; omega) ?_
          obtain ⟨o2, ho2⟩ := hide (o ++ [[C.i .i64 jk]])
          rw [← ho2]
          refine W_run ti_ok hz 400 (by cbv) ?_
          rw [hadd]
          refine W_inv [2, 4, 5, 6, 7, 8, 9] [0, 1, 2] (n - (k + 1)) (by omega) (by cbv) (by cbv) ⟨k + 1, ik1, o2, hlt, rfl, by rw [hik1, hik]; rfl, ?_, by cbv, by cbv⟩
          rw [hst, List.map_append, ho2, ho, hjk]
          rfl
        · rw [z_neq hz] at h2
          rw [if_neg (by simpa using h2), List.append_nil] at hst
          refine W_run ti_ok hz 400 (by cbv) ?_
          rw [hadd]
          refine W_inv [2, 4, 5, 6, 7, 8, 9] [0, 1, 2] (n - (k + 1)) (by omega) (by cbv) (by cbv) ⟨k + 1, ik1, o, hlt, rfl, by rw [hik1, hik]; rfl, by rw [hst, ho], by cbv, by cbv⟩
      · have hle : k = n := by
          rw [z_lss hz, hik, hlO] at h
          have h := of_decide_eq_false h
          have : ¬ k < n := fun h' => h (Int.ofNat_lt.2 h')
          omega
        have hfo : o = (plc srt).map inK := by
          rw [ho, hso, hle, hn, List.take_length, plc, List.map_map]
          rfl
        have c5 := c4 rfl
        rw [← hfo] at c5
        clear c4 hfo ho
        refine W_run ti_ok hz 400 (by cbv) ?_
        refine W_call (by cbv) (by kernel_rfl) (c5) ?_
        rintro t rfl
        refine W_run ti_ok hz 400 (by cbv) ?_
        refine W_ret ti_ok rfl (by cbv) ?_
        rw [if_pos rfl, hR0 rfl]
  · by_cases ha : ap = []
    · rw [if_pos ha] at h
      exact ⟨_, by rw [ha], by rw [h]; exact Le.refl _⟩
    · rw [if_neg ha] at h
      refine ⟨_, rfl, ?_⟩
      rw [h, hR1 ha]
      exact Le.tu ⟨Le.ag ⟨Le.refl _, Le.nil, Le.nil, Le.nil, Le.nil, Le.nil, Le.refl _, Le.refl _, trivial⟩ (by simp [T.one]), Le.refl _, trivial⟩
end Go.Proofs.Ytjdimlhdkmkmbaa
