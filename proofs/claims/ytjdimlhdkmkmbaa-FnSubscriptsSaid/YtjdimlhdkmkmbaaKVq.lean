/-
  Merged texts: VmSubP, VmSubOf, VmDrawS, VmSubQ.
-/
import Derived.Test.YtjdimlhdkmkmbaaVmSubset
import Derived.Test.YtjdimlhdkmkmbaaVmD
namespace Go.Proofs.Ytjdimlhdkmkmbaa
set_option maxRecDepth 100000
set_option maxRecDepth 100000
open Go.ChangeShapes Go.WideShapes Go.ChangeAt Go.RowKit Go.Deep Go.Proofs.Ytjdimlhdkmkmbaa.Vm
set_option linter.unusedVariables false

theorem subAt_sublist {α : Type} {l : List α} {is : List Nat} {n : Nat} (h : is.Sublist (List.range n)) : (subAt l is).Sublist l := by
  refine List.Sublist.trans (h.filterMap _) ?_
  have : ∀ n, (List.range n).filterMap (l[·]?) = l.take n := fun n => by
    induction n with
    | zero => rfl
    | succ n ih =>
      rw [List.range_succ, List.filterMap_append, ih, List.take_add_one]
      congr 1
  rw [this]
  exact List.take_sublist _ _
theorem sum_sublist : ∀ {l m : List Nat}, l.Sublist m → l.sum ≤ m.sum := fun h => by
  induction h with
  | slnil => exact Nat.le_refl _
  | cons a _ ih => simp only [List.sum_cons]; omega
  | cons_cons a _ ih => simp only [List.sum_cons]; omega
structure VFacts (d : VecD) : Prop where
  k0 : 0 ≤ d.kind
  k5 : d.kind ≤ 5
  len : lenV d ≤ 40
  cls : labelsOk d.cls 3 = true
  lv : labelsOk d.levels 20 = true
  nm : d.names = [] ∨ (d.names.length = lenV d ∧ allE d.names = false)
  nl : ∀ s ∈ d.names, s.length ≤ 60
  lk : d.levels = [] ∨ d.kind = 2
  pk : d.parts = [] ∨ d.kind = 4
  it : ∀ x ∈ d.items, itemT d x = true
theorem shape_facts {d : VecD} (h : shapeOk d = true) : VFacts d := by
  unfold shapeOk at h
  simp only [Bool.and_eq_true] at h
  obtain ⟨⟨⟨⟨⟨⟨⟨hA, hB⟩, hC⟩, hD⟩, hE⟩, hF⟩, hG⟩, hH⟩ := h
  unfold sA at hA
  simp only [Bool.and_eq_true, decide_eq_true_eq] at hA
  unfold sD at hD
  simp only [Bool.and_eq_true, Bool.or_eq_true, List.isEmpty_iff, beq_iff_eq] at hD
  unfold sB at hB
  simp only [Bool.or_eq_true, Bool.and_eq_true, List.isEmpty_iff, decide_eq_true_eq, Bool.not_eq_true'] at hB
  unfold sC at hC
  unfold sH at hH
  refine ⟨hA.1.1.1.1, hA.1.1.1.2, hA.1.1.2, hA.1.2, hA.2, hB, fun s hs => ?_, hD.1, hD.2, fun x hx => ?_⟩
  · obtain ⟨j, hj, rfl⟩ := List.getElem_of_mem hs
    exact of_decide_eq_true hC j hj
  · obtain ⟨j, hj, rfl⟩ := List.getElem_of_mem hx
    exact of_decide_eq_true hH j hj
theorem VFacts.items4 {d : VecD} (h : VFacts d) (h4 : d.kind = 4) : d.items = [] := by
  cases hi : d.items with
  | nil => rfl
  | cons x l =>
    have := h.it x (by rw [hi]; simp)
    simp [itemT, atomV, h4] at this
theorem subAt_len {α : Type} {l : List α} : ∀ {is : List Nat}, (∀ i ∈ is, i < l.length) → (subAt l is).length = is.length
  | [], _ => rfl
  | i :: is, h => by
    have h0 := h i (by simp)
    have := subAt_len (l := l) (is := is) fun j hj => h j (by simp [hj])
    unfold subAt at this ⊢
    rw [List.filterMap_cons, List.getElem?_eq_getElem h0]
    simp [this]
theorem tidy_eq (d : VecD) : tidyD d = .mk d.kind d.items d.parts (tidyN d.names) d.cls d.levels d.code d.env := by
  unfold tidyD tidyN
  split
  · rfl
  · cases d; rfl
theorem lenV_sub {d : VecD} (hf : VFacts d) (h5 : d.kind ≠ 5) {is : List Nat} (hi : ∀ i ∈ is, i < lenV d) : (subAt d.items is).length + (subAt d.parts is).length = is.length := by
  have hl : lenV d = d.items.length + d.parts.length := by unfold lenV; rw [if_neg h5]
  rcases hf.pk with hp | h4
  · rw [hp, subAt_nil, subAt_len fun i h => by have := hi i h; rw [hl, hp] at this; simpa using this]; rfl
  · rw [hf.items4 h4, subAt_nil, subAt_len fun i h => by have := hi i h; rw [hl, hf.items4 h4] at this; simpa using this]; simp
theorem vecOk_sub {d : VecD} (h : vecOk d = true) (h0 : d.kind ≠ 0) (h5 : d.kind ≠ 5) {is : List Nat} (hs : is.Sublist (List.range (lenV d))) : vecOk (tidyD (subD d is)) = true := by
  have hf := shape_facts (vecOk_shape h)
  have hi : ∀ i ∈ is, i < lenV d := fun i hm => List.mem_range.1 (hs.subset hm)
  have hil : is.length ≤ lenV d := by have := hs.length_le; simpa using this
  have hls := lenV_sub hf h5 hi
  have hl : lenV d = d.items.length + d.parts.length := by unfold lenV; rw [if_neg h5]
  rw [tidy_eq]
  have hlen : lenV (.mk (subD d is).kind (subD d is).items (subD d is).parts (tidyN (subD d is).names) (subD d is).cls (subD d is).levels (subD d is).code (subD d is).env) = is.length := by
    exact (if_neg h5).trans hls
  have hkk : ∀ (l : List (List UInt8)), labelsOk (clsOf d) 3 = true := fun _ => by
    unfold clsOf
    split
    · decide
    · exact hf.cls
  have hnm : tidyN (subAt d.names is) = [] ∨ ((tidyN (subAt d.names is)).length = is.length ∧ allE (tidyN (subAt d.names is)) = false) := by
    unfold tidyN
    split
    · exact .inl rfl
    · rename_i ha
      rcases hf.nm with hn | hn
      · rw [hn, subAt_nil]; exact .inl rfl
      · exact .inr ⟨subAt_len fun i hm => by rw [hn.1]; exact hi i hm, by simpa using ha⟩
  have hnl : ∀ s ∈ tidyN (subAt d.names is), s.length ≤ 60 := fun s hm => by
    unfold tidyN at hm
    split at hm
    · cases hm
    · exact hf.nl s (subAt_mem hm)
  unfold vecOk at h ⊢
  simp only [Bool.and_eq_true, decide_eq_true_eq] at h ⊢
  obtain ⟨h3, hc⟩ := h
  unfold okN at h3 ⊢
  simp only [Bool.and_eq_true] at h3 ⊢
  refine ⟨⟨?_, ?_⟩, ?_⟩
  · unfold shapeOk sA sB sC sD sE sF sG sH
    rw [hlen]
    simp only [Bool.and_eq_true, Bool.or_eq_true, decide_eq_true_eq, List.isEmpty_iff, beq_iff_eq, bne_iff_ne, Bool.not_eq_true', ne_eq]
    refine ⟨⟨⟨⟨⟨⟨⟨⟨⟨⟨⟨hf.k0, hf.k5⟩, by have := hf.len; omega⟩, hkk []⟩, hf.lv⟩, hnm⟩, fun j hj => hnl _ (List.getElem_mem hj)⟩, hf.lk, ?_⟩, .inr ⟨rfl, rfl⟩⟩, .inl h5⟩, .inl h0⟩, fun j hj => ?_⟩
    · rcases hf.pk with hp | hp
      · exact .inl (show subAt d.parts is = [] by rw [hp, subAt_nil])
      · exact .inr hp
    · exact hf.it _ (subAt_mem (List.getElem_mem (show j < (subAt d.items is).length from hj)))
  · rw [List.all_eq_true] at h3 ⊢
    exact fun x hx => h3.2 x (subAt_mem (show x ∈ subAt d.parts is from hx))
  · rw [cellsV_eq] at hc ⊢
    rw [hlen]
    have : ((subAt d.parts is).map cellsV).sum ≤ (d.parts.map cellsV).sum := sum_sublist ((subAt_sublist hs).map _)
    show is.length + ((subAt d.parts is).map cellsV).sum ≤ 200
    omega
theorem sub_wf {d : VecD} (hd : VecWf d) (is : List Nat) : VecWf (tidyD (subD d is)) := by
  have h := subD_wf hd is
  unfold tidyD
  split
  · obtain ⟨h0, h1, h2, h3, h4, h5, h6, h7⟩ := (VecWf_eq _).1 h
    exact (VecWf_eq _).2 ⟨h0, h1, h2, (fun x hx => by cases hx), h4, h5, h6, h7⟩
  · exact h
end Go.Proofs.Ytjdimlhdkmkmbaa
namespace Go.Proofs.Ytjdimlhdkmkmbaa
set_option maxRecDepth 100000
open Go.ChangeShapes Go.WideShapes Go.ChangeAt Go.RowKit Go.Deep Go.Proofs.Ytjdimlhdkmkmbaa.Vm
set_option linter.unusedVariables false

theorem szS_sublist {α : Type} {f : α → Nat} {l m : List α} (h : l.Sublist m) : szS f l ≤ szS f m := by
  have h1 := h.length_le
  have h2 := sum_sublist (h.map f)
  unfold szS; omega
theorem szL_sublist {l m : List (List UInt8)} (h : l.Sublist m) : szL l ≤ szL m := by
  have h1 := h.length_le
  have h2 := sum_sublist (h.map List.length)
  unfold szL; omega
theorem sz_sub (d : VecD) {is : List Nat} {n : Nat} (h : is.Sublist (List.range n)) : szVector (tidyD (subD d is)) ≤ szVector d := by
  rw [tidy_eq, szVector_eq, szVector_eq d]
  have h1 := szS_sublist (f := szItem) (subAt_sublist (l := d.items) h)
  have h2 := szS_sublist (f := szVector) (subAt_sublist (l := d.parts) h)
  have h3 : szL (tidyN (subAt d.names is)) ≤ szL d.names := by
    unfold tidyN
    split
    · exact Nat.zero_le _
    · exact szL_sublist (subAt_sublist h)
  have h4 : szL (clsOf d) ≤ szL d.cls := by
    unfold clsOf
    split
    · exact Nat.zero_le _
    · exact Nat.le_refl _
  show szS szItem (subAt d.items is) + szS szVector (subAt d.parts is) + szL (tidyN (subAt d.names is)) + szL (clsOf d) + szL d.levels ≤ _
  omega
theorem labels_len {l : List (List UInt8)} {n : Int} (h : labelsOk l n = true) : (l.length : Int) ≤ n := by
  unfold labelsOk at h
  simp only [Bool.and_eq_true, decide_eq_true_eq] at h
  exact h.1
set_option maxHeartbeats 8000000 in
theorem ct_SubsetOf (d : VecD) (hd : VecWf d) (hz : szVector d ≤ 900000000000) (hok : vecOk d = true) (h0 : d.kind ≠ 0) (h5 : d.kind ≠ 5) (s : VecD) (is : List Nat) (hs : is.Sublist (List.range (lenV d)))
    (hr : Ct Try.prog 21 [.c (.i .i64 (lenV d : Int)), .c (.sl (d.names.map txK)), vT s] (fun t => t = .tu [.c (.sl ((plc is).map inK)), .c (.s [])])) :
    Ct Try.prog 20 [vT d, vT s] (fun t => t = .tu [vT (tidyD (subD d is)), .c (.s [])]) := by
  have hf := shape_facts (vecOk_shape hok)
  have hi : ∀ i ∈ is, i < lenV d := fun i hm => List.mem_range.1 (hs.subset hm)
  have hil : is.length ≤ lenV d := by have := hs.length_le; simpa using this
  have hlen := hf.len
  have hl5 : lenV d = d.items.length + d.parts.length := by unfold lenV; rw [if_neg h5]
  have k1 := labels_len hf.cls
  have k2 := labels_len hf.lv
  have hs2 := sz_sub d hs
  have c1 := ct_IsVector d hd (by omega)
  rw [hok] at c1
  have c2 := ct_length d hd (by omega)
  have c3 := ct_subset d hd hz h5 is hlen hi (by omega) (fun h => hf.pk.resolve_right h) hf.items4 (hf.nm.imp_right And.left) ⟨by omega, by omega⟩
  have c4 := ct_fits (tidyD (subD d is)) (sub_wf hd is) (by omega) (vecOk_sub hok h0 h5 hs)
  obtain ⟨zb, zc, zs, zl, zn, zt, zp, zg, zv, zx, zm, hz⟩ := Vm.zE
  obtain ⟨kd, I, P, N, Q, L, cd, en, hT, hk, hI, hP, hN, -⟩ := vT_hide d
  obtain ⟨sk, sI, sP, sN, sQ, sL, sc, se, hS, -⟩ := vT_hide s
  obtain ⟨rk, rI, rP, rN, rQ, rL, rc, re, hR, -⟩ := vT_hide (tidyD (subD d is))
  obtain ⟨S, hSS⟩ := hide ((plc is).map inK)
  obtain ⟨ll, hll⟩ := hide (lenV d : Int)
  rw [hT] at c1
  rw [hT, ← hll] at c2
  rw [hT, hR, ← hSS] at c3
  rw [hR] at c4
  rw [← hN, hS, ← hSS, ← hll] at hr
  rw [hT, hS, hR]
  refine Ct_of_W Try.func20 rfl (Nat.le_of_ble_eq_true rfl) fun w0 Z0 => ?_
  refine W_run ti_ok hz 400 (by cbv) ?_
  refine W_call (by cbv) (by kernel_rfl) (c1) ?_
  rintro t rfl
  refine W_run ti_ok hz 400 (by cbv) ?_
  refine W_bool 10 (by cbv) (show _ = false by rw [z_not hz]; rfl) ?_
  refine W_run ti_ok hz 400 (by cbv) ?_
  refine W_bool 14 (by cbv) (show _ = false by rw [z_eql hz, hk]; simpa using h5) ?_
  refine W_run ti_ok hz 400 (by cbv) ?_
  refine W_draw mixedB [(1, 0), (2, 2), (1, 3), (1, 4), (0, 1), (0, 5), (2, 6), (2, 7), (2, 8), (2, 9), (2, 10)] [] (by kernel_rfl) ?_
  refine D_run ti_ok hz 400 (by cbv) ?_
  refine D_call (by cbv) (by cbv) (by kernel_rfl) (c2) ?_
  rintro t rfl
  refine D_run ti_ok hz 400 (by cbv) ?_
  refine D_call (by cbv) (by cbv) (by kernel_rfl) (hr) ?_
  rintro t rfl
  refine D_run ti_ok hz 400 (by cbv) ?_
  refine D_done ?_
  refine W_run ti_ok hz 400 (by cbv) ?_
  refine W_bool 26 (by cbv) (show _ = false by rw [z_sne hz]; rfl) ?_
  refine W_run ti_ok hz 400 (by cbv) ?_
  refine W_bool 31 (by cbv) (show _ = false by rw [z_eql hz, hk]; simpa using h0) ?_
  refine W_run ti_ok hz 400 (by cbv) ?_
  refine W_call (by cbv) (by kernel_rfl) (c3) ?_
  rintro t rfl
  refine W_run ti_ok hz 400 (by cbv) ?_
  refine W_call (by cbv) (by kernel_rfl) (c4) ?_
  rintro t rfl
  refine W_run ti_ok hz 400 (by cbv) ?_
  refine W_ret ti_ok rfl (by cbv) ?_
  rfl
end Go.Proofs.Ytjdimlhdkmkmbaa
namespace Go.Proofs.Ytjdimlhdkmkmbaa
set_option maxRecDepth 100000
open Go.ChangeShapes Go.WideShapes Go.ChangeAt Go.RowKit Go.Deep Go.Proofs.Ytjdimlhdkmkmbaa.Vm
set_option linter.unusedVariables false

theorem bytes_of {Z : Kn} {w : World} {l : List Nat} {v : Value} (h : RdC Z (.sl (l.map byK)) v) (hK : KnOk Z w) (hb : ∀ x ∈ l, x < 256) : Bytes w v l :=
  slR_of h hK (fun _ _ => rfl) (by decide) fun x hx vs hv => by
    obtain ⟨v1, vs1, rfl, h1, h2⟩ := hv.uncons
    obtain rfl := h2.unnil
    rw [h1.intI]
    exact ⟨rfl, hb x hx⟩
theorem ct_l9Two (l : List Nat) (hl : l.length ≤ 1048576) (hb : ∀ x ∈ l, x < 256) : Ct Try.prog 34 [.c (.sl (l.map byK))] (fun t => ∃ d f, t = .tu [vT d, vT f] ∧ VecWf d ∧ szVector d ≤ 300000) := fun w Z vs hK hr => by
  obtain ⟨v, rfl, h1⟩ := one_arg hr
  refine Calls.mono (spec_l9Two v l w (bytes_of h1.cI hK hb) hl) fun e w' ⟨cs, fs, d, f, he, hd, hf, hz, _, hbe⟩ => ?_
  obtain ⟨a1, a2⟩ := vecO_rd (Z := Z) (n := w.heap.size) (fun b hb => hb.1) hd
  obtain ⟨b1, b2⟩ := vecO_rd (Z := Z) (n := w.heap.size) (fun b hb => hb.1) hf
  exact ⟨_, .tu [vT d, vT f], knNew Z w.heap.size w', he, ⟨d, f, rfl, a2, hz⟩, hbe, knNew_ok hK hbe, knNew_old Z _ w', by
    have := RdTs.cons a1 (.cons b1 (.nil _ _))
    exact .tu _ _ this.1 this.2⟩
set_option maxHeartbeats 4000000 in
theorem ct_DrawSubsetOf (l : List Nat) (hl : l.length ≤ 1048576) (hb : ∀ x ∈ l, x < 256) : Ct Try.prog 15 [.c (.sl (l.map byK))] (fun t => ∃ d f, t = .tu [vT d, vT f] ∧ VecWf d ∧ szVector d ≤ 300000) := by
  have c1 := ct_l9Two l hl hb
  obtain ⟨zb, zc, zs, zl, zn, zt, zp, zg, zv, zx, zm, hz⟩ := Vm.zE
  obtain ⟨B, hB⟩ := hide (l.map byK)
  rw [← hB] at c1 ⊢
  refine Ct_of_W Try.func15 rfl (Nat.le_of_ble_eq_true rfl) fun w0 Z0 => ?_
  refine W_run ti_ok hz 400 (by cbv) ?_
  refine W_call (by cbv) (by kernel_rfl) (c1) ?_
  rintro t ⟨d, f, rfl, hd, hz1⟩
  obtain ⟨kd, I, P, N, Q, L, cd, en, hT, -⟩ := vT_hide d
  obtain ⟨fk, fI, fP, fN, fQ, fL, fc, fe, hF, -⟩ := vT_hide f
  rw [hT, hF]
  refine W_run ti_ok hz 400 (by cbv) ?_
  refine W_draw2 mixedB [2, 3] [(1, 0), (1, 1), (0, 2), (0, 3)] [] (by kernel_rfl) ?_
  refine E_load ti_ok hz (by cbv) (by cbv) (by cbv) (by cbv) ?_
  refine E_load ti_ok hz (by cbv) (by cbv) (by cbv) (by cbv) ?_
  refine E_store ti_ok (by cbv) (by cbv) (by cbv) (by cbv) (by cbv) ?_
  refine E_store ti_ok (by cbv) (by cbv) (by cbv) (by cbv) (by cbv) ?_
  refine E_done ?_
  refine W_run ti_ok hz 400 (by cbv) ?_
  refine W_ret ti_ok rfl (by cbv) ?_
  exact ⟨d, f, by rw [hT, hF], hd, hz1⟩
theorem ct_sIsVector (d : VecD) (hd : VecWf d) (hz : szVector d ≤ 1000000000000) : Ct Try.prog 44 [vT d] (fun t => t = .q (vecOk d)) :=
  Ct_scalar (fun Z => .q (vecOk d)) fun w Z vs hK hr => by
    obtain ⟨v, rfl, h1⟩ := one_arg hr
    obtain ⟨cs, rfl, h2⟩ := vecR_of h1 hK hd
    exact spec_IsVector d cs w h2 hz
theorem ct_l4Len (d : VecD) (hd : VecWf d) (hz : d.items.length + d.parts.length ≤ 4611686018427387904) : Ct Try.prog 46 [vT d] (fun t => t = .c (.i .i64 (lenV d : Int))) :=
  Ct_scalar (fun Z => .c _ _ (.i .i64 _)) fun w Z vs hK hr => by
    obtain ⟨v, rfl, h1⟩ := one_arg hr
    obtain ⟨cs, rfl, h2⟩ := vecR_of h1 hK hd
    exact spec_l4Len d cs w h2 hz
theorem lens_sz (d : VecD) : d.items.length + d.parts.length ≤ szVector d := by
  have h := szVector_eq d
  have h1 : d.items.length ≤ szS szItem d.items := by unfold szS; omega
  have h2 : d.parts.length ≤ szS szVector d.parts := by unfold szS; omega
  omega
def lenOk (d : VecD) : Nat := if vecOk d then lenV d else 0
set_option maxHeartbeats 4000000 in
theorem ct_LengthOf (d : VecD) (hd : VecWf d) (hz : szVector d ≤ 1000000000000) : Ct Try.prog 16 [vT d] (fun t => t = .c (.i .i64 (lenOk d : Int))) := by
  have c1 := ct_sIsVector d hd hz
  have c2 := ct_l4Len d hd (by have := lens_sz d; omega)
  obtain ⟨b, hb⟩ := hide (vecOk d)
  rw [← hb] at c1
  unfold lenOk
  rw [← hb]
  obtain ⟨zb, zc, zs, zl, zn, zt, zp, zg, zv, zx, zm, hz⟩ := Vm.zE
  obtain ⟨kd, I, P, N, Q, L, cd, en, hT, -⟩ := vT_hide d
  rw [hT] at c1 c2 ⊢
  obtain ⟨ll, hll⟩ := hide (lenV d : Int)
  rw [← hll] at c2
  refine Ct_of_W Try.func16 rfl (Nat.le_of_ble_eq_true rfl) fun w0 Z0 => ?_
  refine W_run ti_ok hz 400 (by cbv) ?_
  refine W_call (by cbv) (by kernel_rfl) (c1) ?_
  rintro t rfl
  refine W_run ti_ok hz 400 (by cbv) ?_
  refine W_cond (by cbv) (fun h => ?_) (fun h => ?_)
  · refine W_run ti_ok hz 400 (by cbv) ?_
    refine W_ret ti_ok rfl (by cbv) ?_
    rw [z_not hz] at h
    have h : b = false := by simpa using h
    rw [h]; rfl
  · refine W_run ti_ok hz 400 (by cbv) ?_
    refine W_call (by cbv) (by kernel_rfl) (c2) ?_
    rintro t rfl
    refine W_run ti_ok hz 400 (by cbv) ?_
    refine W_ret ti_ok rfl (by cbv) ?_
    rw [z_not hz] at h
    have h : b = true := by simpa using h
    rw [h, hll]; rfl
def logT (o : List (List C)) : T := .ag [.c (.i .i64 1), .c (.sl o), .c (.sl []), .c (.sl []), .c (.sl []), .c (.sl []), .c (.i .i64 0), .c (.i .i64 0)]
set_option maxHeartbeats 4000000 in
theorem ct_Logical0 : Ct Try.prog 17 [.c (.sl [])] (fun t => t = .ag [.c (.i .i64 1), .nil, .nil, .nil, .nil, .nil, .c (.i .i64 0), .c (.i .i64 0)]) := by
  obtain ⟨zb, zc, zs, zl, zn, zt, zp, zg, zv, zx, zm, hz⟩ := Vm.zE
  obtain ⟨I, hI⟩ := hide ([] : List (List C))
  rw [← hI]
  have hln : zl I = 0 := by rw [z_len hz, hI]; rfl
  refine Ct_of_W Try.func17 rfl (Nat.le_of_ble_eq_true rfl) fun w0 Z0 => ?_
  refine W_run ti_ok hz 400 (by cbv) ?_
  refine W_keep [0, 2, 3, 4] [0, 1] 2 (by cbv) (by cbv) ?_
  refine W_run ti_ok hz 1 (by cbv) ?_
  refine W_loop (fun n' a m => a = [(0, T.c (C.sl I)), (2, T.pt 0 0), (3, T.pt 1 0), (4, T.c (C.i IntKind.i64 0))] ∧ m = [(0, Obj.box [T.c (C.i IntKind.i64 0), T.nil, T.nil, T.nil, T.nil, T.nil, T.c (C.i IntKind.i64 0), T.c (C.i IntKind.i64 0)]), (1, Obj.box [T.c (C.i IntKind.i64 1), T.nil, T.nil, T.nil, T.nil, T.nil, T.c (C.i IntKind.i64 0), T.c (C.i IntKind.i64 0)])]) 0 ⟨rfl, rfl⟩ ?_
  rintro n' a m ⟨rfl, rfl⟩
  refine W_run ti_ok hz 400 (by cbv) ?_
  refine W_bool 11 (by cbv) (show _ = false by rw [z_lss hz, hln]; rfl) ?_
  refine W_run ti_ok hz 400 (by cbv) ?_
  refine W_bool 37 (by cbv) (show _ = false by rw [z_gtr hz, hln]; rfl) ?_
  refine W_run ti_ok hz 400 (by cbv) ?_
  refine W_ret ti_ok rfl (by cbv) ?_
  rfl
set_option maxHeartbeats 4000000 in
theorem ct_num (n : Int) : Ct Try.prog 18 [.c (.i .i64 n)] (fun t => t = itT (wh n)) := by
  obtain ⟨zb, zc, zs, zl, zn, zt, zp, zg, zv, zx, zm, hz⟩ := Vm.zE
  refine Ct_of_W Try.func18 rfl (Nat.le_of_ble_eq_true rfl) fun w0 Z0 => ?_
  refine W_run ti_ok hz 400 (by cbv) ?_
  refine W_ret ti_ok rfl (by cbv) ?_
  rfl
theorem numItem_wh {n : Int} (h1 : -1000 ≤ n) (h2 : n ≤ 1000) : numItem n = wh n := by
  have hg : mkG n 1 = 1 := by simp [mkG]
  unfold numItem mkN wh
  rw [hg, if_pos ⟨by decide, ⟨by omega, by omega⟩, by decide⟩, if_pos ⟨⟨by simp; omega, by simp; omega⟩, by decide⟩]
  simp
theorem ct_Number1 (n : Int) (h1 : -1000 ≤ n) (h2 : n ≤ 1000) : Ct Try.prog 22 [.c (.sl [inK n])] (fun t => t = vT (itemsV 2 [wh n]) ∧ VecWf (itemsV 2 [wh n])) := by
  have : itemsV 2 [wh n] = numV [n] := by rw [← numItem_wh h1 h2]; rfl
  rw [this]
  exact Ct_vec fun w Z vs hK hr => by
    obtain ⟨v, rfl, h1⟩ := one_arg hr
    exact spec_NumberVector [n] (by simp) v w (ints_of h1.cI hK fun x hx => by rw [List.mem_singleton.1 hx]; exact ⟨by omega, by omega⟩)
theorem ct_Text1 (s : List UInt8) (hs : s.length ≤ 60) : Ct Try.prog 24 [.c (.sl [txK s])] (fun t => t = vT (itemsV 3 [txItem s]) ∧ VecWf (itemsV 3 [txItem s])) :=
  Ct_vec fun w Z vs hK hr => by
    obtain ⟨v, rfl, h1⟩ := one_arg hr
    exact spec_TextVector [s] (by simp) (fun x hx => by rw [List.mem_singleton.1 hx]; exact hs) v w (txts_of h1.cI hK fun x hx => by rw [List.mem_singleton.1 hx]; unfold TxWf maxLen; omega)
end Go.Proofs.Ytjdimlhdkmkmbaa
namespace Go.Proofs.Ytjdimlhdkmkmbaa
set_option maxRecDepth 100000
open Go.ChangeShapes Go.WideShapes Go.ChangeAt Go.RowKit Go.Deep Go.Proofs.Ytjdimlhdkmkmbaa.Vm
set_option linter.unusedVariables false

theorem vecOk_itemsV {k : Int} {its : List ItemD} (hk : k = 1 ∨ k = 2 ∨ k = 3) (hl : its.length ≤ 40) (h : ∀ x ∈ its, itemOk k x = true) : vecOk (itemsV k its) = true := by
  have hk5 : k ≠ 5 := by omega
  have ha : atomV k = true := by unfold atomV; simp; omega
  have hln : lenV (itemsV k its) = its.length := by
    refine (if_neg hk5).trans ?_
    show its.length + 0 = _
    rfl
  have h1 : shapeOk (itemsV k its) = true := by
    unfold shapeOk sA sB sC sD sE sF sG sH
    rw [hln]
    have e0 : (itemsV k its).kind = k := rfl
    have e1 : (itemsV k its).items = its := rfl
    have e2 : (itemsV k its).names = [] := rfl
    have e3 : (itemsV k its).cls = [] := rfl
    have e4 : (itemsV k its).levels = [] := rfl
    have e5 : (itemsV k its).parts = [] := rfl
    have e6 : (itemsV k its).code = 0 := rfl
    have e7 : (itemsV k its).env = 0 := rfl
    simp only [Bool.and_eq_true, Bool.or_eq_true, decide_eq_true_eq, List.isEmpty_iff, beq_iff_eq, bne_iff_ne, Bool.not_eq_true', ne_eq]
    refine ⟨⟨⟨⟨⟨⟨⟨⟨⟨⟨⟨by rw [e0]; omega, by rw [e0]; omega⟩, hl⟩, by rw [e3]; decide⟩, by rw [e4]; decide⟩, .inl rfl⟩, fun j hj => absurd hj (Nat.not_lt_zero _)⟩, .inl rfl, .inl rfl⟩, .inr ⟨rfl, rfl⟩⟩, .inl hk5⟩, .inl (by rw [e0]; omega)⟩, fun j hj => ?_⟩
    have := h _ (List.getElem_mem (show j < its.length from hj))
    unfold itemT
    rw [show atomV (itemsV k its).kind = true from ha, show itemOk (itemsV k its).kind (itemsV k its).items[j] = true from this]
    rfl
  unfold vecOk okN
  rw [cellsV_eq, hln, h1]
  show (true && ([] : List VecD).all _ && decide (its.length + 0 ≤ 200)) = true
  simp; omega
theorem wf_itemsV {k : Int} {its : List ItemD} (hk : I64 k) (h : ∀ x ∈ its, ItWf x) : VecWf (itemsV k its) :=
  (VecWf_eq _).2 ⟨hk, h, (fun x hx => by cases hx), (fun x hx => by cases hx), (fun x hx => by cases hx), (fun x hx => by cases hx), i64z_, i64z_⟩
theorem sz_itemsV {k : Int} {its : List ItemD} (hl : its.length ≤ 40) (h : ∀ x ∈ its, szItem x ≤ 100) : szVector (itemsV k its) ≤ 100000 := by
  have h1 : (its.map szItem).sum ≤ its.length * 100 := by
    clear hl
    induction its with
    | nil => exact Nat.zero_le _
    | cons x l ih =>
      have := ih fun y hy => h y (by simp [hy])
      have := h x (by simp)
      simp only [List.map_cons, List.sum_cons, List.length_cons]; omega
  rw [szVector_eq]
  show szS szItem its + szS szVector [] + szL [] + szL [] + szL [] ≤ _
  have e1 : szS szVector [] = 0 := rfl
  have e2 : szL [] = 0 := rfl
  rw [e1, e2]
  unfold szS; omega
/-- the law's bit -/
def bitS (L k : Nat) : Nat := (L / 2 ^ (k % 8) + k) &&& 1
theorem bitS_lt (L k : Nat) : bitS L k < 2 := by
  unfold bitS
  exact Nat.lt_succ_of_le Nat.and_le_right
def bitsS (L n : Nat) : List ItemD := (List.range n).map fun k => wh (bitS L k)
def selS (L n : Nat) : List Nat := (List.range n).filter fun k => bitS L k == 1
theorem bitsS_succ (L n : Nat) : bitsS L (n + 1) = bitsS L n ++ [wh (bitS L n)] := by
  unfold bitsS; rw [List.range_succ, List.map_append]; rfl
theorem bitsS_length (L n : Nat) : (bitsS L n).length = n := by simp [bitsS]
theorem truth_bit {b : Nat} (h : b < 2) : truth (wh b) = b := by
  unfold truth
  rw [missing_wh]
  match b, h with
  | 0, _ => rfl
  | 1, _ => rfl
theorem bitsS_mem {L n : Nat} {x : ItemD} (h : x ∈ bitsS L n) : ∃ b : Nat, b < 2 ∧ x = wh b := by
  unfold bitsS at h
  obtain ⟨k, _, rfl⟩ := List.mem_map.1 h
  exact ⟨_, bitS_lt L k, rfl⟩
theorem pos_bits (L n : Nat) : posL (bitsS L n) = plc (selS L n) := by
  induction n with
  | zero => rfl
  | succ n ih =>
    have hx : (bitsS L (n + 1))[n]? = some (wh (bitS L n)) := by
      rw [bitsS_succ, List.getElem?_append_right (by rw [bitsS_length]; exact Nat.le_refl _), bitsS_length, Nat.sub_self]; rfl
    have h1 := posL_succ hx
    have e1 : (bitsS L (n + 1)).take (n + 1) = bitsS L (n + 1) := List.take_of_length_le (by rw [bitsS_length]; exact Nat.le_refl _)
    have e2 : (bitsS L (n + 1)).take n = bitsS L n := by rw [bitsS_succ, List.take_append_of_le_length (by rw [bitsS_length]; exact Nat.le_refl _), List.take_of_length_le (by rw [bitsS_length]; exact Nat.le_refl _)]
    rw [e1, e2, ih] at h1
    rw [h1]
    unfold selS plc
    rw [List.range_succ, List.filter_append, List.map_append]
    congr 1
    have hb := bitS_lt L n
    rw [truth_bit hb]
    by_cases h : bitS L n = 1
    · rw [if_pos (by rw [h]; rfl)]; simp [h]
    · rw [if_neg (by omega)]; simp [h]
theorem sel_sub (L n : Nat) : (selS L n).Sublist (List.range n) := List.filter_sublist
theorem plc_mem {is : List Nat} {n : Nat} (h : ∀ i ∈ is, i < n) (hn : n ≤ 40) : ∀ x ∈ plc is, 1 ≤ x ∧ x ≤ 40 := fun x hx => by
  unfold plc at hx
  obtain ⟨i, hi, rfl⟩ := List.mem_map.1 hx
  have := h i hi
  omega
theorem others_len {n j : Nat} (h1 : 1 ≤ j) (h2 : j ≤ n) : (others n j).length = n - 1 := by
  induction n with
  | zero => omega
  | succ n ih =>
    rw [others_succ, List.length_append]
    by_cases h : n + 1 = j
    · rw [if_pos h]
      have : ∀ m, m < j → (others m j).length = m := fun m hm => by
        induction m with
        | zero => rfl
        | succ m ihm => rw [others_succ, if_neg (by omega), List.length_append, ihm (by omega)]; rfl
      rw [this n (by omega)]; simp
    · rw [if_neg h, ih (by omega)]; simp; omega
theorem others_not {n j : Nat} : (j : Int) ∉ others n j := by
  unfold others
  intro h
  obtain ⟨i, hi, e⟩ := List.mem_map.1 h
  have := (List.mem_filter.1 hi).2
  simp at this
  omega
theorem others_i64 {n j : Nat} (hn : n ≤ 40) : ∀ x ∈ others n j, I64 x := fun x hx => by
  unfold others at hx
  obtain ⟨i, hi, rfl⟩ := List.mem_map.1 hx
  have := List.mem_range.1 (List.mem_filter.1 hi).1
  exact ⟨by omega, by omega⟩
end Go.Proofs.Ytjdimlhdkmkmbaa
