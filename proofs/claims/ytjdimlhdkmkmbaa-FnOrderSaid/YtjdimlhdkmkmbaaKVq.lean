/-
  Merged texts: VmSubP, VmSubOf, VmDrawS, VmSubQ.
-/
import Derived.Test.YtjdimlhdkmkmbaaVmSubset
import Derived.Test.YtjdimlhdkmkmbaaVmD
namespace Go.Proofs.Ytjdimlhdkmkmbaa
set_option maxRecDepth 100000
set_option maxRecDepth 100000
open Go.ChangeShapes Go.WideShapes Go.ChangeAt Go.RowKit Go.Deep Go.Proofs.Ytjdimlhdkmkmbaa.Vm
set_option linter.unusedVariables false

structure VFacts (d : VecD) : Prop where
  k0 : 0 ≤ d.kind
  k5 : d.kind ≤ 5
  len : lenV d ≤ 40
  cls : labelsOk d.cls 3 = true
  lv : labelsOk d.levels 20 = true
  nm : d.names = [] ∨ (d.names.length = lenV d ∧ allE d.names = false)
  nl : ∀ s ∈ d.names, s.length ≤ 60
  lk : d.levels = [] ∨ d.kind = 2
  pk : d.parts = [] ∨ d.kind = 4
  it : ∀ x ∈ d.items, itemT d x = true
theorem shape_facts {d : VecD} (h : shapeOk d = true) : VFacts d := by
  unfold shapeOk at h
  simp only [Bool.and_eq_true] at h
  obtain ⟨⟨⟨⟨⟨⟨⟨hA, hB⟩, hC⟩, hD⟩, hE⟩, hF⟩, hG⟩, hH⟩ := h
  unfold sA at hA
  simp only [Bool.and_eq_true, decide_eq_true_eq] at hA
  unfold sD at hD
  simp only [Bool.and_eq_true, Bool.or_eq_true, List.isEmpty_iff, beq_iff_eq] at hD
  unfold sB at hB
  simp only [Bool.or_eq_true, Bool.and_eq_true, List.isEmpty_iff, decide_eq_true_eq, Bool.not_eq_true'] at hB
  unfold sC at hC
  unfold sH at hH
  refine ⟨hA.1.1.1.1, hA.1.1.1.2, hA.1.1.2, hA.1.2, hA.2, hB, fun s hs => ?_, hD.1, hD.2, fun x hx => ?_⟩
  · obtain ⟨j, hj, rfl⟩ := List.getElem_of_mem hs
    exact of_decide_eq_true hC j hj
  · obtain ⟨j, hj, rfl⟩ := List.getElem_of_mem hx
    exact of_decide_eq_true hH j hj
theorem subAt_len {α : Type} {l : List α} : ∀ {is : List Nat}, (∀ i ∈ is, i < l.length) → (subAt l is).length = is.length
  | [], _ => rfl
  | i :: is, h => by
    have h0 := h i (by simp)
    have := subAt_len (l := l) (is := is) fun j hj => h j (by simp [hj])
    unfold subAt at this ⊢
    rw [List.filterMap_cons, List.getElem?_eq_getElem h0]
    simp [this]
theorem tidy_eq (d : VecD) : tidyD d = .mk d.kind d.items d.parts (tidyN d.names) d.cls d.levels d.code d.env := by
  unfold tidyD tidyN
  split
  · rfl
  · cases d; rfl
theorem sub_wf {d : VecD} (hd : VecWf d) (is : List Nat) : VecWf (tidyD (subD d is)) := by
  have h := subD_wf hd is
  unfold tidyD
  split
  · obtain ⟨h0, h1, h2, h3, h4, h5, h6, h7⟩ := (VecWf_eq _).1 h
    exact (VecWf_eq _).2 ⟨h0, h1, h2, (fun x hx => by cases hx), h4, h5, h6, h7⟩
  · exact h
end Go.Proofs.Ytjdimlhdkmkmbaa
namespace Go.Proofs.Ytjdimlhdkmkmbaa
set_option maxRecDepth 100000
open Go.ChangeShapes Go.WideShapes Go.ChangeAt Go.RowKit Go.Deep Go.Proofs.Ytjdimlhdkmkmbaa.Vm
set_option linter.unusedVariables false

theorem labels_len {l : List (List UInt8)} {n : Int} (h : labelsOk l n = true) : (l.length : Int) ≤ n := by
  unfold labelsOk at h
  simp only [Bool.and_eq_true, decide_eq_true_eq] at h
  exact h.1
end Go.Proofs.Ytjdimlhdkmkmbaa
namespace Go.Proofs.Ytjdimlhdkmkmbaa
set_option maxRecDepth 100000
open Go.ChangeShapes Go.WideShapes Go.ChangeAt Go.RowKit Go.Deep Go.Proofs.Ytjdimlhdkmkmbaa.Vm
set_option linter.unusedVariables false

theorem bytes_of {Z : Kn} {w : World} {l : List Nat} {v : Value} (h : RdC Z (.sl (l.map byK)) v) (hK : KnOk Z w) (hb : ∀ x ∈ l, x < 256) : Bytes w v l :=
  slR_of h hK (fun _ _ => rfl) (by decide) fun x hx vs hv => by
    obtain ⟨v1, vs1, rfl, h1, h2⟩ := hv.uncons
    obtain rfl := h2.unnil
    rw [h1.intI]
    exact ⟨rfl, hb x hx⟩
theorem ct_sIsVector (d : VecD) (hd : VecWf d) (hz : szVector d ≤ 1000000000000) : Ct Try.prog 44 [vT d] (fun t => t = .q (vecOk d)) :=
  Ct_scalar (fun Z => .q (vecOk d)) fun w Z vs hK hr => by
    obtain ⟨v, rfl, h1⟩ := one_arg hr
    obtain ⟨cs, rfl, h2⟩ := vecR_of h1 hK hd
    exact spec_IsVector d cs w h2 hz
theorem ct_l4Len (d : VecD) (hd : VecWf d) (hz : d.items.length + d.parts.length ≤ 4611686018427387904) : Ct Try.prog 46 [vT d] (fun t => t = .c (.i .i64 (lenV d : Int))) :=
  Ct_scalar (fun Z => .c _ _ (.i .i64 _)) fun w Z vs hK hr => by
    obtain ⟨v, rfl, h1⟩ := one_arg hr
    obtain ⟨cs, rfl, h2⟩ := vecR_of h1 hK hd
    exact spec_l4Len d cs w h2 hz
set_option maxHeartbeats 4000000 in
theorem ct_num (n : Int) : Ct Try.prog 18 [.c (.i .i64 n)] (fun t => t = itT (wh n)) := by
  obtain ⟨zb, zc, zs, zl, zn, zt, zp, zg, zv, zx, zm, hz⟩ := Vm.zE
  refine Ct_of_W Try.func18 rfl (Nat.le_of_ble_eq_true rfl) fun w0 Z0 => ?_
  refine W_run ti_ok hz 400 (by cbv) ?_
  refine W_ret ti_ok rfl (by cbv) ?_
  rfl
theorem numItem_wh {n : Int} (h1 : -1000 ≤ n) (h2 : n ≤ 1000) : numItem n = wh n := by
  have hg : mkG n 1 = 1 := by simp [mkG]
  unfold numItem mkN wh
  rw [hg, if_pos ⟨by decide, ⟨by omega, by omega⟩, by decide⟩, if_pos ⟨⟨by simp; omega, by simp; omega⟩, by decide⟩]
  simp
theorem ct_Number1 (n : Int) (h1 : -1000 ≤ n) (h2 : n ≤ 1000) : Ct Try.prog 22 [.c (.sl [inK n])] (fun t => t = vT (itemsV 2 [wh n]) ∧ VecWf (itemsV 2 [wh n])) := by
  have : itemsV 2 [wh n] = numV [n] := by rw [← numItem_wh h1 h2]; rfl
  rw [this]
  exact Ct_vec fun w Z vs hK hr => by
    obtain ⟨v, rfl, h1⟩ := one_arg hr
    exact spec_NumberVector [n] (by simp) v w (ints_of h1.cI hK fun x hx => by rw [List.mem_singleton.1 hx]; exact ⟨by omega, by omega⟩)
end Go.Proofs.Ytjdimlhdkmkmbaa
namespace Go.Proofs.Ytjdimlhdkmkmbaa
set_option maxRecDepth 100000
open Go.ChangeShapes Go.WideShapes Go.ChangeAt Go.RowKit Go.Deep Go.Proofs.Ytjdimlhdkmkmbaa.Vm
set_option linter.unusedVariables false

theorem vecOk_itemsV {k : Int} {its : List ItemD} (hk : k = 1 ∨ k = 2 ∨ k = 3) (hl : its.length ≤ 40) (h : ∀ x ∈ its, itemOk k x = true) : vecOk (itemsV k its) = true := by
  have hk5 : k ≠ 5 := by omega
  have ha : atomV k = true := by unfold atomV; simp; omega
  have hln : lenV (itemsV k its) = its.length := by
    refine (if_neg hk5).trans ?_
    show its.length + 0 = _
    rfl
  have h1 : shapeOk (itemsV k its) = true := by
    unfold shapeOk sA sB sC sD sE sF sG sH
    rw [hln]
    have e0 : (itemsV k its).kind = k := rfl
    have e1 : (itemsV k its).items = its := rfl
    have e2 : (itemsV k its).names = [] := rfl
    have e3 : (itemsV k its).cls = [] := rfl
    have e4 : (itemsV k its).levels = [] := rfl
    have e5 : (itemsV k its).parts = [] := rfl
    have e6 : (itemsV k its).code = 0 := rfl
    have e7 : (itemsV k its).env = 0 := rfl
    simp only [Bool.and_eq_true, Bool.or_eq_true, decide_eq_true_eq, List.isEmpty_iff, beq_iff_eq, bne_iff_ne, Bool.not_eq_true', ne_eq]
    refine ⟨⟨⟨⟨⟨⟨⟨⟨⟨⟨⟨by rw [e0]; omega, by rw [e0]; omega⟩, hl⟩, by rw [e3]; decide⟩, by rw [e4]; decide⟩, .inl rfl⟩, fun j hj => absurd hj (Nat.not_lt_zero _)⟩, .inl rfl, .inl rfl⟩, .inr ⟨rfl, rfl⟩⟩, .inl hk5⟩, .inl (by rw [e0]; omega)⟩, fun j hj => ?_⟩
    have := h _ (List.getElem_mem (show j < its.length from hj))
    unfold itemT
    rw [show atomV (itemsV k its).kind = true from ha, show itemOk (itemsV k its).kind (itemsV k its).items[j] = true from this]
    rfl
  unfold vecOk okN
  rw [cellsV_eq, hln, h1]
  show (true && ([] : List VecD).all _ && decide (its.length + 0 ≤ 200)) = true
  simp; omega
theorem wf_itemsV {k : Int} {its : List ItemD} (hk : I64 k) (h : ∀ x ∈ its, ItWf x) : VecWf (itemsV k its) :=
  (VecWf_eq _).2 ⟨hk, h, (fun x hx => by cases hx), (fun x hx => by cases hx), (fun x hx => by cases hx), (fun x hx => by cases hx), i64z_, i64z_⟩
theorem sz_itemsV {k : Int} {its : List ItemD} (hl : its.length ≤ 40) (h : ∀ x ∈ its, szItem x ≤ 100) : szVector (itemsV k its) ≤ 100000 := by
  have h1 : (its.map szItem).sum ≤ its.length * 100 := by
    clear hl
    induction its with
    | nil => exact Nat.zero_le _
    | cons x l ih =>
      have := ih fun y hy => h y (by simp [hy])
      have := h x (by simp)
      simp only [List.map_cons, List.sum_cons, List.length_cons]; omega
  rw [szVector_eq]
  show szS szItem its + szS szVector [] + szL [] + szL [] + szL [] ≤ _
  have e1 : szS szVector [] = 0 := rfl
  have e2 : szL [] = 0 := rfl
  rw [e1, e2]
  unfold szS; omega
end Go.Proofs.Ytjdimlhdkmkmbaa
