/-
  Plain: what the law of orders looks at.
-/
import Derived.Test.YtjdimlhdkmkmbaaKSort
import Derived.Test.YtjdimlhdkmkmbaaKVq
import Derived.Test.YtjdimlhdkmkmbaaVmRanks
namespace Go.Proofs.Ytjdimlhdkmkmbaa
set_option maxRecDepth 100000
open Go.Proofs.Ytjdimlhdkmkmbaa.Vm
set_option linter.all false

theorem vecOk_atom {k : Int} {its : List ItemD} {nm cl lv : List (List UInt8)} (k0 : 0 ≤ k) (k4 : k < 4) (hl : its.length ≤ 40) (hcl : labelsOk cl 3 = true) (hlv : labelsOk lv 20 = true) (hnm : nm = [] ∨ (nm.length = its.length ∧ allE nm = false)) (hnl : ∀ s ∈ nm, s.length ≤ 60)
    (hlk : lv = [] ∨ k = 2) (hit : ∀ x ∈ its, itemT (.mk k its [] nm cl lv 0 0) x = true) (hz : k ≠ 0 ∨ (its = [] ∧ cl = [])) : vecOk (.mk k its [] nm cl lv 0 0) = true := by
  have hlen : lenV (.mk k its [] nm cl lv 0 0) = its.length := by
    unfold lenV
    exact (if_neg (show ¬ k = 5 by omega)).trans rfl
  unfold vecOk okN
  simp only [Bool.and_eq_true, decide_eq_true_eq]
  refine ⟨⟨?_, by rfl⟩, ?_⟩
  · unfold shapeOk sA sB sC sD sE sF sG sH
    rw [hlen]
    simp only [Bool.and_eq_true, Bool.or_eq_true, decide_eq_true_eq, List.isEmpty_iff, beq_iff_eq, bne_iff_ne, Bool.not_eq_true', ne_eq]
    refine ⟨⟨⟨⟨⟨⟨⟨⟨⟨⟨⟨k0, show k ≤ 5 by omega⟩, hl⟩, hcl⟩, hlv⟩, hnm⟩, fun j hj => hnl _ (List.getElem_mem hj)⟩, hlk, .inl rfl⟩, .inr ⟨rfl, rfl⟩⟩, .inl (show ¬ k = 5 by omega)⟩, hz⟩, fun j hj => hit _ (List.getElem_mem hj)⟩
  · rw [cellsV_eq, hlen]
    show its.length + 0 ≤ 200
    omega
theorem vecOk_pick {d : VecD} (hf : AtomF d) {is : List Nat} (hi : ∀ i ∈ is, i < d.items.length) (hil : is.length ≤ d.items.length) : vecOk (tidyD (subD d is)) = true := by
  have hv := shape_facts (vecOk_shape hf.ok)
  have hlen := subAt_len hi
  have h40 := hf.l40
  rw [tidy_eq]
  show vecOk (.mk d.kind (subAt d.items is) (subAt d.parts is) (tidyN (subAt d.names is)) (clsOf d) d.levels 0 0) = true
  rw [hf.parts, subAt_nil]
  refine vecOk_atom hf.k0 hf.k4 (by omega) ?_ hv.lv ?_ (fun s hm => ?_) hv.lk (fun x hx => hv.it x (subAt_mem hx)) ?_
  · unfold clsOf
    split
    · decide
    · exact hv.cls
  · unfold tidyN
    split
    · exact .inl rfl
    · rename_i ha
      rcases hv.nm with hn | hn
      · rw [hn, subAt_nil]; exact .inl rfl
      · refine .inr ⟨?_, by simpa using ha⟩
        rw [hlen]
        exact subAt_len fun i hm => by rw [hn.1, hf.len]; exact hi i hm
  · unfold tidyN at hm
    split at hm
    · cases hm
    · exact hv.nl s (subAt_mem hm)
  · by_cases h0 : d.kind = 0
    · right
      have hit : d.items = [] := by
        cases hi' : d.items with
        | nil => rfl
        | cons x l =>
          have := hv.it x (by rw [hi']; simp)
          simp [itemT, atomV, h0] at this
      refine ⟨by rw [hit, subAt_nil], ?_⟩
      unfold clsOf
      rw [if_pos (hv.lk.resolve_right (by omega))]
    · exact .inl h0
theorem vecOk_zero : vecOk (itemsV 0 []) = true := vecOk_atom (by decide) (by decide) (by simp) rfl rfl (.inl rfl) (fun _ h => by cases h) (.inl rfl) (fun _ h => by cases h) (.inr ⟨rfl, rfl⟩)
theorem vecOk_srt (d : VecD) (dec : Bool) : vecOk (srtD d dec) = true := by
  unfold srtD
  split
  · rename_i h
    exact vecOk_pick (atom_facts h) (fun i hi => srtL_lt i hi) srtL_len
  · exact vecOk_zero
theorem szS_leM {α : Type} {f : α → Nat} {M : Nat} : ∀ {l : List α}, (∀ x ∈ l, f x ≤ M) → szS f l ≤ l.length * (M + 1)
  | [], _ => by simp [szS]
  | x :: l, h => by
    have h1 := h x List.mem_cons_self
    have h2 := szS_leM (f := f) (M := M) (l := l) fun y hy => h y (List.mem_cons_of_mem _ hy)
    simp only [szS, List.length_cons, List.map_cons, List.sum_cons] at h2 ⊢
    rw [Nat.add_mul]
    omega
theorem szL_leM {M : Nat} : ∀ {l : List (List UInt8)}, (∀ x ∈ l, x.length ≤ M) → szL l ≤ l.length * (M + 1) := fun h => szS_leM (f := List.length) h
theorem itemOk_sz {k : Int} {x : ItemD} (h : itemOk k x = true) : szItem x ≤ 60 := by
  unfold itemOk at h
  simp only [Bool.or_eq_true, Bool.and_eq_true, decide_eq_true_eq, missing, isNum, List.isEmpty_iff] at h
  show x.text.length ≤ 60
  rcases h with ((h | h) | h) | h
  · rw [h.2]; simp
  · rw [h.2.1.1]; simp
  · rw [h.2.1.1.1]; simp
  · exact h.2.2
theorem sz_atom {k : Int} {its : List ItemD} {nm cl lv : List (List UInt8)} (hl : its.length ≤ 40) (hit : ∀ x ∈ its, szItem x ≤ 60) (hn : nm.length ≤ 40) (hnl : ∀ s ∈ nm, s.length ≤ 60) (hcl : szL cl ≤ 300000) (hlv : szL lv ≤ 300000) : szVector (.mk k its [] nm cl lv 0 0) ≤ 700000 := by
  rw [szVector_eq]
  show szS szItem its + szS szVector [] + szL nm + szL cl + szL lv ≤ 700000
  have h1 := szS_leM hit
  have h2 := szL_leM hnl
  have h3 : its.length * (60 + 1) ≤ 40 * 61 := Nat.mul_le_mul_right _ hl
  have h4 : nm.length * (60 + 1) ≤ 40 * 61 := Nat.mul_le_mul_right _ hn
  have h5 : szS szVector [] = 0 := rfl
  omega
theorem sz_srt {d : VecD} (dec : Bool) (hz : szVector d ≤ 300000) : szVector (srtD d dec) ≤ 700000 := by
  unfold srtD
  split
  · rename_i h
    have hf := atom_facts h
    have hv := shape_facts (vecOk_shape hf.ok)
    have hsz := szVector_eq d
    rw [tidy_eq]
    show szVector (.mk d.kind (subAt d.items _) (subAt d.parts _) (tidyN (subAt d.names _)) (clsOf d) d.levels 0 0) ≤ _
    rw [hf.parts, subAt_nil]
    have hsl := srtL_len (d := d) (dec := dec)
    have h40 := hf.l40
    refine sz_atom (Nat.le_trans (subAt_length _ _) (by omega)) (fun x hx => itemOk_sz (hf.it x (subAt_mem hx))) ?_ (fun s hm => ?_) ?_ (by omega)
    · unfold tidyN
      split
      · exact Nat.zero_le _
      · exact Nat.le_trans (subAt_length _ _) (by omega)
    · unfold tidyN at hm
      split at hm
      · cases hm
      · exact hv.nl s (subAt_mem hm)
    · unfold clsOf
      split
      · exact Nat.zero_le _
      · omega
  · exact sz_atom (by simp) (fun _ h => by cases h) (by simp) (fun _ h => by cases h) (by decide) (by decide)
theorem wf_srt {d : VecD} (hd : VecWf d) (dec : Bool) : VecWf (srtD d dec) := by
  unfold srtD
  split
  · exact sub_wf hd _
  · exact wf_itemsV i64z_ fun _ h => by cases h
/-- each place is there -/
theorem ord_has {d : VecD} {dec : Bool} {i : Nat} (h0 : 1 ≤ i) (h : i ≤ d.items.length) : (i : Int) ∈ ordL d dec := by
  unfold ordL
  rw [List.mem_map]
  exact ⟨i - 1, insOrd_mem.2 (by omega), by omega⟩
theorem ord_i64 {d : VecD} {dec : Bool} (h : d.items.length ≤ 40) : ∀ x ∈ ordL d dec, I64 x := fun x hx => by
  unfold ordL at hx
  obtain ⟨i, hi, rfl⟩ := List.mem_map.1 hx
  have := insOrd_mem.1 hi
  exact ⟨by omega, by omega⟩
theorem getD_mem {l : List ItemD} {i : Nat} (h : i < l.length) : l.getD i ⟨0, 0, []⟩ ∈ l := by
  rw [List.getD_eq_getElem?_getD, List.getElem?_eq_getElem h]
  exact List.getElem_mem h
theorem ord_pair {d : VecD} (hf : AtomF d) (dec : Bool) : (insOrd (befL d.kind dec d.items) d.items.length).Pairwise (fun a b => a < d.items.length ∧ b < d.items.length ∧ befL d.kind dec d.items b a = false) := by
  have ok : ∀ i, i < d.items.length → itemOk d.kind (d.items.getD i ⟨0, 0, []⟩) = true := fun i hi => hf.it _ (getD_mem hi)
  refine chain_pairwise (fun a b c h1 h2 => ⟨h1.1, h2.2.1, bef_tr (ok a h1.1) (ok b h1.2.1) (ok c h2.2.1) h1.2.2 h2.2.2⟩) ?_
  exact insOrd_adj (N := d.items.length) (R := fun a b => a < d.items.length ∧ b < d.items.length ∧ befL d.kind dec d.items b a = false) (fun a i h1 h2 h3 => ⟨by omega, h2, h3⟩) (fun i b h1 h2 h3 => ⟨h2, by omega, bef_asymm (ok i h2) (ok b (by omega)) h3⟩) d.items.length (Nat.le_refl _)
/-- equal elements keep their order -/
theorem ord_stable {d : VecD} (hf : AtomF d) (dec : Bool) {k a b : Nat} (h1 : (insOrd (befL d.kind dec d.items) d.items.length)[k]? = some a) (h2 : (insOrd (befL d.kind dec d.items) d.items.length)[k + 1]? = some b) (h : d.items.getD a ⟨0, 0, []⟩ = d.items.getD b ⟨0, 0, []⟩) : a < b := by
  have ok : ∀ i, i < d.items.length → itemOk d.kind (d.items.getD i ⟨0, 0, []⟩) = true := fun i hi => hf.it _ (getD_mem hi)
  refine insOrd_adj (N := d.items.length) (R := fun a b => d.items.getD a ⟨0, 0, []⟩ = d.items.getD b ⟨0, 0, []⟩ → a < b) (fun a i h1 h2 h3 _ => h1) (fun i b h1 h2 h3 h4 => ?_) d.items.length (Nat.le_refl _) k a b h1 h2 h
  unfold befL at h3
  rw [h4, bef_irrefl (ok b (by omega))] at h3
  cases h3
/-- elements that follow one another -/
theorem srt_cmp {d : VecD} (hf : AtomF d) (dec : Bool) {k : Nat} {x y : ItemD} (h1 : (subAt d.items (srtL d dec))[k]? = some x) (h2 : (subAt d.items (srtL d dec))[k + 1]? = some y) :
    x ∈ d.items ∧ y ∈ d.items ∧ missing x = false ∧ missing y = false ∧ (if dec = true then 0 ≤ cmpI d.kind x y else cmpI d.kind x y ≤ 0) := by
  have hp := (ord_pair hf dec).filter (fun i => !missing (d.items.getD i ⟨0, 0, []⟩))
  have hm : ∀ i ∈ srtL d dec, i < d.items.length ∧ missing (d.items.getD i ⟨0, 0, []⟩) = false := fun i hi => ⟨srtL_lt i hi, by have := (List.mem_filter.1 hi).2; simpa using this⟩
  have hs : ∀ (is : List Nat), (∀ i ∈ is, i < d.items.length) → subAt d.items is = is.map fun i => d.items.getD i ⟨0, 0, []⟩ := fun is => by
    induction is with
    | nil => intro _; rfl
    | cons i is ih =>
      intro h
      have hi := h i List.mem_cons_self
      have := ih fun j hj => h j (List.mem_cons_of_mem _ hj)
      unfold subAt at this ⊢
      rw [List.filterMap_cons, List.getElem?_eq_getElem hi, List.map_cons, this]
      simp [hi]
  rw [hs _ fun i hi => (hm i hi).1, List.getElem?_map] at h1 h2
  have hp : (srtL d dec).Pairwise _ := hp
  generalize srtL d dec = s at *
  cases ha : s[k]? with
  | none => rw [ha] at h1; cases h1
  | some a =>
    cases hb : s[k + 1]? with
    | none => rw [hb] at h2; cases h2
    | some b =>
      rw [ha] at h1
      rw [hb] at h2
      injection h1 with h1
      injection h2 with h2
      have h1 : d.items.getD a ⟨0, 0, []⟩ = x := h1
      have h2 : d.items.getD b ⟨0, 0, []⟩ = y := h2
      obtain ⟨ka, ea⟩ := List.getElem?_eq_some_iff.1 ha
      obtain ⟨kb, eb⟩ := List.getElem?_eq_some_iff.1 hb
      have hR := List.pairwise_iff_getElem.1 hp k (k + 1) ka kb (Nat.lt_succ_self k)
      rw [ea, eb] at hR
      have ma := hm a (List.mem_of_getElem? ha)
      have mb := hm b (List.mem_of_getElem? hb)
      have ia := getD_mem ma.1
      have ib := getD_mem mb.1
      rw [h1] at ma ia
      rw [h2] at mb ib
      refine ⟨ia, ib, ma.2, mb.2, ?_⟩
      have hb3 := hR.2.2
      unfold befL at hb3
      rw [h1, h2] at hb3
      unfold bef at hb3
      rw [ma.2, mb.2] at hb3
      have kx := itemOk_kn (hf.it x ia) ma.2
      have ky := itemOk_kn (hf.it y ib) mb.2
      have c1 := (cmp_lt kx ky).2.1
      have c2 := (cmp_lt ky kx).2.1
      cases dec <;> simp at hb3 ⊢ <;> omega
/-- ranks -/
theorem rank_ok {d : VecD} (hf : AtomF d) : ∀ x ∈ d.items, itemOk 2 (rankOf d.items (insOrd (befL d.kind false d.items) d.items.length) x) = true := fun x hx => by
  unfold rankOf
  split
  · rfl
  · have h40 := hf.l40
    have hol := insOrd_length (befL d.kind false d.items) d.items.length
    have hcp : 0 < cntAt (fun i => sameIt (d.items.getD i ⟨0, 0, []⟩) x) (insOrd (befL d.kind false d.items) d.items.length) := by
      obtain ⟨i, hi, e⟩ := List.getElem_of_mem hx
      exact cntAt_pos (insOrd_mem.2 hi) (by rw [sameIt_iff]; simp [hi, e])
    have c1 := cntAt_le (fun i => sameIt (d.items.getD i ⟨0, 0, []⟩) x) (insOrd (befL d.kind false d.items) d.items.length)
    have s1 := sumAt_le (fun i => sameIt (d.items.getD i ⟨0, 0, []⟩) x) (insOrd (befL d.kind false d.items) d.items.length) 0 40 (by omega)
    have : (insOrd (befL d.kind false d.items) d.items.length).length * 40 ≤ 40 * 40 := Nat.mul_le_mul_right _ (by omega)
    have hn := mkR_num (s := sumAt (fun i => sameIt (d.items.getD i ⟨0, 0, []⟩) x) 0 (insOrd (befL d.kind false d.items) d.items.length)) hcp (by omega) (by omega)
    unfold itemOk
    rw [hn]
    simp
theorem itemOk_wf2 {x : ItemD} (h : itemOk 2 x = true) : ItWf x := by
  have hs := itemOk_sz h
  cases hm : missing x
  · rcases itemOk_kn h hm with ⟨h, _⟩ | ⟨_, h⟩
    · cases h
    · have := isNum_bd h
      exact ⟨⟨by omega, by omega⟩, ⟨by omega, by omega⟩, by unfold maxLen; have : x.text.length ≤ 60 := hs; omega⟩
  · rw [missing_eq hm]; exact ⟨i64z_, i64z_, Nat.zero_le _⟩
theorem rankD_facts {d : VecD} (hd : VecWf d) (hf : AtomF d) : VecWf (rankD d) ∧ vecOk (rankD d) = true ∧ szVector (rankD d) ≤ 700000 := by
  have hv := shape_facts (vecOk_shape hf.ok)
  have hro := rank_ok hf
  have hn : d.names.length ≤ 40 := by
    rcases hf.nm with h | h
    · rw [h]; exact Nat.zero_le _
    · rw [h, hf.len]; exact hf.l40
  have hit : ∀ y ∈ d.items.map (rankOf d.items (insOrd (befL d.kind false d.items) d.items.length)), itemOk 2 y = true := fun y hy => by
    obtain ⟨x, hx, rfl⟩ := List.mem_map.1 hy
    exact hro x hx
  refine ⟨?_, ?_, ?_⟩
  · exact (VecWf_eq _).2 ⟨⟨show _ ≤ (2 : Int) by decide, show (2 : Int) ≤ _ by decide⟩, fun y hy => itemOk_wf2 (hit y hy), fun _ h => (by cases h), ((VecWf_eq d).1 hd).2.2.2.1, fun _ h => (by cases h), fun _ h => (by cases h), i64z_, i64z_⟩
  · refine vecOk_atom (by decide) (by decide) (by rw [List.length_map]; exact hf.l40) rfl rfl ?_ hv.nl (.inl rfl) (fun y hy => ?_) (.inl (by decide))
    · rcases hv.nm with h | h
      · exact .inl h
      · exact .inr ⟨by rw [List.length_map, h.1, hf.len], h.2⟩
    · show (atomV 2 && itemOk 2 y && (([] : List (List UInt8)).isEmpty || missing y || _)) = true
      rw [hit y hy]; rfl
  · exact sz_atom (by rw [List.length_map]; exact hf.l40) (fun y hy => itemOk_sz (hit y hy)) hn hv.nl (by decide) (by decide)
theorem rank_order {d : VecD} (hf : AtomF d) : ordL (rankD d) false = ordL d false := by
  unfold ordL
  have hl : (rankD d).items.length = d.items.length := List.length_map _
  rw [hl]
  congr 1
  refine insOrd_congr fun i j hi hj => ?_
  have hgi : ∀ i, i < d.items.length → (rankD d).items.getD i ⟨0, 0, []⟩ = rankOf d.items (insOrd (befL d.kind false d.items) d.items.length) (d.items.getD i ⟨0, 0, []⟩) := fun i hi => by
    show (d.items.map (rankOf d.items (insOrd (befL d.kind false d.items) d.items.length))).getD i (⟨0, 0, []⟩ : ItemD) = _
    simp [hi]
  unfold befL
  rw [hgi i hi, hgi j hj]
  exact rank_bef (n := d.items.length) rfl hf.l40 hf.it (fun i => insOrd_mem) (insOrd_length _ _) ((ord_pair hf false).imp fun h => h.2.2) (getD_mem hi) (getD_mem hj)
end Go.Proofs.Ytjdimlhdkmkmbaa
