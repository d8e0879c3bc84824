/-
  Merged texts: Methods, Inherits, AttrP, SameVec.
-/
import Derived.Test.YtjdimlhdkmkmbaaKBase
import Derived.Test.YtjdimlhdkmkmbaaKOk5
import Derived.Test.YtjdimlhdkmkmbaaKStE
import Derived.Test.YtjdimlhdkmkmbaaKGood
import Derived.StillTailTactics
namespace Go.Proofs.Ytjdimlhdkmkmbaa
set_option maxRecDepth 100000
set_option maxRecDepth 100000
open Go.ChangeShapes Go.WideShapes Go.ChangeAt Go.RowKit Go.Deep

theorem info_str : (Try.prog.info? 9).map (fun i => (i.zero, i.size, i.bytes)) = some (some (.string ByteArray.empty), 1, 16) := by kernel_rfl

theorem take_map_succ {α β : Type} (f : α → β) (l : List α) (k : Nat) (h : k < l.length) : (l.take (k + 1)).map f = (l.take k).map f ++ [f l[k]] := by
  rw [List.take_succ_eq_append_getElem h, List.map_append]; rfl

theorem impl_copyTextsM (l : List (List UInt8)) (v : Value) (w : World) (h : Txts w v l) (hl : l.length ≤ 8388608) :
    Calls Try.prog 82 #[v] w fun e w' => ∃ v', e = .returned v' ∧ w'.ownsRow w.heap.size 9 1 v' l.length (l.map fun s => Value.string (str s)) ∧ Below w.heap.size w w' := by
  obtain ⟨A, c, rfl, hlc, hm, HC⟩ := h.open_
  have hsrc := Lib.hid (Txts.src h).2
  clear h HC
  unfold maxLen at hm
  have hb0 : Below w.heap.size w (w.alloc (.cells #[] 9)) := (Below.refl _ _).alloc (Nat.le_refl _) _
  have HB0 := Lib.hid hb0
  clear hb0
  go_enter Try.func82, Try.ntmps82
  go_wp2_with (at_builtin; go_must (refine wpList_cat rfl _ _ 26 rfl w.heap.size 9 (.string ByteArray.empty) 1 16 Try.underlying26 info_str rfl (by decide) _ _ 0 [] rfl (by exact owns_new w _ 1 0 _ 0 [] rfl (Nat.le_refl _) (by unfold maxLen; omega) rfl rfl) A l.length c _ rfl (by exact hsrc.out.below (by decide) HB0.out) (by omega) (by omega) (by simp) ?_); intro v1 w1 ho1 _ _ hb1)
  go_ret
  simp only [Nat.zero_add, List.nil_append] at ho1
  exact ⟨_, rfl, ho1, HB0.out.trans hb1⟩
end Go.Proofs.Ytjdimlhdkmkmbaa
namespace Go.Proofs.Ytjdimlhdkmkmbaa
set_option maxRecDepth 100000
open Go.ChangeShapes Go.WideShapes Go.ChangeAt Go.RowKit Go.Deep

def kindName (k : Int) : List UInt8 :=
  if k = 0 then [78, 85, 76, 76] else if k = 1 then [108, 111, 103, 105, 99, 97, 108] else if k = 2 then [110, 117, 109, 101, 114, 105, 99] else if k = 3 then [99, 104, 97, 114, 97, 99, 116, 101, 114]
  else if k = 4 then [108, 105, 115, 116] else [102, 117, 110, 99, 116, 105, 111, 110]
def implB (d : VecD) : List (List UInt8) := if vecOk d = false then [] else if 0 < d.cls.length then d.cls else [kindName d.kind]
def RetTx (l : List (List UInt8)) (w : World) (e : Ending) (w' : World) : Prop := ∃ v', e = .returned v' ∧ Txts w' v' l ∧ Below w.heap.size w w'

theorem vecOk_kind {d : VecD} (h : vecOk d = true) : d.kind = 0 ∨ d.kind = 1 ∨ d.kind = 2 ∨ d.kind = 3 ∨ d.kind = 4 ∨ d.kind = 5 := by
  have h1 : shapeOk d = true := by
    unfold vecOk at h
    rw [Bool.and_eq_true] at h
    have := h.1
    rw [okN, Bool.and_eq_true] at this
    exact this.1
  have h2 : sA d = true := by
    unfold shapeOk at h1
    simp only [Bool.and_eq_true] at h1
    exact h1.1.1.1.1.1.1.1
  simp [sA] at h2
  omega

theorem txts_lit1 (w : World) (e : TypeId) (s : List UInt8) (g : Nat) (hg : g = w.heap.size) (hs : s.length ≤ 100) : Txts (w.alloc (.cells #[.string (str s)] e)) (.slice (some ⟨g, 0, none⟩) 1 1) [s] := by
  subst hg
  exact txts_new w e [s] _ rfl (by unfold maxLen; simp) (fun x hx => by simp at hx; subst hx; unfold maxLen; omega)

set_option maxHeartbeats 1000000 in
theorem impl_ImplicitClass (d : VecD) (cs : List Value) (w : World) (h : VecR w cs d) (hz : szVector d ≤ 1048576) :
    Calls Try.prog 53 #[.agg cs.toArray] w (RetTx (implB d) w) := by
  have HI := Lib.hid h
  obtain ⟨n, A1, c1, A2, c2, A3, c3, A4, c4, A5, c5, rfl, k0, k1, k2, l1, l2, l3, l4, l5, HV⟩ := h.open_
  clear h
  have hcl : d.cls.length ≤ 1048576 := by
    have h1 := szVector_eq d
    have h2 := szL_length d.cls
    omega
  go_enter Try.func53, Try.ntmps53
  go_wp2_with fail
  refine abs_w (fun W => Blk W w.heap.size 28 [.int .i64 d.kind, .slice A1 d.items.length c1, .slice A2 d.parts.length c2, .slice A3 d.names.length c3, .slice A4 d.cls.length c4, .slice A5 d.levels.length c5, .int .i64 d.code, .int .i64 d.env] ∧ Below w.heap.size w W) ⟨Blk.new _ _ _, below_alloc1 _ _⟩ ?_
  rintro W0 ⟨hK, hB⟩
  refine (impl_IsVector d _ W0 (HI.out.below hB) (by omega)).mono ?_
  rintro e w1 ⟨rfl, hb⟩
  have HK := Lib.hid (hK.below hb)
  have HB := Lib.hid (hB.trans (hb.mono hB.size))
  clear hb hK hB W0
  have x0 := HK.out.cell 0 _ rfl
  have x4 := HK.out.cell 4 _ rfl
  have hlw := HK.out.lt
  cases hv : vecOk d
  · have HE := Lib.hid (show implB d = [] by simp [implB, hv])
    go_wp2_with fail
    go_ret
    exact ⟨_, rfl, by rw [HE.out]; exact SlR.nil_ _ _ _, HB.out⟩
  cases p4 : decide (0 < d.cls.length)
  rotate_left
  · have HE := Lib.hid (show implB d = d.cls by simp at p4; simp [implB, hv, p4])
    clear hv
    go_wp2_with fail
    refine (impl_copyTextsM d.cls _ _ (HV.out.2.2.2.1.below HB.out) (by omega)).mono ?_
    rintro e w2 ⟨v2, rfl, ho, hb⟩
    have HO := Lib.hid ho
    have HB2 := Lib.hid (HB.out.trans (hb.mono HB.out.size))
    clear ho hb
    go_wp2_with fail
    go_ret
    exact ⟨_, rfl, by rw [HE.out]; exact Txts.of_own HO.out HV.out.2.2.2.1.small, HB2.out⟩
  have HE := Lib.hid (show implB d = [kindName d.kind] by simp at p4; simp [implB, hv, p4])
  have hk := vecOk_kind hv
  clear hv
  rcases hk with hk | hk | hk | hk | hk | hk
  all_goals
    go_wp2_with fail
    go_ret
    refine ⟨_, rfl, ?_, (HB.out.alloc HB.out.size _).alloc (by simp; have := HB.out.size; omega) _⟩
    rw [HE.out, hk]
    exact txts_lit1 _ _ _ _ (by simp) (by decide)

theorem impl_InheritsFrom (d : VecD) (s : List UInt8) (cs : List Value) (w : World) (h : VecR w cs d) (hz : szVector d ≤ 1048576) :
    Calls Try.prog 14 #[.agg cs.toArray, .string (str s)] w (RetB (hasB (implB d) s) w) := by
  have HI := Lib.hid h
  obtain ⟨n, A1, c1, A2, c2, A3, c3, A4, c4, A5, c5, rfl, k0, k1, k2, l1, l2, l3, l4, l5, HV⟩ := h.open_
  clear h
  go_enter Try.func14, Try.ntmps14
  go_wp2_with fail
  refine abs_w (fun W => Below w.heap.size w W) (below_alloc1 _ _) ?_
  rintro W0 hB
  refine (impl_ImplicitClass d _ W0 (HI.out.below hB) (by omega)).mono ?_
  rintro e w1 ⟨v1, rfl, ht, hb⟩
  have HB := Lib.hid (hB.trans (hb.mono hB.size))
  clear hb hB
  go_wp2_with (go_at_call 52; refine (impl_hasText _ s _ _ ht).mono ?_; rintro e w' ⟨rfl, rfl⟩)
  go_ret
  exact ⟨rfl, HB.out⟩
end Go.Proofs.Ytjdimlhdkmkmbaa
namespace Go.Proofs.Ytjdimlhdkmkmbaa
set_option maxRecDepth 100000
open Go.ChangeShapes Go.WideShapes Go.ChangeAt Go.RowKit Go.Deep
set_option linter.unusedVariables false

def nulV : VecD := .mk 0 [] [] [] [] [] 0 0
def padN (n : Nat) (its : List ItemD) : List (List UInt8) := (List.range n).map fun i => ((its[i]?).map ItemD.text).getD []
def msgVec : List UInt8 := [105, 110, 118, 97, 108, 105, 100, 32, 118, 101, 99, 116, 111, 114]
def msgEls : List UInt8 := [110, 111, 116, 32, 97, 32, 118, 101, 99, 116, 111, 114, 32, 111, 102, 32, 101, 108, 101, 109, 101, 110, 116, 115]
def msgNms : List UInt8 := [105, 110, 118, 97, 108, 105, 100, 32, 110, 97, 109, 101, 115]
def msgCls : List UInt8 := [105, 110, 118, 97, 108, 105, 100, 32, 99, 108, 97, 115, 115]
def nmsOk (v w : VecD) : Bool := (w.kind == 0 || w.kind == 3) && decide (w.items.length ≤ lenV v)
def elsOk (v : VecD) : Bool := !(v.kind == 0 || v.kind == 5)
def asgN (v w : VecD) : VecD × List UInt8 :=
  if vecOk v = true ∧ vecOk w = true then
    if elsOk v = true then
      if nmsOk v w = true then (setN v (tidyN (padN (lenV v) w.items)), []) else (nulV, msgNms)
    else (nulV, msgEls)
  else (nulV, msgVec)
/-- the texts of a vector of texts, if none is missing -/
def txtsOk (w : VecD) : Bool := (w.kind == 0 || w.kind == 3) && w.items.all fun x => !missing x
def txtsOf (w : VecD) : List (List UInt8) := w.items.map ItemD.text
def asgC (v w : VecD) : VecD × List UInt8 :=
  if vecOk v = true ∧ vecOk w = true then
    if txtsOk w = true ∧ vecOk (setC v (txtsOf w)) = true then (setC v (txtsOf w), []) else (nulV, msgCls)
  else (nulV, msgVec)

theorem vecOk_shape {d : VecD} (h : vecOk d = true) : shapeOk d = true := by
  unfold vecOk at h
  rw [Bool.and_eq_true] at h
  have := h.1
  rw [okN, Bool.and_eq_true] at this
  exact this.1
theorem vecOk_null {d : VecD} (h : vecOk d = true) (h0 : d.kind = 0) : d.items = [] := by
  have h1 := vecOk_shape h
  unfold shapeOk at h1
  simp only [Bool.and_eq_true] at h1
  have h2 := h1.1.2
  simp only [sG, h0] at h2
  simpa using (by simpa using h2 : d.items = [] ∧ _).1
theorem vecOk_nul : vecOk nulV = true := by decide
/-- another vector of the same elements -/
theorem vecOk_like {d e : VecD} (h : vecOk d = true) (hs : shapeOk e = true) (hp : e.parts = d.parts) (hl : lenV e = lenV d) : vecOk e = true := by
  unfold vecOk at h ⊢
  rw [Bool.and_eq_true] at h ⊢
  rw [okN, Bool.and_eq_true] at h ⊢
  refine ⟨⟨hs, hp ▸ h.1.2⟩, ?_⟩
  rw [cellsV_eq, hp, hl, ← cellsV_eq]
  exact h.2
theorem text_len {w : VecD} (hw : vecOk w = true) (hk : w.kind = 0 ∨ w.kind = 3) {x : ItemD} (hx : x ∈ w.items) : x.text.length ≤ 60 := by
  rcases hk with h0 | h3
  · rw [vecOk_null hw h0] at hx; cases hx
  have h1 := vecOk_shape hw
  unfold shapeOk at h1
  simp only [Bool.and_eq_true] at h1
  have h2 := h1.2
  obtain ⟨j, hj, rfl⟩ := List.getElem_of_mem hx
  have h4 : itemT w w.items[j] = true := by
    simp only [sH, decide_eq_true_eq] at h2
    exact h2 j hj
  simp only [itemT, Bool.and_eq_true] at h4
  have h5 := h4.1.2
  simp only [itemOk, h3] at h5
  simp [missing] at h5
  rcases h5 with h5 | h5
  · rw [h5.2]; simp
  · omega
theorem pad_len (n : Nat) (its : List ItemD) : (padN n its).length = n := by simp [padN]
theorem pad_at {n : Nat} {its : List ItemD} (j : Nat) (h : j < (padN n its).length) : (padN n its)[j] = ((its[j]?).map ItemD.text).getD [] := by simp [padN]
theorem vecOk_names {v w : VecD} (hv : vecOk v = true) (hw : vecOk w = true) (he : elsOk v = true) (hn : nmsOk v w = true) : vecOk (setN v (tidyN (padN (lenV v) w.items))) = true := by
  have hk : w.kind = 0 ∨ w.kind = 3 := by
    simp only [nmsOk, Bool.and_eq_true, Bool.or_eq_true, beq_iff_eq] at hn
    exact hn.1
  have hs := vecOk_shape hv
  refine vecOk_like hv ?_ rfl rfl
  simp only [elsOk, Bool.not_eq_true', Bool.or_eq_false_iff, beq_eq_false_iff_ne] at he
  unfold shapeOk at hs ⊢
  simp only [Bool.and_eq_true] at hs ⊢
  obtain ⟨⟨⟨⟨⟨⟨⟨a, b⟩, c⟩, d⟩, e⟩, f⟩, g⟩, h⟩ := hs
  refine ⟨⟨⟨⟨⟨⟨⟨a, ?_⟩, ?_⟩, d⟩, e⟩, ?_⟩, g⟩, h⟩
  · show ((tidyN _).isEmpty || _) = true
    unfold tidyN
    split
    · rfl
    · rename_i hne
      have : lenV (setN v (padN (lenV v) w.items)) = lenV v := rfl
      simp only [Bool.or_eq_true, Bool.and_eq_true, decide_eq_true_eq]
      right
      exact ⟨by show (padN _ _).length = lenV v; exact pad_len _ _, by show (!allE (padN _ _)) = true; simpa using hne⟩
  · have hm2 : ∀ x ∈ tidyN (padN (lenV v) w.items), x.length ≤ 60 := by
      intro x hx
      unfold tidyN at hx
      split at hx
      · cases hx
      · obtain ⟨i, hi, rfl⟩ := List.getElem_of_mem hx
        rw [pad_at]
        cases hi2 : w.items[i]? with
        | none => simp
        | some y => exact text_len hw hk (List.mem_of_getElem? hi2)
    unfold sC
    exact decide_eq_true fun j hj => hm2 _ (List.getElem_mem (l := tidyN (padN (lenV v) w.items)) hj)
  · show (v.kind != 5 || _) = true
    simp [he.2]
theorem setN_back {v : VecD} (h : v.names = []) (l : List (List UInt8)) : setN (setN v l) [] = v := by
  cases v; simp only [VecD.names] at h; subst h; rfl
theorem setC_back {v : VecD} (h : v.cls = []) (l : List (List UInt8)) : setC (setC v l) [] = v := by
  cases v; simp only [VecD.cls] at h; subst h; rfl
theorem allE_nil (n : Nat) : allE (padN n []) = true := by simp [allE, padN]
/-- the law, of names -/
theorem asgN_ok {v w : VecD} (h : (asgN v w).2 = []) : vecOk v = true ∧ vecOk (asgN v w).1 = true ∧ (v.names = [] → asgN (asgN v w).1 nulV = (v, [])) := by
  unfold asgN at h ⊢
  by_cases h1 : vecOk v = true ∧ vecOk w = true
  · rw [if_pos h1] at h ⊢
    by_cases h2 : elsOk v = true
    · rw [if_pos h2] at h ⊢
      by_cases h3 : nmsOk v w = true
      · rw [if_pos h3]
        have hv := vecOk_names h1.1 h1.2 h2 h3
        refine ⟨h1.1, hv, fun hn => ?_⟩
        rw [if_pos ⟨hv, vecOk_nul⟩, if_pos (show elsOk (setN v _) = true from h2), if_pos (by simp [nmsOk, nulV, VecD.kind, VecD.items])]
        show (setN (setN v _) (tidyN (padN _ [])), []) = (v, ([] : List UInt8))
        rw [show tidyN (padN (lenV (setN v (tidyN (padN (lenV v) w.items)))) []) = [] by rw [tidyN, if_pos (allE_nil _)], setN_back hn]
      · rw [if_neg h3] at h; simp [msgNms] at h
    · rw [if_neg h2] at h; simp [msgEls] at h
  · rw [if_neg h1] at h; simp [msgVec] at h
theorem asgN_vec (v w : VecD) : vecOk (asgN v w).1 = true := by
  unfold asgN
  split
  · rename_i h1
    split
    · rename_i h2
      split
      · rename_i h3
        exact vecOk_names h1.1 h1.2 h2 h3
      · exact vecOk_nul
    · exact vecOk_nul
  · exact vecOk_nul
theorem asgC_vec (v w : VecD) : vecOk (asgC v w).1 = true := by
  unfold asgC
  split
  · split
    · rename_i h; exact h.2
    · exact vecOk_nul
  · exact vecOk_nul
/-- the law, of classes -/
theorem asgC_ok {v w : VecD} (h : (asgC v w).2 = []) : vecOk v = true ∧ (asgC v w).1 = setC v (txtsOf w) ∧ (v.cls = [] → asgC (asgC v w).1 nulV = (v, [])) ∧ ∀ x ∈ w.items, hasB (implB (asgC v w).1) x.text = true := by
  have hvec := asgC_vec v w
  unfold asgC at h hvec ⊢
  by_cases h1 : vecOk v = true ∧ vecOk w = true
  · rw [if_pos h1] at h hvec ⊢
    by_cases h2 : txtsOk w = true ∧ vecOk (setC v (txtsOf w)) = true
    · rw [if_pos h2] at h hvec ⊢
      refine ⟨h1.1, rfl, fun hn => ?_, fun x hx => ?_⟩
      · rw [if_pos ⟨hvec, vecOk_nul⟩]
        have e : setC (setC v (txtsOf w)) (txtsOf nulV) = v := setC_back hn _
        show (if txtsOk nulV = true ∧ vecOk (setC (setC v (txtsOf w)) (txtsOf nulV)) = true then (setC (setC v (txtsOf w)) (txtsOf nulV), []) else (nulV, msgCls)) = (v, ([] : List UInt8))
        rw [e, if_pos ⟨by decide, h1.1⟩]
      · unfold implB
        rw [if_neg (by rw [hvec]; decide)]
        have hc : (setC v (txtsOf w)).cls = txtsOf w := rfl
        have hm : x.text ∈ txtsOf w := List.mem_map_of_mem hx
        rw [show ((setC v (txtsOf w)), ([] : List UInt8)).1.cls = txtsOf w from rfl, if_pos (List.length_pos_of_mem hm)]
        unfold hasB
        simpa using hm
    · rw [if_neg h2] at h; simp [msgCls] at h
  · rw [if_neg h1] at h; simp [msgVec] at h
end Go.Proofs.Ytjdimlhdkmkmbaa
namespace Go.Proofs.Ytjdimlhdkmkmbaa
set_option maxRecDepth 100000
open Go.ChangeShapes Go.WideShapes Go.ChangeAt Go.RowKit Go.Deep
set_option linter.unusedVariables false

set_option maxHeartbeats 400000 in
theorem spec_l4Strings_same (l : List (List UInt8)) (v u : Value) (w : World) (h : Txts w v l) (h' : Txts w u l) :
    Calls Try.prog 101 #[v, u] w fun e w' => e = .returned (.bool true) ∧ Below w.heap.size w w' := by
  obtain ⟨A, c, rfl, hlc, hm, HC⟩ := h.open_
  obtain ⟨A', c', rfl, hlc', hm', HC'⟩ := h'.open_
  clear h h'
  unfold maxLen at hm hm'
  go_enter Try.func101, Try.ntmps101
  go_wp2
  go_loopw [5] (fun i wr => ∃ k : Nat, k ≤ l.length ∧ i = .int .i64 k ∧ ∃ n, wr = w.drewN n) (fun i _ => l.length - (intOf i).toNat)
  case atStart => exact ⟨0, Nat.zero_le _, rfl, 0, rfl⟩
  case round =>
    obtain ⟨k, hk, rfl, n, rfl⟩ := hrel
    by_cases hlt : k < l.length
    · obtain ⟨b, off, rfl, hbl, hcell, _⟩ := HC.out k hlt
      obtain ⟨b', off', rfl, hbl', hcell', _⟩ := HC'.out k hlt
      go_wp2
      go_quiet (fail)
      go_wp2
      go_roundw
      case rel => exact ⟨k + 1, by omega, by go_num, _, rfl⟩
      case measure => simp [intOf]; omega
    · go_wp2
      go_ret
      exact ⟨rfl, below_drewN (Below.refl _ _) _⟩

def L4SameC (n : Nat) : Prop := ∀ (d : VecD) (cs cs' : List Value) (w : World), VectorR n w cs d → VectorR n w cs' d →
    Calls Try.prog 51 #[.agg cs.toArray, .agg cs'.toArray] w fun e w' => e = .returned (.bool true) ∧ Below w.heap.size w w'

set_option maxHeartbeats 4000000 in
theorem l4Same_step (n : Nat) (ih : L4SameC n) : L4SameC (n + 1) := by
  intro d cs cs' w h h'
  obtain ⟨v1, v2, v3, v4, v5, rfl, _, h1, h2, h3, h4, h5, _, _⟩ := h
  obtain ⟨u1, u2, u3, u4, u5, rfl, _, k1, k2, k3, k4, k5, _, _⟩ := h'
  obtain ⟨A1, a1, rfl, la1, ma1, HI⟩ := SlR.open_ h1
  obtain ⟨A2, a2, rfl, la2, ma2, HP⟩ := SlR.open_ h2
  obtain ⟨B1, b1, rfl, lb1, mb1, KI⟩ := SlR.open_ k1
  obtain ⟨B2, b2, rfl, lb2, mb2, KP⟩ := SlR.open_ k2
  have H3 := Lib.hid h3
  have H4 := Lib.hid h4
  have H5 := Lib.hid h5
  have K3 := Lib.hid k3
  have K4 := Lib.hid k4
  have K5 := Lib.hid k5
  clear h1 h2 h3 h4 h5 k1 k2 k3 k4 k5
  unfold maxLen at ma1 ma2 mb1 mb2
  obtain ⟨G, g0, HG, BX, BY⟩ := good2 w 28 [.int .i64 d.kind, .slice A1 d.items.length a1, .slice A2 d.parts.length a2, v3, v4, v5, .int .i64 d.code, .int .i64 d.env] 28 [.int .i64 d.kind, .slice B1 d.items.length b1, .slice B2 d.parts.length b2, u3, u4, u5, .int .i64 d.code, .int .i64 d.env]
  obtain ⟨x0, x1, x2, x3, x4, x5, x6, x7⟩ := pk_f8 BX
  obtain ⟨y0, y1, y2, y3, y4, y5, y6, y7⟩ := pk_f8 BY
  go_enter Try.func51, Try.ntmps51
  go_upto_region 1 with fail
  refine gen_w g0 ?_
  clear g0
  intro W0 g0
  go_wp2_with fail
  refine Calls.mono (spec_l4Strings_same d.names _ _ _ (H3.out.below (HG.out.below g0)) (K3.out.below (HG.out.below g0))) ?_
  rintro e w1 ⟨rfl, hb⟩
  replace g0 := HG.out.step g0 hb
  clear hb
  go_wp2_with fail
  refine Calls.mono (spec_l4Strings_same d.cls _ _ _ (H4.out.below (HG.out.below g0)) (K4.out.below (HG.out.below g0))) ?_
  rintro e w2 ⟨rfl, hb⟩
  replace g0 := HG.out.step g0 hb
  clear hb
  go_wp2_with fail
  refine Calls.mono (spec_l4Strings_same d.levels _ _ _ (H5.out.below (HG.out.below g0)) (K5.out.below (HG.out.below g0))) ?_
  rintro e w3 ⟨rfl, hb⟩
  replace g0 := HG.out.step g0 hb
  clear hb
  go_wp2_with fail
  go_loopw [5] (fun i wr => ∃ k : Nat, k ≤ d.items.length ∧ i = .int .i64 k ∧ Ok G wr) (fun i _ => d.items.length - (intOf i).toNat)
  case atStart => exact ⟨0, Nat.zero_le _, rfl, g0⟩
  case round =>
    clear g0
    obtain ⟨k, hk, rfl, g0⟩ := hrel
    by_cases hlt : k < d.items.length
    · obtain ⟨b, off, cs, rfl, hbl, _, hat, hr⟩ := HI.out k hlt
      obtain ⟨rfl, _⟩ := hr
      obtain ⟨p0, p1, p2⟩ := pk_e3 HG hbl hat
      clear hat
      obtain ⟨b', off', cs', rfl, hbl2, _, hat2, hr⟩ := KI.out k hlt
      obtain ⟨rfl, _⟩ := hr
      obtain ⟨q0, q1, q2⟩ := pk_e3 HG hbl2 hat2
      clear hat2
      go_wp2_with fail
      go_quiet (fail)
      replace g0 := HG.out.step g0 (below_drewN (Below.refl _ _) nq)
      go_wp2_with fail
      go_roundw
      case rel => exact ⟨k + 1, by omega, by go_num, g0⟩
      case measure => simp [intOf]; omega
    · obtain rfl : k = d.items.length := by omega
      clear hlt hk
      go_wp2_with fail
      go_loopw [6] (fun i wr => ∃ k : Nat, k ≤ d.parts.length ∧ i = .int .i64 k ∧ Ok G wr) (fun i _ => d.parts.length - (intOf i).toNat)
      case atStart => exact ⟨0, Nat.zero_le _, rfl, g0⟩
      case round =>
        clear g0
        obtain ⟨k, hk, rfl, g0⟩ := hrel
        by_cases hlt : k < d.parts.length
        · obtain ⟨b, off, cs, rfl, hbl, _, hat, hr⟩ := HP.out k hlt
          have HRK := Lib.hid hr
          obtain ⟨r1, r2, r3, r4, r5, rfl⟩ := hr.shape
          clear hr
          obtain ⟨p0, p1, p2, p3, p4, p5, p6, p7⟩ := pk_e8 HG hbl hat
          clear hat
          obtain ⟨b', off', cs', rfl, hbl2, _, hat2, hr⟩ := KP.out k hlt
          have HRL := Lib.hid hr
          obtain ⟨s1, s2, s3, s4, s5, rfl⟩ := hr.shape
          clear hr
          obtain ⟨q0, q1, q2, q3, q4, q5, q6, q7⟩ := pk_e8 HG hbl2 hat2
          clear hat2
          go_wp2_with fail
          go_still_tail 10, (by kernel_rfl)
          change wpList _ _ _ _ _ wr.drew
          replace g0 := HG.out.drew g0
          generalize wr.drew = w4 at g0 ⊢
          go_wp2_with fail
          refine Calls.mono (ih d.parts[k] _ _ _ (HRK.out.below (HG.out.below g0)) (HRL.out.below (HG.out.below g0))) ?_
          rintro e w5 ⟨rfl, hb⟩
          replace g0 := HG.out.step g0 hb
          clear hb
          go_wp2_with fail
          go_roundw
          case rel => exact ⟨k + 1, by omega, by go_num, g0⟩
          case measure => simp [intOf]; omega
        · obtain rfl : k = d.parts.length := by omega
          go_wp2_with fail
          go_ret
          exact ⟨rfl, HG.out.below g0⟩
theorem l4Same_all : ∀ n, L4SameC n
  | 0 => fun _ _ _ _ h => h.elim
  | n + 1 => l4Same_step n (l4Same_all n)
theorem spec_l4Same_same (d : VecD) (cs cs' : List Value) (w : World) (h : VecR w cs d) (h' : VecR w cs' d) :
    Calls Try.prog 51 #[.agg cs.toArray, .agg cs'.toArray] w fun e w' => e = .returned (.bool true) ∧ Below w.heap.size w w' := by
  obtain ⟨n, h⟩ := h
  obtain ⟨m, h'⟩ := h'
  exact l4Same_all (max n m) d cs cs' w (h.le (Nat.le_max_left _ _)) (h'.le (Nat.le_max_right _ _))

set_option maxHeartbeats 2000000 in
theorem spec_EqualVectors_same (d : VecD) (cs cs' : List Value) (w : World) (h : VecR w cs d) (h' : VecR w cs' d) (hv : vecOk d = true) (hz : szVector d ≤ 1000000000000) :
    Calls Try.prog 13 #[.agg cs.toArray, .agg cs'.toArray] w fun e w' => e = .returned (.bool true) ∧ Below w.heap.size w w' := by
  obtain ⟨v1, v2, v3, v4, v5, rfl⟩ := h.shape
  obtain ⟨u1, u2, u3, u4, u5, rfl⟩ := h'.shape
  have HR := Lib.hid h
  have HQ := Lib.hid h'
  clear h h'
  obtain ⟨G, g0, HG, BX, BY⟩ := good2 w 28 [.int .i64 d.kind, v1, v2, v3, v4, v5, .int .i64 d.code, .int .i64 d.env] 28 [.int .i64 d.kind, u1, u2, u3, u4, u5, .int .i64 d.code, .int .i64 d.env]
  obtain ⟨x0, x1, x2, x3, x4, x5, x6, x7⟩ := pk_f8 BX
  obtain ⟨y0, y1, y2, y3, y4, y5, y6, y7⟩ := pk_f8 BY
  go_enter Try.func13, Try.ntmps13
  go_upto_region 1 with fail
  refine gen_w g0 ?_
  clear g0
  intro W0 g0
  go_wp2_with fail
  refine Calls.mono (spec_IsVector d _ _ (HR.out.below (HG.out.below g0)) hz) ?_
  rw [hv]
  rintro e w1 ⟨rfl, hb⟩
  replace g0 := HG.out.step g0 hb
  clear hb
  go_wp2_with fail
  refine Calls.mono (spec_IsVector d _ _ (HQ.out.below (HG.out.below g0)) hz) ?_
  rw [hv]
  rintro e w2 ⟨rfl, hb⟩
  replace g0 := HG.out.step g0 hb
  clear hb
  go_wp2_with fail
  refine Calls.mono (spec_l4Same_same d _ _ _ (HR.out.below (HG.out.below g0)) (HQ.out.below (HG.out.below g0))) ?_
  rintro e w3 ⟨rfl, hb⟩
  replace g0 := HG.out.step g0 hb
  clear hb
  go_wp2_with fail
  go_ret
  exact ⟨rfl, HG.out.below g0⟩
end Go.Proofs.Ytjdimlhdkmkmbaa
