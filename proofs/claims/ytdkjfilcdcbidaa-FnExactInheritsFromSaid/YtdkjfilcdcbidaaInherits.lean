/-
  Contracts: ImplicitClass and InheritsFrom, of the program and of the reference.
-/
import Derived.Test.YtdkjfilcdcbidaaVecOk5
import Derived.Test.YtdkjfilcdcbidaaMethods
namespace Go.Proofs.Ytdkjfilcdcbidaa
set_option maxRecDepth 100000
open Go.ChangeShapes Go.WideShapes Go.ChangeAt Go.RowKit Go.Deep

def kindName (k : Int) : List UInt8 :=
  if k = 0 then [78, 85, 76, 76] else if k = 1 then [108, 111, 103, 105, 99, 97, 108] else if k = 2 then [110, 117, 109, 101, 114, 105, 99] else if k = 3 then [99, 104, 97, 114, 97, 99, 116, 101, 114]
  else if k = 4 then [108, 105, 115, 116] else [102, 117, 110, 99, 116, 105, 111, 110]
def implB (d : VecD) : List (List UInt8) := if vecOk d = false then [] else if 0 < d.cls.length then d.cls else [kindName d.kind]
def RetTx (l : List (List UInt8)) (w : World) (e : Ending) (w' : World) : Prop := ∃ v', e = .returned v' ∧ Txts w' v' l ∧ Below w.heap.size w w'

theorem vecOk_kind {d : VecD} (h : vecOk d = true) : d.kind = 0 ∨ d.kind = 1 ∨ d.kind = 2 ∨ d.kind = 3 ∨ d.kind = 4 ∨ d.kind = 5 := by
  have h1 : shapeOk d = true := by
    unfold vecOk at h
    rw [Bool.and_eq_true] at h
    have := h.1
    rw [okN, Bool.and_eq_true] at this
    exact this.1
  have h2 : sA d = true := by
    unfold shapeOk at h1
    simp only [Bool.and_eq_true] at h1
    exact h1.1.1.1.1.1.1.1
  simp [sA] at h2
  omega

theorem SlR.empty_ {α : Type} (w : World) (size : Nat) (R : List Value → α → Prop) (A : Option Addr) (n cap : Nat) (hn : n = 0) (hc : cap ≤ maxLen) : SlR w size R (.slice A n cap) [] := by
  subst hn
  exact ⟨A, cap, rfl, Nat.zero_le _, hc, fun h => absurd h (by simp)⟩
theorem txts_lit1 (w : World) (e : TypeId) (s : List UInt8) (g : Nat) (hg : g = w.heap.size) (hs : s.length ≤ 100) : Txts (w.alloc (.cells #[.string (str s)] e)) (.slice (some ⟨g, 0, none⟩) 1 1) [s] := by
  subst hg
  exact txts_new w e [s] _ rfl (by unfold maxLen; simp) (fun x hx => by simp at hx; subst hx; unfold maxLen; omega)

set_option maxHeartbeats 1000000 in
theorem impl_ImplicitClass (d : VecD) (cs : List Value) (w : World) (h : VecR w cs d) (hz : szVector d ≤ 1048576) :
    Calls Try.prog 26 #[.agg cs.toArray] w (RetTx (implB d) w) := by
  have HI := Lib.hid h
  obtain ⟨n, A1, c1, A2, c2, A3, c3, A4, c4, A5, c5, rfl, k0, k1, k2, l1, l2, l3, l4, l5, HV⟩ := h.open_
  clear h
  have hcl : d.cls.length ≤ 1048576 := by
    have h1 := szVector_eq d
    have h2 := szL_length d.cls
    omega
  go_enter Try.func26, Try.ntmps26
  go_wp2_with fail
  refine abs_w (fun W => Blk W w.heap.size 32 [.int .i64 d.kind, .slice A1 d.items.length c1, .slice A2 d.parts.length c2, .slice A3 d.names.length c3, .slice A4 d.cls.length c4, .slice A5 d.levels.length c5, .int .i64 d.code, .int .i64 d.env] ∧ Below w.heap.size w W) ⟨Blk.new _ _ _, below_alloc1 _ _⟩ ?_
  rintro W0 ⟨hK, hB⟩
  refine (impl_IsVector d _ W0 (HI.out.below hB) (by omega)).mono ?_
  rintro e w1 ⟨rfl, hb⟩
  have HK := Lib.hid (hK.below hb)
  have HB := Lib.hid (hB.trans (hb.mono hB.size))
  clear hb hK hB W0
  have x0 := HK.out.cell 0 _ rfl
  have x4 := HK.out.cell 4 _ rfl
  have hlw := HK.out.lt
  cases hv : vecOk d
  · have HE := Lib.hid (show implB d = [] by simp [implB, hv])
    go_wp2_with fail
    go_ret
    exact ⟨_, rfl, by rw [HE.out]; exact SlR.nil_ _ _ _, HB.out⟩
  cases p4 : decide (0 < d.cls.length)
  rotate_left
  · have HE := Lib.hid (show implB d = d.cls by simp at p4; simp [implB, hv, p4])
    clear hv
    go_wp2_with fail
    refine (impl_copyTexts d.cls _ _ (HV.out.2.2.2.1.below HB.out) (by omega)).mono ?_
    rintro e w2 ⟨v2, rfl, ho, hb⟩
    have HO := Lib.hid ho
    have HB2 := Lib.hid (HB.out.trans (hb.mono HB.out.size))
    clear ho hb
    go_wp2_with fail
    go_ret
    exact ⟨_, rfl, by rw [HE.out]; exact Txts.of_own HO.out HV.out.2.2.2.1.small, HB2.out⟩
  have HE := Lib.hid (show implB d = [kindName d.kind] by simp at p4; simp [implB, hv, p4])
  have hk := vecOk_kind hv
  clear hv
  rcases hk with hk | hk | hk | hk | hk | hk
  all_goals
    go_wp2_with fail
    go_ret
    refine ⟨_, rfl, ?_, (HB.out.alloc HB.out.size _).alloc (by simp; have := HB.out.size; omega) _⟩
    rw [HE.out, hk]
    exact txts_lit1 _ _ _ _ (by simp) (by decide)

set_option maxHeartbeats 1000000 in
theorem spec_ImplicitClass (d : VecD) (cs : List Value) (w : World) (h : VecR w cs d) (hz : szVector d ≤ 1048576) :
    Calls Try.prog 21 #[.agg cs.toArray] w (RetTx (implB d) w) := by
  have HI := Lib.hid h
  obtain ⟨n, A1, c1, A2, c2, A3, c3, A4, c4, A5, c5, rfl, k0, k1, k2, l1, l2, l3, l4, l5, HV⟩ := h.open_
  clear h
  have hcl : d.cls.length ≤ 1048576 := by
    have h1 := szVector_eq d
    have h2 := szL_length d.cls
    omega
  go_enter Try.func21, Try.ntmps21
  go_wp2_with fail
  refine abs_w (fun W => Blk W w.heap.size 32 [.int .i64 d.kind, .slice A1 d.items.length c1, .slice A2 d.parts.length c2, .slice A3 d.names.length c3, .slice A4 d.cls.length c4, .slice A5 d.levels.length c5, .int .i64 d.code, .int .i64 d.env] ∧ Below w.heap.size w W) ⟨Blk.new _ _ _, below_alloc1 _ _⟩ ?_
  rintro W0 ⟨hK, hB⟩
  refine (spec_IsVector d _ W0 (HI.out.below hB) (by omega)).mono ?_
  rintro e w1 ⟨rfl, hb⟩
  have HK := Lib.hid (hK.below hb)
  have HB := Lib.hid (hB.trans (hb.mono hB.size))
  clear hb hK hB W0
  have x0 := HK.out.cell 0 _ rfl
  have x4 := HK.out.cell 4 _ rfl
  have hlw := HK.out.lt
  cases hv : vecOk d
  · have HE := Lib.hid (show implB d = [] by simp [implB, hv])
    go_wp2_with fail
    go_ret
    exact ⟨_, rfl, by rw [HE.out]; exact SlR.empty_ _ _ _ _ _ _ rfl (by unfold maxLen; omega), HB.out.alloc HB.out.size _⟩
  cases p4 : decide (0 < d.cls.length)
  rotate_left
  · have HE := Lib.hid (show implB d = d.cls by simp at p4; simp [implB, hv, p4])
    clear hv
    have HB0 := Lib.hid (below_alloc1 w1 (.cells #[] 9))
    have hsrc := Lib.hid (Txts.src (HV.out.2.2.2.1.below HB.out)).2
    go_wp2_with (at_builtin; go_must (refine wpList_cat rfl _ _ 24 rfl w1.heap.size 9 (.string ByteArray.empty) 1 16 Try.underlying24 info_str rfl (by decide) _ _ 0 [] rfl (by exact owns_new w1 _ 1 0 _ 0 [] rfl (Nat.le_refl _) (by unfold maxLen; omega) rfl rfl) A4 d.cls.length c4 _ rfl (by exact hsrc.out.below (by decide) HB0.out) (by omega) (by omega) (by simp) ?_); intro v2 w2 ho2 _ _ hb2)
    go_ret
    simp only [Nat.zero_add, List.nil_append] at ho2
    exact ⟨_, rfl, by rw [HE.out]; exact Txts.of_own ho2 HV.out.2.2.2.1.small, (HB.out.trans (HB0.out.mono HB.out.size)).trans (hb2.mono HB.out.size)⟩
  have HE := Lib.hid (show implB d = [kindName d.kind] by simp at p4; simp [implB, hv, p4])
  have hk := vecOk_kind hv
  clear hv
  rcases hk with hk | hk | hk | hk | hk | hk
  all_goals
    go_wp2_with fail
    go_ret
    refine ⟨_, rfl, ?_, (HB.out.alloc HB.out.size _).alloc (by simp; have := HB.out.size; omega) _⟩
    rw [HE.out, hk]
    exact txts_lit1 _ _ _ _ (by simp) (by decide)

theorem impl_InheritsFrom (d : VecD) (s : List UInt8) (cs : List Value) (w : World) (h : VecR w cs d) (hz : szVector d ≤ 1048576) :
    Calls Try.prog 9 #[.agg cs.toArray, .string (str s)] w (RetB (hasB (implB d) s) w) := by
  have HI := Lib.hid h
  obtain ⟨n, A1, c1, A2, c2, A3, c3, A4, c4, A5, c5, rfl, k0, k1, k2, l1, l2, l3, l4, l5, HV⟩ := h.open_
  clear h
  go_enter Try.func9, Try.ntmps9
  go_wp2_with fail
  refine abs_w (fun W => Below w.heap.size w W) (below_alloc1 _ _) ?_
  rintro W0 hB
  refine (impl_ImplicitClass d _ W0 (HI.out.below hB) (by omega)).mono ?_
  rintro e w1 ⟨v1, rfl, ht, hb⟩
  have HB := Lib.hid (hB.trans (hb.mono hB.size))
  clear hb hB
  go_wp2_with (go_at_call 25; refine (impl_hasText _ s _ _ ht).mono ?_; rintro e w' ⟨rfl, rfl⟩)
  go_ret
  exact ⟨rfl, HB.out⟩
theorem spec_InheritsFrom (d : VecD) (s : List UInt8) (cs : List Value) (w : World) (h : VecR w cs d) (hz : szVector d ≤ 1048576) :
    Calls Try.prog 7 #[.agg cs.toArray, .string (str s)] w (RetB (hasB (implB d) s) w) := by
  have HI := Lib.hid h
  obtain ⟨n, A1, c1, A2, c2, A3, c3, A4, c4, A5, c5, rfl, k0, k1, k2, l1, l2, l3, l4, l5, HV⟩ := h.open_
  clear h
  go_enter Try.func7, Try.ntmps7
  go_wp2_with fail
  refine abs_w (fun W => Below w.heap.size w W) (below_alloc1 _ _) ?_
  rintro W0 hB
  refine (spec_ImplicitClass d _ W0 (HI.out.below hB) (by omega)).mono ?_
  rintro e w1 ⟨v1, rfl, ht, hb⟩
  have HB := Lib.hid (hB.trans (hb.mono hB.size))
  clear hb hB
  go_wp2_with (go_at_call 20; refine (spec_l1Has _ s _ _ ht).mono ?_; rintro e w' ⟨rfl, rfl⟩)
  go_ret
  exact ⟨rfl, HB.out⟩
end Go.Proofs.Ytdkjfilcdcbidaa
