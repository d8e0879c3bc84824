/-
  The law FnBuiltins returns true for every list of bytes: the name that is drawn is one of 37; both sides tell alike whether it is a builtin's; a builtin's name, run as a program, shows a function, and is no null.
-/
import Derived.Test.YtkdlekonfjeidaaGreatRows
import Derived.Test.YtkdlekonfjeidaaGreatJoin
import Derived.Test.YtkdlekonfjeidaaGreatDrawB
import Derived.Test.YtkdlekonfjeidaaGreatJoin
import Derived.Test.YtkdlekonfjeidaaGreatShowsFnBuiltins0
import Derived.Test.YtkdlekonfjeidaaGreatShowsFnBuiltins1
import Derived.Test.YtkdlekonfjeidaaGreatShowsFnBuiltins2
namespace Go.Proofs.YtkdlekonfjeidaaGreat
set_option maxRecDepth 100000
open Go.ChangeShapes Go.WideShapes Go.ChangeAt Go.RowKit Go.Deep
open Go.Proofs.YtkdlekonfjeidaaGreat.Eng (CallOk RR Hp isT isStr str_to shows_to hOne CV)
set_option linter.unusedVariables false

namespace fnBuiltins
/-- a name as it stands in a program -/
def fm (s : List UInt8) : List UInt8 := cond (s.any (· == 60)) (96 :: s ++ [96]) s
def fB (s : List UInt8) : List UInt8 := [102, 32, 60, 45, 32] ++ fm s ++ [10, 105, 115, 46, 110, 117, 108, 108, 40, 102, 41]
def toN (l : List UInt8) : List Nat := l.map UInt8.toNat
theorem fm_short : ∀ s ∈ drawn, (fm s).length ≤ 100 := by decide
theorem toN_str (l : List UInt8) : (str l).data.toList.map UInt8.toNat = toN l := by simp [str, toN]
theorem toN_inj {a b : List UInt8} (h : toN a = toN b) : a = b := List.map_inj_right (fun x y e => UInt8.toNat_inj.1 e) |>.1 h
theorem of_toN {v : ByteArray} {l : List UInt8} (h : v.data.toList.map UInt8.toNat = toN l) : v = str l := by
  have h1 : v.data.toList = l := toN_inj h
  apply ByteArray.ext
  rw [← h1]
  simp [str]
/-- each builtin's two programs -/
theorem shown (s : List UInt8) (hs : s ∈ biNames) : isT ((RR Tryz.prog 3000).fn 10 [.str (toN (fm s)), .sl 1 0 1 1] (hOne [60, 102, 117, 110, 99, 116, 105, 111, 110, 62])) = true ∧ isT ((RR Tryz.prog 3000).fn 10 [.str (toN (fB s)), .sl 1 0 1 1] (hOne [70, 65, 76, 83, 69])) = true := by
  simp only [biNames, List.mem_cons, List.not_mem_nil, or_false] at hs
  rcases hs with rfl | rfl | rfl | rfl | rfl | rfl | rfl | rfl | rfl | rfl | rfl | rfl | rfl | rfl | rfl | rfl | rfl | rfl | rfl | rfl | rfl | rfl | rfl | rfl | rfl | rfl | rfl | rfl | rfl | rfl | rfl | rfl | rfl | rfl
  · exact ⟨sh0, sh1⟩
  · exact ⟨sh2, sh3⟩
  · exact ⟨sh4, sh5⟩
  · exact ⟨sh6, sh7⟩
  · exact ⟨sh8, sh9⟩
  · exact ⟨sh10, sh11⟩
  · exact ⟨sh12, sh13⟩
  · exact ⟨sh14, sh15⟩
  · exact ⟨sh16, sh17⟩
  · exact ⟨sh18, sh19⟩
  · exact ⟨sh20, sh21⟩
  · exact ⟨sh22, sh23⟩
  · exact ⟨sh24, sh25⟩
  · exact ⟨sh26, sh27⟩
  · exact ⟨sh28, sh29⟩
  · exact ⟨sh30, sh31⟩
  · exact ⟨sh32, sh33⟩
  · exact ⟨sh34, sh35⟩
  · exact ⟨sh36, sh37⟩
  · exact ⟨sh38, sh39⟩
  · exact ⟨sh40, sh41⟩
  · exact ⟨sh42, sh43⟩
  · exact ⟨sh44, sh45⟩
  · exact ⟨sh46, sh47⟩
  · exact ⟨sh48, sh49⟩
  · exact ⟨sh50, sh51⟩
  · exact ⟨sh52, sh53⟩
  · exact ⟨sh54, sh55⟩
  · exact ⟨sh56, sh57⟩
  · exact ⟨sh58, sh59⟩
  · exact ⟨sh60, sh61⟩
  · exact ⟨sh62, sh63⟩
  · exact ⟨sh64, sh65⟩
  · exact ⟨sh66, sh67⟩
theorem shows_A (s : List UInt8) (hs : s ∈ biNames) (w : World) (b t : Nat) (hb : w.heap[b]? = some (.cells #[.string (str [60, 102, 117, 110, 99, 116, 105, 111, 110, 62])] t (0, 0))) :
    Calls Tryz.prog 10 #[.string (str (fm s)), .slice (some ⟨b, 0, none⟩) 1 1] w fun e w' => e = .returned (.bool true) ∧ Below b w w' :=
  shows_to (sound 3000) (shown s hs).1 _ _ w b t (toN_str _) (by rw [toN_str]; rfl) hb
theorem shows_B (s : List UInt8) (hs : s ∈ biNames) (w : World) (b t : Nat) (hb : w.heap[b]? = some (.cells #[.string (str [70, 65, 76, 83, 69])] t (0, 0))) :
    Calls Tryz.prog 10 #[.string (str (fB s)), .slice (some ⟨b, 0, none⟩) 1 1] w fun e w' => e = .returned (.bool true) ∧ Below b w w' :=
  shows_to (sound 3000) (shown s hs).2 _ _ w b t (toN_str _) (by rw [toN_str]; rfl) hb
theorem shows_B' (s l : List UInt8) (hl : l = fB s) (hs : s ∈ biNames) (w : World) (b t : Nat) (hb : w.heap[b]? = some (.cells #[.string (str [70, 65, 76, 83, 69])] t (0, 0))) :
    Calls Tryz.prog 10 #[.string (str l), .slice (some ⟨b, 0, none⟩) 1 1] w fun e w' => e = .returned (.bool true) ∧ Below b w w' := by
  subst hl
  exact shows_B s hs w b t hb
/-- names are written -/
theorem form (s : List UInt8) (hs : s ∈ drawn) : isStr (toN (fm s)) ((RR Tryz.prog 3000).fn 9 [.str (toN s)] Hp.empty) = true := by
  simp only [drawn, biNames, List.cons_append, List.nil_append, List.mem_cons, List.not_mem_nil, or_false] at hs
  rcases hs with rfl | rfl | rfl | rfl | rfl | rfl | rfl | rfl | rfl | rfl | rfl | rfl | rfl | rfl | rfl | rfl | rfl | rfl | rfl | rfl | rfl | rfl | rfl | rfl | rfl | rfl | rfl | rfl | rfl | rfl | rfl | rfl | rfl | rfl | rfl | rfl | rfl <;> kernel_rfl
theorem spec_FormatName (s : List UInt8) (hs : s ∈ drawn) (w : World) :
    Calls Tryz.prog 9 #[.string (str s)] w fun e w' => e = .returned (.string (str (fm s))) ∧ Below w.heap.size w w' := by
  refine Calls.mono (str_to (sound 3000) (form s hs) _ w (toN_str s)) ?_
  rintro e w' ⟨hb, v, rfl, hv⟩
  rw [of_toN hv]
  exact ⟨rfl, hb⟩

theorem laws_big (v : Value) (l : List Nat) (w : World) (h : Bytes w v l) :
    Calls Tryz.prog 5 #[v] w fun e w' => e = .returned (.bool (decide (1048576 < l.length))) ∧ w = w' := by
  obtain ⟨A, c, rfl, hlc, hm, HC⟩ := SlR.open_ h
  clear h HC
  unfold maxLen at hm
  go_enter Tryz.func5, Tryz.ntmps5
  go_wp2_with fail
  go_ret
  exact ⟨ret_bool (by rw [decide_eq_decide]; omega), rfl⟩

set_option maxHeartbeats 2000000 in
theorem walk (v : Value) (l : List Nat) {w : World} (h : Bytes w v l) :
    Calls Tryz.prog 3 #[v] w fun e w' => e = .returned (.bool true) ∧ Below w.heap.size w w' := by
  have HH := Lib.hid h
  clear h
  by_cases hl : l.length ≤ 1048576
  rotate_left
  · go_enter Tryz.func3, Tryz.ntmps3
    go_wp2_with fail
    refine (laws_big v l _ HH.out).mono ?_
    rw [show decide (1048576 < l.length) = true by simp; omega]
    rintro e w1 ⟨rfl, rfl⟩
    go_wp2_with fail
    go_ret
    exact ⟨rfl, Below.refl _ _⟩
  go_enter Tryz.func3, Tryz.ntmps3
  go_wp2_with fail
  refine (laws_big v l _ HH.out).mono ?_
  rw [show decide (1048576 < l.length) = false by simp; omega]
  rintro e w1 ⟨rfl, rfl⟩
  go_wp2_with fail
  refine (spec_DrawIsBuiltin v l _ HH.out hl).mono ?_
  rintro e w1 ⟨s, rfl, hs, hb⟩
  have HB := Lib.hid hb
  clear hb
  go_wp2_with fail
  refine (impl_IsBuiltin s _).mono ?_
  rintro e w2 ⟨rfl, hb⟩
  replace HB := Lib.hid (HB.out.trans (hb.mono HB.out.size))
  clear hb
  go_wp2_with fail
  refine (spec_IsBuiltin s _).mono ?_
  rintro e w3 ⟨rfl, hb⟩
  replace HB := Lib.hid (HB.out.trans (hb.mono HB.out.size))
  clear hb
  go_wp2_with fail
  refine (spec_FormatName s hs _).mono ?_
  rintro e w4 ⟨rfl, hb⟩
  replace HB := Lib.hid (HB.out.trans (hb.mono HB.out.size))
  clear hb
  have hf2 : (fm s).isEmpty = (decide (s = [])) := by
    unfold fm
    cases hc : s.any (· == 60)
    · cases s <;> simp
    · cases s with
      | nil => simp at hc
      | cons a l => simp
  cases hB : hasB biNames s
  · have HBB := Lib.hid hB
    clear hB hf2
    go_wp2_with fail
    go_ret
    exact ⟨rfl, HB.out⟩
  have hmem : s ∈ biNames := by
    unfold hasB at hB
    simpa using hB
  have HM := Lib.hid hmem
  have hne : (fm s).isEmpty = false := by
    rw [hf2]
    exact decide_eq_false (fun h => by subst h; revert hmem; decide)
  have hne' : fm s ≠ [] := fun h => by rw [h] at hne; cases hne
  have hfl : (fm s).length ≤ 100 := fm_short s hs
  clear hB hf2 hmem
  go_wp2_with fail
  refine (shows_A s HM.out _ _ _ (heap_alloc_new _ _)).mono ?_
  rintro e w5 ⟨rfl, hb⟩
  replace HB := Lib.hid (HB.out.trans ((((Below.refl _ _).alloc (Nat.le_refl _) _).trans hb).mono HB.out.size))
  clear hb
  go_wp2_with fail
  refine (shows_B' s (102 :: 32 :: 60 :: 45 :: 32 :: (fm s ++ [10, 105, 115, 46, 110, 117, 108, 108, 40, 102, 41])) (by simp [fB]) HM.out _ _ _ (heap_alloc_new _ _)).mono ?_
  rintro e w6 ⟨rfl, hb⟩
  replace HB := Lib.hid (HB.out.trans ((((Below.refl _ _).alloc (Nat.le_refl _) _).trans hb).mono HB.out.size))
  clear hb
  go_wp2_with fail
  go_ret
  exact ⟨rfl, HB.out⟩
set_option maxRecDepth 100000 in
theorem lifted (os : Os) (started : os.Started) (H : Type) (enc : TypeId × Value → H) :
    ReturnsInHanded {} Tryz.checked os 3 .any (Rows.fnBuiltinsSpec.pre6 enc Tryz.prog Tryz.f3 Rows.fnBuiltinsRow.domain false) (Rows.fnBuiltinsSpec.post enc Tryz.prog Tryz.f3 false true false false) := by
  refine returnsInHanded_of_change (C := Tryz.checked) own started (by kernel_rfl) Tryz.func3
    (ChangeSpec.witness6 (enc := enc) (C := Tryz.checked) false ⟨#[], #[.slice none 0 0], []⟩ 8 (by kernel_rfl) (by kernel_rfl) (by kernel_rfl) (by kernel_rfl)) ?_
  intro W base args ds gs before hval0 hW hcnd _
  have hval : ∀ (j : Nat) t v, Tryz.f3.params[j]? = some t → args[j]? = some v → Value.okWide Tryz.prog W .any base t v := hval0
  have hW' := hW
  obtain ⟨p, q, hA0, hV, rfl, hfz, hnd⟩ := hW
  have hA : DataW.TrodAll enc Tryz.prog W 0 (fun _ => true) true Tryz.f3.params.toList args.toList ds p := hA0
  rw [Tryz.params3] at hA hval
  obtain ⟨v0, vs0, d0, ds0, p0, q0, hargs, rfl, rfl, h0, r0⟩ := trodAll_cons hA
  obtain ⟨rfl, rfl, rfl⟩ := trodAll_nil r0
  obtain rfl : args = #[v0] := by cases args; simp_all
  obtain ⟨rfl, rfl⟩ := trodVars_none hV
  obtain ⟨x0, u0⟩ := open_bytes Tryz.underlying22 Tryz.underlying5 (by kernel_rfl) (hval 0 22 v0 rfl rfl) h0
  clear hA0 hval0
  refine (walk v0 x0 u0).mono fun e W' ⟨he, hg⟩ => ?_
  subst he
  exact ⟨_, rfl, law_post laidOut hW' rfl rfl Tryz.underlying4 rfl rfl rfl (by intro t ht; rw [Tryz.params3] at ht; have ht2 : t ∈ [22] := ht; simp only [List.mem_cons, List.not_mem_nil, or_false] at ht2; rcases ht2 with rfl <;> exact ⟨by kernel_rfl, of_decide_eq_true (by kernel_rfl)⟩) hg⟩

theorem fact0 : jf0 Tryz.prog 3 Tryz.f3 Rows.fnBuiltinsSpec Rows.fnBuiltinsRow = true := by kernel_rfl
theorem fact1 : jf1 Tryz.prog 3 Tryz.f3 Rows.fnBuiltinsSpec Rows.fnBuiltinsRow = true := by kernel_rfl
theorem fact2 : jf2 Tryz.prog 3 Tryz.f3 Rows.fnBuiltinsSpec Rows.fnBuiltinsRow = true := by kernel_rfl
theorem fact3 : jf3 Tryz.prog 3 Tryz.f3 Rows.fnBuiltinsSpec Rows.fnBuiltinsRow = true := by kernel_rfl
theorem fact4 : jf4 Tryz.prog 3 Tryz.f3 Rows.fnBuiltinsSpec Rows.fnBuiltinsRow = true := by kernel_rfl
theorem fact5 : jf5 Tryz.prog 3 Tryz.f3 Rows.fnBuiltinsSpec Rows.fnBuiltinsRow = true := by kernel_rfl
theorem fact6 : jf6 Tryz.prog 3 Tryz.f3 Rows.fnBuiltinsSpec Rows.fnBuiltinsRow = true := by kernel_rfl
theorem fact7 : jf7 Tryz.prog 3 Tryz.f3 Rows.fnBuiltinsSpec Rows.fnBuiltinsRow = true := by kernel_rfl
theorem fact8 : jf8 Tryz.prog 3 Tryz.f3 Rows.fnBuiltinsSpec Rows.fnBuiltinsRow = true := by kernel_rfl
theorem fact9 : jf9 Tryz.prog 3 Tryz.f3 Rows.fnBuiltinsSpec Rows.fnBuiltinsRow = true := by kernel_rfl
theorem fact10 : jf10 Tryz.prog 3 Tryz.f3 Rows.fnBuiltinsSpec Rows.fnBuiltinsRow = true := by kernel_rfl
theorem fact11 : jf11 Tryz.prog 3 Tryz.f3 Rows.fnBuiltinsSpec Rows.fnBuiltinsRow = true := by kernel_rfl
theorem fact12 : jf12 Tryz.prog 3 Tryz.f3 Rows.fnBuiltinsSpec Rows.fnBuiltinsRow = true := by kernel_rfl
theorem fact13 : jf13 Tryz.prog 3 Tryz.f3 Rows.fnBuiltinsSpec Rows.fnBuiltinsRow = true := by kernel_rfl
theorem fact14 : jf14 Tryz.prog 3 Tryz.f3 Rows.fnBuiltinsSpec Rows.fnBuiltinsRow = true := by kernel_rfl
theorem fact15 : jf15 Tryz.prog 3 Tryz.f3 Rows.fnBuiltinsSpec Rows.fnBuiltinsRow = true := by kernel_rfl
theorem fact16 : jf16 Tryz.prog 3 Tryz.f3 Rows.fnBuiltinsSpec Rows.fnBuiltinsRow = true := by kernel_rfl
theorem fact17 : jf17 Tryz.prog 3 Tryz.f3 Rows.fnBuiltinsSpec Rows.fnBuiltinsRow = true := by kernel_rfl
theorem fact18 : jf18 Tryz.prog 3 Tryz.f3 Rows.fnBuiltinsSpec Rows.fnBuiltinsRow = true := by kernel_rfl
theorem fact19 : jf19 Tryz.prog 3 Tryz.f3 Rows.fnBuiltinsSpec Rows.fnBuiltinsRow = true := by kernel_rfl
theorem fact20 : jf20 Tryz.prog 3 Tryz.f3 Rows.fnBuiltinsSpec Rows.fnBuiltinsRow = true := by kernel_rfl
theorem fact21 : jf21 Tryz.prog 3 Tryz.f3 Rows.fnBuiltinsSpec Rows.fnBuiltinsRow = true := by kernel_rfl
theorem fact22 : jf22 Tryz.prog 3 Tryz.f3 Rows.fnBuiltinsSpec Rows.fnBuiltinsRow = true := by kernel_rfl
theorem fact23 : jf23 Tryz.prog 3 Tryz.f3 Rows.fnBuiltinsSpec Rows.fnBuiltinsRow = true := by kernel_rfl
theorem fact24 : jf24 Tryz.prog 3 Tryz.f3 Rows.fnBuiltinsSpec Rows.fnBuiltinsRow = true := by kernel_rfl
theorem fact25 : jf25 Tryz.prog 3 Tryz.f3 Rows.fnBuiltinsSpec Rows.fnBuiltinsRow = true := by kernel_rfl
theorem fact26 : jf26 Tryz.prog 3 Tryz.f3 Rows.fnBuiltinsSpec Rows.fnBuiltinsRow = true := by kernel_rfl
theorem fact27 : jf27 Tryz.prog 3 Tryz.f3 Rows.fnBuiltinsSpec Rows.fnBuiltinsRow = true := by kernel_rfl
theorem fact28 : jf28 Tryz.prog 3 Tryz.f3 Rows.fnBuiltinsSpec Rows.fnBuiltinsRow = true := by kernel_rfl
theorem fact29 : jf29 Tryz.prog 3 Tryz.f3 Rows.fnBuiltinsSpec Rows.fnBuiltinsRow = true := by kernel_rfl
theorem fact30 : jf30 Tryz.prog 3 Tryz.f3 Rows.fnBuiltinsSpec Rows.fnBuiltinsRow = true := by kernel_rfl
theorem fact31 : jf31 Tryz.prog 3 Tryz.f3 Rows.fnBuiltinsSpec Rows.fnBuiltinsRow = true := by kernel_rfl
theorem over : Rows.fnBuiltinsRow.holds Tryz.pinned (OpenSpec.ofChange Rows.fnBuiltinsSpec) :=
  OpenClaim.holds_of_wide 3 Tryz.f3 rfl rfl rfl rfl rfl rfl rfl ⟨rfl, rfl, rfl, rfl, rfl⟩ rfl rfl rfl rfl rfl (by kernel_rfl) Tryz.func3 (joined fact0 fact1 fact2 fact3 fact4 fact5 fact6 fact7 fact8 fact9 fact10 fact11 fact12 fact13 fact14 fact15 fact16 fact17 fact18 fact19 fact20 fact21 fact22 fact23 fact24 fact25 fact26 fact27 fact28 fact29 fact30 fact31)
    (of_decide_eq_true (by kernel_rfl)) (by unfold Func.isWrapper; first | (rw [if_pos (by decide +kernel)]; kernel_rfl) | (rw [if_neg (by decide +kernel)]; exact ⟨rfl, rfl⟩))
    (fun os started H enc _ => lifted os started H enc)

/-- THE STATEMENT -/
theorem proved : Rows.FnBuiltinsSaid :=
  over
#print axioms proved
end fnBuiltins
end Go.Proofs.YtkdlekonfjeidaaGreat
