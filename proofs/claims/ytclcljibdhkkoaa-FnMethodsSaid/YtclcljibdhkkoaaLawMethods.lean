/-
  The law FnMethods returns true for every list of bytes: what is drawn out of them is a generic function's name, a list of classes and a method's name; for all such, the two lists agree as the law says.
-/
import Derived.Test.YtclcljibdhkkoaaNext
import Derived.Test.YtclcljibdhkkoaaSame
import Derived.Test.YtclcljibdhkkoaaDraw
import Derived.Test.YtclcljibdhkkoaaOpen
namespace Go.Proofs.Ytclcljibdhkkoaa
open Go.ChangeShapes Go.WideShapes Go.ChangeAt Go.RowKit Go.Deep
open Go.ChangeMaps (open_string shut_string)
set_option linter.unusedVariables false

theorem Cur.below {w w' : World} {g : Nat} {v : Value} {l : List Nat} (h : Cur w g v l) (hb : Below w.heap.size w w') : Cur w' g v l := by
  obtain ⟨i, k, h1, h2, h3, h4⟩ := h
  exact ⟨i, k, h1.below hb, h2, h3, SlR.below h4 hb (fun _ _ h => h)⟩
theorem Cur.lt {w : World} {g : Nat} {v : Value} {l : List Nat} (h : Cur w g v l) : g < w.heap.size := by
  obtain ⟨i, k, h1, _⟩ := h
  exact h1.lt
theorem Only.alloc {g : Nat} {a w : World} (h : Only g a w) (o : Obj) : Only g a (w.alloc o) := h.trans (Only.of_below ((Below.refl _ _).alloc (Nat.le_refl _) o))
theorem own_only {g : Nat} {w w' : World} {base : Nat} {e : TypeId} {size n : Nat} {v : Value} {xs : List Value} (h : w.ownsRow base e size v n xs) (ho : Only g w w') (hg : g < base) : w'.ownsRow base e size v n xs := by
  refine h.kept ho ?_
  cases hv : v.ownBlock with
  | none => exact .inl rfl
  | some k =>
    right
    intro he
    have := (h.lt k hv).1
    injection he with he
    omega
theorem own_apart_g {g : Nat} {w : World} {base : Nat} {e : TypeId} {size n : Nat} {v : Value} {xs : List Value} (h : w.ownsRow base e size v n xs) (hg : g < base) : Apart n g v := by
  intro _ a m c hv
  have := (h.lt a.block (by rw [hv]; rfl)).1
  omega

def cls0 : List (List UInt8) := [[115, 113, 117, 97, 114, 101], [115, 104, 97, 112, 101], [100, 101, 102, 97, 117, 108, 116], [110, 117, 109, 101, 114, 105, 99]]

def RetCls (g : Nat) (v : Value) (l : List Nat) (w : World) (e : Ending) (w' : World) : Prop :=
  ∃ (u : Value) (cls : List (List UInt8)), e = .returned u ∧ w'.ownsRow w.heap.size 9 1 u cls.length (cls.map fun s => Value.string (str s)) ∧ cls.length ≤ 4 ∧ (∀ s ∈ cls, s.length ≤ 10) ∧ Cur w' g v l ∧ Only g w w'

set_option maxHeartbeats 1000000 in
theorem spec_l29Classes (g : Nat) (v : Value) (l : List Nat) (w : World) (hC : Cur w g v l) (ha : Apart l.length g v) :
    Calls Try.prog 46 #[.pointer (some ⟨g, 0, none⟩)] w (RetCls g v l w) := by
  have hgl := hC.lt
  have HA := Lib.hid ha
  have HY := Lib.hid (show Bytes w v l from by obtain ⟨_, _, _, _, _, h⟩ := hC; exact h)
  have HC := Lib.hid (hC.below ((Below.refl _ _).alloc (Nat.le_refl _) (.cells (cls0.map fun s => Value.string (str s)).toArray 9)))
  have HT := Lib.hid (owns_new w 9 1 4 (cls0.map fun s => Value.string (str s)).toArray 4 (cls0.map fun s => Value.string (str s)) rfl (Nat.le_refl _) (by decide) rfl rfl)
  clear hC ha
  go_enter Try.func46, Try.ntmps46
  go_wp2_with fail
  refine (spec_l1Below g v l 4 _ (by exact HC.out) HA.out (by omega) (by omega)).mono ?_
  rintro e w1 ⟨x, rfl, hx0, hx1, hc, ho⟩
  obtain ⟨i, rfl⟩ := Int.eq_ofNat_of_zero_le hx0
  have ho' : Only g w w1 := ((Only.refl g w).alloc _).trans ho
  have HT1 := Lib.hid (own_only HT.out ho (by omega))
  have hs1 : w.heap.size + 1 ≤ w1.heap.size := by have := ho.size; simpa using this
  have HO := Lib.hid ho'
  have HC1 := Lib.hid (hc.below ((Below.refl _ _).alloc (Nat.le_refl _) (.cells #[] 9)))
  clear hc ho ho' HC HT
  go_wp2_with fail
  refine (spec_l1Below g v l 3 _ (by exact HC1.out) HA.out (by omega) (by omega)).mono ?_
  rintro e w2 ⟨y, rfl, hy0, hy1, hc, ho⟩
  obtain ⟨j, rfl⟩ := Int.eq_ofNat_of_zero_le hy0
  have HT2 := Lib.hid (own_only (own_below HT1.out ((Below.refl _ _).alloc (Nat.le_refl _) (.cells #[] 9))) ho (by omega))
  have hs2 : w1.heap.size + 1 ≤ w2.heap.size := by have := ho.size; simpa using this
  have HE := Lib.hid (own_only (owns_new w1 9 1 0 #[] 0 [] rfl (Nat.le_refl _) (by unfold maxLen; omega) rfl rfl) ho (by omega))
  have HO2 := Lib.hid ((HO.out.alloc (.cells #[] 9)).trans ho)
  have HC2 := Lib.hid hc
  clear hc ho HC1 HT1 HO
  have hSrc : ∀ i n, i + n ≤ 4 → Src w2 1 (some ⟨w.heap.size, i, none⟩) n (((cls0.drop i).take n).map fun s => Value.string (str s)) := by
    intro i n hin
    refine ⟨by simp [cls0]; omega, fun u hu => by (obtain ⟨s, _, rfl⟩ := List.mem_map.1 hu; rfl), fun _ => ⟨w.heap.size, i, rfl, fun q u hu => ?_⟩⟩
    have hq : q < n := by have := (List.getElem?_eq_some_iff.1 hu).1; simp at this; omega
    have h9 := HT2.out.cellAt (i + q) (by omega)
    rw [h9]
    rw [← hu]
    simp [hq]
  have HSR := Lib.hid hSrc
  clear hSrc HT2
  have hfin : ∀ i n, ∀ s ∈ (cls0.drop i).take n, s.length ≤ 10 := fun i n s hs => by
    have := List.mem_of_mem_drop (List.mem_of_mem_take hs)
    simp only [cls0, List.mem_cons, List.not_mem_nil, or_false] at this
    rcases this with rfl | rfl | rfl | rfl <;> decide
  have HFI := Lib.hid hfin
  clear hfin
  have hj : j = 0 ∨ j = 1 ∨ j = 2 := by omega
  have hi : i = 0 ∨ i = 1 ∨ i = 2 ∨ i = 3 := by omega
  clear hx0 hx1 hy0 hy1
  have hfinal : ∀ (i n : Nat) (v1 : Value) (w3 : World), i + n ≤ 4 → w3.ownsRow w1.heap.size 9 1 v1 (0 + n) ([] ++ ((cls0.drop i).take n).map fun s => Value.string (str s)) → w2.grownBy w3 (some w1.heap.size) → RetCls g v l w (.returned v1) w3 := by
    intro i n v1 w3 hin ho hg
    have hg' : Only g w w3 := ⟨hg.os.trans HO2.out.os, hg.tape.trans HO2.out.tape, hg.output.trans HO2.out.output, Nat.le_trans HO2.out.size hg.size, fun k hk hne => (hg.block k (Nat.lt_of_lt_of_le hk HO2.out.size) (fun e => by injection e with e; omega)).trans (HO2.out.block k hk hne)⟩
    have hln : ((cls0.drop i).take n).length = n := by simp [cls0]; omega
    refine ⟨v1, (cls0.drop i).take n, rfl, ?_, by omega, HFI.out i n, ?_, ?_⟩
    · rw [hln]; simp only [Nat.zero_add, List.nil_append] at ho; exact own_base ho (by omega)
    · obtain ⟨ii, hh, h1, h2, h3, _⟩ := HC2.out
      exact ⟨ii, hh, (hg.block g h1.lt (fun e => by injection e with e; omega)).trans h1, h2, h3, HY.out.only HA.out hg'⟩
    · exact hg'
  have HFIN := Lib.hid hfinal
  clear hfinal
  rcases hi with rfl | rfl | rfl | rfl <;> rcases hj with rfl | rfl | rfl
  all_goals
    go_wp2_with (at_builtin; go_must (refine wpList_cat rfl _ _ 30 rfl w1.heap.size 9 (.string ByteArray.empty) 1 16 Try.underlying30 info_str rfl (by decide) _ _ 0 [] rfl (by exact HE.out) _ _ _ _ rfl (by exact HSR.out _ _ (by decide)) (by omega) (by omega) (by omega) ?_); intro v1 w3 ho3 hg3 _ _)
    go_ret
    exact HFIN.out _ _ _ _ (by decide) ho3 hg3

def mth0 : List (List UInt8) := [[97, 114, 101, 97, 46, 115, 113, 117, 97, 114, 101], [97, 114, 101, 97, 46, 100, 101, 102, 97, 117, 108, 116], [97, 114, 101, 97, 46, 115, 104, 97, 112, 101], [97, 114, 101, 97]]

def RetNM (w : World) (e : Ending) (w' : World) : Prop :=
  ∃ (u : Value) (cls : List (List UInt8)) (m : List UInt8), e = .returned (.tuple #[.string (str [97, 114, 101, 97]), u, .string (str m)]) ∧ Txts w' u cls ∧ cls.length ≤ 4 ∧ (∀ s ∈ cls, s.length ≤ 10) ∧ m.length ≤ 20 ∧ Below w.heap.size w w'

set_option maxHeartbeats 1000000 in
theorem spec_DrawNextMethods (v : Value) (l : List Nat) (w : World) (h : Bytes w v l) (hl : l.length ≤ 1048576) :
    Calls Try.prog 25 #[v] w (RetNM w) := by
  go_enter Try.func25, Try.ntmps25
  go_wp2_with fail
  refine (spec_l1New v l _ h hl).mono ?_
  rintro e w1 ⟨rfl, hc, ha, hb, hs⟩
  have HB := Lib.hid hb
  have HA := Lib.hid ha
  have HS := Lib.hid hs
  have HC := Lib.hid hc
  clear hb ha hs hc h
  go_wp2_with fail
  refine (spec_l29Classes _ v l _ HC.out HA.out).mono ?_
  rintro e w2 ⟨u, cls, rfl, hu, hl1, hl2, hc, ho⟩
  have hgl := HC.out.lt
  have hsm : ∀ s ∈ cls, s.length ≤ maxLen := fun s hx => by have := hl2 s hx; unfold maxLen; omega
  have HU := Lib.hid (own_below hu ((Below.refl _ _).alloc (Nat.le_refl _) (.cells (mth0.map fun s => Value.string (str s)).toArray 9)))
  have HL := Lib.hid hl2
  have HSM := Lib.hid hsm
  have HB2 := Lib.hid (Only.below HB.out ho (Nat.le_refl _) HB.out.size)
  have HC2 := Lib.hid (hc.below ((Below.refl _ _).alloc (Nat.le_refl _) (.cells (mth0.map fun s => Value.string (str s)).toArray 9)))
  have HM := Lib.hid (txts_new w2 9 mth0 _ rfl (by decide) (by decide))
  have hz : w.heap.size < w2.heap.size := Nat.lt_of_lt_of_le hgl ho.size
  have HAM := Lib.hid (show Apart 4 w.heap.size (.slice (some ⟨w2.heap.size, 0, none⟩) 4 4) from fun _ a n c hv => by injection hv with e1; injection e1 with e1; subst e1; show w2.heap.size ≠ _; omega)
  clear hu hl2 hc ho HB HC hsm
  go_wp2_with fail
  refine (spec_l1Pick _ v l _ mth0 _ (by exact HC2.out) HA.out (by exact HM.out) (by exact HAM.out) (by decide) (by decide)).mono ?_
  rintro e w3 ⟨m, rfl, hm, _, ho⟩
  have HMM := Lib.hid (show m.length ≤ 20 by
    simp only [mth0, List.mem_cons, List.not_mem_nil, or_false] at hm
    rcases hm with rfl | rfl | rfl | rfl <;> decide)
  have hlt9 := HS.out
  have HU3 := Lib.hid (Txts.of_own (own_only HU.out ho (by omega)) HSM.out)
  have HB3 := Lib.hid (Only.below (HB2.out.alloc HB2.out.size _) ho (Nat.le_refl _) (by simp; omega))
  clear ho hm hlt9 HS
  go_wp2_with fail
  go_ret3
  exact ⟨_, cls, m, rfl, HU3.out, hl1, HL.out, HMM.out, HB3.out⟩

theorem laws_big (v : Value) (l : List Nat) (w : World) (h : Bytes w v l) :
    Calls Try.prog 24 #[v] w fun e w' => e = .returned (.bool (decide (1048576 < l.length))) ∧ w = w' := by
  obtain ⟨A, c, rfl, hlc, hm, HC⟩ := SlR.open_ h
  clear h HC
  unfold maxLen at hm
  go_enter Try.func24, Try.ntmps24
  go_wp2_with fail
  go_ret
  exact ⟨ret_bool (by rw [decide_eq_decide]; omega), rfl⟩

set_option maxHeartbeats 400000 in
theorem laws_hasText (l : List (List UInt8)) (s : List UInt8) (v : Value) (w : World) (h : Txts w v l) :
    Calls Try.prog 28 #[v, .string (str s)] w fun e w' => e = .returned (.bool (hasB l s)) ∧ w = w' := by
  have HN := Lib.hid (findB_nonneg l s)
  obtain ⟨A, c, rfl, hlc, hm, HC⟩ := h.open_
  clear h
  unfold maxLen at hm
  go_enter Try.func28, Try.ntmps28
  go_wp2
  go_loop [5] (fun i => ∃ k : Nat, k ≤ l.length ∧ i = .int .i64 k ∧ Hid (∀ j (h : j < l.length), j < k → (l[j] == s) = false)) (fun i => l.length - (intOf i).toNat)
  case atStart => exact ⟨0, Nat.zero_le _, rfl, fun j h hj => absurd hj (by omega)⟩
  case round =>
    obtain ⟨k, hk, rfl, hn⟩ := hrel
    by_cases hlt : k < l.length
    · obtain ⟨b, off, rfl, _, hcell, _⟩ := HC.out k hlt
      go_wp2
      · have he : (l[k] == s) = true := by assumption
        go_ret
        exact ⟨ret_bool (by rw [← HN.out, findB_at l s k hlt hn.out he]; simp), rfl⟩
      · have he : (l[k] == s) = false := by assumption
        go_round
        case rel => exact ⟨k + 1, by omega, by go_num, fun j h hj => by rcases Nat.lt_succ_iff_lt_or_eq.1 hj with h1 | rfl; exact hn j h h1; exact he⟩
        case measure => simp [intOf]; omega
    · go_wp2
      go_ret
      exact ⟨ret_bool (by rw [← HN.out, findB_no l s fun j h => hn j h (by omega)]; rfl), rfl⟩

theorem next_len (g : List UInt8) (l : List (List UInt8)) (m : List UInt8) (y : Nat) (h : findB (methB g l) m = y) : y < l.length + 1 ∧ ∃ hy : y < (methB g l).length, (methB g l)[y] = m := by
  have h1 := findB_le (methB g l) m
  rw [h, methB_length] at h1
  have hlt : y < (methB g l).length := by rw [methB_length]; omega
  refine ⟨by omega, hlt, ?_⟩
  unfold findB at h
  cases hf : (methB g l).findIdx? (fun x => x == m) with
  | none =>
    rw [hf] at h
    have h5 : (-1 : Int) = y := h
    omega
  | some i =>
    rw [hf] at h
    have h5 : (i : Int) = y := h
    have : i = y := by omega
    subst this
    rw [List.findIdx?_eq_some_iff_getElem] at hf
    obtain ⟨_, he, _⟩ := hf
    exact eq_of_beq he

namespace fnMethods
set_option maxHeartbeats 2000000 in
theorem walk (v : Value) (l : List Nat) {w : World} (h : Bytes w v l) :
    Calls Try.prog 6 #[v] w fun e w' => e = .returned (.bool true) ∧ Below w.heap.size w w' := by
  have HH := Lib.hid h
  clear h
  by_cases hl : l.length ≤ 1048576
  rotate_left
  · go_enter Try.func6, Try.ntmps6
    go_wp2_with fail
    refine (laws_big v l _ HH.out).mono ?_
    rw [show decide (1048576 < l.length) = true by simp; omega]
    rintro e w1 ⟨rfl, rfl⟩
    go_wp2_with fail
    go_ret
    exact ⟨rfl, Below.refl _ _⟩
  go_enter Try.func6, Try.ntmps6
  go_wp2_with fail
  refine (laws_big v l _ HH.out).mono ?_
  rw [show decide (1048576 < l.length) = false by simp; omega]
  rintro e w1 ⟨rfl, rfl⟩
  go_wp2_with fail
  refine (spec_DrawNextMethods v l _ HH.out hl).mono ?_
  rintro e w1 ⟨u, cls, m, rfl, hu, hl1, hl2, hm, hb⟩
  have HU := Lib.hid hu
  have HB := Lib.hid hb
  have HS := Lib.hid (show ∀ s ∈ cls, s.length ≤ 1048576 from fun s hs => by have := hl2 s hs; omega)
  clear hu hb hl2
  generalize hgg : ([97, 114, 101, 97] : List UInt8) = gg
  have hgl : gg.length ≤ 1048576 := by rw [← hgg]; decide
  clear hgg
  go_wp2_with fail
  refine (impl_MethodNames gg cls u _ HU.out hgl (by omega) HS).mono ?_
  rintro e w2 ⟨lv, rfl, ol, hb⟩
  replace HU := Lib.hid (HU.out.below hb)
  replace HB := Lib.hid (HB.out.trans (hb.mono HB.out.size))
  have OL := Lib.hid ol
  clear ol hb
  obtain ⟨gb, cap, hlv, hgb, hgl2, hcap, hcm⟩ := own_slice OL.out (by omega)
  subst hlv
  unfold maxLen at hcm
  go_wp2_with fail
  refine (impl_NextMethods gg cls m u _ HU.out hgl (by omega) HS).mono ?_
  rintro e w3 ⟨nv, rfl, on, hb⟩
  replace HU := Lib.hid (HU.out.below hb)
  replace HB := Lib.hid (HB.out.trans (hb.mono HB.out.size))
  replace OL := Lib.hid (own_below OL.out hb)
  have ON := Lib.hid on
  have hnl := nextB_len gg cls m
  have HNS := Lib.hid (nextB_small gg cls m hgl HS.out)
  clear on hb
  by_cases hf : 0 ≤ findB (methB gg cls) m
  rotate_left
  · rw [nextB_none gg cls m hf] at ON ⊢
    have HN := Lib.hid (show hasB (methB gg cls) m = false by rw [← findB_nonneg]; simp; omega)
    clear hf
    dsimp only
    go_wp2_with fail
    refine (spec_MethodNames gg cls u _ HU.out hgl (by omega) HS).mono ?_
    rintro e w4 ⟨sv, rfl, os, hb⟩
    replace HB := Lib.hid (HB.out.trans (hb.mono HB.out.size))
    replace OL := Lib.hid (own_below OL.out hb)
    have OS := Lib.hid os
    clear os hb
    go_wp2_with fail
    refine (laws_sameTexts (methB gg cls) (methB gg cls) _ sv _ (methT hgl HS.out OL.out) (methT hgl HS.out OS.out)).mono ?_
    rw [eqL_self]
    rintro e w5 ⟨rfl, n, rfl⟩
    go_wp2_with fail
    refine (laws_hasText (methB gg cls) m _ _ (by exact methT hgl HS.out OL.out)).mono ?_
    rw [HN.out]
    rintro e w6 ⟨rfl, rfl⟩
    go_wp2_with fail
    go_ret
    exact ⟨rfl, below_drewN HB.out _⟩
  obtain ⟨y, hy⟩ := Int.eq_ofNat_of_zero_le hf
  rw [nextB_some gg cls m y hy] at ON hnl HNS ⊢
  have HN := Lib.hid (show hasB (methB gg cls) m = true by rw [← findB_nonneg]; simp [hf])
  obtain ⟨hy1, hy2, hy3⟩ := next_len gg cls m y hy
  have HY3 := Lib.hid hy3
  have hml := methB_length gg cls
  have hdl : ((methB gg cls).drop (y + 1)).length = cls.length - y := by rw [List.length_drop, hml]; omega
  dsimp only at ON hnl HNS ⊢
  have TN := Lib.hid (Txts.of_own ON.out HNS.out)
  obtain ⟨A, c, hnv⟩ := SlR.shape TN.out
  subst hnv
  rw [hdl] at TN ⊢
  have HML := Lib.hid hml
  have HDL := Lib.hid hdl
  clear hf hy hy3 hml hdl ON hnl
  go_wp2_with fail
  refine (spec_MethodNames gg cls u _ HU.out hgl (by omega) HS).mono ?_
  rintro e w4 ⟨sv, rfl, os, hb⟩
  replace HB := Lib.hid (HB.out.trans (hb.mono HB.out.size))
  replace OL := Lib.hid (own_below OL.out hb)
  replace TN := Lib.hid (TN.out.below hb)
  have OS := Lib.hid os
  clear os hb
  go_wp2_with fail
  refine (laws_sameTexts (methB gg cls) (methB gg cls) _ sv _ (methT hgl HS.out OL.out) (methT hgl HS.out OS.out)).mono ?_
  rw [eqL_self]
  rintro e w5 ⟨rfl, n, rfl⟩
  go_wp2_with fail
  refine (laws_hasText (methB gg cls) m _ _ (by exact methT hgl HS.out OL.out)).mono ?_
  rw [HN.out]
  rintro e w6 ⟨rfl, rfl⟩
  have TL := Lib.hid (methT hgl HS.out OL.out)
  have hcell : w4.cell? ⟨gb, y, none⟩ = some (.string (str m)) := by
    have h9 := OL.out.cellAt y (by omega)
    rw [h9, List.getElem?_map, List.getElem?_eq_getElem hy2, HY3.out]
    rfl
  have hcell2 : w4.cell? ⟨gb, cls.length + 1 - (cls.length - y) - 1, none⟩ = some (.string (str m)) := by
    rw [show cls.length + 1 - (cls.length - y) - 1 = y by omega]; exact hcell
  clear HY3 hy2
  go_wp2_with fail
  · refine (laws_sameTexts ((methB gg cls).drop (y + 1)) ((methB gg cls).drop (y + 1)) _ _ _ (by exact TN.out) ?_).mono ?_
    · rw [List.drop_eq_nil_of_le (by have := HML.out; omega)]
      exact SlR.empty _ _ _ _ _ _ (by omega) (by unfold maxLen; omega)
    · rw [eqL_self]
      rintro e w7 ⟨rfl, n2, rfl⟩
      go_wp2_with fail
      go_ret
      exact ⟨rfl, below_drewN HB.out _⟩
  · refine (laws_sameTexts ((methB gg cls).drop (y + 1)) ((methB gg cls).drop (y + 1)) _ _ _ (by exact TN.out) ?_).mono ?_
    · have h9 := SlR.drop TL.out (y + 1) (by omega)
      rw [show cls.length + 1 - (cls.length - y) = y + 1 by omega]
      have h10 : Txts w4 _ ((methB gg cls).drop (y + 1)) := h9
      have h11 : Txts w4 (.slice (some ⟨gb, y + 1, none⟩) (cls.length - y) (cap - (y + 1))) ((methB gg cls).drop (y + 1)) := by simpa using h10
      rw [show cls.length + 1 - (y + 1) = cls.length - y by omega]
      exact h11
    · rw [eqL_self]
      rintro e w7 ⟨rfl, n2, rfl⟩
      go_wp2_with fail
      go_ret
      exact ⟨rfl, below_drewN HB.out _⟩
set_option maxRecDepth 100000 in
theorem lifted (os : Os) (started : os.Started) (H : Type) (enc : TypeId × Value → H) :
    ReturnsInHanded {} Try.checked os 6 .any (Rows.fnMethodsSpec.pre6 enc Try.prog Try.f6 Rows.fnMethodsRow.domain false) (Rows.fnMethodsSpec.post enc Try.prog Try.f6 false true false false) := by
  refine returnsInHanded_of_change (C := Try.checked) own started (by kernel_rfl) Try.func6
    (ChangeSpec.witness6 (enc := enc) (C := Try.checked) false ⟨#[], #[.slice none 0 0], []⟩ 8 (by kernel_rfl) (by kernel_rfl) (by kernel_rfl) (by kernel_rfl)) ?_
  intro W base args ds gs before hval0 hW hcnd _
  have hval : ∀ (j : Nat) t v, Try.f6.params[j]? = some t → args[j]? = some v → Value.okWide Try.prog W .any base t v := hval0
  have hW' := hW
  obtain ⟨p, q, hA0, hV, rfl, hfz, hnd⟩ := hW
  have hA : DataW.TrodAll enc Try.prog W 0 (fun _ => true) true Try.f6.params.toList args.toList ds p := hA0
  rw [Try.params6] at hA hval
  obtain ⟨v0, vs0, d0, ds0, p0, q0, hargs, rfl, rfl, h0, r0⟩ := trodAll_cons hA
  obtain ⟨rfl, rfl, rfl⟩ := trodAll_nil r0
  obtain rfl : args = #[v0] := by cases args; simp_all
  obtain ⟨rfl, rfl⟩ := trodVars_none hV
  obtain ⟨x0, u0⟩ := open_bytes Try.underlying36 Try.underlying5 (by kernel_rfl) (hval 0 36 v0 rfl rfl) h0
  clear hA0 hval0
  refine (walk v0 x0 u0).mono fun e W' ⟨he, hg⟩ => ?_
  subst he
  exact ⟨_, rfl, law_post laidOut hW' rfl rfl Try.underlying4 rfl rfl rfl (by intro t ht; rw [Try.params6] at ht; have ht2 : t ∈ [36] := ht; simp only [List.mem_cons, List.not_mem_nil, or_false] at ht2; rcases ht2 with rfl <;> exact ⟨by kernel_rfl, of_decide_eq_true (by kernel_rfl)⟩) hg⟩

theorem over : Rows.fnMethodsRow.holds Try.pinned (OpenSpec.ofChange Rows.fnMethodsSpec) :=
  OpenClaim.holds_of_wide 6 Try.f6 rfl rfl rfl rfl rfl rfl rfl ⟨rfl, rfl, rfl, rfl, rfl⟩ rfl rfl rfl rfl rfl (by kernel_rfl) Try.func6 (by kernel_rfl)
    (of_decide_eq_true (by kernel_rfl)) (by unfold Func.isWrapper; first | (rw [if_pos (by decide +kernel)]; kernel_rfl) | (rw [if_neg (by decide +kernel)]; exact ⟨rfl, rfl⟩))
    (fun os started H enc _ => lifted os started H enc)

/-- THE STATEMENT -/
theorem proved : Rows.FnMethodsSaid :=
  over
#print axioms proved
end fnMethods
end Go.Proofs.Ytclcljibdhkkoaa
