/-
  Contracts of the draws of handlers and conditions.
-/
import Derived.Test.YtaliiodngekahaaDraw
import Derived.Test.YtaliiodngekahaaHandlers
namespace Go.Proofs.Ytaliiodngekahaa
set_option maxRecDepth 100000
open Go.ChangeShapes Go.WideShapes Go.ChangeAt Go.RowKit Go.Deep
set_option linter.unusedVariables false

theorem Cur.below {w w' : World} {g : Nat} {v : Value} {l : List Nat} (h : Cur w g v l) (hb : Below w.heap.size w w') : Cur w' g v l := by
  obtain ⟨i, k, h1, h2, h3, h4⟩ := h
  exact ⟨i, k, h1.below hb, h2, h3, SlR.below h4 hb (fun _ _ h => h)⟩
theorem Cur.lt {w : World} {g : Nat} {v : Value} {l : List Nat} (h : Cur w g v l) : g < w.heap.size := by
  obtain ⟨i, k, h1, _⟩ := h
  exact h1.lt
theorem Cur.next {w w3 w4 : World} {g : Nat} {v : Value} {l : List Nat} (h : Cur w3 g v l) (hb : Below w.heap.size w3 w4) (hg : g < w.heap.size) (hy : Bytes w4 v l) : Cur w4 g v l := by
  obtain ⟨i, k, h1, h2, h3, _⟩ := h
  exact ⟨i, k, (hb.block g hg).trans h1, h2, h3, hy⟩
theorem Only.alloc {g : Nat} {a w : World} (h : Only g a w) (o : Obj) : Only g a (w.alloc o) := h.trans (Only.of_below ((Below.refl _ _).alloc (Nat.le_refl _) o))
theorem Only.belowB {g : Nat} {a w w' : World} (h : Only g a w) (hb : Below a.heap.size w w') : Only g a w' :=
  ⟨hb.os.trans h.os, hb.tape.trans h.tape, hb.output.trans h.output, Nat.le_trans h.size hb.size, fun k hk hne => (hb.block k hk).trans (h.block k hk hne)⟩
theorem own_only {g : Nat} {w w' : World} {base : Nat} {e : TypeId} {size n : Nat} {v : Value} {xs : List Value} (h : w.ownsRow base e size v n xs) (ho : Only g w w') (hg : g < base) : w'.ownsRow base e size v n xs := by
  refine h.kept ho ?_
  cases hv : v.ownBlock with
  | none => exact .inl rfl
  | some k =>
    right
    intro he
    have := (h.lt k hv).1
    injection he with he
    omega

def HOk (d : HandD) : Prop := 0 ≤ d.kind ∧ d.kind ≤ 3 ∧ d.name.length ≤ 10
def sig3 : List (List UInt8) := [[101, 114, 114, 111, 114], [119, 97, 114, 110, 105, 110, 103], [115, 107, 105, 112]]
def sig4 : List (List UInt8) := [[101, 114, 114, 111, 114], [119, 97, 114, 110, 105, 110, 103], [115, 107, 105, 112], []]
def cond5 : List (List UInt8) := [[101, 114, 114, 111, 114], [119, 97, 114, 110, 105, 110, 103], [], [99, 111, 110, 100, 105, 116, 105, 111, 110], [110, 111, 116, 101]]
def msg3 : List (List UInt8) := [[98, 97, 100], [], [97, 32, 109, 101, 115, 115, 97, 103, 101, 32, 116, 104, 97, 116, 32, 105, 115, 32, 108, 111, 110, 103, 101, 114, 32, 116, 104, 97, 110, 32, 116, 104, 101, 32, 115, 105, 120, 116, 121, 32, 98, 121, 116, 101, 115, 32, 116, 104, 97, 116, 32, 97, 110, 32, 101, 108, 101, 109, 101, 110, 116, 32, 111, 102, 32, 97, 32, 118, 101, 99, 116, 111, 114, 32, 109, 97, 121, 32, 104, 97, 118, 101]]

def RetHs (g : Nat) (v : Value) (l : List Nat) (w : World) (e : Ending) (w' : World) : Prop :=
  ∃ (u : Value) (hs : List HandD), e = .returned u ∧ w'.ownsRow w.heap.size 31 2 u hs.length (hs.flatMap HandD.cells) ∧ hs.length ≤ 6 ∧ (∀ d ∈ hs, HOk d) ∧ Cur w' g v l ∧ Only g w w'

set_option maxHeartbeats 2000000 in
theorem spec_l28Handlers (g : Nat) (v : Value) (l : List Nat) (w : World) (hC : Cur w g v l) (ha : Apart l.length g v) :
    Calls Try.prog 30 #[.pointer (some ⟨g, 0, none⟩)] w (RetHs g v l w) := by
  have hgl := hC.lt
  have HA := Lib.hid ha
  have HY := Lib.hid (show Bytes w v l from by obtain ⟨_, _, _, _, _, h⟩ := hC; exact h)
  have HC := Lib.hid (hC.below ((Below.refl _ _).alloc (Nat.le_refl _) (.cells #[] 31)))
  have HE := Lib.hid (owns_new w 31 2 0 #[] 0 [] rfl (Nat.le_refl _) (by unfold maxLen; omega) rfl rfl)
  clear hC ha
  go_enter Try.func30, Try.ntmps30
  go_wp2_with fail
  refine Calls.mono (spec_l1Below g v l 7 _ (by exact HC.out) HA.out (by omega) (by omega)) ?_
  rintro e w1 ⟨x, rfl, hx0, hx1, hc, ho⟩
  obtain ⟨n0, rfl⟩ := Int.eq_ofNat_of_zero_le hx0
  have HO1 := Lib.hid (((Only.refl g w).alloc (.cells #[] 31)).trans ho)
  have HE1 := Lib.hid (own_only HE.out ho hgl)
  have HC1 := Lib.hid hc
  have hs1 : w.heap.size ≤ w1.heap.size := HO1.out.size
  clear hc ho HC HE
  go_wp2_with fail
  go_loopw [3, 4] (fun q i wr => ∃ (hs : List HandD) (n : Nat), i = .int .i64 n ∧ hs.length + n ≤ 6 ∧ Hid (wr.ownsRow w.heap.size 31 2 q hs.length (hs.flatMap HandD.cells)) ∧ Hid (∀ d ∈ hs, HOk d) ∧ Hid (Cur wr g v l) ∧ Hid (Only g w wr)) (fun _ i _ => (intOf i).toNat)
  case atStart => exact ⟨[], n0, rfl, by simp; omega, HE1.out, (fun _ h => by cases h), HC1.out, HO1.out⟩
  case round =>
    obtain ⟨hs, n, rfl, hn, HE, HS, HC, HO⟩ := hrel
    have hw := HO.out.size
    by_cases hp : 0 < n
    · obtain ⟨n, rfl⟩ : ∃ m, n = m + 1 := ⟨n - 1, by omega⟩
      go_wp2_with fail
      refine Calls.mono (spec_l1Below g v l 4 _ HC.out HA.out (by omega) (by omega)) ?_
      rintro e w2 ⟨y, rfl, hy0, hy1, hc, ho⟩
      have hw2 := ho.size
      have HE2 := Lib.hid (own_below (own_only HE.out ho hgl) ((Below.refl _ _).alloc (Nat.le_refl _) (.cells (sig3.map fun s => Value.string (str s)).toArray 9)))
      have HO2 := Lib.hid ((HO.out.trans ho).alloc (.cells (sig3.map fun s => Value.string (str s)).toArray 9))
      have HC2 := Lib.hid (hc.below ((Below.refl _ _).alloc (Nat.le_refl _) (.cells (sig3.map fun s => Value.string (str s)).toArray 9)))
      have HM := Lib.hid (txts_new w2 9 sig3 _ rfl (by decide) (by decide))
      have HAM := Lib.hid (show Apart 3 g (.slice (some ⟨w2.heap.size, 0, none⟩) 3 3) from fun _ a n c hv => by injection hv with e1; injection e1 with e1; subst e1; show w2.heap.size ≠ _; omega)
      clear hc ho HC HO HE
      go_wp2_with fail
      refine Calls.mono (spec_l1Pick g v l _ sig3 _ (by exact HC2.out) HA.out (by exact HM.out) (by exact HAM.out) (by decide) (by decide)) ?_
      rintro e w3 ⟨s, rfl, hs3, hc, ho⟩
      have hw3 : w.heap.size ≤ w3.heap.size := Nat.le_trans HO2.out.size ho.size
      have hE3 := own_only HE2.out ho hgl
      have HO3 := Lib.hid (HO2.out.trans ho)
      have HC3 := Lib.hid hc
      have HSL := Lib.hid (show s.length ≤ 10 by
        simp only [sig3, List.mem_cons, List.not_mem_nil, or_false] at hs3
        rcases hs3 with rfl | rfl | rfl <;> decide)
      clear hc ho HC2 HO2 HE2 HM HAM hs3
      go_wp2_with (at_builtin; go_must (refine wpList_push rfl _ _ 24 rfl w.heap.size 31 (.agg #[.int .i64 0, .string ByteArray.empty]) 2 24 Try.underlying24 info_hand rfl (by decide) _ _ _ _ _ rfl rfl (by exact hE3) rfl (by simp [Value.oneCell']) (by omega) (by omega) hw3 ?_); intro v1 w4 ho1 _ _ hb1)
      go_roundw
      case rel =>
        have hO4 := HO3.out.belowB hb1
        refine ⟨hs ++ [⟨y, s⟩], n, by go_num, by simp; omega, ?_, ?_, HC3.out.next hb1 hgl (HY.out.only HA.out hO4), hO4⟩
        · show World.ownsRow _ _ _ _ _ _ _
          rw [List.flatMap_append, List.length_append]
          exact ho1
        · intro d hd
          rcases List.mem_append.1 hd with hd | hd
          · exact HS.out d hd
          · rw [List.mem_singleton.1 hd]
            exact ⟨hy0, by show y ≤ 3; omega, HSL.out⟩
      case measure => simp [intOf]
    · obtain rfl : n = 0 := by omega
      go_wp2_with fail
      go_ret
      exact ⟨_, hs, rfl, HE.out, by omega, HS.out, HC.out, HO.out⟩

def RetDM (w : World) (e : Ending) (w' : World) : Prop :=
  ∃ (A : Option Addr) (c : Nat) (hs : List HandD) (s : List UInt8), e = .returned (.tuple #[.slice A hs.length c, .string (str s)]) ∧ Hands w' (.slice A hs.length c) hs ∧ hs.length ≤ 6 ∧ (∀ d ∈ hs, HOk d) ∧ s.length ≤ 10 ∧ Below w.heap.size w w'

set_option maxHeartbeats 2000000 in
theorem spec_DrawMatchingHandlers (v : Value) (l : List Nat) (w : World) (h : Bytes w v l) (hl : l.length ≤ 1048576) :
    Calls Try.prog 7 #[v] w (RetDM w) := by
  go_enter Try.func7, Try.ntmps7
  go_wp2_with fail
  refine Calls.mono (spec_l1New v l _ h hl) ?_
  rintro e w1 ⟨rfl, hc, ha, hb, hs⟩
  have HB := Lib.hid hb
  have HA := Lib.hid ha
  have HC := Lib.hid hc
  clear hb ha hc h
  go_wp2_with fail
  refine Calls.mono (spec_l28Handlers _ v l _ HC.out HA.out) ?_
  rintro e w2 ⟨u, hs2, rfl, hu, hl1, hl2, hc, ho⟩
  have hgl := HC.out.lt
  obtain ⟨A, c, rfl⟩ : ∃ A c, u = .slice A hs2.length c := by
    rcases hu.2 with ⟨rfl, h0⟩ | ⟨g, cap, cur, rfl, _⟩
    · exact ⟨none, 0, by rw [h0]⟩
    · exact ⟨_, cap, rfl⟩
  have HU := Lib.hid (own_below hu ((Below.refl _ _).alloc (Nat.le_refl _) (.cells (sig4.map fun s => Value.string (str s)).toArray 9)))
  have HL := Lib.hid hl2
  have HB2 := Lib.hid (Only.below HB.out ho (Nat.le_refl _) HB.out.size)
  have HC2 := Lib.hid (hc.below ((Below.refl _ _).alloc (Nat.le_refl _) (.cells (sig4.map fun s => Value.string (str s)).toArray 9)))
  have HM := Lib.hid (txts_new w2 9 sig4 _ rfl (by decide) (by decide))
  have hz : w.heap.size < w2.heap.size := Nat.lt_of_lt_of_le hgl ho.size
  have HAM := Lib.hid (show Apart 4 w.heap.size (.slice (some ⟨w2.heap.size, 0, none⟩) 4 4) from fun _ a n c hv => by injection hv with e1; injection e1 with e1; subst e1; show w2.heap.size ≠ _; omega)
  clear hu hl2 hc ho HB HC
  go_wp2_with fail
  refine Calls.mono (spec_l1Pick _ v l _ sig4 _ (by exact HC2.out) HA.out (by exact HM.out) (by exact HAM.out) (by decide) (by decide)) ?_
  rintro e w3 ⟨m, rfl, hm, _, ho⟩
  have HMM := Lib.hid (show m.length ≤ 10 by
    simp only [sig4, List.mem_cons, List.not_mem_nil, or_false] at hm
    rcases hm with rfl | rfl | rfl | rfl <;> decide)
  have HU3 := Lib.hid (Hands.of_own (own_only HU.out ho (by omega)) (fun d hd => by
    obtain ⟨h1, h2, h3⟩ := HL.out d hd
    exact ⟨⟨by omega, by omega⟩, by unfold maxLen; omega⟩))
  have HB3 := Lib.hid (Only.below (HB2.out.alloc HB2.out.size _) ho (Nat.le_refl _) (by simp; omega))
  clear ho hm
  go_wp2_with fail
  go_ret2
  exact ⟨A, c, hs2, m, rfl, HU3.out, hl1, HL.out, HMM.out, HB3.out⟩

def RetDC (w : World) (e : Ending) (w' : World) : Prop :=
  ∃ (c m : List UInt8), e = .returned (.tuple #[.string (str c), .string (str m)]) ∧ c.length ≤ 100 ∧ m.length ≤ 100 ∧ Below w.heap.size w w'

set_option maxHeartbeats 2000000 in
theorem spec_DrawMakeCondition (v : Value) (l : List Nat) (w : World) (h : Bytes w v l) (hl : l.length ≤ 1048576) :
    Calls Try.prog 12 #[v] w (RetDC w) := by
  go_enter Try.func12, Try.ntmps12
  go_wp2_with fail
  refine Calls.mono (spec_l1New v l _ h hl) ?_
  rintro e w2 ⟨rfl, hc, ha, hb, hs9⟩
  clear hs9
  have HB := Lib.hid hb
  have HA := Lib.hid ha
  have hgl := hc.lt
  have HC2 := Lib.hid (hc.below ((Below.refl _ _).alloc (Nat.le_refl _) (.cells (cond5.map fun s => Value.string (str s)).toArray 9)))
  have HM := Lib.hid (txts_new w2 9 cond5 _ rfl (by decide) (by decide))
  have HAM := Lib.hid (show Apart 5 w.heap.size (.slice (some ⟨w2.heap.size, 0, none⟩) 5 5) from fun _ a n c hv => by injection hv with e1; injection e1 with e1; subst e1; show w2.heap.size ≠ _; omega)
  clear hb ha hc h
  go_wp2_with fail
  refine Calls.mono (spec_l1Pick _ v l _ cond5 _ (by exact HC2.out) HA.out (by exact HM.out) (by exact HAM.out) (by decide) (by decide)) ?_
  rintro e w3 ⟨c, rfl, hm, hc, ho⟩
  have HCC := Lib.hid (show c.length ≤ 100 by
    simp only [cond5, List.mem_cons, List.not_mem_nil, or_false] at hm
    rcases hm with rfl | rfl | rfl | rfl | rfl <;> decide)
  have HB3 := Lib.hid (Only.below (HB.out.alloc HB.out.size _) ho (Nat.le_refl _) (by simp; omega))
  have hz : w.heap.size < w3.heap.size := by have := ho.size; simp at this; omega
  have HC3 := Lib.hid (hc.below ((Below.refl _ _).alloc (Nat.le_refl _) (.cells (msg3.map fun s => Value.string (str s)).toArray 9)))
  have HM3 := Lib.hid (txts_new w3 9 msg3 _ rfl (by decide) (by decide))
  have HAM3 := Lib.hid (show Apart 3 w.heap.size (.slice (some ⟨w3.heap.size, 0, none⟩) 3 3) from fun _ a n c hv => by injection hv with e1; injection e1 with e1; subst e1; show w3.heap.size ≠ _; omega)
  clear hc ho hm HC2 HM HAM
  go_wp2_with fail
  refine Calls.mono (spec_l1Pick _ v l _ msg3 _ (by exact HC3.out) HA.out (by exact HM3.out) (by exact HAM3.out) (by decide) (by decide)) ?_
  rintro e w4 ⟨m, rfl, hm, _, ho⟩
  have HMM := Lib.hid (show m.length ≤ 100 by
    simp only [msg3, List.mem_cons, List.not_mem_nil, or_false] at hm
    rcases hm with rfl | rfl | rfl <;> decide)
  have HB4 := Lib.hid (Only.below (HB3.out.alloc HB3.out.size _) ho (Nat.le_refl _) (by simp; omega))
  clear ho hm
  go_wp2_with fail
  go_ret2
  exact ⟨c, m, rfl, HCC.out, HMM.out, HB4.out⟩

theorem laws_big (v : Value) (l : List Nat) (w : World) (h : Bytes w v l) :
    Calls Try.prog 6 #[v] w fun e w' => e = .returned (.bool (decide (1048576 < l.length))) ∧ w = w' := by
  obtain ⟨A, c, rfl, hlc, hm, HC⟩ := SlR.open_ h
  clear h HC
  unfold maxLen at hm
  go_enter Try.func6, Try.ntmps6
  go_wp2_with fail
  go_ret
  exact ⟨ret_bool (by rw [decide_eq_decide]; omega), rfl⟩
end Go.Proofs.Ytaliiodngekahaa
