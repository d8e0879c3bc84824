/-
  Contracts: what FnRandom draws.
-/
import Derived.Test.YtkdlekonfjeidaaRandDraw
namespace Go.Proofs.Ytkdlekonfjeidaa
set_option maxRecDepth 100000
open Go.ChangeShapes Go.WideShapes Go.ChangeAt Go.RowKit Go.Deep

def six : List Int := [-1, 65536, 65535, 0, 9223372036854775807, -9223372036854775808]
theorem six_i64 : ∀ x ∈ six, I64 x := by
  intro x hx
  simp only [six, List.mem_cons, List.not_mem_nil, or_false] at hx
  rcases hx with rfl | rfl | rfl | rfl | rfl | rfl <;> exact ⟨by decide, by decide⟩

set_option maxHeartbeats 1000000 in
theorem spec_l24Draw (g : Nat) (v : Value) (l : List Nat) (w : World) (hC : Cur w g v l) (ha : Apart l.length g v) :
    Calls Try.prog 16 #[.pointer (some ⟨g, 0, none⟩)] w (DrawsSt g v l w) := by
  have HC := Lib.hid hC
  have HA := Lib.hid ha
  clear hC ha
  go_enter Try.func16, Try.ntmps16
  go_wp2_with fail
  refine (spec_l1Once g v l 8 _ HC.out HA.out (by omega) (by omega)).mono ?_
  rintro e w1 ⟨b, rfl, hc, ho⟩
  have HC1 := Lib.hid hc
  have HO := Lib.hid ho
  have hgl := hc.lt_
  clear hc ho
  cases b with
  | false =>
    go_wp2_with fail
    refine (spec_l1Below_big g v l 65536 _ HC1.out HA.out (by omega) (by omega)).mono ?_
    rintro e w2 ⟨x, rfl, hx0, hx1, hc, ho⟩
    have HC2 := Lib.hid hc
    have HO2 := Lib.hid (HO.out.trans ho)
    clear hc ho
    go_wp2_with fail
    go_ret
    exact ⟨_, rfl, ⟨by omega, by omega⟩, HC2.out, HO2.out⟩
  | true =>
    have HI := Lib.hid (show Ints (w1.alloc (.cells (six.map fun x => Value.int .i64 x).toArray 3)) (.slice (some ⟨w1.heap.size, 0, none⟩) 6 6) six from Ints.of_own (l := six) (owns_new w1 3 1 6 (six.map fun x => Value.int .i64 x).toArray 6 (six.map fun x => Value.int .i64 x) rfl (Nat.le_refl _) (by decide) rfl rfl) six_i64)
    have HC2 := Lib.hid (HC1.out.below_ ((Below.refl _ _).alloc (Nat.le_refl _) (.cells (six.map fun x => Value.int .i64 x).toArray 3)))
    have HAP := Lib.hid (show Apart 6 g (.slice (some ⟨w1.heap.size, 0, none⟩) 6 6) from fun _ a n c hv => by injection hv with e1; injection e1 with e1; subst e1; show w1.heap.size ≠ _; omega)
    have HO2 := Lib.hid (HO.out.trans (Only.of_below ((Below.refl w1.heap.size w1).alloc (Nat.le_refl _) (.cells (six.map fun x => Value.int .i64 x).toArray 3))) : Only g w _)
    go_wp2_with fail
    refine (spec_l1PickInt g v l _ six _ (by exact HC2.out) HA.out (by exact HI.out) (by exact HAP.out) (by decide) (by decide)).mono ?_
    rintro e w2 ⟨x, rfl, hx, hc, ho⟩
    have HC3 := Lib.hid hc
    have HO3 := Lib.hid (HO2.out.trans ho)
    clear hc ho
    go_wp2_with fail
    go_ret
    exact ⟨_, rfl, hx, HC3.out, HO3.out⟩

set_option maxHeartbeats 1000000 in
theorem spec_DrawShuffleOf (v : Value) (l : List Nat) (w : World) (h : Bytes w v l) (hl : l.length ≤ 1048576) :
    Calls Try.prog 5 #[v] w (RetDS w) := by
  go_enter Try.func5, Try.ntmps5
  go_wp2_with fail
  refine (spec_l1New v l _ h hl).mono ?_
  rintro e w1 ⟨rfl, hc, ha, hb, hs⟩
  have HB := Lib.hid hb
  have HA := Lib.hid ha
  have HC := Lib.hid hc
  clear hb ha hs hc h
  go_wp2_with fail
  refine (spec_l24Draw _ v l _ HC.out HA.out).mono ?_
  rintro e w2 ⟨s, rfl, hs, hc, ho⟩
  have HB2 := Lib.hid (Only.below HB.out ho (Nat.le_refl _) HB.out.size)
  have HC2 := Lib.hid hc
  clear hc ho
  go_wp2_with fail
  refine (spec_l1Below _ v l 12 _ HC2.out HA.out (by omega) (by omega)).mono ?_
  rintro e w3 ⟨x, rfl, hx0, hx1, hc, ho⟩
  have HB3 := Lib.hid (Only.below HB2.out ho (Nat.le_refl _) HB2.out.size)
  clear hc ho
  go_wp2_with fail
  go_ret2
  exact ⟨s, x - 1, rfl, by omega, by omega, hs, HB3.out⟩
end Go.Proofs.Ytkdlekonfjeidaa
