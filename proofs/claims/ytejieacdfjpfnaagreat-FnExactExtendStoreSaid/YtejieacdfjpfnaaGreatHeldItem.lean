/-
  What is held of the marks: items.
-/
import Derived.Test.YtejieacdfjpfnaaGreatMarkItem
import Derived.Test.YtejieacdfjpfnaaGreatPlan
namespace Go.Proofs.YtejieacdfjpfnaaGreat
set_option maxRecDepth 100000
open Go.ChangeShapes Go.WideShapes Go.ChangeAt Go.RowKit Go.Deep
set_option linter.unusedVariables false

theorem mkL_at {α : Type} (mk : α → Int → α) (cnt : α → Nat) : ∀ (l : List α) (k : Int) (i : Nat) (h : i < l.length) (h' : i < (mkL mk cnt l k).length), (mkL mk cnt l k)[i] = mk l[i] (k + cntL cnt (l.take i)) := by
  intro l
  induction l with
  | nil => intro k i h; simp at h
  | cons x l ih =>
    intro k i h h'
    cases i with
    | zero => simp [mkL, cntL]
    | succ i =>
      have := ih (k + cnt x) i (by simpa using h) (by rw [mkL_length]; simpa using h)
      simp only [mkL, List.getElem_cons_succ]
      rw [this]
      simp only [cntL, List.take_succ_cons, List.map_cons, List.sum_cons]
      congr 1
      omega
def RetHeld (w : World) (n : Int) (e : Ending) (w' : World) : Prop := e = .returned (.int .i64 n) ∧ Below w.heap.size w w'

set_option maxHeartbeats 1000000 in
theorem laws_heldItemS (l : List ItemD) (v : Value) (k : Int) (w : World) (h : Items w v (mkL mkItem cItem l k)) (h0 : 0 < k) (h1 : k + cntL cItem l ≤ 4611686018427387904) :
    Calls Tryz.prog 66 #[v, .int .i64 k] w (RetHeld w (k + cntL cItem l)) := by
  obtain ⟨G, g0, HG⟩ := good0 w
  obtain ⟨A, c, rfl, hlc, hm, HC⟩ := SlR.open_ h
  have HL := Lib.hid (mkL_length mkItem cItem l k)
  rw [mkL_length] at hlc ⊢
  clear h
  unfold maxLen at hm
  go_enter Tryz.func66, Tryz.ntmps66
  go_wp2_with fail
  go_loopw [1, 5] (fun x i wr => ∃ j : Nat, j ≤ l.length ∧ i = .int .i64 j ∧ x = .int .i64 (k + (cntL cItem (l.take j) : Int)) ∧ Ok G wr) (fun _ i _ => l.length - (intOf i).toNat)
  case atStart => exact ⟨0, Nat.zero_le _, rfl, by simp [cntL], g0⟩
  case round =>
    clear g0
    obtain ⟨j, hj, rfl, rfl, g0⟩ := hrel
    by_cases hlt : j < l.length
    · have hcn : (cntL cItem (l.take j) : Int) + 3 ≤ cntL cItem l := by have := cntL_at cItem l j hlt; unfold cItem at this ⊢; omega
      have HKJ := Lib.hid (show k + (cntL cItem (l.take (j + 1)) : Int) = k + (cntL cItem (l.take j) : Int) + 3 by rw [cntL_take _ _ _ hlt]; unfold cItem; omega)
      have hkj0 : 0 < k + (cntL cItem (l.take j) : Int) := by omega
      have hkj1 : k + (cntL cItem (l.take j) : Int) + 3 ≤ 4611686018427387904 := by omega
      obtain ⟨b, off, cs, rfl, hbl, _, hat, hro⟩ := HC.out j (by rw [HL.out]; exact hlt)
      rw [mkL_at _ _ _ _ _ hlt] at hro
      clear hcn
      generalize k + (cntL cItem (l.take j) : Int) = kj at *
      obtain ⟨hcs, _⟩ := hro
      have hcs2 : cs = [.int .i64 kj, .int .i64 (kj + 1), .string (str (markT (kj + 1 + 1).toNat))] := hcs
      subst hcs2
      have y0 := fun W (h : Ok G W) => ((HG.out.below h).cell (p := ⟨b, off + j * 3, none⟩) hbl).trans (by simpa using hat 0 _ rfl)
      have y1 := fun W (h : Ok G W) => ((HG.out.below h).cell (p := ⟨b, off + j * 3 + 1, none⟩) hbl).trans (hat 1 _ rfl)
      have y2 := fun W (h : Ok G W) => ((HG.out.below h).cell (p := ⟨b, off + j * 3 + 2, none⟩) hbl).trans (hat 2 _ rfl)
      clear hat hcs
      have q0 : (kj != kj) = false := by simp
      have q1 : (kj + 1 != kj + 1) = false := by simp
      go_wp2_with fail
      refine wp_region_plan (S := Ok G) (by kernel_rfl) [(true, 0), (true, 1), (true, 2), (true, 3), (true, 4), (true, 5), (false, 6), (true, 7)] (by kernel_rfl) (HG.out.drew g0) ?_
      replace g0 := HG.out.drew g0
      repeat ((first | (refine dyn_take rfl rfl (fun W g => by go_simp; rfl) ?_) | (refine dyn_skip rfl rfl ?_)); go_simp)
      refine dyn_act rfl rfl (fun K hK => ?_)
      go_wp2_with fail
      refine (laws_markText (kj + 1 + 1) _ (by omega) (by omega)).mono ?_
      rintro e w2 ⟨rfl, hb⟩
      replace g0 := HG.out.step g0 hb
      clear hb
      simp only []
      refine hK.out _ _ g0 ?_
      clear hK
      repeat ((first | (refine dyn_take rfl rfl (fun W g => by go_simp; rfl) ?_) | (refine dyn_skip rfl rfl ?_)); go_simp)
      refine dyn_done ?_
      go_wp2_with fail
      go_roundw
      case rel => exact ⟨j + 1, by omega, by go_num, by rw [HKJ.out]; go_num, g0⟩
      case measure => simp [intOf]; omega
    · obtain rfl : j = l.length := by omega
      go_wp2_with fail
      go_ret
      exact ⟨ret_int (by rw [List.take_length]), HG.out.below g0⟩
end Go.Proofs.YtejieacdfjpfnaaGreat
