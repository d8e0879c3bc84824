/-
  Marking items.
-/
import Derived.Test.YtejieacdfjpfnaaGreatMarks
import Derived.Test.YtejieacdfjpfnaaGreatGItem
namespace Go.Proofs.YtejieacdfjpfnaaGreat
set_option maxRecDepth 100000
open Go.ChangeShapes Go.WideShapes Go.ChangeAt Go.RowKit Go.Deep
set_option linter.unusedVariables false

def mkItem (_ : ItemD) (k : Int) : ItemD := ⟨k, k + 1, markT (k + 1 + 1).toNat⟩
def cItem (_ : ItemD) : Nat := 3

set_option maxHeartbeats 1000000 in
theorem laws_markItemS (S : Nat → Prop) (l : List ItemD) (v : Value) (k : Int) (w : World) (h : ItemsO S w v l) (h0 : 0 < k) (h1 : k + cntL cItem l ≤ 4611686018427387904) :
    Calls Tryz.prog 63 #[v, .int .i64 k] w (RetMark S w (k + cntL cItem l) fun w' => ItemsO S w' v (mkL mkItem cItem l k)) := by
  rcases SlO.mid h with ⟨rfl, rfl⟩ | ⟨g, cap, f, post, ys, rfl, hn, hc, hp, hM⟩
  · go_enter Tryz.func63, Tryz.ntmps63
    go_wp2_with fail
    go_loop [1, 5] (fun x i => i = .int .i64 0 ∧ x = .int .i64 k) (fun _ i => 0)
    case atStart => exact ⟨rfl, rfl⟩
    case round =>
      obtain ⟨rfl, rfl⟩ := hrel
      go_wp2_with fail
      go_ret
      exact ⟨ret_int (by simp [cntL]), SlO.nil_ _ _ _ _ _, Keeps.refl _ _, Below.refl _ _⟩
  · have HC := Lib.hid hc
    unfold maxLen at hc
    have HM := Lib.hid hM
    have HP := Lib.hid hp
    clear h hM hp
    go_enter Tryz.func63, Tryz.ntmps63
    go_wp2_with fail
    go_loopw [1, 5] (fun x i wr => ∃ (j : Nat) (y : List (List Value)), j ≤ l.length ∧ i = .int .i64 j ∧ x = .int .i64 (k + (cntL cItem (l.take j) : Int)) ∧ Hid (MidO S f wr 143 3 ItemO g post y (part mkItem cItem l k j)) ∧ Hid (Keeps (fun b => ¬ S b) w wr) ∧ Hid (Below 0 w wr)) (fun _ i _ => l.length - (intOf i).toNat)
    case atStart => exact ⟨0, ys, Nat.zero_le _, rfl, by simp [cntL], by rw [part_zero]; exact HM.out, Keeps.refl _ _, Below.refl _ _⟩
    case round =>
      obtain ⟨j, y, hj, rfl, rfl, HMj, HK, HZ⟩ := hrel
      by_cases hlt : j < l.length
      · have hcn : (cntL cItem (l.take j) : Int) + 3 ≤ cntL cItem l := by have := cntL_at cItem l j hlt; unfold cItem at this ⊢; omega
        have HKJ := Lib.hid (show k + (cntL cItem (l.take (j + 1)) : Int) = k + (cntL cItem (l.take j) : Int) + 3 by rw [cntL_take _ _ _ hlt]; unfold cItem; omega)
        have HPS := Lib.hid (part_set mkItem cItem l k j hlt)
        have hkj0 : 0 < k + (cntL cItem (l.take j) : Int) := by omega
        have hkj1 : k + (cntL cItem (l.take j) : Int) + 3 ≤ 4611686018427387904 := by omega
        clear hcn
        generalize k + (cntL cItem (l.take j) : Int) = kj at *
        obtain ⟨hy, pre, rest, hpre, hb, hset, hro⟩ := HMj.out.at_ j (by rw [part_length]; exact hlt)
        rw [part_at _ _ _ _ _ hlt] at hro
        obtain ⟨hcs, i0, i1, i2⟩ := hro
        rw [hcs] at hb
        clear hcs
        have HB := Lib.hid hb
        have HSET := Lib.hid hset
        have HPRE := Lib.hid hpre
        have hgl : g < wr.heap.size := hb.lt
        have y0 : wr.cell? ⟨g, j * 3, none⟩ = some (.int .i64 l[j].num) := by simpa using hb.mid hpre 0 _ rfl
        have y1 := hb.mid hpre 1 _ rfl
        have f0 := hb.frozen (j * 3)
        have f1 := hb.frozen (j * 3 + 1)
        clear hb hset hpre
        go_wp2_with fail
        refine abs_w (fun W => Blk W g 143 (pre ++ [.int .i64 kj, .int .i64 (kj + 1), .string (str l[j].text)] ++ rest) ∧ Keeps (fun b => b ≠ g) wr W ∧ Below 0 wr W) ⟨?_, ?_, ?_⟩ ?_
        · have q1 := (HB.out.mid_set HPRE.out 0 (.int .i64 kj) (by simp)).mid_set HPRE.out 1 (.int .i64 (kj + 1)) (by simp)
          simpa using q1
        · exact Keeps.sc (b := g) (o := j * 3 + 1) (Keeps.sc (b := g) (o := j * 3) (Keeps.refl _ wr) (by simp) (.int .i64 kj)) (by simp) (.int .i64 (kj + 1))
        · exact below_sc (b := g) (o := j * 3 + 1) (below_sc (b := g) (o := j * 3) (Below.refl 0 wr) (Nat.zero_le _) (.int .i64 kj)) (Nat.zero_le _) (.int .i64 (kj + 1))
        clear y0 y1 f0 f1
        rintro W ⟨hb2, hk2, hz2⟩
        refine (laws_markText (kj + 1 + 1) W (by omega) (by omega)).mono ?_
        rintro e w2 ⟨rfl, hb3⟩
        have hb4 := hb2.below hb3
        have hk4 := hk2.trans (Keeps.of_below _ hb3)
        have HB4 := Lib.hid hb4
        have HK4 := Lib.hid hk4
        have HZ4 := Lib.hid (HZ.out.trans (hz2.trans (hb3.mono (Nat.zero_le _))))
        have y2 := hb4.mid HPRE.out 2 _ rfl
        have f2 := hb4.frozen (j * 3 + 2)
        clear hb2 hk2 hz2 hb3 hb4 hk4
        go_wp2_with fail
        go_roundw
        case rel =>
          have hbF := HB4.out.mid_set HPRE.out 2 (.string (str (markT (kj + 1 + 1).toNat))) (by simp)
          have hkF := Keeps.sc (b := g) (o := j * 3 + 2) HK4.out (by simp) (.string (str (markT (kj + 1 + 1).toNat)))
          refine ⟨j + 1, y.set j [.int .i64 kj, .int .i64 (kj + 1), .string (str (markT (kj + 1 + 1).toNat))], by omega, by go_num, by rw [HKJ.out]; go_num, ?_, ?_, ?_⟩
          · show MidO _ _ _ _ _ _ _ _ _ _
            rw [← HPS.out]
            refine MidO.update (fun h hk => h.keeps hk) HMj.out j (by rw [part_length]; exact hlt) _ _ rfl ?_ ?_ (hkF.mono fun b hb => hb.1)
            · rw [← HSET.out]; exact hbF
            · exact ⟨rfl, by show I64 kj; exact ⟨by omega, by omega⟩, by show I64 (kj + 1); exact ⟨by omega, by omega⟩, markT_small _ (by omega)⟩
          · exact HK.out.trans (hkF.mono fun b hb => fun e => hb (by rw [e]; exact HM.out.own.1))
          · exact below_sc (b := g) (o := j * 3 + 2) HZ4.out (Nat.zero_le _) (.string (str (markT (kj + 1 + 1).toNat)))
        case measure => simp [intOf]; omega
      · obtain rfl : j = l.length := by omega
        go_wp2_with fail
        go_ret
        exact ⟨ret_int (by rw [List.take_length]), by have := HMj.out.back (cap := cap) (by rw [part_length]; exact hn) HC.out (by rw [part_length]; exact HP.out); rw [part_length, part_all] at this; exact this, HK.out, HZ.out⟩
end Go.Proofs.YtejieacdfjpfnaaGreat
