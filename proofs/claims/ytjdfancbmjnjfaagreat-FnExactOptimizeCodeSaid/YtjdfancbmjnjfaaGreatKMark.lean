/-
  Merged texts: MarkItem, HeldItem, MarkVec.
-/
import Derived.Test.YtjdfancbmjnjfaaGreatKGood
import Derived.Test.YtjdfancbmjnjfaaGreatKVec
namespace Go.Proofs.YtjdfancbmjnjfaaGreat
set_option maxRecDepth 100000
set_option maxRecDepth 100000
open Go.ChangeShapes Go.WideShapes Go.ChangeAt Go.RowKit Go.Deep
set_option linter.unusedVariables false

def mkItem (_ : ItemD) (k : Int) : ItemD := ⟨k, k + 1, markT (k + 1 + 1).toNat⟩
def cItem (_ : ItemD) : Nat := 3

set_option maxHeartbeats 1000000 in
theorem laws_markItemS (S : Nat → Prop) (l : List ItemD) (v : Value) (k : Int) (w : World) (h : ItemsO S w v l) (h0 : 0 < k) (h1 : k + cntL cItem l ≤ 4611686018427387904) :
    Calls Tryz.prog 109 #[v, .int .i64 k] w (RetMark S w (k + cntL cItem l) fun w' => ItemsO S w' v (mkL mkItem cItem l k)) := by
  rcases SlO.mid h with ⟨rfl, rfl⟩ | ⟨g, cap, f, post, ys, rfl, hn, hc, hp, hM⟩
  · go_enter Tryz.func109, Tryz.ntmps109
    go_wp2_with fail
    go_loop [1, 5] (fun x i => i = .int .i64 0 ∧ x = .int .i64 k) (fun _ i => 0)
    case atStart => exact ⟨rfl, rfl⟩
    case round =>
      obtain ⟨rfl, rfl⟩ := hrel
      go_wp2_with fail
      go_ret
      exact ⟨ret_int (by simp [cntL]), SlO.nil_ _ _ _ _ _, Keeps.refl _ _, Below.refl _ _⟩
  · have HC := Lib.hid hc
    unfold maxLen at hc
    have HM := Lib.hid hM
    have HP := Lib.hid hp
    clear h hM hp
    go_enter Tryz.func109, Tryz.ntmps109
    go_wp2_with fail
    go_loopw [1, 5] (fun x i wr => ∃ (j : Nat) (y : List (List Value)), j ≤ l.length ∧ i = .int .i64 j ∧ x = .int .i64 (k + (cntL cItem (l.take j) : Int)) ∧ Hid (MidO S f wr 101 3 ItemO g post y (part mkItem cItem l k j)) ∧ Hid (Keeps (fun b => ¬ S b) w wr) ∧ Hid (Below 0 w wr)) (fun _ i _ => l.length - (intOf i).toNat)
    case atStart => exact ⟨0, ys, Nat.zero_le _, rfl, by simp [cntL], by rw [part_zero]; exact HM.out, Keeps.refl _ _, Below.refl _ _⟩
    case round =>
      obtain ⟨j, y, hj, rfl, rfl, HMj, HK, HZ⟩ := hrel
      by_cases hlt : j < l.length
      · have hcn : (cntL cItem (l.take j) : Int) + 3 ≤ cntL cItem l := by have := cntL_at cItem l j hlt; unfold cItem at this ⊢; omega
        have HKJ := Lib.hid (show k + (cntL cItem (l.take (j + 1)) : Int) = k + (cntL cItem (l.take j) : Int) + 3 by rw [cntL_take _ _ _ hlt]; unfold cItem; omega)
        have HPS := Lib.hid (part_set mkItem cItem l k j hlt)
        have hkj0 : 0 < k + (cntL cItem (l.take j) : Int) := by omega
        have hkj1 : k + (cntL cItem (l.take j) : Int) + 3 ≤ 4611686018427387904 := by omega
        clear hcn
        generalize k + (cntL cItem (l.take j) : Int) = kj at *
        obtain ⟨hy, pre, rest, hpre, hb, hset, hro⟩ := HMj.out.at_ j (by rw [part_length]; exact hlt)
        rw [part_at _ _ _ _ _ hlt] at hro
        obtain ⟨hcs, i0, i1, i2⟩ := hro
        rw [hcs] at hb
        clear hcs
        have HB := Lib.hid hb
        have HSET := Lib.hid hset
        have HPRE := Lib.hid hpre
        have hgl : g < wr.heap.size := hb.lt
        have y0 : wr.cell? ⟨g, j * 3, none⟩ = some (.int .i64 l[j].num) := by simpa using hb.mid hpre 0 _ rfl
        have y1 := hb.mid hpre 1 _ rfl
        have f0 := hb.frozen (j * 3)
        have f1 := hb.frozen (j * 3 + 1)
        clear hb hset hpre
        go_wp2_with fail
        refine abs_w (fun W => Blk W g 101 (pre ++ [.int .i64 kj, .int .i64 (kj + 1), .string (str l[j].text)] ++ rest) ∧ Keeps (fun b => b ≠ g) wr W ∧ Below 0 wr W) ⟨?_, ?_, ?_⟩ ?_
        · have q1 := (HB.out.mid_set HPRE.out 0 (.int .i64 kj) (by simp)).mid_set HPRE.out 1 (.int .i64 (kj + 1)) (by simp)
          simpa using q1
        · exact Keeps.sc (b := g) (o := j * 3 + 1) (Keeps.sc (b := g) (o := j * 3) (Keeps.refl _ wr) (by simp) (.int .i64 kj)) (by simp) (.int .i64 (kj + 1))
        · exact below_sc (b := g) (o := j * 3 + 1) (below_sc (b := g) (o := j * 3) (Below.refl 0 wr) (Nat.zero_le _) (.int .i64 kj)) (Nat.zero_le _) (.int .i64 (kj + 1))
        clear y0 y1 f0 f1
        rintro W ⟨hb2, hk2, hz2⟩
        refine (laws_markText (kj + 1 + 1) W (by omega) (by omega)).mono ?_
        rintro e w2 ⟨rfl, hb3⟩
        have hb4 := hb2.below hb3
        have hk4 := hk2.trans (Keeps.of_below _ hb3)
        have HB4 := Lib.hid hb4
        have HK4 := Lib.hid hk4
        have HZ4 := Lib.hid (HZ.out.trans (hz2.trans (hb3.mono (Nat.zero_le _))))
        have y2 := hb4.mid HPRE.out 2 _ rfl
        have f2 := hb4.frozen (j * 3 + 2)
        clear hb2 hk2 hz2 hb3 hb4 hk4
        go_wp2_with fail
        go_roundw
        case rel =>
          have hbF := HB4.out.mid_set HPRE.out 2 (.string (str (markT (kj + 1 + 1).toNat))) (by simp)
          have hkF := Keeps.sc (b := g) (o := j * 3 + 2) HK4.out (by simp) (.string (str (markT (kj + 1 + 1).toNat)))
          refine ⟨j + 1, y.set j [.int .i64 kj, .int .i64 (kj + 1), .string (str (markT (kj + 1 + 1).toNat))], by omega, by go_num, by rw [HKJ.out]; go_num, ?_, ?_, ?_⟩
          · show MidO _ _ _ _ _ _ _ _ _ _
            rw [← HPS.out]
            refine MidO.update (fun h hk => h.keeps hk) HMj.out j (by rw [part_length]; exact hlt) _ _ rfl ?_ ?_ (hkF.mono fun b hb => hb.1)
            · rw [← HSET.out]; exact hbF
            · exact ⟨rfl, by show I64 kj; exact ⟨by omega, by omega⟩, by show I64 (kj + 1); exact ⟨by omega, by omega⟩, markT_small _ (by omega)⟩
          · exact HK.out.trans (hkF.mono fun b hb => fun e => hb (by rw [e]; exact HM.out.own.1))
          · exact below_sc (b := g) (o := j * 3 + 2) HZ4.out (Nat.zero_le _) (.string (str (markT (kj + 1 + 1).toNat)))
        case measure => simp [intOf]; omega
      · obtain rfl : j = l.length := by omega
        go_wp2_with fail
        go_ret
        exact ⟨ret_int (by rw [List.take_length]), by have := HMj.out.back (cap := cap) (by rw [part_length]; exact hn) HC.out (by rw [part_length]; exact HP.out); rw [part_length, part_all] at this; exact this, HK.out, HZ.out⟩
end Go.Proofs.YtjdfancbmjnjfaaGreat
namespace Go.Proofs.YtjdfancbmjnjfaaGreat
set_option maxRecDepth 100000
open Go.ChangeShapes Go.WideShapes Go.ChangeAt Go.RowKit Go.Deep
set_option linter.unusedVariables false

theorem mkL_at {α : Type} (mk : α → Int → α) (cnt : α → Nat) : ∀ (l : List α) (k : Int) (i : Nat) (h : i < l.length) (h' : i < (mkL mk cnt l k).length), (mkL mk cnt l k)[i] = mk l[i] (k + cntL cnt (l.take i)) := by
  intro l
  induction l with
  | nil => intro k i h; simp at h
  | cons x l ih =>
    intro k i h h'
    cases i with
    | zero => simp [mkL, cntL]
    | succ i =>
      have := ih (k + cnt x) i (by simpa using h) (by rw [mkL_length]; simpa using h)
      simp only [mkL, List.getElem_cons_succ]
      rw [this]
      simp only [cntL, List.take_succ_cons, List.map_cons, List.sum_cons]
      congr 1
      omega
def RetHeld (w : World) (n : Int) (e : Ending) (w' : World) : Prop := e = .returned (.int .i64 n) ∧ Below w.heap.size w w'

set_option maxHeartbeats 1000000 in
theorem laws_heldItemS (l : List ItemD) (v : Value) (k : Int) (w : World) (h : Items w v (mkL mkItem cItem l k)) (h0 : 0 < k) (h1 : k + cntL cItem l ≤ 4611686018427387904) :
    Calls Tryz.prog 111 #[v, .int .i64 k] w (RetHeld w (k + cntL cItem l)) := by
  obtain ⟨G, g0, HG⟩ := good0 w
  obtain ⟨A, c, rfl, hlc, hm, HC⟩ := SlR.open_ h
  have HL := Lib.hid (mkL_length mkItem cItem l k)
  rw [mkL_length] at hlc ⊢
  clear h
  unfold maxLen at hm
  go_enter Tryz.func111, Tryz.ntmps111
  go_wp2_with fail
  go_loopw [1, 5] (fun x i wr => ∃ j : Nat, j ≤ l.length ∧ i = .int .i64 j ∧ x = .int .i64 (k + (cntL cItem (l.take j) : Int)) ∧ Ok G wr) (fun _ i _ => l.length - (intOf i).toNat)
  case atStart => exact ⟨0, Nat.zero_le _, rfl, by simp [cntL], g0⟩
  case round =>
    clear g0
    obtain ⟨j, hj, rfl, rfl, g0⟩ := hrel
    by_cases hlt : j < l.length
    · have hcn : (cntL cItem (l.take j) : Int) + 3 ≤ cntL cItem l := by have := cntL_at cItem l j hlt; unfold cItem at this ⊢; omega
      have HKJ := Lib.hid (show k + (cntL cItem (l.take (j + 1)) : Int) = k + (cntL cItem (l.take j) : Int) + 3 by rw [cntL_take _ _ _ hlt]; unfold cItem; omega)
      have hkj0 : 0 < k + (cntL cItem (l.take j) : Int) := by omega
      have hkj1 : k + (cntL cItem (l.take j) : Int) + 3 ≤ 4611686018427387904 := by omega
      obtain ⟨b, off, cs, rfl, hbl, _, hat, hro⟩ := HC.out j (by rw [HL.out]; exact hlt)
      rw [mkL_at _ _ _ _ _ hlt] at hro
      clear hcn
      generalize k + (cntL cItem (l.take j) : Int) = kj at *
      obtain ⟨hcs, _⟩ := hro
      have hcs2 : cs = [.int .i64 kj, .int .i64 (kj + 1), .string (str (markT (kj + 1 + 1).toNat))] := hcs
      subst hcs2
      obtain ⟨y0, y1, y2⟩ := pk_e3 HG hbl hat
      clear hat hcs
      have q0 : (kj != kj) = false := by simp
      have q1 : (kj + 1 != kj + 1) = false := by simp
      go_wp2_with fail
      refine wp_region_plan (S := Ok G) (by kernel_rfl) [(true, 0), (true, 1), (true, 2), (true, 3), (true, 4), (true, 5), (false, 6), (true, 7)] (by kernel_rfl) (HG.out.drew g0) ?_
      replace g0 := HG.out.drew g0
      repeat ((first | (refine dyn_take rfl rfl (fun W g => by go_simp; rfl) ?_) | (refine dyn_skip rfl rfl ?_)); go_simp)
      refine dyn_act rfl rfl (fun K hK => ?_)
      go_wp2_with fail
      refine (laws_markText (kj + 1 + 1) _ (by omega) (by omega)).mono ?_
      rintro e w2 ⟨rfl, hb⟩
      replace g0 := HG.out.step g0 hb
      clear hb
      simp only []
      refine hK.out _ _ g0 ?_
      clear hK
      repeat ((first | (refine dyn_take rfl rfl (fun W g => by go_simp; rfl) ?_) | (refine dyn_skip rfl rfl ?_)); go_simp)
      refine dyn_done ?_
      go_wp2_with fail
      go_roundw
      case rel => exact ⟨j + 1, by omega, by go_num, by rw [HKJ.out]; go_num, g0⟩
      case measure => simp [intOf]; omega
    · obtain rfl : j = l.length := by omega
      go_wp2_with fail
      go_ret
      exact ⟨ret_int (by rw [List.take_length]), HG.out.below g0⟩
end Go.Proofs.YtjdfancbmjnjfaaGreat
namespace Go.Proofs.YtjdfancbmjnjfaaGreat
set_option maxRecDepth 100000
open Go.ChangeShapes Go.WideShapes Go.ChangeAt Go.RowKit Go.Deep
set_option linter.unusedVariables false

mutual
def cVec : VecD → Nat
  | .mk _ i p n c l _ _ => 3 + cntL cItem i + cVecs p + n.length + c.length + l.length
def cVecs : List VecD → Nat
  | [] => 0
  | d :: l => cVec d + cVecs l
end
theorem cVecs_eq (l : List VecD) : cVecs l = cntL cVec l := by
  induction l with
  | nil => rfl
  | cons d l ih => rw [cVecs, ih]; simp [cntL]
theorem cVec_eq (d : VecD) : cVec d = 3 + cntL cItem d.items + cntL cVec d.parts + d.names.length + d.cls.length + d.levels.length := by
  cases d with
  | mk k i p n c l co en => rw [cVec, cVecs_eq]; rfl
mutual
def mkVec : VecD → Int → VecD
  | .mk _ i p n c l _ _, k => .mk k (mkL mkItem cItem i (k + 1)) (mkVecs p (k + 1 + ↑(cntL cItem i))) (markL (k + 1 + ↑(cntL cItem i) + ↑(cVecs p)).toNat n.length) (markL (k + 1 + ↑(cntL cItem i) + ↑(cVecs p) + ↑n.length).toNat c.length) (markL (k + 1 + ↑(cntL cItem i) + ↑(cVecs p) + ↑n.length + ↑c.length).toNat l.length) (k + 1 + ↑(cntL cItem i) + ↑(cVecs p) + ↑n.length + ↑c.length + ↑l.length) (k + 1 + ↑(cntL cItem i) + ↑(cVecs p) + ↑n.length + ↑c.length + ↑l.length + 1)
def mkVecs : List VecD → Int → List VecD
  | [], _ => []
  | d :: l, k => mkVec d k :: mkVecs l (k + cVec d)
end
theorem mkVecs_eq (l : List VecD) : ∀ k, mkVecs l k = mkL mkVec cVec l k := by
  induction l with
  | nil => intro k; rfl
  | cons d l ih => intro k; rw [mkVecs, ih]; rfl
theorem mkVec_eq (d : VecD) (k : Int) : mkVec d k = .mk k (mkL mkItem cItem d.items (k + 1)) (mkL mkVec cVec d.parts (k + 1 + ↑(cntL cItem d.items))) (markL (k + 1 + ↑(cntL cItem d.items) + ↑(cntL cVec d.parts)).toNat d.names.length) (markL (k + 1 + ↑(cntL cItem d.items) + ↑(cntL cVec d.parts) + ↑d.names.length).toNat d.cls.length) (markL (k + 1 + ↑(cntL cItem d.items) + ↑(cntL cVec d.parts) + ↑d.names.length + ↑d.cls.length).toNat d.levels.length) (k + 1 + ↑(cntL cItem d.items) + ↑(cntL cVec d.parts) + ↑d.names.length + ↑d.cls.length + ↑d.levels.length) (k + 1 + ↑(cntL cItem d.items) + ↑(cntL cVec d.parts) + ↑d.names.length + ↑d.cls.length + ↑d.levels.length + 1) := by
  cases d with
  | mk kd i p n c l co en => rw [mkVec, mkVecs_eq, cVecs_eq]; rfl

def MarkVecC (n : Nat) : Prop := ∀ (S : Nat → Prop) (l : List VecD) (v : Value) (k : Int) (w : World), VectorsO n S w v l → 0 < k → k + cntL cVec l ≤ 4611686018427387904 →
  Calls Tryz.prog 110 #[v, .int .i64 k] w (RetMark S w (k + cntL cVec l) fun w' => VectorsO n S w' v (mkL mkVec cVec l k))

set_option maxHeartbeats 1000000 in
theorem laws_markVectorS_n (n : Nat) (ih : ∀ m, n = m + 1 → MarkVecC m) (S : Nat → Prop) (l : List VecD) (v : Value) (k : Int) (w : World) (h : SlO S w 61 8 (VectorO n) v l) (h0 : 0 < k) (h1 : k + cntL cVec l ≤ 4611686018427387904) :
    Calls Tryz.prog 110 #[v, .int .i64 k] w (RetMark S w (k + cntL cVec l) fun w' => SlO S w' 61 8 (VectorO n) v (mkL mkVec cVec l k)) := by
  rcases SlO.mid h with ⟨rfl, rfl⟩ | ⟨g, cap, f, post, ys, rfl, hn, hc, hp, hM⟩
  · go_enter Tryz.func110, Tryz.ntmps110
    go_wp2_with fail
    go_loop [1, 5] (fun x i => i = .int .i64 0 ∧ x = .int .i64 k) (fun _ i => 0)
    case atStart => exact ⟨rfl, rfl⟩
    case round =>
      obtain ⟨rfl, rfl⟩ := hrel
      go_wp2_with fail
      go_ret
      exact ⟨ret_int (by simp [cntL]), SlO.nil_ _ _ _ _ _, Keeps.refl _ _, Below.refl _ _⟩
  · have HC := Lib.hid hc
    unfold maxLen at hc
    have HM := Lib.hid hM
    have HP := Lib.hid hp
    clear h hM hp
    go_enter Tryz.func110, Tryz.ntmps110
    go_wp2_with fail
    go_loopw [1, 5] (fun x i wr => ∃ (j : Nat) (y : List (List Value)), j ≤ l.length ∧ i = .int .i64 j ∧ x = .int .i64 (k + (cntL cVec (l.take j) : Int)) ∧ Hid (MidO S f wr 61 8 (VectorO n) g post y (part mkVec cVec l k j)) ∧ Hid (Keeps (fun b => ¬ S b) w wr) ∧ Hid (Below 0 w wr)) (fun _ i _ => l.length - (intOf i).toNat)
    case atStart => exact ⟨0, ys, Nat.zero_le _, rfl, by simp [cntL], by rw [part_zero]; exact HM.out, Keeps.refl _ _, Below.refl _ _⟩
    case round =>
      obtain ⟨j, y, hj, rfl, rfl, HMj, HK, HZ⟩ := hrel
      by_cases hlt : j < l.length
      · have hcn : (cntL cVec (l.take j) : Int) + cVec l[j] ≤ cntL cVec l := by have := cntL_at cVec l j hlt; omega
        have HKJ := Lib.hid (show k + (cntL cVec (l.take (j + 1)) : Int) = k + (cntL cVec (l.take j) : Int) + cVec l[j] by rw [cntL_take _ _ _ hlt]; omega)
        have HPS := Lib.hid (part_set mkVec cVec l k j hlt)
        have HCT := Lib.hid (cVec_eq l[j])
        have hkj0 : 0 < k + (cntL cVec (l.take j) : Int) := by omega
        have hkj1 : k + (cntL cVec (l.take j) : Int) + cVec l[j] ≤ 4611686018427387904 := by omega
        have HK1 := Lib.hid hkj1
        clear hcn hkj1
        generalize k + (cntL cVec (l.take j) : Int) = kj at *
        obtain ⟨hy, pre, rest, hpre, hb, hset, hro⟩ := HMj.out.at_ j (by rw [part_length]; exact hlt)
        rw [part_at _ _ _ _ _ hlt] at hro
        obtain ⟨m, rfl⟩ : ∃ m, n = m + 1 := by
          cases n with
          | zero => exact hro.elim
          | succ m => exact ⟨m, rfl⟩
        have IH := ih m rfl
        obtain ⟨A1, c1, A2, c2, A3, c3, A4, c4, A5, c5, f1, hcs, i0, o1, o2, o3, o4, o5, i6, i7⟩ := hro
        have Oa_0 := Lib.hid o1
        have Ob_0 := Lib.hid o2
        have Oc_0 := Lib.hid o3
        have Od_0 := Lib.hid o4
        have Oe_0 := Lib.hid o5
        clear o1 o2 o3 o4 o5
        rw [hcs] at hb
        clear hcs
        have HSET := Lib.hid hset
        have HPRE := Lib.hid hpre
        have hgl : g < wr.heap.size := hb.lt
        have HG0 := Lib.hid HM.out.own
        have HB0 := Lib.hid hb
        have HKW0 := Lib.hid (Keeps.refl (fun b => b ≠ g ∧ ¬ (S b ∧ f b = j + 1)) wr)
        have HZ0 := Lib.hid (Below.refl 0 wr)
        clear hb hset hpre
        have y0 : wr.cell? ⟨g, j * 8, none⟩ = some (.int .i64 l[j].kind) := by simpa using HB0.out.mid HPRE.out 0 _ rfl
        have z0 := HB0.out.frozen (j * 8)
        have y1 := HB0.out.mid HPRE.out 1 _ rfl
        have z1 := HB0.out.frozen (j * 8 + 1)
        have hkb : kj + 3 ≤ 4611686018427387904 := by have := HCT.out; have := HK1.out; omega
        have hkc : 0 < kj := by omega
        go_wp2_with fail
        refine abs_w (fun W => Blk W g 61 (pre ++ [.int .i64 (kj), .slice A1 l[j].items.length c1, .slice A2 l[j].parts.length c2, .slice A3 l[j].names.length c3, .slice A4 l[j].cls.length c4, .slice A5 l[j].levels.length c5, .int .i64 l[j].code, .int .i64 l[j].env] ++ rest) ∧ Keeps (fun b => b ≠ g ∧ ¬ (S b ∧ f b = j + 1)) wr W ∧ Below 0 wr W ∧ ItemsO (fun b => (S b ∧ f b = j + 1) ∧ f1 b = 1) W (.slice A1 l[j].items.length c1) l[j].items ∧ VectorsO m (fun b => (S b ∧ f b = j + 1) ∧ f1 b = 2) W (.slice A2 l[j].parts.length c2) l[j].parts ∧ TxtO (fun b => (S b ∧ f b = j + 1) ∧ f1 b = 3) W (.slice A3 l[j].names.length c3) l[j].names ∧ TxtO (fun b => (S b ∧ f b = j + 1) ∧ f1 b = 4) W (.slice A4 l[j].cls.length c4) l[j].cls ∧ TxtO (fun b => (S b ∧ f b = j + 1) ∧ f1 b = 5) W (.slice A5 l[j].levels.length c5) l[j].levels) ⟨?_, ?_, ?_, ?_, ?_, ?_, ?_, ?_⟩ ?_
        · simpa using (HB0.out.mid_set HPRE.out 0 (.int .i64 (kj)) (by simp))
        · exact Keeps.sc (b := g) (o := j * 8) (HKW0.out) (by simp) (.int .i64 (kj))
        · exact below_sc (b := g) (o := j * 8) (HZ0.out) (Nat.zero_le _) (.int .i64 (kj))
        · exact ItemsO.keeps Oa_0.out (Keeps.sc (b := g) (o := j * 8) (Keeps.refl _ wr) (fun hq => by have h5 := HG0.out.2; have h6 := hq.1; omega) (.int .i64 (kj)))
        · exact VectorsO.keeps Ob_0.out (Keeps.sc (b := g) (o := j * 8) (Keeps.refl _ wr) (fun hq => by have h5 := HG0.out.2; have h6 := hq.1; omega) (.int .i64 (kj)))
        · exact TxtO.keeps Oc_0.out (Keeps.sc (b := g) (o := j * 8) (Keeps.refl _ wr) (fun hq => by have h5 := HG0.out.2; have h6 := hq.1; omega) (.int .i64 (kj)))
        · exact TxtO.keeps Od_0.out (Keeps.sc (b := g) (o := j * 8) (Keeps.refl _ wr) (fun hq => by have h5 := HG0.out.2; have h6 := hq.1; omega) (.int .i64 (kj)))
        · exact TxtO.keeps Oe_0.out (Keeps.sc (b := g) (o := j * 8) (Keeps.refl _ wr) (fun hq => by have h5 := HG0.out.2; have h6 := hq.1; omega) (.int .i64 (kj)))
        clear y0 z0 y1 z1 hkb hkc
        rintro W1 ⟨hq0, hq1, hq2, hoa, hob, hoc, hod, hoe⟩
        have HB1 := Lib.hid hq0
        have HKW1 := Lib.hid hq1
        have HZ1 := Lib.hid hq2
        have Oa_1 := Lib.hid hoa
        have Ob_1 := Lib.hid hob
        have Oc_1 := Lib.hid hoc
        have Od_1 := Lib.hid hod
        have Oe_1 := Lib.hid hoe
        clear hq0 hq1 hq2 hoa hob hoc hod hoe
        have hh := laws_markItemS (fun b => (S b ∧ f b = j + 1) ∧ f1 b = 1) l[j].items _ (kj + 1) _ Oa_1.out (by omega) (by have := HCT.out; have := HK1.out; omega)
        refine Calls.mono hh ?_
        clear hh
        rintro e w2 ⟨rfl, ho, hk, hz⟩
        have HB2 := Lib.hid (HB1.out.keeps hk (fun hq => by have h5 := HG0.out.2; have h6 := hq.1; omega))
        have HKW2 := Lib.hid (HKW1.out.trans (hk.mono fun b hb hq => hb.2 hq.1))
        have HZ2 := Lib.hid (HZ1.out.trans hz)
        have Oa_2 := Lib.hid ho
        have Ob_2 := Lib.hid (VectorsO.keeps Ob_1.out (hk.mono fun b hb hq => by have h5 := hb.1; have h6 := hb.2; have h7 := hq.1; have h8 := hq.2; omega))
        have Oc_2 := Lib.hid (TxtO.keeps Oc_1.out (hk.mono fun b hb hq => by have h5 := hb.1; have h6 := hb.2; have h7 := hq.1; have h8 := hq.2; omega))
        have Od_2 := Lib.hid (TxtO.keeps Od_1.out (hk.mono fun b hb hq => by have h5 := hb.1; have h6 := hb.2; have h7 := hq.1; have h8 := hq.2; omega))
        have Oe_2 := Lib.hid (TxtO.keeps Oe_1.out (hk.mono fun b hb hq => by have h5 := hb.1; have h6 := hb.2; have h7 := hq.1; have h8 := hq.2; omega))
        clear ho hk hz 
        have y2 := HB2.out.mid HPRE.out 2 _ rfl
        have z2 := HB2.out.frozen (j * 8 + 2)
        have hkb : kj + 1 + ↑(cntL cItem l[j].items) + 2 ≤ 4611686018427387904 := by have := HCT.out; have := HK1.out; omega
        have hkc : 0 < kj + 1 + ↑(cntL cItem l[j].items) := by omega
        go_wp2_with fail
        have hh := IH (fun b => (S b ∧ f b = j + 1) ∧ f1 b = 2) l[j].parts _ (kj + 1 + ↑(cntL cItem l[j].items)) _ Ob_2.out (by omega) (by have := HCT.out; have := HK1.out; omega)
        refine Calls.mono hh ?_
        clear hh
        rintro e w3 ⟨rfl, ho, hk, hz⟩
        have HB3 := Lib.hid (HB2.out.keeps hk (fun hq => by have h5 := HG0.out.2; have h6 := hq.1; omega))
        have HKW3 := Lib.hid (HKW2.out.trans (hk.mono fun b hb hq => hb.2 hq.1))
        have HZ3 := Lib.hid (HZ2.out.trans hz)
        have Oa_3 := Lib.hid (ItemsO.keeps Oa_2.out (hk.mono fun b hb hq => by have h5 := hb.1; have h6 := hb.2; have h7 := hq.1; have h8 := hq.2; omega))
        have Ob_3 := Lib.hid ho
        have Oc_3 := Lib.hid (TxtO.keeps Oc_2.out (hk.mono fun b hb hq => by have h5 := hb.1; have h6 := hb.2; have h7 := hq.1; have h8 := hq.2; omega))
        have Od_3 := Lib.hid (TxtO.keeps Od_2.out (hk.mono fun b hb hq => by have h5 := hb.1; have h6 := hb.2; have h7 := hq.1; have h8 := hq.2; omega))
        have Oe_3 := Lib.hid (TxtO.keeps Oe_2.out (hk.mono fun b hb hq => by have h5 := hb.1; have h6 := hb.2; have h7 := hq.1; have h8 := hq.2; omega))
        clear ho hk hz y2 z2 hkb hkc
        have y3 := HB3.out.mid HPRE.out 3 _ rfl
        have z3 := HB3.out.frozen (j * 8 + 3)
        have hkb : kj + 1 + ↑(cntL cItem l[j].items) + ↑(cntL cVec l[j].parts) + 2 ≤ 4611686018427387904 := by have := HCT.out; have := HK1.out; omega
        have hkc : 0 < kj + 1 + ↑(cntL cItem l[j].items) + ↑(cntL cVec l[j].parts) := by omega
        go_wp2_with fail
        have hh := laws_markTxt (fun b => (S b ∧ f b = j + 1) ∧ f1 b = 3) l[j].names _ (kj + 1 + ↑(cntL cItem l[j].items) + ↑(cntL cVec l[j].parts)) _ Oc_3.out (by omega) (by have := HCT.out; have := HK1.out; omega)
        refine Calls.mono hh ?_
        clear hh
        rintro e w4 ⟨rfl, ho, hk, hz⟩
        have HB4 := Lib.hid (HB3.out.keeps hk (fun hq => by have h5 := HG0.out.2; have h6 := hq.1; omega))
        have HKW4 := Lib.hid (HKW3.out.trans (hk.mono fun b hb hq => hb.2 hq.1))
        have HZ4 := Lib.hid (HZ3.out.trans hz)
        have Oa_4 := Lib.hid (ItemsO.keeps Oa_3.out (hk.mono fun b hb hq => by have h5 := hb.1; have h6 := hb.2; have h7 := hq.1; have h8 := hq.2; omega))
        have Ob_4 := Lib.hid (VectorsO.keeps Ob_3.out (hk.mono fun b hb hq => by have h5 := hb.1; have h6 := hb.2; have h7 := hq.1; have h8 := hq.2; omega))
        have Oc_4 := Lib.hid ho
        have Od_4 := Lib.hid (TxtO.keeps Od_3.out (hk.mono fun b hb hq => by have h5 := hb.1; have h6 := hb.2; have h7 := hq.1; have h8 := hq.2; omega))
        have Oe_4 := Lib.hid (TxtO.keeps Oe_3.out (hk.mono fun b hb hq => by have h5 := hb.1; have h6 := hb.2; have h7 := hq.1; have h8 := hq.2; omega))
        clear ho hk hz y3 z3 hkb hkc
        have y4 := HB4.out.mid HPRE.out 4 _ rfl
        have z4 := HB4.out.frozen (j * 8 + 4)
        have hkb : kj + 1 + ↑(cntL cItem l[j].items) + ↑(cntL cVec l[j].parts) + ↑l[j].names.length + 2 ≤ 4611686018427387904 := by have := HCT.out; have := HK1.out; omega
        have hkc : 0 < kj + 1 + ↑(cntL cItem l[j].items) + ↑(cntL cVec l[j].parts) + ↑l[j].names.length := by omega
        go_wp2_with fail
        have hh := laws_markTxt (fun b => (S b ∧ f b = j + 1) ∧ f1 b = 4) l[j].cls _ (kj + 1 + ↑(cntL cItem l[j].items) + ↑(cntL cVec l[j].parts) + ↑l[j].names.length) _ Od_4.out (by omega) (by have := HCT.out; have := HK1.out; omega)
        refine Calls.mono hh ?_
        clear hh
        rintro e w5 ⟨rfl, ho, hk, hz⟩
        have HB5 := Lib.hid (HB4.out.keeps hk (fun hq => by have h5 := HG0.out.2; have h6 := hq.1; omega))
        have HKW5 := Lib.hid (HKW4.out.trans (hk.mono fun b hb hq => hb.2 hq.1))
        have HZ5 := Lib.hid (HZ4.out.trans hz)
        have Oa_5 := Lib.hid (ItemsO.keeps Oa_4.out (hk.mono fun b hb hq => by have h5 := hb.1; have h6 := hb.2; have h7 := hq.1; have h8 := hq.2; omega))
        have Ob_5 := Lib.hid (VectorsO.keeps Ob_4.out (hk.mono fun b hb hq => by have h5 := hb.1; have h6 := hb.2; have h7 := hq.1; have h8 := hq.2; omega))
        have Oc_5 := Lib.hid (TxtO.keeps Oc_4.out (hk.mono fun b hb hq => by have h5 := hb.1; have h6 := hb.2; have h7 := hq.1; have h8 := hq.2; omega))
        have Od_5 := Lib.hid ho
        have Oe_5 := Lib.hid (TxtO.keeps Oe_4.out (hk.mono fun b hb hq => by have h5 := hb.1; have h6 := hb.2; have h7 := hq.1; have h8 := hq.2; omega))
        clear ho hk hz y4 z4 hkb hkc
        have y5 := HB5.out.mid HPRE.out 5 _ rfl
        have z5 := HB5.out.frozen (j * 8 + 5)
        have hkb : kj + 1 + ↑(cntL cItem l[j].items) + ↑(cntL cVec l[j].parts) + ↑l[j].names.length + ↑l[j].cls.length + 2 ≤ 4611686018427387904 := by have := HCT.out; have := HK1.out; omega
        have hkc : 0 < kj + 1 + ↑(cntL cItem l[j].items) + ↑(cntL cVec l[j].parts) + ↑l[j].names.length + ↑l[j].cls.length := by omega
        go_wp2_with fail
        have hh := laws_markTxt (fun b => (S b ∧ f b = j + 1) ∧ f1 b = 5) l[j].levels _ (kj + 1 + ↑(cntL cItem l[j].items) + ↑(cntL cVec l[j].parts) + ↑l[j].names.length + ↑l[j].cls.length) _ Oe_5.out (by omega) (by have := HCT.out; have := HK1.out; omega)
        refine Calls.mono hh ?_
        clear hh
        rintro e w6 ⟨rfl, ho, hk, hz⟩
        have HB6 := Lib.hid (HB5.out.keeps hk (fun hq => by have h5 := HG0.out.2; have h6 := hq.1; omega))
        have HKW6 := Lib.hid (HKW5.out.trans (hk.mono fun b hb hq => hb.2 hq.1))
        have HZ6 := Lib.hid (HZ5.out.trans hz)
        have Oa_6 := Lib.hid (ItemsO.keeps Oa_5.out (hk.mono fun b hb hq => by have h5 := hb.1; have h6 := hb.2; have h7 := hq.1; have h8 := hq.2; omega))
        have Ob_6 := Lib.hid (VectorsO.keeps Ob_5.out (hk.mono fun b hb hq => by have h5 := hb.1; have h6 := hb.2; have h7 := hq.1; have h8 := hq.2; omega))
        have Oc_6 := Lib.hid (TxtO.keeps Oc_5.out (hk.mono fun b hb hq => by have h5 := hb.1; have h6 := hb.2; have h7 := hq.1; have h8 := hq.2; omega))
        have Od_6 := Lib.hid (TxtO.keeps Od_5.out (hk.mono fun b hb hq => by have h5 := hb.1; have h6 := hb.2; have h7 := hq.1; have h8 := hq.2; omega))
        have Oe_6 := Lib.hid ho
        clear ho hk hz y5 z5 hkb hkc
        have y6 := HB6.out.mid HPRE.out 6 _ rfl
        have z6 := HB6.out.frozen (j * 8 + 6)
        have y7 := HB6.out.mid HPRE.out 7 _ rfl
        have z7 := HB6.out.frozen (j * 8 + 7)
        have hkb : kj + 1 + ↑(cntL cItem l[j].items) + ↑(cntL cVec l[j].parts) + ↑l[j].names.length + ↑l[j].cls.length + ↑l[j].levels.length + 2 ≤ 4611686018427387904 := by have := HCT.out; have := HK1.out; omega
        have hkc : 0 < kj + 1 + ↑(cntL cItem l[j].items) + ↑(cntL cVec l[j].parts) + ↑l[j].names.length + ↑l[j].cls.length + ↑l[j].levels.length := by omega
        go_wp2_with fail
        go_roundw
        case rel =>
          have hbF := ((HB6.out.mid_set HPRE.out 6 (.int .i64 (kj + 1 + ↑(cntL cItem l[j].items) + ↑(cntL cVec l[j].parts) + ↑l[j].names.length + ↑l[j].cls.length + ↑l[j].levels.length)) (by simp)).mid_set HPRE.out 7 (.int .i64 (kj + 1 + ↑(cntL cItem l[j].items) + ↑(cntL cVec l[j].parts) + ↑l[j].names.length + ↑l[j].cls.length + ↑l[j].levels.length + 1)) (by simp))
          have hkF := Keeps.sc (b := g) (o := j * 8 + 7) (Keeps.sc (b := g) (o := j * 8 + 6) (HKW6.out) (by simp) (.int .i64 (kj + 1 + ↑(cntL cItem l[j].items) + ↑(cntL cVec l[j].parts) + ↑l[j].names.length + ↑l[j].cls.length + ↑l[j].levels.length))) (by simp) (.int .i64 (kj + 1 + ↑(cntL cItem l[j].items) + ↑(cntL cVec l[j].parts) + ↑l[j].names.length + ↑l[j].cls.length + ↑l[j].levels.length + 1))
          have hzF := below_sc (b := g) (o := j * 8 + 7) (below_sc (b := g) (o := j * 8 + 6) (HZ6.out) (Nat.zero_le _) (.int .i64 (kj + 1 + ↑(cntL cItem l[j].items) + ↑(cntL cVec l[j].parts) + ↑l[j].names.length + ↑l[j].cls.length + ↑l[j].levels.length))) (Nat.zero_le _) (.int .i64 (kj + 1 + ↑(cntL cItem l[j].items) + ↑(cntL cVec l[j].parts) + ↑l[j].names.length + ↑l[j].cls.length + ↑l[j].levels.length + 1))
          have hOa := ItemsO.keeps Oa_6.out (Keeps.sc (b := g) (o := j * 8 + 7) (Keeps.sc (b := g) (o := j * 8 + 6) (Keeps.refl _ w6) (fun hq => by have h5 := HG0.out.2; have h6 := hq.1; omega) (.int .i64 (kj + 1 + ↑(cntL cItem l[j].items) + ↑(cntL cVec l[j].parts) + ↑l[j].names.length + ↑l[j].cls.length + ↑l[j].levels.length))) (fun hq => by have h5 := HG0.out.2; have h6 := hq.1; omega) (.int .i64 (kj + 1 + ↑(cntL cItem l[j].items) + ↑(cntL cVec l[j].parts) + ↑l[j].names.length + ↑l[j].cls.length + ↑l[j].levels.length + 1)))
          have hOb := VectorsO.keeps Ob_6.out (Keeps.sc (b := g) (o := j * 8 + 7) (Keeps.sc (b := g) (o := j * 8 + 6) (Keeps.refl _ w6) (fun hq => by have h5 := HG0.out.2; have h6 := hq.1; omega) (.int .i64 (kj + 1 + ↑(cntL cItem l[j].items) + ↑(cntL cVec l[j].parts) + ↑l[j].names.length + ↑l[j].cls.length + ↑l[j].levels.length))) (fun hq => by have h5 := HG0.out.2; have h6 := hq.1; omega) (.int .i64 (kj + 1 + ↑(cntL cItem l[j].items) + ↑(cntL cVec l[j].parts) + ↑l[j].names.length + ↑l[j].cls.length + ↑l[j].levels.length + 1)))
          have hOc := TxtO.keeps Oc_6.out (Keeps.sc (b := g) (o := j * 8 + 7) (Keeps.sc (b := g) (o := j * 8 + 6) (Keeps.refl _ w6) (fun hq => by have h5 := HG0.out.2; have h6 := hq.1; omega) (.int .i64 (kj + 1 + ↑(cntL cItem l[j].items) + ↑(cntL cVec l[j].parts) + ↑l[j].names.length + ↑l[j].cls.length + ↑l[j].levels.length))) (fun hq => by have h5 := HG0.out.2; have h6 := hq.1; omega) (.int .i64 (kj + 1 + ↑(cntL cItem l[j].items) + ↑(cntL cVec l[j].parts) + ↑l[j].names.length + ↑l[j].cls.length + ↑l[j].levels.length + 1)))
          have hOd := TxtO.keeps Od_6.out (Keeps.sc (b := g) (o := j * 8 + 7) (Keeps.sc (b := g) (o := j * 8 + 6) (Keeps.refl _ w6) (fun hq => by have h5 := HG0.out.2; have h6 := hq.1; omega) (.int .i64 (kj + 1 + ↑(cntL cItem l[j].items) + ↑(cntL cVec l[j].parts) + ↑l[j].names.length + ↑l[j].cls.length + ↑l[j].levels.length))) (fun hq => by have h5 := HG0.out.2; have h6 := hq.1; omega) (.int .i64 (kj + 1 + ↑(cntL cItem l[j].items) + ↑(cntL cVec l[j].parts) + ↑l[j].names.length + ↑l[j].cls.length + ↑l[j].levels.length + 1)))
          have hOe := TxtO.keeps Oe_6.out (Keeps.sc (b := g) (o := j * 8 + 7) (Keeps.sc (b := g) (o := j * 8 + 6) (Keeps.refl _ w6) (fun hq => by have h5 := HG0.out.2; have h6 := hq.1; omega) (.int .i64 (kj + 1 + ↑(cntL cItem l[j].items) + ↑(cntL cVec l[j].parts) + ↑l[j].names.length + ↑l[j].cls.length + ↑l[j].levels.length))) (fun hq => by have h5 := HG0.out.2; have h6 := hq.1; omega) (.int .i64 (kj + 1 + ↑(cntL cItem l[j].items) + ↑(cntL cVec l[j].parts) + ↑l[j].names.length + ↑l[j].cls.length + ↑l[j].levels.length + 1)))
          refine ⟨j + 1, y.set j [.int .i64 (kj), .slice A1 l[j].items.length c1, .slice A2 l[j].parts.length c2, .slice A3 l[j].names.length c3, .slice A4 l[j].cls.length c4, .slice A5 l[j].levels.length c5, .int .i64 (kj + 1 + ↑(cntL cItem l[j].items) + ↑(cntL cVec l[j].parts) + ↑l[j].names.length + ↑l[j].cls.length + ↑l[j].levels.length), .int .i64 (kj + 1 + ↑(cntL cItem l[j].items) + ↑(cntL cVec l[j].parts) + ↑l[j].names.length + ↑l[j].cls.length + ↑l[j].levels.length + 1)], by omega, by go_num, by rw [HKJ.out]; congr 1; have := HCT.out; omega, ?_, ?_, ?_⟩
          · show MidO _ _ _ _ _ _ _ _ _ _
            rw [← HPS.out]
            refine MidO.update (fun h hk => h.keeps hk) HMj.out j (by rw [part_length]; exact hlt) _ _ rfl ?_ ?_ hkF
            · rw [← HSET.out]; simpa using hbF
            · have e1 := mkVec_eq l[j] kj
              refine ⟨A1, c1, A2, c2, A3, c3, A4, c4, A5, c5, f1, ?_, ?_, ?_, ?_, ?_, ?_, ?_, ?_, ?_⟩
              · rw [e1]; simp only [VecD.kind, VecD.items, VecD.parts, VecD.names, VecD.cls, VecD.levels, VecD.code, VecD.env, mkL_length, markL_length]
              · rw [e1]; simp only [VecD.kind]; exact ⟨by omega, by have := HCT.out; have := HK1.out; omega⟩
              · rw [e1]; simpa only [VecD.items, mkL_length] using hOa
              · rw [e1]; unfold VectorsO at hOb; simpa only [VecD.parts, mkL_length] using hOb
              · rw [e1]; simpa only [VecD.names, markL_length] using hOc
              · rw [e1]; simpa only [VecD.cls, markL_length] using hOd
              · rw [e1]; simpa only [VecD.levels, markL_length] using hOe
              · rw [e1]; simp only [VecD.code]; exact ⟨by omega, by have := HCT.out; have := HK1.out; omega⟩
              · rw [e1]; simp only [VecD.env]; exact ⟨by omega, by have := HCT.out; have := HK1.out; omega⟩
          · exact HK.out.trans (hkF.mono fun b hb => ⟨fun e => hb (by rw [e]; exact HG0.out.1), fun hq => hb hq.1⟩)
          · exact HZ.out.trans hzF
        case measure => simp [intOf]; omega
      · obtain rfl : j = l.length := by omega
        go_wp2_with fail
        go_ret
        exact ⟨ret_int (by rw [List.take_length]), by have := HMj.out.back (cap := cap) (by rw [part_length]; exact hn) HC.out (by rw [part_length]; exact HP.out); rw [part_length, part_all] at this; exact this, HK.out, HZ.out⟩
theorem markVec_all : ∀ n, MarkVecC n := by
  intro n
  induction n with
  | zero => exact fun S l v k w h h0 h1 => laws_markVectorS_n 0 (fun m h => by omega) S l v k w h h0 h1
  | succ n ih => exact fun S l v k w h h0 h1 => laws_markVectorS_n (n + 1) (fun m h => (Nat.succ.inj h) ▸ ih) S l v k w h h0 h1
end Go.Proofs.YtjdfancbmjnjfaaGreat
