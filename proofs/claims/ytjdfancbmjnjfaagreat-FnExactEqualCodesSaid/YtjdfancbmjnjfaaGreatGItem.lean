/-
  Item: what values of this type read as; contracts of the laws' helpers on them (written by wip/gen/gen3.py).
-/
import Derived.Test.YtjdfancbmjnjfaaGreatSlOwn
namespace Go.Proofs.YtjdfancbmjnjfaaGreat
set_option maxRecDepth 100000
open Go.ChangeShapes Go.WideShapes Go.ChangeAt Go.RowKit Go.Deep

structure ItemD where
  num : Int
  den : Int
  text : List UInt8

/-- the cells of a Item -/
def ItemR (_ : World) (cs : List Value) (d : ItemD) : Prop :=
  cs = [.int .i64 d.num, .int .i64 d.den, .string (str d.text)] ∧ I64 d.num ∧ I64 d.den ∧ d.text.length ≤ maxLen
theorem ItemR.below {w w' : World} {cs : List Value} {d : ItemD} (h : ItemR w cs d) (_hb : Below w.heap.size w w') : ItemR w' cs d := by
  obtain ⟨rfl, h0, h1, h2⟩ := h
  exact ⟨rfl, h0, h1, h2⟩
theorem ItemR.shape {w : World} {cs : List Value} {d : ItemD} (h : ItemR w cs d) : cs = [.int .i64 d.num, .int .i64 d.den, .string (str d.text)] := by
  obtain ⟨rfl, _⟩ := h
  exact rfl
theorem ItemR.length {w : World} {cs : List Value} {d : ItemD} (h : ItemR w cs d) : cs.length = 3 := by
  obtain ⟨rfl, _⟩ := h
  rfl
/-- the cells of a Item whose slices lie in blocks of its own, in S -/
def ItemO (_ : Nat → Prop) (_ : World) (cs : List Value) (d : ItemD) : Prop :=
  cs = [.int .i64 d.num, .int .i64 d.den, .string (str d.text)] ∧ I64 d.num ∧ I64 d.den ∧ d.text.length ≤ maxLen
theorem ItemO.read {S : Nat → Prop} {w : World} {cs : List Value} {d : ItemD} (h : ItemO S w cs d) : ItemR w cs d := by
  obtain ⟨rfl, h0, h1, h2⟩ := h
  exact ⟨rfl, h0, h1, h2⟩
theorem ItemO.keeps {S : Nat → Prop} {w w' : World} {cs : List Value} {d : ItemD} (h : ItemO S w cs d) (_hk : Keeps S w w') : ItemO S w' cs d := by
  obtain ⟨rfl, h0, h1, h2⟩ := h
  exact ⟨rfl, h0, h1, h2⟩
theorem ItemO.mono {S S' : Nat → Prop} {w : World} {cs : List Value} {d : ItemD} (h : ItemO S w cs d) (_hs : ∀ b, S b → S' b) : ItemO S' w cs d := by
  obtain ⟨rfl, h0, h1, h2⟩ := h
  exact ⟨rfl, h0, h1, h2⟩
theorem ItemO.shape {S : Nat → Prop} {w : World} {cs : List Value} {d : ItemD} (h : ItemO S w cs d) : cs = [.int .i64 d.num, .int .i64 d.den, .string (str d.text)] := by
  obtain ⟨rfl, _⟩ := h
  exact rfl
theorem ItemO.length {S : Nat → Prop} {w : World} {cs : List Value} {d : ItemD} (h : ItemO S w cs d) : cs.length = 3 := by
  obtain ⟨rfl, _⟩ := h
  rfl

def szItem (d : ItemD) : Nat := d.text.length

set_option maxHeartbeats 1000000 in
theorem laws_szItem (d : ItemD) (cs : List Value) (left : Int) (w : World) (h : ItemR w cs d) (h0 : 0 ≤ left) (h1 : left ≤ 1048576) :
    Calls Tryz.prog 153 #[.agg cs.toArray, .int .i64 left] w fun e w' => e = .returned (.int .i64 (szR left (szItem d))) ∧ Below w.heap.size w w' := by
  obtain ⟨rfl, _q0, _q1, q2⟩ := h
  unfold maxLen at q2
  have hE : szItem d = d.text.length := rfl
  have HE := Lib.hid hE
  clear hE
  have HWB := Lib.hid (show Below w.heap.size w (w.alloc (.cells #[.int .i64 d.num, .int .i64 d.den, .string (str d.text)] 137)) from (Below.refl _ _).alloc (Nat.le_refl _) _)
  by_cases hz2 : ((d.text.length : Nat) : Int) ≤ left
  rotate_left
  · go_enter Tryz.func153, Tryz.ntmps153
    go_wp2_with fail
    go_ret
    exact ⟨ret_int (by have h9 := HE.out; rw [szR_neg (by omega)]), by exact HWB.out⟩
  go_enter Tryz.func153, Tryz.ntmps153
  go_wp2_with fail
  go_ret
  exact ⟨ret_int (by have h9 := HE.out; rw [szR_pos (by omega)]; omega), by exact HWB.out⟩

def RetItem (w : World) (d : ItemD) (e : Ending) (w' : World) : Prop := ∃ cs, e = .returned (.agg cs.toArray) ∧ ItemO (Rng w.heap.size w'.heap.size) w' cs d ∧ Below w.heap.size w w'
set_option maxHeartbeats 4000000 in
theorem laws_toItem (d : ItemD) (cs : List Value) (w : World) (h : ItemR w cs d) :
    Calls Tryz.prog 155 #[.agg cs.toArray] w (RetItem w d) := by
  obtain ⟨rfl, q0, q1, q2⟩ := h
  have QQ := Lib.hid (show True ∧ I64 d.num ∧ I64 d.den ∧ d.text.length ≤ maxLen from ⟨trivial, q0, q1, q2⟩)
  clear q0 q1 q2
  go_enter Tryz.func155, Tryz.ntmps155
  go_wp2_with fail
  exact bodyPost_ret (v := .agg #[.int .i64 d.num, .int .i64 d.den, .string (str d.text)]) (by simp [results, Tryz.results155, go_sem]) rfl ⟨_, rfl, ⟨rfl, QQ.out.2⟩, (((Below.refl _ _).alloc (Nat.le_refl _) _).alloc (by simp) _).alloc (by simp; omega) _⟩

set_option maxHeartbeats 1000000 in
theorem laws_eqItem_same (d : ItemD) (cs cs' : List Value) (w : World) (h : ItemR w cs d) (h' : ItemR w cs' d) :
    Calls Tryz.prog 157 #[.agg cs.toArray, .agg cs'.toArray] w fun e w' => e = .returned (.bool true) ∧ Below w.heap.size w w' := by
  obtain ⟨rfl, _q0, _q1, _q2⟩ := h
  obtain ⟨rfl, _p0, _p1, _p2⟩ := h'
  go_enter Tryz.func157, Tryz.ntmps157
  go_wp2_with fail
  go_ret
  exact ⟨rfl, ((Below.refl _ _).alloc (Nat.le_refl _) _).alloc (by simp) _⟩

theorem open_ItemR {H : Type} {enc : TypeId × Value → H} {w : World} {base : Nat} {spare : Nat → Bool} {held : Bool} {n : Nat} {cs : List Value} {x : DataW H × List MemPlace} (h : DataW.trod enc Tryz.prog w base spare held n 137 cs = some x) : ∃ d, ItemR w cs d := by
  obtain ⟨hlen, n', hn, hg⟩ := open_field Tryz.underlying137 h
  match cs, hlen.trans (show Tryz.prog.cellsOf 137 = 3 by kernel_rfl) with
  | [c0, c1, c2], _ =>
    obtain ⟨y0, g0⟩ := hg 0 _ rfl
    rw [show List.take (Tryz.prog.cellsOf _) (List.drop _ [c0, c1, c2]) = [c0] by simp [cells_int]] at g0
    obtain ⟨d0, e0, r0⟩ := open_i64 Tryz.underlying3 g0
    obtain ⟨y1, g1⟩ := hg 1 _ rfl
    rw [show List.take (Tryz.prog.cellsOf _) (List.drop _ [c0, c1, c2]) = [c1] by simp [cells_int]] at g1
    obtain ⟨d1, e1, r1⟩ := open_i64 Tryz.underlying3 g1
    obtain ⟨y2, g2⟩ := hg 2 _ rfl
    rw [show List.take (Tryz.prog.cellsOf _) (List.drop _ [c0, c1, c2]) = [c2] by simp [cells_string]] at g2
    obtain ⟨d2, e2, r2⟩ := open_str Tryz.underlying9 g2
    simp only [List.cons.injEq, and_true] at e0
    subst e0
    simp only [List.cons.injEq, and_true] at e1
    subst e1
    simp only [List.cons.injEq, and_true] at e2
    subst e2
    exact ⟨⟨d0, d1, d2⟩, rfl, r0, r1, r2⟩

def Items (w : World) (v : Value) (l : List ItemD) : Prop := SlR w 3 (ItemR w) v l
theorem Items.below {w w' : World} {v : Value} {l : List ItemD} (h : Items w v l) (hb : Below w.heap.size w w') : Items w' v l := SlR.below h hb (fun _ _ h => h.below hb)
def ItemsO (S : Nat → Prop) (w : World) (v : Value) (l : List ItemD) : Prop := SlO S w 101 3 ItemO v l
theorem ItemsO.read {S : Nat → Prop} {w : World} {v : Value} {l : List ItemD} (h : ItemsO S w v l) : Items w v l := SlO.read (fun _ h => h.read) h
theorem ItemsO.keeps {S : Nat → Prop} {w w' : World} {v : Value} {l : List ItemD} (h : ItemsO S w v l) (hk : Keeps S w w') : ItemsO S w' v l := SlO.keeps (fun _ h k => h.keeps k) h hk
theorem ItemsO.mono {S S' : Nat → Prop} {w : World} {v : Value} {l : List ItemD} (h : ItemsO S w v l) (hs : ∀ b, S b → S' b) : ItemsO S' w v l := SlO.mono (fun _ h k => h.mono k) h hs
theorem cells_slice_Item : Tryz.prog.cellsOf 108 = 1 := by kernel_rfl
theorem info_Item : (Tryz.prog.info? 101).map (fun i => (i.zero, i.size, i.bytes)) = some (some (.agg #[.int .i64 0, .int .i64 0, .string ByteArray.empty]), 3, 32) := by kernel_rfl
set_option maxHeartbeats 1000000 in
theorem laws_szItemS (l : List ItemD) (v : Value) (left : Int) (w : World) (h : Items w v l) (h0 : 0 ≤ left) (h1 : left ≤ 1048576) :
    Calls Tryz.prog 141 #[v, .int .i64 left] w fun e w' => e = .returned (.int .i64 (szR left (szS szItem l))) ∧ Below w.heap.size w w' := by
  obtain ⟨A, c, rfl, hlc, hm, HC⟩ := SlR.open_ h
  clear h
  unfold maxLen at hm
  by_cases hle : (l.length : Int) ≤ left
  · go_enter Tryz.func141, Tryz.ntmps141
    go_wp2_with fail
    go_loopw [1, 5] (fun x i wr => ∃ k : Nat, k ≤ l.length ∧ i = .int .i64 k ∧ ∃ y : Int, x = .int .i64 y ∧ 0 ≤ y ∧ y ≤ 1048576 ∧ Hid (y = left - l.length - (szS szItem (l.take k) - k : Int)) ∧ Below w.heap.size w wr) (fun _ i _ => l.length - (intOf i).toNat)
    case atStart => exact ⟨0, Nat.zero_le _, rfl, _, rfl, by omega, by omega, by show _ = _; rw [szS_zero]; simp, Below.refl _ _⟩
    case round =>
      obtain ⟨k, hk, rfl, y, rfl, hy0, hy1, hy, hb⟩ := hrel
      by_cases hlt : k < l.length
      · obtain ⟨b, off, cs, rfl, hbl, _, hat, hr⟩ := HC.out k hlt
        have HRK := Lib.hid (hr.below hb)
        obtain rfl := hr.shape
        have x0 := (hb.cell (p := ⟨b, off + k * 3, none⟩) hbl).trans (by simpa using hat 0 _ rfl)
        have x1 := (hb.cell (p := ⟨b, off + k * 3 + 1, none⟩) hbl).trans (hat 1 _ rfl)
        have x2 := (hb.cell (p := ⟨b, off + k * 3 + 2, none⟩) hbl).trans (hat 2 _ rfl)
        have HS := Lib.hid (szS_take_succ szItem l k hlt)
        clear hat hr
        go_wp2_with fail
        refine (laws_szItem l[k] _ y _ HRK.out hy0 hy1).mono ?_
        rintro e w1 ⟨rfl, hb1⟩
        have HB1 := Lib.hid (hb.trans (hb1.mono hb.size))
        clear hb1 x0 x1 x2
        by_cases hle2 : (szItem l[k] : Int) ≤ y
        · rw [szR_pos hle2]
          go_wp2_with fail
          go_roundw
          case rel => exact ⟨k + 1, by omega, by go_num, _, rfl, by omega, by omega, by have := hy.out; have := HS.out; show _ = _; omega, HB1.out⟩
          case measure => simp [intOf]; omega
        · rw [szR_neg hle2]
          go_wp2_with fail
          go_ret
          refine ⟨ret_int ?_, HB1.out⟩
          have h9 := szS_take_le szItem l (k + 1)
          rw [List.length_drop] at h9
          have := hy.out
          have := HS.out
          rw [szR_neg (by omega)]
      · obtain rfl : k = l.length := by omega
        rw [List.take_length] at hy
        go_wp2_with fail
        go_ret
        refine ⟨ret_int ?_, hb⟩
        have := hy.out
        rw [szR_pos (by omega)]
        omega
  · have h9 := szS_length szItem l
    have HR := Lib.hid (szR_neg (left := left) (n := szS szItem l) (by omega))
    go_enter Tryz.func141, Tryz.ntmps141
    go_wp2
    go_ret
    exact ⟨ret_int HR.out.symm, Below.refl _ _⟩

set_option maxHeartbeats 2000000 in
theorem laws_toItemS (l : List ItemD) (v : Value) (w : World) (h : Items w v l) (hz : szS szItem l ≤ 1048576) :
    Calls Tryz.prog 144 #[v] w fun e w' => ∃ A c, e = .returned (.slice A l.length c) ∧ ItemsO (Rng w.heap.size w'.heap.size) w' (.slice A l.length c) l ∧ Below w.heap.size w w' := by
  have hl := szS_length szItem l
  obtain ⟨A, c, rfl, hlc, hm, HC⟩ := SlR.open_ h
  clear h
  unfold maxLen at hm
  have hmk := run_mk (P := Tryz.prog) w 58 101 _ 3 32 Tryz.underlying58 info_Item l.length (by omega) (by omega)
  go_enter Tryz.func144, Tryz.ntmps144
  go_wp2
  clear hmk
  go_loopw [4] (fun i wr => ∃ k : Nat, k ≤ l.length ∧ i = .int .i64 k ∧ CopyO wr w.heap.size 101 3 l.length k (ItemO) l ∧ Below w.heap.size w wr ∧ w.heap.size < wr.heap.size) (fun i _ => l.length - (intOf i).toNat)
  case atStart => exact ⟨0, Nat.zero_le _, rfl, CopyO.start _ _ _ _ _ _ _ (by simp [size_madeCells]), (Below.refl _ _).alloc (Nat.le_refl _) _, by simp⟩
  case round =>
    obtain ⟨k, hk, rfl, hf, hb, hgt⟩ := hrel
    by_cases hlt : k < l.length
    · obtain ⟨b, off, cs, rfl, hbl, _, hat, hr⟩ := HC.out k hlt
      have HRK := Lib.hid (hr.below hb)
      obtain rfl := hr.shape
      have x0 := (hb.cell (p := ⟨b, off + k * 3, none⟩) hbl).trans (by simpa using hat 0 _ rfl)
      have x1 := (hb.cell (p := ⟨b, off + k * 3 + 1, none⟩) hbl).trans (hat 1 _ rfl)
      have x2 := (hb.cell (p := ⟨b, off + k * 3 + 2, none⟩) hbl).trans (hat 2 _ rfl)
      clear hat hr
      have hsk := szS_at szItem l k hlt
      go_wp2_with fail
      refine (laws_toItem l[k] _ _ HRK.out).mono ?_
      rintro e w1 ⟨cs1, rfl, ho1, hb1⟩
      have HST := Lib.hid (CopyO.step (fun _ h k => h.keeps k) (fun _ h k => h.mono k) hf hb1 hlt hlt cs1 ho1.length ho1)
      have HB1 := Lib.hid (hb.trans (hb1.mono hb.size))
      have hg1 : w.heap.size < w1.heap.size := Nat.lt_of_lt_of_le hgt hb1.size
      obtain ⟨_, _, _, hfl, _⟩ := hf
      have hf1 := hfl.keep (hb1.block _ hfl.lt)
      obtain rfl := ho1.shape
      clear hb1 x0 x1 x2 hfl ho1
      obtain ⟨t0, ht0⟩ := hf1.cell (k * 3) (by omega)
      have hz0 := hf1.frozen (k * 3)
      obtain ⟨t1, ht1⟩ := hf1.cell (k * 3 + 1) (by omega)
      have hz1 := hf1.frozen (k * 3 + 1)
      obtain ⟨t2, ht2⟩ := hf1.cell (k * 3 + 2) (by omega)
      have hz2 := hf1.frozen (k * 3 + 2)
      have HF1 := Lib.hid hf1
      clear hf1
      go_wp2_with fail
      go_roundw
      case rel => exact ⟨k + 1, by omega, by go_num, by exact HST.out, by exact (below_sc (below_sc (below_sc HB1.out (Nat.le_refl _) _) (Nat.le_refl _) _) (Nat.le_refl _) _), by simp only [size_sc]; exact hg1⟩
      case measure => simp [intOf]; omega
    · obtain rfl : k = l.length := by omega
      have ho := Lib.hid (CopyO.own (fun _ h k => h.mono k) hf (by unfold maxLen; omega))
      clear hf
      go_wp2_with fail
      go_ret
      exact ⟨_, _, rfl, ho.out, hb⟩

set_option maxHeartbeats 1000000 in
theorem laws_eqItemS_same (l : List ItemD) (v u : Value) (w : World) (h : Items w v l) (h' : Items w u l) :
    Calls Tryz.prog 151 #[v, u] w fun e w' => e = .returned (.bool true) ∧ Below w.heap.size w w' := by
  obtain ⟨A, c, rfl, hlc, hm, HC⟩ := SlR.open_ h
  obtain ⟨A', c', rfl, hlc', hm', HC'⟩ := SlR.open_ h'
  clear h h'
  unfold maxLen at hm hm'
  go_enter Tryz.func151, Tryz.ntmps151
  go_wp2
  go_loopw [5] (fun i wr => ∃ k : Nat, k ≤ l.length ∧ i = .int .i64 k ∧ Below w.heap.size w wr) (fun i _ => l.length - (intOf i).toNat)
  case atStart => exact ⟨0, Nat.zero_le _, rfl, Below.refl _ _⟩
  case round =>
    obtain ⟨k, hk, rfl, hb⟩ := hrel
    by_cases hlt : k < l.length
    · obtain ⟨b, off, cs, rfl, hbl, _, hat, hr⟩ := HC.out k hlt
      have HRK := Lib.hid (hr.below hb)
      obtain rfl := hr.shape
      have x0 := (hb.cell (p := ⟨b, off + k * 3, none⟩) hbl).trans (by simpa using hat 0 _ rfl)
      have x1 := (hb.cell (p := ⟨b, off + k * 3 + 1, none⟩) hbl).trans (hat 1 _ rfl)
      have x2 := (hb.cell (p := ⟨b, off + k * 3 + 2, none⟩) hbl).trans (hat 2 _ rfl)
      clear hat hr
      obtain ⟨b', off', cs', rfl, hbl', _, hat, hr⟩ := HC'.out k hlt
      have HRL := Lib.hid (hr.below hb)
      obtain rfl := hr.shape
      have y0 := (hb.cell (p := ⟨b', off' + k * 3, none⟩) hbl').trans (by simpa using hat 0 _ rfl)
      have y1 := (hb.cell (p := ⟨b', off' + k * 3 + 1, none⟩) hbl').trans (hat 1 _ rfl)
      have y2 := (hb.cell (p := ⟨b', off' + k * 3 + 2, none⟩) hbl').trans (hat 2 _ rfl)
      clear hat hr
      go_wp2_with fail
      go_still_tail 8, (by kernel_rfl)
      change wpList _ _ _ _ _ wr.drew
      have hb2 : Below w.heap.size w wr.drew := hb.drew
      replace HRK := Lib.hid (show ItemR wr.drew _ _ from HRK.out.below (Below.drew (Below.refl _ _)))
      replace HRL := Lib.hid (show ItemR wr.drew _ _ from HRL.out.below (Below.drew (Below.refl _ _)))
      generalize wr.drew = w2 at *
      go_wp2_with fail
      refine (laws_eqItem_same l[k] _ _ _ HRK.out HRL.out).mono ?_
      rintro e w3 ⟨rfl, hb3⟩
      have HB3 := Lib.hid (hb2.trans (hb3.mono hb2.size))
      clear hb3
      go_wp2_with fail
      go_roundw
      case rel => exact ⟨k + 1, by omega, by go_num, HB3.out⟩
      case measure => simp [intOf]; omega
    · go_wp2_with fail
      go_ret
      exact ⟨rfl, hb⟩

end Go.Proofs.YtjdfancbmjnjfaaGreat
