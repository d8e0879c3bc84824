/-
  Merged texts: GItem, VecData, GVector, VecAll.
-/
import Derived.Test.YtjdfancbmjnjfaaGreatKBase
namespace Go.Proofs.YtjdfancbmjnjfaaGreat
set_option maxRecDepth 100000
set_option maxRecDepth 100000
open Go.ChangeShapes Go.WideShapes Go.ChangeAt Go.RowKit Go.Deep

structure ItemD where
  num : Int
  den : Int
  text : List UInt8

/-- the cells of a Item -/
def ItemR (_ : World) (cs : List Value) (d : ItemD) : Prop :=
  cs = [.int .i64 d.num, .int .i64 d.den, .string (str d.text)] ∧ I64 d.num ∧ I64 d.den ∧ d.text.length ≤ maxLen
theorem ItemR.below {w w' : World} {cs : List Value} {d : ItemD} (h : ItemR w cs d) (_hb : Below w.heap.size w w') : ItemR w' cs d := by
  obtain ⟨rfl, h0, h1, h2⟩ := h
  exact ⟨rfl, h0, h1, h2⟩
theorem ItemR.shape {w : World} {cs : List Value} {d : ItemD} (h : ItemR w cs d) : cs = [.int .i64 d.num, .int .i64 d.den, .string (str d.text)] := by
  obtain ⟨rfl, _⟩ := h
  exact rfl
/-- the cells of a Item whose slices lie in blocks of its own, in S -/
def ItemO (_ : Nat → Prop) (_ : World) (cs : List Value) (d : ItemD) : Prop :=
  cs = [.int .i64 d.num, .int .i64 d.den, .string (str d.text)] ∧ I64 d.num ∧ I64 d.den ∧ d.text.length ≤ maxLen
theorem ItemO.read {S : Nat → Prop} {w : World} {cs : List Value} {d : ItemD} (h : ItemO S w cs d) : ItemR w cs d := by
  obtain ⟨rfl, h0, h1, h2⟩ := h
  exact ⟨rfl, h0, h1, h2⟩
theorem ItemO.keeps {S : Nat → Prop} {w w' : World} {cs : List Value} {d : ItemD} (h : ItemO S w cs d) (_hk : Keeps S w w') : ItemO S w' cs d := by
  obtain ⟨rfl, h0, h1, h2⟩ := h
  exact ⟨rfl, h0, h1, h2⟩
theorem ItemO.mono {S S' : Nat → Prop} {w : World} {cs : List Value} {d : ItemD} (h : ItemO S w cs d) (_hs : ∀ b, S b → S' b) : ItemO S' w cs d := by
  obtain ⟨rfl, h0, h1, h2⟩ := h
  exact ⟨rfl, h0, h1, h2⟩
theorem ItemO.shape {S : Nat → Prop} {w : World} {cs : List Value} {d : ItemD} (h : ItemO S w cs d) : cs = [.int .i64 d.num, .int .i64 d.den, .string (str d.text)] := by
  obtain ⟨rfl, _⟩ := h
  exact rfl
theorem ItemO.length {S : Nat → Prop} {w : World} {cs : List Value} {d : ItemD} (h : ItemO S w cs d) : cs.length = 3 := by
  obtain ⟨rfl, _⟩ := h
  rfl

def szItem (d : ItemD) : Nat := d.text.length

set_option maxHeartbeats 1000000 in
theorem laws_szItem (d : ItemD) (cs : List Value) (left : Int) (w : World) (h : ItemR w cs d) (h0 : 0 ≤ left) (h1 : left ≤ 1048576) :
    Calls Tryz.prog 153 #[.agg cs.toArray, .int .i64 left] w fun e w' => e = .returned (.int .i64 (szR left (szItem d))) ∧ Below w.heap.size w w' := by
  obtain ⟨rfl, _q0, _q1, q2⟩ := h
  unfold maxLen at q2
  have hE : szItem d = d.text.length := rfl
  have HE := Lib.hid hE
  clear hE
  have HWB := Lib.hid (show Below w.heap.size w (w.alloc (.cells #[.int .i64 d.num, .int .i64 d.den, .string (str d.text)] 137)) from (Below.refl _ _).alloc (Nat.le_refl _) _)
  by_cases hz2 : ((d.text.length : Nat) : Int) ≤ left
  rotate_left
  · go_enter Tryz.func153, Tryz.ntmps153
    go_wp2_with fail
    go_ret
    exact ⟨ret_int (by have h9 := HE.out; rw [szR_neg (by omega)]), by exact HWB.out⟩
  go_enter Tryz.func153, Tryz.ntmps153
  go_wp2_with fail
  go_ret
  exact ⟨ret_int (by have h9 := HE.out; rw [szR_pos (by omega)]; omega), by exact HWB.out⟩

def RetItem (w : World) (d : ItemD) (e : Ending) (w' : World) : Prop := ∃ cs, e = .returned (.agg cs.toArray) ∧ ItemO (Rng w.heap.size w'.heap.size) w' cs d ∧ Below w.heap.size w w'
set_option maxHeartbeats 4000000 in
theorem laws_toItem (d : ItemD) (cs : List Value) (w : World) (h : ItemR w cs d) :
    Calls Tryz.prog 155 #[.agg cs.toArray] w (RetItem w d) := by
  obtain ⟨rfl, q0, q1, q2⟩ := h
  have QQ := Lib.hid (show True ∧ I64 d.num ∧ I64 d.den ∧ d.text.length ≤ maxLen from ⟨trivial, q0, q1, q2⟩)
  clear q0 q1 q2
  go_enter Tryz.func155, Tryz.ntmps155
  go_wp2_with fail
  exact bodyPost_ret (v := .agg #[.int .i64 d.num, .int .i64 d.den, .string (str d.text)]) (by simp [results, Tryz.results155, go_sem]) rfl ⟨_, rfl, ⟨rfl, QQ.out.2⟩, (((Below.refl _ _).alloc (Nat.le_refl _) _).alloc (by simp) _).alloc (by simp; omega) _⟩

set_option maxHeartbeats 1000000 in
theorem laws_eqItem_same (d : ItemD) (cs cs' : List Value) (w : World) (h : ItemR w cs d) (h' : ItemR w cs' d) :
    Calls Tryz.prog 157 #[.agg cs.toArray, .agg cs'.toArray] w fun e w' => e = .returned (.bool true) ∧ Below w.heap.size w w' := by
  obtain ⟨rfl, _q0, _q1, _q2⟩ := h
  obtain ⟨rfl, _p0, _p1, _p2⟩ := h'
  go_enter Tryz.func157, Tryz.ntmps157
  go_wp2_with fail
  go_ret
  exact ⟨rfl, ((Below.refl _ _).alloc (Nat.le_refl _) _).alloc (by simp) _⟩

theorem open_ItemR {H : Type} {enc : TypeId × Value → H} {w : World} {base : Nat} {spare : Nat → Bool} {held : Bool} {n : Nat} {cs : List Value} {x : DataW H × List MemPlace} (h : DataW.trod enc Tryz.prog w base spare held n 137 cs = some x) : ∃ d, ItemR w cs d := by
  obtain ⟨hlen, n', hn, hg⟩ := open_field Tryz.underlying137 h
  match cs, hlen.trans (show Tryz.prog.cellsOf 137 = 3 by kernel_rfl) with
  | [c0, c1, c2], _ =>
    obtain ⟨y0, g0⟩ := hg 0 _ rfl
    rw [show List.take (Tryz.prog.cellsOf _) (List.drop _ [c0, c1, c2]) = [c0] by simp [cells_int]] at g0
    obtain ⟨d0, e0, r0⟩ := open_i64 Tryz.underlying3 g0
    obtain ⟨y1, g1⟩ := hg 1 _ rfl
    rw [show List.take (Tryz.prog.cellsOf _) (List.drop _ [c0, c1, c2]) = [c1] by simp [cells_int]] at g1
    obtain ⟨d1, e1, r1⟩ := open_i64 Tryz.underlying3 g1
    obtain ⟨y2, g2⟩ := hg 2 _ rfl
    rw [show List.take (Tryz.prog.cellsOf _) (List.drop _ [c0, c1, c2]) = [c2] by simp [cells_string]] at g2
    obtain ⟨d2, e2, r2⟩ := open_str Tryz.underlying9 g2
    simp only [List.cons.injEq, and_true] at e0
    subst e0
    simp only [List.cons.injEq, and_true] at e1
    subst e1
    simp only [List.cons.injEq, and_true] at e2
    subst e2
    exact ⟨⟨d0, d1, d2⟩, rfl, r0, r1, r2⟩

def Items (w : World) (v : Value) (l : List ItemD) : Prop := SlR w 3 (ItemR w) v l
theorem Items.below {w w' : World} {v : Value} {l : List ItemD} (h : Items w v l) (hb : Below w.heap.size w w') : Items w' v l := SlR.below h hb (fun _ _ h => h.below hb)
def ItemsO (S : Nat → Prop) (w : World) (v : Value) (l : List ItemD) : Prop := SlO S w 101 3 ItemO v l
theorem ItemsO.read {S : Nat → Prop} {w : World} {v : Value} {l : List ItemD} (h : ItemsO S w v l) : Items w v l := SlO.read (fun _ h => h.read) h
theorem ItemsO.keeps {S : Nat → Prop} {w w' : World} {v : Value} {l : List ItemD} (h : ItemsO S w v l) (hk : Keeps S w w') : ItemsO S w' v l := SlO.keeps (fun _ h k => h.keeps k) h hk
theorem ItemsO.mono {S S' : Nat → Prop} {w : World} {v : Value} {l : List ItemD} (h : ItemsO S w v l) (hs : ∀ b, S b → S' b) : ItemsO S' w v l := SlO.mono (fun _ h k => h.mono k) h hs
theorem cells_slice_Item : Tryz.prog.cellsOf 108 = 1 := by kernel_rfl
theorem info_Item : (Tryz.prog.info? 101).map (fun i => (i.zero, i.size, i.bytes)) = some (some (.agg #[.int .i64 0, .int .i64 0, .string ByteArray.empty]), 3, 32) := by kernel_rfl
set_option maxHeartbeats 1000000 in
theorem laws_szItemS (l : List ItemD) (v : Value) (left : Int) (w : World) (h : Items w v l) (h0 : 0 ≤ left) (h1 : left ≤ 1048576) :
    Calls Tryz.prog 141 #[v, .int .i64 left] w fun e w' => e = .returned (.int .i64 (szR left (szS szItem l))) ∧ Below w.heap.size w w' := by
  obtain ⟨A, c, rfl, hlc, hm, HC⟩ := SlR.open_ h
  clear h
  unfold maxLen at hm
  by_cases hle : (l.length : Int) ≤ left
  · go_enter Tryz.func141, Tryz.ntmps141
    go_wp2_with fail
    go_loopw [1, 5] (fun x i wr => ∃ k : Nat, k ≤ l.length ∧ i = .int .i64 k ∧ ∃ y : Int, x = .int .i64 y ∧ 0 ≤ y ∧ y ≤ 1048576 ∧ Hid (y = left - l.length - (szS szItem (l.take k) - k : Int)) ∧ Below w.heap.size w wr) (fun _ i _ => l.length - (intOf i).toNat)
    case atStart => exact ⟨0, Nat.zero_le _, rfl, _, rfl, by omega, by omega, by show _ = _; rw [szS_zero]; simp, Below.refl _ _⟩
    case round =>
      obtain ⟨k, hk, rfl, y, rfl, hy0, hy1, hy, hb⟩ := hrel
      by_cases hlt : k < l.length
      · obtain ⟨b, off, cs, rfl, hbl, _, hat, hr⟩ := HC.out k hlt
        have HRK := Lib.hid (hr.below hb)
        obtain rfl := hr.shape
        have x0 := (hb.cell (p := ⟨b, off + k * 3, none⟩) hbl).trans (by simpa using hat 0 _ rfl)
        have x1 := (hb.cell (p := ⟨b, off + k * 3 + 1, none⟩) hbl).trans (hat 1 _ rfl)
        have x2 := (hb.cell (p := ⟨b, off + k * 3 + 2, none⟩) hbl).trans (hat 2 _ rfl)
        have HS := Lib.hid (szS_take_succ szItem l k hlt)
        clear hat hr
        go_wp2_with fail
        refine (laws_szItem l[k] _ y _ HRK.out hy0 hy1).mono ?_
        rintro e w1 ⟨rfl, hb1⟩
        have HB1 := Lib.hid (hb.trans (hb1.mono hb.size))
        clear hb1 x0 x1 x2
        by_cases hle2 : (szItem l[k] : Int) ≤ y
        · rw [szR_pos hle2]
          go_wp2_with fail
          go_roundw
          case rel => exact ⟨k + 1, by omega, by go_num, _, rfl, by omega, by omega, by have := hy.out; have := HS.out; show _ = _; omega, HB1.out⟩
          case measure => simp [intOf]; omega
        · rw [szR_neg hle2]
          go_wp2_with fail
          go_ret
          refine ⟨ret_int ?_, HB1.out⟩
          have h9 := szS_take_le szItem l (k + 1)
          rw [List.length_drop] at h9
          have := hy.out
          have := HS.out
          rw [szR_neg (by omega)]
      · obtain rfl : k = l.length := by omega
        rw [List.take_length] at hy
        go_wp2_with fail
        go_ret
        refine ⟨ret_int ?_, hb⟩
        have := hy.out
        rw [szR_pos (by omega)]
        omega
  · have h9 := szS_length szItem l
    have HR := Lib.hid (szR_neg (left := left) (n := szS szItem l) (by omega))
    go_enter Tryz.func141, Tryz.ntmps141
    go_wp2
    go_ret
    exact ⟨ret_int HR.out.symm, Below.refl _ _⟩

set_option maxHeartbeats 2000000 in
theorem laws_toItemS (l : List ItemD) (v : Value) (w : World) (h : Items w v l) (hz : szS szItem l ≤ 1048576) :
    Calls Tryz.prog 144 #[v] w fun e w' => ∃ A c, e = .returned (.slice A l.length c) ∧ ItemsO (Rng w.heap.size w'.heap.size) w' (.slice A l.length c) l ∧ Below w.heap.size w w' := by
  have hl := szS_length szItem l
  obtain ⟨A, c, rfl, hlc, hm, HC⟩ := SlR.open_ h
  clear h
  unfold maxLen at hm
  have hmk := run_mk (P := Tryz.prog) w 58 101 _ 3 32 Tryz.underlying58 info_Item l.length (by omega) (by omega)
  go_enter Tryz.func144, Tryz.ntmps144
  go_wp2
  clear hmk
  go_loopw [4] (fun i wr => ∃ k : Nat, k ≤ l.length ∧ i = .int .i64 k ∧ CopyO wr w.heap.size 101 3 l.length k (ItemO) l ∧ Below w.heap.size w wr ∧ w.heap.size < wr.heap.size) (fun i _ => l.length - (intOf i).toNat)
  case atStart => exact ⟨0, Nat.zero_le _, rfl, CopyO.start _ _ _ _ _ _ _ (by simp [size_madeCells]), (Below.refl _ _).alloc (Nat.le_refl _) _, by simp⟩
  case round =>
    obtain ⟨k, hk, rfl, hf, hb, hgt⟩ := hrel
    by_cases hlt : k < l.length
    · obtain ⟨b, off, cs, rfl, hbl, _, hat, hr⟩ := HC.out k hlt
      have HRK := Lib.hid (hr.below hb)
      obtain rfl := hr.shape
      have x0 := (hb.cell (p := ⟨b, off + k * 3, none⟩) hbl).trans (by simpa using hat 0 _ rfl)
      have x1 := (hb.cell (p := ⟨b, off + k * 3 + 1, none⟩) hbl).trans (hat 1 _ rfl)
      have x2 := (hb.cell (p := ⟨b, off + k * 3 + 2, none⟩) hbl).trans (hat 2 _ rfl)
      clear hat hr
      have hsk := szS_at szItem l k hlt
      go_wp2_with fail
      refine (laws_toItem l[k] _ _ HRK.out).mono ?_
      rintro e w1 ⟨cs1, rfl, ho1, hb1⟩
      have HST := Lib.hid (CopyO.step (fun _ h k => h.keeps k) (fun _ h k => h.mono k) hf hb1 hlt hlt cs1 ho1.length ho1)
      have HB1 := Lib.hid (hb.trans (hb1.mono hb.size))
      have hg1 : w.heap.size < w1.heap.size := Nat.lt_of_lt_of_le hgt hb1.size
      obtain ⟨_, _, _, hfl, _⟩ := hf
      have hf1 := hfl.keep (hb1.block _ hfl.lt)
      obtain rfl := ho1.shape
      clear hb1 x0 x1 x2 hfl ho1
      obtain ⟨t0, ht0⟩ := hf1.cell (k * 3) (by omega)
      have hz0 := hf1.frozen (k * 3)
      obtain ⟨t1, ht1⟩ := hf1.cell (k * 3 + 1) (by omega)
      have hz1 := hf1.frozen (k * 3 + 1)
      obtain ⟨t2, ht2⟩ := hf1.cell (k * 3 + 2) (by omega)
      have hz2 := hf1.frozen (k * 3 + 2)
      have HF1 := Lib.hid hf1
      clear hf1
      go_wp2_with fail
      go_roundw
      case rel => exact ⟨k + 1, by omega, by go_num, by exact HST.out, by exact (below_sc (below_sc (below_sc HB1.out (Nat.le_refl _) _) (Nat.le_refl _) _) (Nat.le_refl _) _), by simp only [size_sc]; exact hg1⟩
      case measure => simp [intOf]; omega
    · obtain rfl : k = l.length := by omega
      have ho := Lib.hid (CopyO.own (fun _ h k => h.mono k) hf (by unfold maxLen; omega))
      clear hf
      go_wp2_with fail
      go_ret
      exact ⟨_, _, rfl, ho.out, hb⟩

set_option maxHeartbeats 1000000 in
theorem laws_eqItemS_same (l : List ItemD) (v u : Value) (w : World) (h : Items w v l) (h' : Items w u l) :
    Calls Tryz.prog 151 #[v, u] w fun e w' => e = .returned (.bool true) ∧ Below w.heap.size w w' := by
  obtain ⟨A, c, rfl, hlc, hm, HC⟩ := SlR.open_ h
  obtain ⟨A', c', rfl, hlc', hm', HC'⟩ := SlR.open_ h'
  clear h h'
  unfold maxLen at hm hm'
  go_enter Tryz.func151, Tryz.ntmps151
  go_wp2
  go_loopw [5] (fun i wr => ∃ k : Nat, k ≤ l.length ∧ i = .int .i64 k ∧ Below w.heap.size w wr) (fun i _ => l.length - (intOf i).toNat)
  case atStart => exact ⟨0, Nat.zero_le _, rfl, Below.refl _ _⟩
  case round =>
    obtain ⟨k, hk, rfl, hb⟩ := hrel
    by_cases hlt : k < l.length
    · obtain ⟨b, off, cs, rfl, hbl, _, hat, hr⟩ := HC.out k hlt
      have HRK := Lib.hid (hr.below hb)
      obtain rfl := hr.shape
      have x0 := (hb.cell (p := ⟨b, off + k * 3, none⟩) hbl).trans (by simpa using hat 0 _ rfl)
      have x1 := (hb.cell (p := ⟨b, off + k * 3 + 1, none⟩) hbl).trans (hat 1 _ rfl)
      have x2 := (hb.cell (p := ⟨b, off + k * 3 + 2, none⟩) hbl).trans (hat 2 _ rfl)
      clear hat hr
      obtain ⟨b', off', cs', rfl, hbl', _, hat, hr⟩ := HC'.out k hlt
      have HRL := Lib.hid (hr.below hb)
      obtain rfl := hr.shape
      have y0 := (hb.cell (p := ⟨b', off' + k * 3, none⟩) hbl').trans (by simpa using hat 0 _ rfl)
      have y1 := (hb.cell (p := ⟨b', off' + k * 3 + 1, none⟩) hbl').trans (hat 1 _ rfl)
      have y2 := (hb.cell (p := ⟨b', off' + k * 3 + 2, none⟩) hbl').trans (hat 2 _ rfl)
      clear hat hr
      go_wp2_with fail
      go_still_tail 8, (by kernel_rfl)
      change wpList _ _ _ _ _ wr.drew
      have hb2 : Below w.heap.size w wr.drew := hb.drew
      replace HRK := Lib.hid (show ItemR wr.drew _ _ from HRK.out.below (Below.drew (Below.refl _ _)))
      replace HRL := Lib.hid (show ItemR wr.drew _ _ from HRL.out.below (Below.drew (Below.refl _ _)))
      generalize wr.drew = w2 at *
      go_wp2_with fail
      refine (laws_eqItem_same l[k] _ _ _ HRK.out HRL.out).mono ?_
      rintro e w3 ⟨rfl, hb3⟩
      have HB3 := Lib.hid (hb2.trans (hb3.mono hb2.size))
      clear hb3
      go_wp2_with fail
      go_roundw
      case rel => exact ⟨k + 1, by omega, by go_num, HB3.out⟩
      case measure => simp [intOf]; omega
    · go_wp2_with fail
      go_ret
      exact ⟨rfl, hb⟩

end Go.Proofs.YtjdfancbmjnjfaaGreat
namespace Go.Proofs.YtjdfancbmjnjfaaGreat
set_option maxRecDepth 100000
open Go.ChangeShapes Go.WideShapes Go.ChangeAt Go.RowKit Go.Deep

inductive VecD where
  | mk (kind : Int) (items : List ItemD) (parts : List VecD) (names cls levels : List (List UInt8)) (code env : Int)

def VecD.kind : VecD → Int | .mk k _ _ _ _ _ _ _ => k
def VecD.items : VecD → List ItemD | .mk _ i _ _ _ _ _ _ => i
def VecD.parts : VecD → List VecD | .mk _ _ p _ _ _ _ _ => p
def VecD.names : VecD → List (List UInt8) | .mk _ _ _ n _ _ _ _ => n
def VecD.cls : VecD → List (List UInt8) | .mk _ _ _ _ c _ _ _ => c
def VecD.levels : VecD → List (List UInt8) | .mk _ _ _ _ _ l _ _ => l
def VecD.code : VecD → Int | .mk _ _ _ _ _ _ c _ => c
def VecD.env : VecD → Int | .mk _ _ _ _ _ _ _ e => e

mutual
def szVector : VecD → Nat
  | .mk _ i p n c l _ _ => szS szItem i + szVs p + szL n + szL c + szL l
def szVs : List VecD → Nat
  | [] => 0
  | d :: l => 1 + szVector d + szVs l
end
theorem szVs_eq (l : List VecD) : szVs l = szS szVector l := by
  induction l with
  | nil => rfl
  | cons d l ih => rw [szVs, ih]; simp [szS]; omega
theorem szVector_eq (d : VecD) : szVector d = szS szItem d.items + szS szVector d.parts + szL d.names + szL d.cls + szL d.levels := by
  cases d with
  | mk k i p n c l co en => rw [szVector, szVs_eq]; rfl

def VectorR : Nat → World → List Value → VecD → Prop
  | 0, _, _, _ => False
  | n + 1, w, cs, d => ∃ v1 v2 v3 v4 v5, cs = [.int .i64 d.kind, v1, v2, v3, v4, v5, .int .i64 d.code, .int .i64 d.env] ∧ I64 d.kind ∧ Items w v1 d.items ∧ SlR w 8 (VectorR n w) v2 d.parts ∧ Txts w v3 d.names ∧ Txts w v4 d.cls ∧ Txts w v5 d.levels ∧ I64 d.code ∧ I64 d.env
def Vectors (n : Nat) (w : World) (v : Value) (l : List VecD) : Prop := SlR w 8 (VectorR n w) v l

theorem VectorR.below {n : Nat} : ∀ {w w' : World} {cs : List Value} {d : VecD}, VectorR n w cs d → Below w.heap.size w w' → VectorR n w' cs d := by
  induction n with
  | zero => intro w w' cs d h; exact h.elim
  | succ n ih =>
    intro w w' cs d h hb
    obtain ⟨v1, v2, v3, v4, v5, rfl, h0, h1, h2, h3, h4, h5, h6, h7⟩ := h
    exact ⟨v1, v2, v3, v4, v5, rfl, h0, h1.below hb, SlR.below h2 hb (fun _ _ h => ih h hb), h3.below hb, h4.below hb, h5.below hb, h6, h7⟩
theorem Vectors.below {n : Nat} {w w' : World} {v : Value} {l : List VecD} (h : Vectors n w v l) (hb : Below w.heap.size w w') : Vectors n w' v l := SlR.below h hb (fun _ _ h => h.below hb)
theorem VectorR.shape {n : Nat} {w : World} {cs : List Value} {d : VecD} (h : VectorR n w cs d) : ∃ v1 v2 v3 v4 v5, cs = [.int .i64 d.kind, v1, v2, v3, v4, v5, .int .i64 d.code, .int .i64 d.env] := by
  cases n with
  | zero => exact h.elim
  | succ n =>
    obtain ⟨v1, v2, v3, v4, v5, rfl, _⟩ := h
    exact ⟨v1, v2, v3, v4, v5, rfl⟩
theorem VectorR.length {n : Nat} {w : World} {cs : List Value} {d : VecD} (h : VectorR n w cs d) : cs.length = 8 := by
  obtain ⟨v1, v2, v3, v4, v5, rfl⟩ := h.shape
  rfl
theorem VectorR.succ {n : Nat} : ∀ {w : World} {cs : List Value} {d : VecD}, VectorR n w cs d → VectorR (n + 1) w cs d := by
  induction n with
  | zero => intro w cs d h; exact h.elim
  | succ n ih =>
    intro w cs d h
    obtain ⟨v1, v2, v3, v4, v5, rfl, h0, h1, h2, h3⟩ := h
    exact ⟨v1, v2, v3, v4, v5, rfl, h0, h1, SlR.below h2 (Below.refl _ _) (fun _ _ h => ih h), h3⟩
theorem VectorR.le {n m : Nat} {w : World} {cs : List Value} {d : VecD} (h : VectorR n w cs d) (hm : n ≤ m) : VectorR m w cs d := by
  induction hm with
  | refl => exact h
  | step _ ih => exact ih.succ

/-- the vector's slices lie in blocks of its own, in S -/
def VectorO : Nat → (Nat → Prop) → World → List Value → VecD → Prop
  | 0, _, _, _, _ => False
  | n + 1, S, w, cs, d => ∃ (A1 : Option Addr) (c1 : Nat) (A2 : Option Addr) (c2 : Nat) (A3 : Option Addr) (c3 : Nat) (A4 : Option Addr) (c4 : Nat) (A5 : Option Addr) (c5 : Nat), ∃ f : Nat → Nat,
      cs = [.int .i64 d.kind, .slice A1 d.items.length c1, .slice A2 d.parts.length c2, .slice A3 d.names.length c3, .slice A4 d.cls.length c4, .slice A5 d.levels.length c5, .int .i64 d.code, .int .i64 d.env] ∧ I64 d.kind ∧
      ItemsO (fun b => S b ∧ f b = 1) w (.slice A1 d.items.length c1) d.items ∧ SlO (fun b => S b ∧ f b = 2) w 61 8 (VectorO n) (.slice A2 d.parts.length c2) d.parts ∧
      TxtO (fun b => S b ∧ f b = 3) w (.slice A3 d.names.length c3) d.names ∧ TxtO (fun b => S b ∧ f b = 4) w (.slice A4 d.cls.length c4) d.cls ∧ TxtO (fun b => S b ∧ f b = 5) w (.slice A5 d.levels.length c5) d.levels ∧ I64 d.code ∧ I64 d.env
def VectorsO (n : Nat) (S : Nat → Prop) (w : World) (v : Value) (l : List VecD) : Prop := SlO S w 61 8 (VectorO n) v l

theorem VectorO.read {n : Nat} : ∀ {S : Nat → Prop} {w : World} {cs : List Value} {d : VecD}, VectorO n S w cs d → VectorR n w cs d := by
  induction n with
  | zero => intro S w cs d h; exact h.elim
  | succ n ih =>
    intro S w cs d h
    obtain ⟨A1, c1, A2, c2, A3, c3, A4, c4, A5, c5, f, rfl, h0, h1, h2, h3, h4, h5, h6, h7⟩ := h
    exact ⟨_, _, _, _, _, rfl, h0, h1.read, SlO.read (fun _ h => ih h) h2, h3.read, h4.read, h5.read, h6, h7⟩
theorem VectorO.keeps {n : Nat} : ∀ {S : Nat → Prop} {w w' : World} {cs : List Value} {d : VecD}, VectorO n S w cs d → Keeps S w w' → VectorO n S w' cs d := by
  induction n with
  | zero => intro S w w' cs d h; exact h.elim
  | succ n ih =>
    intro S w w' cs d h hk
    obtain ⟨A1, c1, A2, c2, A3, c3, A4, c4, A5, c5, f, rfl, h0, h1, h2, h3, h4, h5, h6, h7⟩ := h
    exact ⟨A1, c1, A2, c2, A3, c3, A4, c4, A5, c5, f, rfl, h0, h1.keeps (hk.mono fun _ h => h.1), SlO.keeps (fun _ h k => ih h k) h2 (hk.mono fun _ h => h.1), h3.keeps (hk.mono fun _ h => h.1), h4.keeps (hk.mono fun _ h => h.1), h5.keeps (hk.mono fun _ h => h.1), h6, h7⟩
theorem VectorsO.keeps {n : Nat} {S : Nat → Prop} {w w' : World} {v : Value} {l : List VecD} (h : VectorsO n S w v l) (hk : Keeps S w w') : VectorsO n S w' v l := SlO.keeps (fun _ h k => h.keeps k) h hk
theorem VectorO.mono {n : Nat} : ∀ {S S' : Nat → Prop} {w : World} {cs : List Value} {d : VecD}, VectorO n S w cs d → (∀ b, S b → S' b) → VectorO n S' w cs d := by
  induction n with
  | zero => intro S S' w cs d h; exact h.elim
  | succ n ih =>
    intro S S' w cs d h hs
    obtain ⟨A1, c1, A2, c2, A3, c3, A4, c4, A5, c5, f, rfl, h0, h1, h2, h3, h4, h5, h6, h7⟩ := h
    exact ⟨A1, c1, A2, c2, A3, c3, A4, c4, A5, c5, f, rfl, h0, h1.mono (fun b h => ⟨hs b h.1, h.2⟩), SlO.mono (fun _ h k => ih h k) h2 (fun b h => ⟨hs b h.1, h.2⟩), h3.mono (fun b h => ⟨hs b h.1, h.2⟩), h4.mono (fun b h => ⟨hs b h.1, h.2⟩), h5.mono (fun b h => ⟨hs b h.1, h.2⟩), h6, h7⟩
theorem VectorsO.mono {n : Nat} {S S' : Nat → Prop} {w : World} {v : Value} {l : List VecD} (h : VectorsO n S w v l) (hs : ∀ b, S b → S' b) : VectorsO n S' w v l := SlO.mono (fun _ h k => h.mono k) h hs
theorem VectorO.shape {n : Nat} {S : Nat → Prop} {w : World} {cs : List Value} {d : VecD} (h : VectorO n S w cs d) : ∃ (A1 : Option Addr) (c1 : Nat) (A2 : Option Addr) (c2 : Nat) (A3 : Option Addr) (c3 : Nat) (A4 : Option Addr) (c4 : Nat) (A5 : Option Addr) (c5 : Nat), cs = [.int .i64 d.kind, .slice A1 d.items.length c1, .slice A2 d.parts.length c2, .slice A3 d.names.length c3, .slice A4 d.cls.length c4, .slice A5 d.levels.length c5, .int .i64 d.code, .int .i64 d.env] := by
  cases n with
  | zero => exact h.elim
  | succ n =>
    obtain ⟨A1, c1, A2, c2, A3, c3, A4, c4, A5, c5, f, rfl, _⟩ := h
    exact ⟨A1, c1, A2, c2, A3, c3, A4, c4, A5, c5, rfl⟩
theorem VectorO.length {n : Nat} {S : Nat → Prop} {w : World} {cs : List Value} {d : VecD} (h : VectorO n S w cs d) : cs.length = 8 := h.read.length

def RetVector (n : Nat) (w : World) (d : VecD) (e : Ending) (w' : World) : Prop := ∃ cs, e = .returned (.agg cs.toArray) ∧ VectorO n (Rng w.heap.size w'.heap.size) w' cs d ∧ Below w.heap.size w w'

def SzVectorC (n : Nat) : Prop := ∀ (d : VecD) (cs : List Value) (left : Int) (w : World), VectorR n w cs d → 0 ≤ left → left ≤ 1048576 →
    Calls Tryz.prog 132 #[.agg cs.toArray, .int .i64 left] w fun e w' => e = .returned (.int .i64 (szR left (szVector d))) ∧ Below w.heap.size w w'
def SzVectorsC (n : Nat) : Prop := ∀ (l : List VecD) (v : Value) (left : Int) (w : World), Vectors n w v l → 0 ≤ left → left ≤ 1048576 →
    Calls Tryz.prog 142 #[v, .int .i64 left] w fun e w' => e = .returned (.int .i64 (szR left (szS szVector l))) ∧ Below w.heap.size w w'
def ToVectorC (n : Nat) : Prop := ∀ (d : VecD) (cs : List Value) (w : World), VectorR n w cs d → szVector d ≤ 1048576 → Calls Tryz.prog 137 #[.agg cs.toArray] w (RetVector n w d)
def ToVectorsC (n : Nat) : Prop := ∀ (l : List VecD) (v : Value) (w : World), Vectors n w v l → szS szVector l ≤ 1048576 →
    Calls Tryz.prog 145 #[v] w fun e w' => ∃ A c, e = .returned (.slice A l.length c) ∧ VectorsO n (Rng w.heap.size w'.heap.size) w' (.slice A l.length c) l ∧ Below w.heap.size w w'
def EqVectorC (n : Nat) : Prop := ∀ (d : VecD) (cs cs' : List Value) (w : World), VectorR n w cs d → VectorR n w cs' d →
    Calls Tryz.prog 140 #[.agg cs.toArray, .agg cs'.toArray] w fun e w' => e = .returned (.bool true) ∧ Below w.heap.size w w'
def EqVectorsC (n : Nat) : Prop := ∀ (l : List VecD) (v u : Value) (w : World), Vectors n w v l → Vectors n w u l →
    Calls Tryz.prog 152 #[v, u] w fun e w' => e = .returned (.bool true) ∧ Below w.heap.size w w'
end Go.Proofs.YtjdfancbmjnjfaaGreat
namespace Go.Proofs.YtjdfancbmjnjfaaGreat
set_option maxRecDepth 100000
open Go.ChangeShapes Go.WideShapes Go.ChangeAt Go.RowKit Go.Deep

set_option maxHeartbeats 400000 in
theorem laws_szVector_step (n : Nat) (ihS : SzVectorsC n) (d : VecD) (cs : List Value) (left : Int) (w : World) (h : VectorR (n + 1) w cs d) (h0 : 0 ≤ left) (h1 : left ≤ 1048576) :
    Calls Tryz.prog 132 #[.agg cs.toArray, .int .i64 left] w fun e w' => e = .returned (.int .i64 (szR left (szVector d))) ∧ Below w.heap.size w w' := by
  obtain ⟨v1, v2, v3, v4, v5, rfl, _q0, q1, q2, q3, q4, q5, _q6, _q7⟩ := h
  have Q1 := Lib.hid q1
  clear q1
  have Q2 := Lib.hid (show Vectors n w v2 d.parts from q2)
  clear q2
  have Q3 := Lib.hid q3
  clear q3
  have Q4 := Lib.hid q4
  clear q4
  have Q5 := Lib.hid q5
  clear q5
  have hE : szVector d = szS szItem d.items + szS szVector d.parts + szL d.names + szL d.cls + szL d.levels := szVector_eq d
  have HE := Lib.hid hE
  clear hE
  have HWB := Lib.hid (show Below w.heap.size w (w.alloc (.cells #[.int .i64 d.kind, v1, v2, v3, v4, v5, .int .i64 d.code, .int .i64 d.env] 111)) from (Below.refl _ _).alloc (Nat.le_refl _) _)
  have HWK := Lib.hid (Blk.new w 111 [.int .i64 d.kind, v1, v2, v3, v4, v5, .int .i64 d.code, .int .i64 d.env])
  go_enter Tryz.func132, Tryz.ntmps132
  go_wp2_with fail
  refine abs_w (fun W => Blk W w.heap.size 111 [.int .i64 d.kind, v1, v2, v3, v4, v5, .int .i64 d.code, .int .i64 d.env] ∧ Below w.heap.size w W) ⟨by exact HWK.out, by exact HWB.out⟩ ?_
  clear HWK HWB
  rintro W0 ⟨hK0, hB0⟩
  have HWK := Lib.hid hK0
  have HWB := Lib.hid hB0
  clear hK0 hB0
  refine (laws_szItemS d.items v1 (left) _ (Q1.out.below HWB.out) (by omega) (by omega)).mono ?_
  rintro e w1 ⟨rfl, hb1⟩
  replace HWK := Lib.hid (HWK.out.below hb1)
  replace HWB := Lib.hid (HWB.out.trans (hb1.mono HWB.out.size))
  clear hb1
  by_cases hz1 : ((szS szItem d.items : Nat) : Int) ≤ left
  rotate_left
  · rw [szR_neg hz1]
    go_wp2_with fail
    go_ret
    exact ⟨ret_int (by have h9 := HE.out; rw [szR_neg (by omega)]), by exact HWB.out⟩
  rw [szR_pos hz1]
  have x0 := HWK.out.cell 0 _ rfl
  have x1 := HWK.out.cell 1 _ rfl
  have x2 := HWK.out.cell 2 _ rfl
  have x3 := HWK.out.cell 3 _ rfl
  have x4 := HWK.out.cell 4 _ rfl
  have x5 := HWK.out.cell 5 _ rfl
  have x6 := HWK.out.cell 6 _ rfl
  have x7 := HWK.out.cell 7 _ rfl
  go_wp2_with fail
  clear x0 x1 x2 x3 x4 x5 x6 x7
  refine (ihS d.parts v2 (left - ((szS szItem d.items : Nat) : Int)) _ (Q2.out.below HWB.out) (by omega) (by omega)).mono ?_
  rintro e w2 ⟨rfl, hb2⟩
  replace HWK := Lib.hid (HWK.out.below hb2)
  replace HWB := Lib.hid (HWB.out.trans (hb2.mono HWB.out.size))
  clear hb2
  by_cases hz2 : ((szS szVector d.parts : Nat) : Int) ≤ left - ((szS szItem d.items : Nat) : Int)
  rotate_left
  · rw [szR_neg hz2]
    go_wp2_with fail
    go_ret
    exact ⟨ret_int (by have h9 := HE.out; rw [szR_neg (by omega)]), by exact HWB.out⟩
  rw [szR_pos hz2]
  have x0 := HWK.out.cell 0 _ rfl
  have x1 := HWK.out.cell 1 _ rfl
  have x2 := HWK.out.cell 2 _ rfl
  have x3 := HWK.out.cell 3 _ rfl
  have x4 := HWK.out.cell 4 _ rfl
  have x5 := HWK.out.cell 5 _ rfl
  have x6 := HWK.out.cell 6 _ rfl
  have x7 := HWK.out.cell 7 _ rfl
  go_wp2_with fail
  clear x0 x1 x2 x3 x4 x5 x6 x7
  refine (laws_szStringS_b d.names v3 (left - ((szS szItem d.items : Nat) : Int) - ((szS szVector d.parts : Nat) : Int)) _ (Q3.out.below HWB.out) (by omega) (by omega)).mono ?_
  rintro e w3 ⟨rfl, hb3⟩
  replace HWK := Lib.hid (HWK.out.below hb3)
  replace HWB := Lib.hid (HWB.out.trans (hb3.mono HWB.out.size))
  clear hb3
  by_cases hz3 : ((szL d.names : Nat) : Int) ≤ left - ((szS szItem d.items : Nat) : Int) - ((szS szVector d.parts : Nat) : Int)
  rotate_left
  · rw [szR_neg hz3]
    go_wp2_with fail
    go_ret
    exact ⟨ret_int (by have h9 := HE.out; rw [szR_neg (by omega)]), by exact HWB.out⟩
  rw [szR_pos hz3]
  have x0 := HWK.out.cell 0 _ rfl
  have x1 := HWK.out.cell 1 _ rfl
  have x2 := HWK.out.cell 2 _ rfl
  have x3 := HWK.out.cell 3 _ rfl
  have x4 := HWK.out.cell 4 _ rfl
  have x5 := HWK.out.cell 5 _ rfl
  have x6 := HWK.out.cell 6 _ rfl
  have x7 := HWK.out.cell 7 _ rfl
  go_wp2_with fail
  clear x0 x1 x2 x3 x4 x5 x6 x7
  refine (laws_szStringS_b d.cls v4 (left - ((szS szItem d.items : Nat) : Int) - ((szS szVector d.parts : Nat) : Int) - ((szL d.names : Nat) : Int)) _ (Q4.out.below HWB.out) (by omega) (by omega)).mono ?_
  rintro e w4 ⟨rfl, hb4⟩
  replace HWK := Lib.hid (HWK.out.below hb4)
  replace HWB := Lib.hid (HWB.out.trans (hb4.mono HWB.out.size))
  clear hb4
  by_cases hz4 : ((szL d.cls : Nat) : Int) ≤ left - ((szS szItem d.items : Nat) : Int) - ((szS szVector d.parts : Nat) : Int) - ((szL d.names : Nat) : Int)
  rotate_left
  · rw [szR_neg hz4]
    go_wp2_with fail
    go_ret
    exact ⟨ret_int (by have h9 := HE.out; rw [szR_neg (by omega)]), by exact HWB.out⟩
  rw [szR_pos hz4]
  have x0 := HWK.out.cell 0 _ rfl
  have x1 := HWK.out.cell 1 _ rfl
  have x2 := HWK.out.cell 2 _ rfl
  have x3 := HWK.out.cell 3 _ rfl
  have x4 := HWK.out.cell 4 _ rfl
  have x5 := HWK.out.cell 5 _ rfl
  have x6 := HWK.out.cell 6 _ rfl
  have x7 := HWK.out.cell 7 _ rfl
  go_wp2_with fail
  clear x0 x1 x2 x3 x4 x5 x6 x7
  refine (laws_szStringS_b d.levels v5 (left - ((szS szItem d.items : Nat) : Int) - ((szS szVector d.parts : Nat) : Int) - ((szL d.names : Nat) : Int) - ((szL d.cls : Nat) : Int)) _ (Q5.out.below HWB.out) (by omega) (by omega)).mono ?_
  rintro e w5 ⟨rfl, hb5⟩
  replace HWK := Lib.hid (HWK.out.below hb5)
  replace HWB := Lib.hid (HWB.out.trans (hb5.mono HWB.out.size))
  clear hb5
  by_cases hz5 : ((szL d.levels : Nat) : Int) ≤ left - ((szS szItem d.items : Nat) : Int) - ((szS szVector d.parts : Nat) : Int) - ((szL d.names : Nat) : Int) - ((szL d.cls : Nat) : Int)
  rotate_left
  · rw [szR_neg hz5]
    go_wp2_with fail
    go_ret
    exact ⟨ret_int (by have h9 := HE.out; rw [szR_neg (by omega)]), by exact HWB.out⟩
  rw [szR_pos hz5]
  have x0 := HWK.out.cell 0 _ rfl
  have x1 := HWK.out.cell 1 _ rfl
  have x2 := HWK.out.cell 2 _ rfl
  have x3 := HWK.out.cell 3 _ rfl
  have x4 := HWK.out.cell 4 _ rfl
  have x5 := HWK.out.cell 5 _ rfl
  have x6 := HWK.out.cell 6 _ rfl
  have x7 := HWK.out.cell 7 _ rfl
  go_wp2_with fail
  go_ret
  exact ⟨ret_int (by have h9 := HE.out; rw [szR_pos (by omega)]; omega), by exact HWB.out⟩


set_option maxHeartbeats 2000000 in
theorem laws_toVector_step (n : Nat) (ihS : ToVectorsC n) (d : VecD) (cs : List Value) (w : World) (h : VectorR (n + 1) w cs d) (hz : szVector d ≤ 1048576) :
    Calls Tryz.prog 137 #[.agg cs.toArray] w (RetVector (n + 1) w d) := by
  obtain ⟨v1, v2, v3, v4, v5, rfl, q0, q1, q2, q3, q4, q5, q6, q7⟩ := h
  have QQ := Lib.hid (And.intro trivial (show True ∧ I64 d.kind ∧ I64 d.code ∧ I64 d.env from ⟨trivial, q0, q6, q7⟩))
  clear q0 q6 q7
  have Q1 := Lib.hid q1
  clear q1
  have Q2 := Lib.hid (show Vectors n w v2 d.parts from q2)
  clear q2
  have Q3 := Lib.hid q3
  clear q3
  have Q4 := Lib.hid q4
  clear q4
  have Q5 := Lib.hid q5
  clear q5
  rw [szVector_eq] at hz
  go_enter Tryz.func137, Tryz.ntmps137
  go_wp2_with fail
  refine abs_w (fun W => Blk W w.heap.size 111 [.int .i64 d.kind, v1, v2, v3, v4, v5, .int .i64 d.code, .int .i64 d.env] ∧ Blk W (w.heap.size + 1) 61 [.int .i64 0, .slice none 0 0, .slice none 0 0, .slice none 0 0, .slice none 0 0, .slice none 0 0, .int .i64 0, .int .i64 0] ∧ Blk W (w.heap.size + 1 + 1) 61 [.int .i64 d.kind, .slice none 0 0, .slice none 0 0, .slice none 0 0, .slice none 0 0, .slice none 0 0, .int .i64 0, .int .i64 0] ∧ w.heap.size + 3 ≤ W.heap.size ∧ Below w.heap.size w W) ⟨by exact ((Blk.new _ _ _).alloc _).alloc _, by exact (Blk.new_at _ _ _ _ (by simp)).alloc _, by exact Blk.new_at _ _ _ _ (by simp), by simp, by exact (((Below.refl _ _).alloc (Nat.le_refl _) _).alloc (by simp) _).alloc (by simp; omega) _⟩ ?_
  rintro W1 ⟨hS1, hR1, hO1, hN1, hB1⟩
  refine (laws_toItemS d.items v1 _ (Q1.out.below hB1) (by omega)).mono ?_
  rintro e w1 ⟨A1, c1, rfl, o1, hb1⟩
  have HS := Lib.hid (hS1.below hb1)
  have HR := Lib.hid (hR1.below hb1)
  have HO := Lib.hid (hO1.below hb1)
  have HB := Lib.hid (hB1.trans (hb1.mono hB1.size))
  have hM1 : W1.heap.size ≤ w1.heap.size := hb1.size
  have O1 := Lib.hid o1
  clear hS1 hR1 hO1 hB1 hb1 o1 
  have s0 := HS.out.cell 0 _ rfl
  have o0 := HO.out.cell 0 _ rfl
  have s1 := HS.out.cell 1 _ rfl
  have o1 := HO.out.cell 1 _ rfl
  have s2 := HS.out.cell 2 _ rfl
  have o2 := HO.out.cell 2 _ rfl
  have s3 := HS.out.cell 3 _ rfl
  have o3 := HO.out.cell 3 _ rfl
  have s4 := HS.out.cell 4 _ rfl
  have o4 := HO.out.cell 4 _ rfl
  have s5 := HS.out.cell 5 _ rfl
  have o5 := HO.out.cell 5 _ rfl
  have s6 := HS.out.cell 6 _ rfl
  have o6 := HO.out.cell 6 _ rfl
  have s7 := HS.out.cell 7 _ rfl
  have o7 := HO.out.cell 7 _ rfl
  have fz := HO.out.frozen
  go_wp2_with fail
  clear s0 o0 s1 o1 s2 o2 s3 o3 s4 o4 s5 o5 s6 o6 s7 o7 fz
  refine abs_w (fun W => Blk W w.heap.size 111 [.int .i64 d.kind, v1, v2, v3, v4, v5, .int .i64 d.code, .int .i64 d.env] ∧ Blk W (w.heap.size + 1) 61 [.int .i64 0, .slice none 0 0, .slice none 0 0, .slice none 0 0, .slice none 0 0, .slice none 0 0, .int .i64 0, .int .i64 0] ∧ Blk W (w.heap.size + 1 + 1) 61 [.int .i64 d.kind, .slice A1 d.items.length c1, .slice none 0 0, .slice none 0 0, .slice none 0 0, .slice none 0 0, .int .i64 0, .int .i64 0] ∧ w1.heap.size ≤ W.heap.size ∧ Below w.heap.size w W ∧ ItemsO (Rng W1.heap.size w1.heap.size) W (.slice A1 d.items.length c1) d.items) ⟨by exact (HS.out.far _ (by simp; omega) _), by exact (HR.out.far _ (by simp) _), by exact (HO.out.set_ 1 _), by simp [World.setCell], by exact (below_sc HB.out (by omega) _), by exact O1.out.keeps ((Keeps.refl _ _).sc (fun h => by have := h.1; omega) _)⟩ ?_
  clear HS HR HO HB O1
  rintro W2 ⟨hS1, hR1, hO1, hN2, hB1, hP1⟩
  refine (ihS d.parts v2 _ (Q2.out.below hB1) (by omega)).mono ?_
  rintro e w2 ⟨A2, c2, rfl, o1, hb1⟩
  have HS := Lib.hid (hS1.below hb1)
  have HR := Lib.hid (hR1.below hb1)
  have HO := Lib.hid (hO1.below hb1)
  have HB := Lib.hid (hB1.trans (hb1.mono hB1.size))
  have hM2 : W2.heap.size ≤ w2.heap.size := hb1.size
  have O2 := Lib.hid o1
  have O1 := Lib.hid (hP1.keeps (Keeps.of_below _ hb1))
  clear hS1 hR1 hO1 hB1 hb1 o1 hP1
  have s0 := HS.out.cell 0 _ rfl
  have o0 := HO.out.cell 0 _ rfl
  have s1 := HS.out.cell 1 _ rfl
  have o1 := HO.out.cell 1 _ rfl
  have s2 := HS.out.cell 2 _ rfl
  have o2 := HO.out.cell 2 _ rfl
  have s3 := HS.out.cell 3 _ rfl
  have o3 := HO.out.cell 3 _ rfl
  have s4 := HS.out.cell 4 _ rfl
  have o4 := HO.out.cell 4 _ rfl
  have s5 := HS.out.cell 5 _ rfl
  have o5 := HO.out.cell 5 _ rfl
  have s6 := HS.out.cell 6 _ rfl
  have o6 := HO.out.cell 6 _ rfl
  have s7 := HS.out.cell 7 _ rfl
  have o7 := HO.out.cell 7 _ rfl
  have fz := HO.out.frozen
  go_wp2_with fail
  clear s0 o0 s1 o1 s2 o2 s3 o3 s4 o4 s5 o5 s6 o6 s7 o7 fz
  refine abs_w (fun W => Blk W w.heap.size 111 [.int .i64 d.kind, v1, v2, v3, v4, v5, .int .i64 d.code, .int .i64 d.env] ∧ Blk W (w.heap.size + 1) 61 [.int .i64 0, .slice none 0 0, .slice none 0 0, .slice none 0 0, .slice none 0 0, .slice none 0 0, .int .i64 0, .int .i64 0] ∧ Blk W (w.heap.size + 1 + 1) 61 [.int .i64 d.kind, .slice A1 d.items.length c1, .slice A2 d.parts.length c2, .slice none 0 0, .slice none 0 0, .slice none 0 0, .int .i64 0, .int .i64 0] ∧ w2.heap.size ≤ W.heap.size ∧ Below w.heap.size w W ∧ ItemsO (Rng W1.heap.size w1.heap.size) W (.slice A1 d.items.length c1) d.items ∧ VectorsO n (Rng W2.heap.size w2.heap.size) W (.slice A2 d.parts.length c2) d.parts) ⟨by exact (HS.out.far _ (by simp; omega) _), by exact (HR.out.far _ (by simp) _), by exact (HO.out.set_ 2 _), by simp [World.setCell], by exact (below_sc HB.out (by omega) _), by exact O1.out.keeps ((Keeps.refl _ _).sc (fun h => by have := h.1; omega) _), by exact O2.out.keeps ((Keeps.refl _ _).sc (fun h => by have := h.1; omega) _)⟩ ?_
  clear HS HR HO HB O1 O2
  rintro W3 ⟨hS1, hR1, hO1, hN3, hB1, hP1, hP2⟩
  refine (laws_toStringS_own d.names v3 _ (Q3.out.below hB1) (by omega)).mono ?_
  rintro e w3 ⟨A3, c3, rfl, o1, hb1⟩
  have HS := Lib.hid (hS1.below hb1)
  have HR := Lib.hid (hR1.below hb1)
  have HO := Lib.hid (hO1.below hb1)
  have HB := Lib.hid (hB1.trans (hb1.mono hB1.size))
  have hM3 : W3.heap.size ≤ w3.heap.size := hb1.size
  have O3 := Lib.hid o1
  have O1 := Lib.hid (hP1.keeps (Keeps.of_below _ hb1))
  have O2 := Lib.hid (hP2.keeps (Keeps.of_below _ hb1))
  clear hS1 hR1 hO1 hB1 hb1 o1 hP1 hP2
  have s0 := HS.out.cell 0 _ rfl
  have o0 := HO.out.cell 0 _ rfl
  have s1 := HS.out.cell 1 _ rfl
  have o1 := HO.out.cell 1 _ rfl
  have s2 := HS.out.cell 2 _ rfl
  have o2 := HO.out.cell 2 _ rfl
  have s3 := HS.out.cell 3 _ rfl
  have o3 := HO.out.cell 3 _ rfl
  have s4 := HS.out.cell 4 _ rfl
  have o4 := HO.out.cell 4 _ rfl
  have s5 := HS.out.cell 5 _ rfl
  have o5 := HO.out.cell 5 _ rfl
  have s6 := HS.out.cell 6 _ rfl
  have o6 := HO.out.cell 6 _ rfl
  have s7 := HS.out.cell 7 _ rfl
  have o7 := HO.out.cell 7 _ rfl
  have fz := HO.out.frozen
  go_wp2_with fail
  clear s0 o0 s1 o1 s2 o2 s3 o3 s4 o4 s5 o5 s6 o6 s7 o7 fz
  refine abs_w (fun W => Blk W w.heap.size 111 [.int .i64 d.kind, v1, v2, v3, v4, v5, .int .i64 d.code, .int .i64 d.env] ∧ Blk W (w.heap.size + 1) 61 [.int .i64 0, .slice none 0 0, .slice none 0 0, .slice none 0 0, .slice none 0 0, .slice none 0 0, .int .i64 0, .int .i64 0] ∧ Blk W (w.heap.size + 1 + 1) 61 [.int .i64 d.kind, .slice A1 d.items.length c1, .slice A2 d.parts.length c2, .slice A3 d.names.length c3, .slice none 0 0, .slice none 0 0, .int .i64 0, .int .i64 0] ∧ w3.heap.size ≤ W.heap.size ∧ Below w.heap.size w W ∧ ItemsO (Rng W1.heap.size w1.heap.size) W (.slice A1 d.items.length c1) d.items ∧ VectorsO n (Rng W2.heap.size w2.heap.size) W (.slice A2 d.parts.length c2) d.parts ∧ TxtO (Rng W3.heap.size w3.heap.size) W (.slice A3 d.names.length c3) d.names) ⟨by exact (HS.out.far _ (by simp; omega) _), by exact (HR.out.far _ (by simp) _), by exact (HO.out.set_ 3 _), by simp [World.setCell], by exact (below_sc HB.out (by omega) _), by exact O1.out.keeps ((Keeps.refl _ _).sc (fun h => by have := h.1; omega) _), by exact O2.out.keeps ((Keeps.refl _ _).sc (fun h => by have := h.1; omega) _), by exact O3.out.keeps ((Keeps.refl _ _).sc (fun h => by have := h.1; omega) _)⟩ ?_
  clear HS HR HO HB O1 O2 O3
  rintro W4 ⟨hS1, hR1, hO1, hN4, hB1, hP1, hP2, hP3⟩
  refine (laws_toStringS_own d.cls v4 _ (Q4.out.below hB1) (by omega)).mono ?_
  rintro e w4 ⟨A4, c4, rfl, o1, hb1⟩
  have HS := Lib.hid (hS1.below hb1)
  have HR := Lib.hid (hR1.below hb1)
  have HO := Lib.hid (hO1.below hb1)
  have HB := Lib.hid (hB1.trans (hb1.mono hB1.size))
  have hM4 : W4.heap.size ≤ w4.heap.size := hb1.size
  have O4 := Lib.hid o1
  have O1 := Lib.hid (hP1.keeps (Keeps.of_below _ hb1))
  have O2 := Lib.hid (hP2.keeps (Keeps.of_below _ hb1))
  have O3 := Lib.hid (hP3.keeps (Keeps.of_below _ hb1))
  clear hS1 hR1 hO1 hB1 hb1 o1 hP1 hP2 hP3
  have s0 := HS.out.cell 0 _ rfl
  have o0 := HO.out.cell 0 _ rfl
  have s1 := HS.out.cell 1 _ rfl
  have o1 := HO.out.cell 1 _ rfl
  have s2 := HS.out.cell 2 _ rfl
  have o2 := HO.out.cell 2 _ rfl
  have s3 := HS.out.cell 3 _ rfl
  have o3 := HO.out.cell 3 _ rfl
  have s4 := HS.out.cell 4 _ rfl
  have o4 := HO.out.cell 4 _ rfl
  have s5 := HS.out.cell 5 _ rfl
  have o5 := HO.out.cell 5 _ rfl
  have s6 := HS.out.cell 6 _ rfl
  have o6 := HO.out.cell 6 _ rfl
  have s7 := HS.out.cell 7 _ rfl
  have o7 := HO.out.cell 7 _ rfl
  have fz := HO.out.frozen
  go_wp2_with fail
  clear s0 o0 s1 o1 s2 o2 s3 o3 s4 o4 s5 o5 s6 o6 s7 o7 fz
  refine abs_w (fun W => Blk W w.heap.size 111 [.int .i64 d.kind, v1, v2, v3, v4, v5, .int .i64 d.code, .int .i64 d.env] ∧ Blk W (w.heap.size + 1) 61 [.int .i64 0, .slice none 0 0, .slice none 0 0, .slice none 0 0, .slice none 0 0, .slice none 0 0, .int .i64 0, .int .i64 0] ∧ Blk W (w.heap.size + 1 + 1) 61 [.int .i64 d.kind, .slice A1 d.items.length c1, .slice A2 d.parts.length c2, .slice A3 d.names.length c3, .slice A4 d.cls.length c4, .slice none 0 0, .int .i64 0, .int .i64 0] ∧ w4.heap.size ≤ W.heap.size ∧ Below w.heap.size w W ∧ ItemsO (Rng W1.heap.size w1.heap.size) W (.slice A1 d.items.length c1) d.items ∧ VectorsO n (Rng W2.heap.size w2.heap.size) W (.slice A2 d.parts.length c2) d.parts ∧ TxtO (Rng W3.heap.size w3.heap.size) W (.slice A3 d.names.length c3) d.names ∧ TxtO (Rng W4.heap.size w4.heap.size) W (.slice A4 d.cls.length c4) d.cls) ⟨by exact (HS.out.far _ (by simp; omega) _), by exact (HR.out.far _ (by simp) _), by exact (HO.out.set_ 4 _), by simp [World.setCell], by exact (below_sc HB.out (by omega) _), by exact O1.out.keeps ((Keeps.refl _ _).sc (fun h => by have := h.1; omega) _), by exact O2.out.keeps ((Keeps.refl _ _).sc (fun h => by have := h.1; omega) _), by exact O3.out.keeps ((Keeps.refl _ _).sc (fun h => by have := h.1; omega) _), by exact O4.out.keeps ((Keeps.refl _ _).sc (fun h => by have := h.1; omega) _)⟩ ?_
  clear HS HR HO HB O1 O2 O3 O4
  rintro W5 ⟨hS1, hR1, hO1, hN5, hB1, hP1, hP2, hP3, hP4⟩
  refine (laws_toStringS_own d.levels v5 _ (Q5.out.below hB1) (by omega)).mono ?_
  rintro e w5 ⟨A5, c5, rfl, o1, hb1⟩
  have HS := Lib.hid (hS1.below hb1)
  have HR := Lib.hid (hR1.below hb1)
  have HO := Lib.hid (hO1.below hb1)
  have HB := Lib.hid (hB1.trans (hb1.mono hB1.size))
  have hM5 : W5.heap.size ≤ w5.heap.size := hb1.size
  have O5 := Lib.hid o1
  have O1 := Lib.hid (hP1.keeps (Keeps.of_below _ hb1))
  have O2 := Lib.hid (hP2.keeps (Keeps.of_below _ hb1))
  have O3 := Lib.hid (hP3.keeps (Keeps.of_below _ hb1))
  have O4 := Lib.hid (hP4.keeps (Keeps.of_below _ hb1))
  clear hS1 hR1 hO1 hB1 hb1 o1 hP1 hP2 hP3 hP4
  have s0 := HS.out.cell 0 _ rfl
  have o0 := HO.out.cell 0 _ rfl
  have s1 := HS.out.cell 1 _ rfl
  have o1 := HO.out.cell 1 _ rfl
  have s2 := HS.out.cell 2 _ rfl
  have o2 := HO.out.cell 2 _ rfl
  have s3 := HS.out.cell 3 _ rfl
  have o3 := HO.out.cell 3 _ rfl
  have s4 := HS.out.cell 4 _ rfl
  have o4 := HO.out.cell 4 _ rfl
  have s5 := HS.out.cell 5 _ rfl
  have o5 := HO.out.cell 5 _ rfl
  have s6 := HS.out.cell 6 _ rfl
  have o6 := HO.out.cell 6 _ rfl
  have s7 := HS.out.cell 7 _ rfl
  have o7 := HO.out.cell 7 _ rfl
  have fz := HO.out.frozen
  have r0 := HR.out.cell 0 _ rfl
  have r1 := HR.out.cell 1 _ rfl
  have r2 := HR.out.cell 2 _ rfl
  have r3 := HR.out.cell 3 _ rfl
  have r4 := HR.out.cell 4 _ rfl
  have r5 := HR.out.cell 5 _ rfl
  have r6 := HR.out.cell 6 _ rfl
  have r7 := HR.out.cell 7 _ rfl
  have fr := HR.out.frozen
  go_wp2_with fail
  refine bodyPost_ret (v := .agg #[.int .i64 d.kind, .slice A1 d.items.length c1, .slice A2 d.parts.length c2, .slice A3 d.names.length c3, .slice A4 d.cls.length c4, .slice A5 d.levels.length c5, .int .i64 d.code, .int .i64 d.env]) (by simp [results, Tryz.results137, go_sem, r0, r1, r2, r3, r4, r5, r6, r7]) rfl ?_
  clear s0 o0 r0 s1 o1 r1 s2 o2 r2 s3 o3 r3 s4 o4 r4 s5 o5 r5 s6 o6 r6 s7 o7 r7 fz fr
  have bm1 : w.heap.size ≤ w.heap.size + 1 := by omega
  have bm2 : w.heap.size ≤ w.heap.size + 1 + 1 := by omega
  have qq := QQ.out.2
  obtain ⟨_, q0, q6, q7⟩ := qq
  refine ⟨_, rfl, ⟨A1, c1, A2, c2, A3, c3, A4, c4, A5, c5, fun b => if b < w1.heap.size then 1 else if b < w2.heap.size then 2 else if b < w3.heap.size then 3 else if b < w4.heap.size then 4 else 5, rfl, q0, ?_, ?_, ?_, ?_, ?_, q6, q7⟩, (below_sc (below_sc (below_sc (below_sc (below_sc (below_sc (below_sc (below_sc (below_sc (below_sc (below_sc HB.out bm2 _) bm2 _) bm2 _) bm1 _) bm1 _) bm1 _) bm1 _) bm1 _) bm1 _) bm1 _) bm1 _)⟩
  · have m1x : ¬ Rng W1.heap.size w1.heap.size (w.heap.size + 1) := fun h => by have := h.1; omega
    have m2x : ¬ Rng W1.heap.size w1.heap.size (w.heap.size + 1 + 1) := fun h => by have := h.1; omega
    refine (O1.out.keeps ((((((((((((Keeps.refl _ _).sc m2x _).sc m2x _).sc m2x _).sc m1x _).sc m1x _).sc m1x _).sc m1x _).sc m1x _).sc m1x _).sc m1x _).sc m1x _)).mono (fun b hb => ?_)
    obtain ⟨x1, x2⟩ := hb
    refine ⟨⟨by omega, by simp only [size_sc]; omega⟩, ?_⟩
    dsimp only
    repeat (first | rfl | rw [if_pos (by omega)] | rw [if_neg (by omega)])
  · have m1x : ¬ Rng W2.heap.size w2.heap.size (w.heap.size + 1) := fun h => by have := h.1; omega
    have m2x : ¬ Rng W2.heap.size w2.heap.size (w.heap.size + 1 + 1) := fun h => by have := h.1; omega
    refine (O2.out.keeps ((((((((((((Keeps.refl _ _).sc m2x _).sc m2x _).sc m2x _).sc m1x _).sc m1x _).sc m1x _).sc m1x _).sc m1x _).sc m1x _).sc m1x _).sc m1x _)).mono (fun b hb => ?_)
    obtain ⟨x1, x2⟩ := hb
    refine ⟨⟨by omega, by simp only [size_sc]; omega⟩, ?_⟩
    dsimp only
    repeat (first | rfl | rw [if_pos (by omega)] | rw [if_neg (by omega)])
  · have m1x : ¬ Rng W3.heap.size w3.heap.size (w.heap.size + 1) := fun h => by have := h.1; omega
    have m2x : ¬ Rng W3.heap.size w3.heap.size (w.heap.size + 1 + 1) := fun h => by have := h.1; omega
    refine (O3.out.keeps ((((((((((((Keeps.refl _ _).sc m2x _).sc m2x _).sc m2x _).sc m1x _).sc m1x _).sc m1x _).sc m1x _).sc m1x _).sc m1x _).sc m1x _).sc m1x _)).mono (fun b hb => ?_)
    obtain ⟨x1, x2⟩ := hb
    refine ⟨⟨by omega, by simp only [size_sc]; omega⟩, ?_⟩
    dsimp only
    repeat (first | rfl | rw [if_pos (by omega)] | rw [if_neg (by omega)])
  · have m1x : ¬ Rng W4.heap.size w4.heap.size (w.heap.size + 1) := fun h => by have := h.1; omega
    have m2x : ¬ Rng W4.heap.size w4.heap.size (w.heap.size + 1 + 1) := fun h => by have := h.1; omega
    refine (O4.out.keeps ((((((((((((Keeps.refl _ _).sc m2x _).sc m2x _).sc m2x _).sc m1x _).sc m1x _).sc m1x _).sc m1x _).sc m1x _).sc m1x _).sc m1x _).sc m1x _)).mono (fun b hb => ?_)
    obtain ⟨x1, x2⟩ := hb
    refine ⟨⟨by omega, by simp only [size_sc]; omega⟩, ?_⟩
    dsimp only
    repeat (first | rfl | rw [if_pos (by omega)] | rw [if_neg (by omega)])
  · have m1x : ¬ Rng W5.heap.size w5.heap.size (w.heap.size + 1) := fun h => by have := h.1; omega
    have m2x : ¬ Rng W5.heap.size w5.heap.size (w.heap.size + 1 + 1) := fun h => by have := h.1; omega
    refine (O5.out.keeps ((((((((((((Keeps.refl _ _).sc m2x _).sc m2x _).sc m2x _).sc m1x _).sc m1x _).sc m1x _).sc m1x _).sc m1x _).sc m1x _).sc m1x _).sc m1x _)).mono (fun b hb => ?_)
    obtain ⟨x1, x2⟩ := hb
    refine ⟨⟨by omega, by simp only [size_sc]; omega⟩, ?_⟩
    dsimp only
    repeat (first | rfl | rw [if_pos (by omega)] | rw [if_neg (by omega)])

set_option maxHeartbeats 400000 in
theorem laws_eqVector_same_step (n : Nat) (ihS : EqVectorsC n) (d : VecD) (cs cs' : List Value) (w : World) (h : VectorR (n + 1) w cs d) (h' : VectorR (n + 1) w cs' d) :
    Calls Tryz.prog 140 #[.agg cs.toArray, .agg cs'.toArray] w fun e w' => e = .returned (.bool true) ∧ Below w.heap.size w w' := by
  obtain ⟨v1, v2, v3, v4, v5, rfl, _q0, q1, q2, q3, q4, q5, _q6, _q7⟩ := h
  obtain ⟨u1, u2, u3, u4, u5, rfl, _p0, p1, p2, p3, p4, p5, _p6, _p7⟩ := h'
  have Q1 := Lib.hid q1
  have P1 := Lib.hid p1
  clear q1 p1
  have Q2 := Lib.hid (show Vectors n w v2 d.parts from q2)
  have P2 := Lib.hid (show Vectors n w u2 d.parts from p2)
  clear q2 p2
  have Q3 := Lib.hid q3
  have P3 := Lib.hid p3
  clear q3 p3
  have Q4 := Lib.hid q4
  have P4 := Lib.hid p4
  clear q4 p4
  have Q5 := Lib.hid q5
  have P5 := Lib.hid p5
  clear q5 p5
  go_enter Tryz.func140, Tryz.ntmps140
  go_wp2_with fail
  refine abs_w (fun W => Blk W w.heap.size 61 [.int .i64 d.kind, v1, v2, v3, v4, v5, .int .i64 d.code, .int .i64 d.env] ∧ Blk W (w.heap.size + 1) 61 [.int .i64 d.kind, u1, u2, u3, u4, u5, .int .i64 d.code, .int .i64 d.env] ∧ Below w.heap.size w W) ⟨by exact (Blk.new _ _ _).alloc _, by exact Blk.new_at _ _ _ _ (by simp), by exact ((Below.refl _ _).alloc (Nat.le_refl _) _).alloc (by simp) _⟩ ?_
  rintro W0 ⟨hK0, hL0, hB0⟩
  have HK := Lib.hid hK0
  have HL := Lib.hid hL0
  have HB := Lib.hid hB0
  clear hK0 hL0 hB0
  refine (laws_eqItemS_same d.items v1 u1 _ (Q1.out.below HB.out) (P1.out.below HB.out)).mono ?_
  rintro e w1 ⟨rfl, hb1⟩
  replace HK := Lib.hid (HK.out.below hb1)
  replace HL := Lib.hid (HL.out.below hb1)
  replace HB := Lib.hid (HB.out.trans (hb1.mono HB.out.size))
  clear hb1
  have s0 := HK.out.cell 0 _ rfl
  have o0 := HL.out.cell 0 _ rfl
  have s1 := HK.out.cell 1 _ rfl
  have o1 := HL.out.cell 1 _ rfl
  have s2 := HK.out.cell 2 _ rfl
  have o2 := HL.out.cell 2 _ rfl
  have s3 := HK.out.cell 3 _ rfl
  have o3 := HL.out.cell 3 _ rfl
  have s4 := HK.out.cell 4 _ rfl
  have o4 := HL.out.cell 4 _ rfl
  have s5 := HK.out.cell 5 _ rfl
  have o5 := HL.out.cell 5 _ rfl
  have s6 := HK.out.cell 6 _ rfl
  have o6 := HL.out.cell 6 _ rfl
  have s7 := HK.out.cell 7 _ rfl
  have o7 := HL.out.cell 7 _ rfl
  go_wp2_with fail
  clear s0 o0 s1 o1 s2 o2 s3 o3 s4 o4 s5 o5 s6 o6 s7 o7
  refine (ihS d.parts v2 u2 _ (Q2.out.below HB.out) (P2.out.below HB.out)).mono ?_
  rintro e w2 ⟨rfl, hb2⟩
  replace HK := Lib.hid (HK.out.below hb2)
  replace HL := Lib.hid (HL.out.below hb2)
  replace HB := Lib.hid (HB.out.trans (hb2.mono HB.out.size))
  clear hb2
  have s0 := HK.out.cell 0 _ rfl
  have o0 := HL.out.cell 0 _ rfl
  have s1 := HK.out.cell 1 _ rfl
  have o1 := HL.out.cell 1 _ rfl
  have s2 := HK.out.cell 2 _ rfl
  have o2 := HL.out.cell 2 _ rfl
  have s3 := HK.out.cell 3 _ rfl
  have o3 := HL.out.cell 3 _ rfl
  have s4 := HK.out.cell 4 _ rfl
  have o4 := HL.out.cell 4 _ rfl
  have s5 := HK.out.cell 5 _ rfl
  have o5 := HL.out.cell 5 _ rfl
  have s6 := HK.out.cell 6 _ rfl
  have o6 := HL.out.cell 6 _ rfl
  have s7 := HK.out.cell 7 _ rfl
  have o7 := HL.out.cell 7 _ rfl
  go_wp2_with fail
  clear s0 o0 s1 o1 s2 o2 s3 o3 s4 o4 s5 o5 s6 o6 s7 o7
  refine (laws_eqStringS_same d.names v3 u3 _ (Q3.out.below HB.out) (P3.out.below HB.out)).mono ?_
  rintro e w3 ⟨rfl, hb3⟩
  replace HK := Lib.hid (HK.out.below hb3)
  replace HL := Lib.hid (HL.out.below hb3)
  replace HB := Lib.hid (HB.out.trans (hb3.mono HB.out.size))
  clear hb3
  have s0 := HK.out.cell 0 _ rfl
  have o0 := HL.out.cell 0 _ rfl
  have s1 := HK.out.cell 1 _ rfl
  have o1 := HL.out.cell 1 _ rfl
  have s2 := HK.out.cell 2 _ rfl
  have o2 := HL.out.cell 2 _ rfl
  have s3 := HK.out.cell 3 _ rfl
  have o3 := HL.out.cell 3 _ rfl
  have s4 := HK.out.cell 4 _ rfl
  have o4 := HL.out.cell 4 _ rfl
  have s5 := HK.out.cell 5 _ rfl
  have o5 := HL.out.cell 5 _ rfl
  have s6 := HK.out.cell 6 _ rfl
  have o6 := HL.out.cell 6 _ rfl
  have s7 := HK.out.cell 7 _ rfl
  have o7 := HL.out.cell 7 _ rfl
  go_wp2_with fail
  clear s0 o0 s1 o1 s2 o2 s3 o3 s4 o4 s5 o5 s6 o6 s7 o7
  refine (laws_eqStringS_same d.cls v4 u4 _ (Q4.out.below HB.out) (P4.out.below HB.out)).mono ?_
  rintro e w4 ⟨rfl, hb4⟩
  replace HK := Lib.hid (HK.out.below hb4)
  replace HL := Lib.hid (HL.out.below hb4)
  replace HB := Lib.hid (HB.out.trans (hb4.mono HB.out.size))
  clear hb4
  have s0 := HK.out.cell 0 _ rfl
  have o0 := HL.out.cell 0 _ rfl
  have s1 := HK.out.cell 1 _ rfl
  have o1 := HL.out.cell 1 _ rfl
  have s2 := HK.out.cell 2 _ rfl
  have o2 := HL.out.cell 2 _ rfl
  have s3 := HK.out.cell 3 _ rfl
  have o3 := HL.out.cell 3 _ rfl
  have s4 := HK.out.cell 4 _ rfl
  have o4 := HL.out.cell 4 _ rfl
  have s5 := HK.out.cell 5 _ rfl
  have o5 := HL.out.cell 5 _ rfl
  have s6 := HK.out.cell 6 _ rfl
  have o6 := HL.out.cell 6 _ rfl
  have s7 := HK.out.cell 7 _ rfl
  have o7 := HL.out.cell 7 _ rfl
  go_wp2_with fail
  clear s0 o0 s1 o1 s2 o2 s3 o3 s4 o4 s5 o5 s6 o6 s7 o7
  refine (laws_eqStringS_same d.levels v5 u5 _ (Q5.out.below HB.out) (P5.out.below HB.out)).mono ?_
  rintro e w5 ⟨rfl, hb5⟩
  replace HK := Lib.hid (HK.out.below hb5)
  replace HL := Lib.hid (HL.out.below hb5)
  replace HB := Lib.hid (HB.out.trans (hb5.mono HB.out.size))
  clear hb5
  have s0 := HK.out.cell 0 _ rfl
  have o0 := HL.out.cell 0 _ rfl
  have s1 := HK.out.cell 1 _ rfl
  have o1 := HL.out.cell 1 _ rfl
  have s2 := HK.out.cell 2 _ rfl
  have o2 := HL.out.cell 2 _ rfl
  have s3 := HK.out.cell 3 _ rfl
  have o3 := HL.out.cell 3 _ rfl
  have s4 := HK.out.cell 4 _ rfl
  have o4 := HL.out.cell 4 _ rfl
  have s5 := HK.out.cell 5 _ rfl
  have o5 := HL.out.cell 5 _ rfl
  have s6 := HK.out.cell 6 _ rfl
  have o6 := HL.out.cell 6 _ rfl
  have s7 := HK.out.cell 7 _ rfl
  have o7 := HL.out.cell 7 _ rfl
  go_wp2_with fail
  clear s0 o0 s1 o1 s2 o2 s3 o3 s4 o4 s5 o5 s6 o6 s7 o7
  go_ret
  exact ⟨rfl, HB.out⟩

theorem cells_slice_Vector : Tryz.prog.cellsOf 109 = 1 := by kernel_rfl
theorem info_Vector : (Tryz.prog.info? 61).map (fun i => (i.zero, i.size, i.bytes)) = some (some (.agg #[.int .i64 0, .slice none 0 0, .slice none 0 0, .slice none 0 0, .slice none 0 0, .slice none 0 0, .int .i64 0, .int .i64 0]), 8, 144) := by kernel_rfl
set_option maxHeartbeats 400000 in
theorem laws_szVectorS (n : Nat) (ih : SzVectorC n) (l : List VecD) (v : Value) (left : Int) (w : World) (h : Vectors n w v l) (h0 : 0 ≤ left) (h1 : left ≤ 1048576) :
    Calls Tryz.prog 142 #[v, .int .i64 left] w fun e w' => e = .returned (.int .i64 (szR left (szS szVector l))) ∧ Below w.heap.size w w' := by
  obtain ⟨A, c, rfl, hlc, hm, HC⟩ := SlR.open_ h
  clear h
  unfold maxLen at hm
  by_cases hle : (l.length : Int) ≤ left
  · go_enter Tryz.func142, Tryz.ntmps142
    go_wp2_with fail
    go_loopw [1, 5] (fun x i wr => ∃ k : Nat, k ≤ l.length ∧ i = .int .i64 k ∧ ∃ y : Int, x = .int .i64 y ∧ 0 ≤ y ∧ y ≤ 1048576 ∧ Hid (y = left - l.length - (szS szVector (l.take k) - k : Int)) ∧ Below w.heap.size w wr) (fun _ i _ => l.length - (intOf i).toNat)
    case atStart => exact ⟨0, Nat.zero_le _, rfl, _, rfl, by omega, by omega, by show _ = _; rw [szS_zero]; simp, Below.refl _ _⟩
    case round =>
      obtain ⟨k, hk, rfl, y, rfl, hy0, hy1, hy, hb⟩ := hrel
      by_cases hlt : k < l.length
      · obtain ⟨b, off, cs, rfl, hbl, _, hat, hr⟩ := HC.out k hlt
        have HRK := Lib.hid (hr.below hb)
        obtain ⟨v1, v2, v3, v4, v5, rfl⟩ := hr.shape
        have x0 := (hb.cell (p := ⟨b, off + k * 8, none⟩) hbl).trans (by simpa using hat 0 _ rfl)
        have x1 := (hb.cell (p := ⟨b, off + k * 8 + 1, none⟩) hbl).trans (hat 1 _ rfl)
        have x2 := (hb.cell (p := ⟨b, off + k * 8 + 2, none⟩) hbl).trans (hat 2 _ rfl)
        have x3 := (hb.cell (p := ⟨b, off + k * 8 + 3, none⟩) hbl).trans (hat 3 _ rfl)
        have x4 := (hb.cell (p := ⟨b, off + k * 8 + 4, none⟩) hbl).trans (hat 4 _ rfl)
        have x5 := (hb.cell (p := ⟨b, off + k * 8 + 5, none⟩) hbl).trans (hat 5 _ rfl)
        have x6 := (hb.cell (p := ⟨b, off + k * 8 + 6, none⟩) hbl).trans (hat 6 _ rfl)
        have x7 := (hb.cell (p := ⟨b, off + k * 8 + 7, none⟩) hbl).trans (hat 7 _ rfl)
        have HS := Lib.hid (szS_take_succ szVector l k hlt)
        clear hat
        go_wp2_with fail
        refine (ih l[k] _ y _ HRK.out hy0 hy1).mono ?_
        rintro e w1 ⟨rfl, hb1⟩
        have HB1 := Lib.hid (hb.trans (hb1.mono hb.size))
        clear hb1 x0 x1 x2 x3 x4 x5 x6 x7
        by_cases hle2 : (szVector l[k] : Int) ≤ y
        · rw [szR_pos hle2]
          go_wp2_with fail
          go_roundw
          case rel => exact ⟨k + 1, by omega, by go_num, _, rfl, by omega, by omega, by have := hy.out; have := HS.out; show _ = _; omega, HB1.out⟩
          case measure => simp [intOf]; omega
        · rw [szR_neg hle2]
          go_wp2_with fail
          go_ret
          refine ⟨ret_int ?_, HB1.out⟩
          have h9 := szS_take_le szVector l (k + 1)
          rw [List.length_drop] at h9
          have := hy.out
          have := HS.out
          rw [szR_neg (by omega)]
      · obtain rfl : k = l.length := by omega
        rw [List.take_length] at hy
        go_wp2_with fail
        go_ret
        refine ⟨ret_int ?_, hb⟩
        have := hy.out
        rw [szR_pos (by omega)]
        omega
  · have h9 := szS_length szVector l
    have HR := Lib.hid (szR_neg (left := left) (n := szS szVector l) (by omega))
    go_enter Tryz.func142, Tryz.ntmps142
    go_wp2
    go_ret
    exact ⟨ret_int HR.out.symm, Below.refl _ _⟩

set_option maxHeartbeats 1000000 in
theorem laws_toVectorS (n : Nat) (ih : ToVectorC n) (l : List VecD) (v : Value) (w : World) (h : Vectors n w v l) (hz : szS szVector l ≤ 1048576) :
    Calls Tryz.prog 145 #[v] w fun e w' => ∃ A c, e = .returned (.slice A l.length c) ∧ VectorsO n (Rng w.heap.size w'.heap.size) w' (.slice A l.length c) l ∧ Below w.heap.size w w' := by
  have hl := szS_length szVector l
  obtain ⟨A, c, rfl, hlc, hm, HC⟩ := SlR.open_ h
  clear h
  unfold maxLen at hm
  have hmk := run_mk (P := Tryz.prog) w 59 61 _ 8 144 Tryz.underlying59 info_Vector l.length (by omega) (by omega)
  go_enter Tryz.func145, Tryz.ntmps145
  go_wp2
  clear hmk
  go_loopw [4] (fun i wr => ∃ k : Nat, k ≤ l.length ∧ i = .int .i64 k ∧ CopyO wr w.heap.size 61 8 l.length k (VectorO n) l ∧ Below w.heap.size w wr ∧ w.heap.size < wr.heap.size) (fun i _ => l.length - (intOf i).toNat)
  case atStart => exact ⟨0, Nat.zero_le _, rfl, CopyO.start _ _ _ _ _ _ _ (by simp [size_madeCells]), (Below.refl _ _).alloc (Nat.le_refl _) _, by simp⟩
  case round =>
    obtain ⟨k, hk, rfl, hf, hb, hgt⟩ := hrel
    by_cases hlt : k < l.length
    · obtain ⟨b, off, cs, rfl, hbl, _, hat, hr⟩ := HC.out k hlt
      have HRK := Lib.hid (hr.below hb)
      obtain ⟨v1, v2, v3, v4, v5, rfl⟩ := hr.shape
      have x0 := (hb.cell (p := ⟨b, off + k * 8, none⟩) hbl).trans (by simpa using hat 0 _ rfl)
      have x1 := (hb.cell (p := ⟨b, off + k * 8 + 1, none⟩) hbl).trans (hat 1 _ rfl)
      have x2 := (hb.cell (p := ⟨b, off + k * 8 + 2, none⟩) hbl).trans (hat 2 _ rfl)
      have x3 := (hb.cell (p := ⟨b, off + k * 8 + 3, none⟩) hbl).trans (hat 3 _ rfl)
      have x4 := (hb.cell (p := ⟨b, off + k * 8 + 4, none⟩) hbl).trans (hat 4 _ rfl)
      have x5 := (hb.cell (p := ⟨b, off + k * 8 + 5, none⟩) hbl).trans (hat 5 _ rfl)
      have x6 := (hb.cell (p := ⟨b, off + k * 8 + 6, none⟩) hbl).trans (hat 6 _ rfl)
      have x7 := (hb.cell (p := ⟨b, off + k * 8 + 7, none⟩) hbl).trans (hat 7 _ rfl)
      clear hat
      have hsk := szS_at szVector l k hlt
      go_wp2_with fail
      refine (ih l[k] _ _ HRK.out (by omega)).mono ?_
      rintro e w1 ⟨cs1, rfl, ho1, hb1⟩
      have HST := Lib.hid (CopyO.step (fun _ h k => h.keeps k) (fun _ h k => h.mono k) hf hb1 hlt hlt cs1 ho1.length ho1)
      have HB1 := Lib.hid (hb.trans (hb1.mono hb.size))
      have hg1 : w.heap.size < w1.heap.size := Nat.lt_of_lt_of_le hgt hb1.size
      obtain ⟨_, _, _, hfl, _⟩ := hf
      have hf1 := hfl.keep (hb1.block _ hfl.lt)
      obtain ⟨A1, c1, A2, c2, A3, c3, A4, c4, A5, c5, rfl⟩ := ho1.shape
      clear hb1 x0 x1 x2 x3 x4 x5 x6 x7 hfl
      obtain ⟨t0, ht0⟩ := hf1.cell (k * 8) (by omega)
      have hz0 := hf1.frozen (k * 8)
      obtain ⟨t1, ht1⟩ := hf1.cell (k * 8 + 1) (by omega)
      have hz1 := hf1.frozen (k * 8 + 1)
      obtain ⟨t2, ht2⟩ := hf1.cell (k * 8 + 2) (by omega)
      have hz2 := hf1.frozen (k * 8 + 2)
      obtain ⟨t3, ht3⟩ := hf1.cell (k * 8 + 3) (by omega)
      have hz3 := hf1.frozen (k * 8 + 3)
      obtain ⟨t4, ht4⟩ := hf1.cell (k * 8 + 4) (by omega)
      have hz4 := hf1.frozen (k * 8 + 4)
      obtain ⟨t5, ht5⟩ := hf1.cell (k * 8 + 5) (by omega)
      have hz5 := hf1.frozen (k * 8 + 5)
      obtain ⟨t6, ht6⟩ := hf1.cell (k * 8 + 6) (by omega)
      have hz6 := hf1.frozen (k * 8 + 6)
      obtain ⟨t7, ht7⟩ := hf1.cell (k * 8 + 7) (by omega)
      have hz7 := hf1.frozen (k * 8 + 7)
      have HF1 := Lib.hid hf1
      clear hf1
      go_wp2_with fail
      go_roundw
      case rel => exact ⟨k + 1, by omega, by go_num, by exact HST.out, by exact (below_sc (below_sc (below_sc (below_sc (below_sc (below_sc (below_sc (below_sc (HB1.out) (Nat.le_refl _) _) (Nat.le_refl _) _) (Nat.le_refl _) _) (Nat.le_refl _) _) (Nat.le_refl _) _) (Nat.le_refl _) _) (Nat.le_refl _) _) (Nat.le_refl _) _), by simp only [size_sc]; exact hg1⟩
      case measure => simp [intOf]; omega
    · obtain rfl : k = l.length := by omega
      have ho := Lib.hid (CopyO.own (fun _ h k => h.mono k) hf (by unfold maxLen; omega))
      clear hf
      go_wp2_with fail
      go_ret
      exact ⟨_, _, rfl, ho.out, hb⟩

set_option maxHeartbeats 400000 in
theorem laws_eqVectorS_same (n : Nat) (ih : EqVectorC n) (l : List VecD) (v u : Value) (w : World) (h : Vectors n w v l) (h' : Vectors n w u l) :
    Calls Tryz.prog 152 #[v, u] w fun e w' => e = .returned (.bool true) ∧ Below w.heap.size w w' := by
  obtain ⟨A, c, rfl, hlc, hm, HC⟩ := SlR.open_ h
  obtain ⟨A', c', rfl, hlc', hm', HC'⟩ := SlR.open_ h'
  clear h h'
  unfold maxLen at hm hm'
  go_enter Tryz.func152, Tryz.ntmps152
  go_wp2
  go_loopw [5] (fun i wr => ∃ k : Nat, k ≤ l.length ∧ i = .int .i64 k ∧ Below w.heap.size w wr) (fun i _ => l.length - (intOf i).toNat)
  case atStart => exact ⟨0, Nat.zero_le _, rfl, Below.refl _ _⟩
  case round =>
    obtain ⟨k, hk, rfl, hb⟩ := hrel
    by_cases hlt : k < l.length
    · obtain ⟨b, off, cs, rfl, hbl, _, hat, hr⟩ := HC.out k hlt
      have HRK := Lib.hid (hr.below hb)
      obtain ⟨v1, v2, v3, v4, v5, rfl⟩ := hr.shape
      have x0 := (hb.cell (p := ⟨b, off + k * 8, none⟩) hbl).trans (by simpa using hat 0 _ rfl)
      have x1 := (hb.cell (p := ⟨b, off + k * 8 + 1, none⟩) hbl).trans (hat 1 _ rfl)
      have x2 := (hb.cell (p := ⟨b, off + k * 8 + 2, none⟩) hbl).trans (hat 2 _ rfl)
      have x3 := (hb.cell (p := ⟨b, off + k * 8 + 3, none⟩) hbl).trans (hat 3 _ rfl)
      have x4 := (hb.cell (p := ⟨b, off + k * 8 + 4, none⟩) hbl).trans (hat 4 _ rfl)
      have x5 := (hb.cell (p := ⟨b, off + k * 8 + 5, none⟩) hbl).trans (hat 5 _ rfl)
      have x6 := (hb.cell (p := ⟨b, off + k * 8 + 6, none⟩) hbl).trans (hat 6 _ rfl)
      have x7 := (hb.cell (p := ⟨b, off + k * 8 + 7, none⟩) hbl).trans (hat 7 _ rfl)
      clear hat
      obtain ⟨b', off', cs', rfl, hbl', _, hat, hr⟩ := HC'.out k hlt
      have HRL := Lib.hid (hr.below hb)
      obtain ⟨u1, u2, u3, u4, u5, rfl⟩ := hr.shape
      have y0 := (hb.cell (p := ⟨b', off' + k * 8, none⟩) hbl').trans (by simpa using hat 0 _ rfl)
      have y1 := (hb.cell (p := ⟨b', off' + k * 8 + 1, none⟩) hbl').trans (hat 1 _ rfl)
      have y2 := (hb.cell (p := ⟨b', off' + k * 8 + 2, none⟩) hbl').trans (hat 2 _ rfl)
      have y3 := (hb.cell (p := ⟨b', off' + k * 8 + 3, none⟩) hbl').trans (hat 3 _ rfl)
      have y4 := (hb.cell (p := ⟨b', off' + k * 8 + 4, none⟩) hbl').trans (hat 4 _ rfl)
      have y5 := (hb.cell (p := ⟨b', off' + k * 8 + 5, none⟩) hbl').trans (hat 5 _ rfl)
      have y6 := (hb.cell (p := ⟨b', off' + k * 8 + 6, none⟩) hbl').trans (hat 6 _ rfl)
      have y7 := (hb.cell (p := ⟨b', off' + k * 8 + 7, none⟩) hbl').trans (hat 7 _ rfl)
      clear hat
      go_wp2_with fail
      go_still_tail 8, (by kernel_rfl)
      change wpList _ _ _ _ _ wr.drew
      have hb2 : Below w.heap.size w wr.drew := hb.drew
      replace HRK := Lib.hid (show VectorR n wr.drew _ _ from HRK.out.below (Below.drew (Below.refl _ _)))
      replace HRL := Lib.hid (show VectorR n wr.drew _ _ from HRL.out.below (Below.drew (Below.refl _ _)))
      generalize wr.drew = w2 at *
      go_wp2_with fail
      refine (ih l[k] _ _ _ HRK.out HRL.out).mono ?_
      rintro e w3 ⟨rfl, hb3⟩
      have HB3 := Lib.hid (hb2.trans (hb3.mono hb2.size))
      clear hb3
      go_wp2_with fail
      go_roundw
      case rel => exact ⟨k + 1, by omega, by go_num, HB3.out⟩
      case measure => simp [intOf]; omega
    · go_wp2_with fail
      go_ret
      exact ⟨rfl, hb⟩

end Go.Proofs.YtjdfancbmjnjfaaGreat
namespace Go.Proofs.YtjdfancbmjnjfaaGreat
set_option maxRecDepth 100000
open Go.ChangeShapes Go.WideShapes Go.ChangeAt Go.RowKit Go.Deep

theorem szVector_all : ∀ n, SzVectorC n
  | 0 => fun _ _ _ _ h => h.elim
  | n + 1 => laws_szVector_step n (laws_szVectorS n (szVector_all n))
theorem toVector_all : ∀ n, ToVectorC n
  | 0 => fun _ _ _ h => h.elim
  | n + 1 => laws_toVector_step n (laws_toVectorS n (toVector_all n))
theorem eqVector_all : ∀ n, EqVectorC n
  | 0 => fun _ _ _ _ h => h.elim
  | n + 1 => laws_eqVector_same_step n (laws_eqVectorS_same n (eqVector_all n))

def VecR (w : World) (cs : List Value) (d : VecD) : Prop := ∃ n, VectorR n w cs d
def VecO (S : Nat → Prop) (w : World) (cs : List Value) (d : VecD) : Prop := ∃ n, VectorO n S w cs d
theorem VecR.below {w w' : World} {cs : List Value} {d : VecD} (h : VecR w cs d) (hb : Below w.heap.size w w') : VecR w' cs d := by
  obtain ⟨n, h⟩ := h
  exact ⟨n, h.below hb⟩
theorem VecR.shape {w : World} {cs : List Value} {d : VecD} (h : VecR w cs d) : ∃ v1 v2 v3 v4 v5, cs = [.int .i64 d.kind, v1, v2, v3, v4, v5, .int .i64 d.code, .int .i64 d.env] := by
  obtain ⟨n, h⟩ := h
  exact h.shape
theorem VecO.read {S : Nat → Prop} {w : World} {cs : List Value} {d : VecD} (h : VecO S w cs d) : VecR w cs d := by
  obtain ⟨n, h⟩ := h
  exact ⟨n, h.read⟩
theorem VecO.keeps {S : Nat → Prop} {w w' : World} {cs : List Value} {d : VecD} (h : VecO S w cs d) (hk : Keeps S w w') : VecO S w' cs d := by
  obtain ⟨n, h⟩ := h
  exact ⟨n, h.keeps hk⟩
theorem VecO.mono {S S' : Nat → Prop} {w : World} {cs : List Value} {d : VecD} (h : VecO S w cs d) (hs : ∀ b, S b → S' b) : VecO S' w cs d := by
  obtain ⟨n, h⟩ := h
  exact ⟨n, h.mono hs⟩
theorem VecO.shape {S : Nat → Prop} {w : World} {cs : List Value} {d : VecD} (h : VecO S w cs d) : ∃ (A1 : Option Addr) (c1 : Nat) (A2 : Option Addr) (c2 : Nat) (A3 : Option Addr) (c3 : Nat) (A4 : Option Addr) (c4 : Nat) (A5 : Option Addr) (c5 : Nat), cs = [.int .i64 d.kind, .slice A1 d.items.length c1, .slice A2 d.parts.length c2, .slice A3 d.names.length c3, .slice A4 d.cls.length c4, .slice A5 d.levels.length c5, .int .i64 d.code, .int .i64 d.env] := by
  obtain ⟨n, h⟩ := h
  exact h.shape
def RetVec (w : World) (d : VecD) (e : Ending) (w' : World) : Prop := ∃ cs, e = .returned (.agg cs.toArray) ∧ VecO (Rng w.heap.size w'.heap.size) w' cs d ∧ Below w.heap.size w w'
theorem laws_szVec (d : VecD) (cs : List Value) (left : Int) (w : World) (h : VecR w cs d) (h0 : 0 ≤ left) (h1 : left ≤ 1048576) :
    Calls Tryz.prog 132 #[.agg cs.toArray, .int .i64 left] w fun e w' => e = .returned (.int .i64 (szR left (szVector d))) ∧ Below w.heap.size w w' := by
  obtain ⟨n, h⟩ := h
  exact szVector_all n d cs left w h h0 h1
theorem laws_toVec (d : VecD) (cs : List Value) (w : World) (h : VecR w cs d) (hz : szVector d ≤ 1048576) : Calls Tryz.prog 137 #[.agg cs.toArray] w (RetVec w d) := by
  obtain ⟨n, h⟩ := h
  refine (toVector_all n d cs w h hz).mono ?_
  rintro e w' ⟨cs', he, ho, hb⟩
  exact ⟨cs', he, ⟨n, ho⟩, hb⟩
theorem laws_eqVec_same (d : VecD) (cs cs' : List Value) (w : World) (h : VecR w cs d) (h' : VecR w cs' d) :
    Calls Tryz.prog 140 #[.agg cs.toArray, .agg cs'.toArray] w fun e w' => e = .returned (.bool true) ∧ Below w.heap.size w w' := by
  obtain ⟨n, h⟩ := h
  obtain ⟨m, h'⟩ := h'
  exact eqVector_all (max n m) d cs cs' w (h.le (Nat.le_max_left _ _)) (h'.le (Nat.le_max_right _ _))

theorem cells_Vector : Tryz.prog.cellsOf 111 = 8 := by kernel_rfl

theorem open_VectorR {H : Type} {enc : TypeId × Value → H} {w : World} {base : Nat} {spare : Nat → Bool} {held : Bool} : ∀ (m : Nat) (n : Nat), n ≤ m → ∀ (cs : List Value) (x : DataW H × List MemPlace), DataW.trod enc Tryz.prog w base spare held n 111 cs = some x → ∃ d, VectorR n w cs d := by
  intro m
  induction m with
  | zero =>
    intro n hn cs x h
    obtain ⟨_, n', hn', _⟩ := open_field Tryz.underlying111 h
    omega
  | succ m ih =>
    intro n hnm cs x h
    obtain ⟨hlen, n', hn, hg⟩ := open_field Tryz.underlying111 h
    match cs, hlen.trans cells_Vector with
    | [c0, c1, c2, c3, c4, c5, c6, c7], _ =>
      obtain ⟨y0, g0⟩ := hg 0 _ rfl
      obtain ⟨y1, g1⟩ := hg 1 _ rfl
      obtain ⟨y2, g2⟩ := hg 2 _ rfl
      obtain ⟨y3, g3⟩ := hg 3 _ rfl
      obtain ⟨y4, g4⟩ := hg 4 _ rfl
      obtain ⟨y5, g5⟩ := hg 5 _ rfl
      obtain ⟨y6, g6⟩ := hg 6 _ rfl
      obtain ⟨y7, g7⟩ := hg 7 _ rfl
      rw [show List.take (Tryz.prog.cellsOf _) (List.drop _ [c0, c1, c2, c3, c4, c5, c6, c7]) = [c0] by simp [cells_int]] at g0
      rw [show List.take (Tryz.prog.cellsOf _) (List.drop _ [c0, c1, c2, c3, c4, c5, c6, c7]) = [c1] by simp [cells_slice_Item]] at g1
      rw [show List.take (Tryz.prog.cellsOf _) (List.drop _ [c0, c1, c2, c3, c4, c5, c6, c7]) = [c2] by simp [cells_slice_Vector]] at g2
      rw [show List.take (Tryz.prog.cellsOf _) (List.drop _ [c0, c1, c2, c3, c4, c5, c6, c7]) = [c3] by simp [cells_slice_string]] at g3
      rw [show List.take (Tryz.prog.cellsOf _) (List.drop _ [c0, c1, c2, c3, c4, c5, c6, c7]) = [c4] by simp [cells_slice_string]] at g4
      rw [show List.take (Tryz.prog.cellsOf _) (List.drop _ [c0, c1, c2, c3, c4, c5, c6, c7]) = [c5] by simp [cells_slice_string]] at g5
      rw [show List.take (Tryz.prog.cellsOf _) (List.drop _ [c0, c1, c2, c3, c4, c5, c6, c7]) = [c6] by simp [cells_int]] at g6
      rw [show List.take (Tryz.prog.cellsOf _) (List.drop _ [c0, c1, c2, c3, c4, c5, c6, c7]) = [c7] by simp [cells_int]] at g7
      obtain ⟨d0, e0, r0⟩ := open_i64 Tryz.underlying3 g0
      obtain ⟨a1, d1, e1, r1⟩ := open_slr Tryz.underlying108 (show Tryz.prog.cellsOf 137 = 3 by kernel_rfl) (by decide) (ItemR w) (fun _ _ _ _ _ h => open_ItemR h) g1
      obtain ⟨a2, d2, e2, r2⟩ := open_slr Tryz.underlying109 cells_Vector (by decide) (VectorR n' w) (fun k cs d pl hk h => by
        obtain ⟨d, hd⟩ := ih k (by omega) cs _ h
        exact ⟨d, hd.le (by omega)⟩) g2
      obtain ⟨a3, d3, e3, r3⟩ := open_slr Tryz.underlying46 cells_string (by decide) StrR (fun _ _ _ _ _ h => open_str Tryz.underlying9 h) g3
      obtain ⟨a4, d4, e4, r4⟩ := open_slr Tryz.underlying46 cells_string (by decide) StrR (fun _ _ _ _ _ h => open_str Tryz.underlying9 h) g4
      obtain ⟨a5, d5, e5, r5⟩ := open_slr Tryz.underlying46 cells_string (by decide) StrR (fun _ _ _ _ _ h => open_str Tryz.underlying9 h) g5
      obtain ⟨d6, e6, r6⟩ := open_i64 Tryz.underlying3 g6
      obtain ⟨d7, e7, r7⟩ := open_i64 Tryz.underlying3 g7
      simp only [List.cons.injEq, and_true] at e0 e1 e2 e3 e4 e5 e6 e7
      subst e0 e1 e2 e3 e4 e5 e6 e7
      subst hn
      exact ⟨.mk d0 d1 d2 d3 d4 d5 d6 d7, _, _, _, _, _, rfl, r0, r1, r2, r3, r4, r5, r6, r7⟩

theorem open_VecR {H : Type} {enc : TypeId × Value → H} {w : World} {base : Nat} {spare : Nat → Bool} {held : Bool} {n : Nat} {cs : List Value} {x : DataW H × List MemPlace} (h : DataW.trod enc Tryz.prog w base spare held n 111 cs = some x) : ∃ d, VecR w cs d := by
  obtain ⟨d, hd⟩ := open_VectorR n n (Nat.le_refl _) cs x h
  exact ⟨d, n, hd⟩
end Go.Proofs.YtjdfancbmjnjfaaGreat
