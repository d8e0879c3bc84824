/-
  Merged texts: Number, VecOk, VecOk2.
-/
import Derived.Test.YtjdimlhdkmkmbaaKVec
import Derived.Test.YtjdimlhdkmkmbaaKBase
namespace Go.Proofs.Ytjdimlhdkmkmbaa
set_option maxRecDepth 100000
set_option maxRecDepth 100000
open Go.ChangeShapes Go.WideShapes Go.ChangeAt Go.RowKit Go.Deep

theorem gcd_step (x y : Nat) : Nat.gcd y (x % y) = Nat.gcd x y := by rw [Nat.gcd_comm x y, Nat.gcd_rec y x, Nat.gcd_comm]
def lo64 (n : Int) : Prop := -9223372036854775808 < n ∧ n ≤ 9223372036854775807

theorem spec_l2Abs (a : Int) (w : World) (h : -9223372036854775808 < a) (h2 : a ≤ 9223372036854775807) :
    Calls Try.prog 89 #[.int .i64 a] w fun e w' => e = .returned (.int .i64 a.natAbs) ∧ w = w' := by
  go_enter Try.func89, Try.ntmps89
  by_cases h0 : a < 0
  · go_wp2
    go_ret
    exact ⟨ret_int (by omega), rfl⟩
  · go_wp2
    go_ret
    exact ⟨ret_int (by omega), rfl⟩

set_option maxHeartbeats 400000 in
theorem spec_l2Gcd (a b : Int) (w : World) (ha : lo64 a) (hb : lo64 b) :
    Calls Try.prog 104 #[.int .i64 a, .int .i64 b] w fun e w' => e = .returned (.int .i64 (Int.gcd a b)) ∧ w = w' := by
  obtain ⟨ha1, ha2⟩ := ha
  obtain ⟨hb1, hb2⟩ := hb
  go_enter Try.func104, Try.ntmps104
  go_wp2_with (go_at_call 89; refine (spec_l2Abs _ _ (by omega) (by omega)).mono ?_; rintro e w' ⟨rfl, rfl⟩)
  go_loop [5, 6, 7] (fun x y z => ∃ p q : Nat, x = .int .i64 p ∧ y = .int .i64 q ∧ p ≤ 9223372036854775807 ∧ q ≤ 9223372036854775807 ∧ Hid (Nat.gcd p q = Int.gcd a b)) (fun _ y _ => (intOf y).toNat)
  case atStart => exact ⟨_, _, rfl, rfl, by omega, by omega, rfl⟩
  case round =>
    obtain ⟨p, q, rfl, rfl, hp, hq, hg⟩ := hrel
    by_cases h0 : q = 0
    · subst h0
      go_wp2
      go_ret
      exact ⟨ret_int (by rw [← hg.out]; simp), rfl⟩
    · have hm := Nat.mod_lt p (show q > 0 by omega)
      have HE := Lib.hid (show Int.tmod (p : Int) (q : Int) = ((p % q : Nat) : Int) from rfl)
      go_wp2
      go_round
      case rel => exact ⟨q, p % q, rfl, by go_num, by omega, by omega, (gcd_step p q).trans hg.out⟩
      case measure => simp [intOf]; omega

set_option maxHeartbeats 400000 in
theorem impl_gcd (a b : Int) (w : World) (ha : lo64 a) (hb : lo64 b) :
    Calls Try.prog 114 #[.int .i64 a, .int .i64 b] w fun e w' => e = .returned (.int .i64 (Int.gcd a b)) ∧ Below w.heap.size w w' := by
  obtain ⟨ha1, ha2⟩ := ha
  obtain ⟨hb1, hb2⟩ := hb
  go_enter Try.func114, Try.ntmps114
  by_cases h0 : a < 0 <;> by_cases h1 : b < 0 <;>
  · go_wp2
    go_loopw [0, 1] (fun x y wr => ∃ p q : Nat, x = .int .i64 p ∧ y = .int .i64 q ∧ p ≤ 9223372036854775807 ∧ q ≤ 9223372036854775807 ∧ Hid (Nat.gcd p q = Int.gcd a b) ∧ Below w.heap.size w wr) (fun _ y _ => (intOf y).toNat)
    case atStart => exact ⟨a.natAbs, b.natAbs, by go_num, by go_num, by omega, by omega, rfl, Below.refl _ _⟩
    case round =>
      obtain ⟨p, q, rfl, rfl, hp, hq, hg, hb⟩ := hrel
      by_cases h0 : q = 0
      · subst h0
        go_wp2
        go_ret
        exact ⟨ret_int (by rw [← hg.out]; simp), hb⟩
      · have hm := Nat.mod_lt p (show q > 0 by omega)
        have HE := Lib.hid (show Int.tmod (p : Int) (q : Int) = ((p % q : Nat) : Int) from rfl)
        go_wp2
        go_quiet (fail)
        go_wp2
        go_roundw
        case rel => exact ⟨q, p % q, rfl, by go_num, by omega, by omega, (gcd_step p q).trans hg.out, below_drewN hb _⟩
        case measure => simp [intOf]; omega

theorem spec_l1In (a x y : Int) (w : World) :
    Calls Try.prog 54 #[.int .i64 a, .int .i64 x, .int .i64 y] w fun e w' => e = .returned (.bool (decide (x ≤ a) && decide (a ≤ y))) ∧ w = w' := by
  by_cases h1 : x ≤ a <;> by_cases h2 : a ≤ y
  all_goals
    go_enter Try.func54, Try.ntmps54
    go_wp2
    go_ret
    exact ⟨ret_bool (by simp [h1, h2]), rfl⟩

theorem spec_l1In_t (a x y : Int) (w : World) (h1 : x ≤ a) (h2 : a ≤ y) : Calls Try.prog 54 #[.int .i64 a, .int .i64 x, .int .i64 y] w fun e w' => e = .returned (.bool true) ∧ w = w' :=
  (spec_l1In a x y w).mono fun _ _ ⟨he, hw⟩ => ⟨by rw [he]; simp [h1, h2], hw⟩
theorem spec_l1In_f (a x y : Int) (w : World) (h : ¬ (x ≤ a ∧ a ≤ y)) : Calls Try.prog 54 #[.int .i64 a, .int .i64 x, .int .i64 y] w fun e w' => e = .returned (.bool false) ∧ w = w' :=
  (spec_l1In a x y w).mono fun _ _ ⟨he, hw⟩ => ⟨by rw [he]; exact ret_bool (by simp; omega), hw⟩

def isNum (d : ItemD) : Bool := d.text.isEmpty && (decide (1 ≤ d.den) && decide (d.den ≤ 999999999)) && (decide (-999999999 ≤ d.num) && decide (d.num ≤ 999999999)) && ((Int.gcd d.num d.den : Int) == 1)

set_option maxHeartbeats 1000000 in
theorem impl_IsNumber (d : ItemD) (cs : List Value) (w : World) (h : ItemR w cs d) :
    Calls Try.prog 115 #[.agg cs.toArray] w fun e w' => e = .returned (.bool (isNum d)) ∧ Below w.heap.size w w' := by
  obtain ⟨rfl, h0, h1, h2⟩ := h
  go_enter Try.func115, Try.ntmps115
  go_wp2_with (go_at_call 114; refine (impl_gcd _ _ _ (by constructor <;> omega) (by constructor <;> omega)).mono ?_; rintro e w' ⟨rfl, hb⟩)
  all_goals
    go_ret
    refine ⟨ret_bool (by first | (simp_all [isNum]; done) | (simp_all [isNum]; omega)), ?_⟩
    first | exact (Below.refl _ _).alloc (Nat.le_refl _) _ | exact ((Below.refl _ _).alloc (Nat.le_refl _) _).trans (hb.mono (by simp))

set_option maxHeartbeats 1000000 in
theorem spec_IsNumber (d : ItemD) (cs : List Value) (w : World) (h : ItemR w cs d) :
    Calls Try.prog 127 #[.agg cs.toArray] w fun e w' => e = .returned (.bool (isNum d)) ∧ Below w.heap.size w w' := by
  obtain ⟨rfl, h0, h1, h2⟩ := h
  by_cases g1 : 1 ≤ d.den ∧ d.den ≤ 999999999 <;> by_cases g2 : -999999999 ≤ d.num ∧ d.num ≤ 999999999
  all_goals
    go_enter Try.func127, Try.ntmps127
    go_wp2_with (first | (go_at_call 54; refine (spec_l1In_t _ _ _ _ (by omega) (by omega)).mono ?_; rintro e w' ⟨rfl, rfl⟩) | (go_at_call 54; refine (spec_l1In_f _ _ _ _ (by omega)).mono ?_; rintro e w' ⟨rfl, rfl⟩) | (go_at_call 104; refine (spec_l2Gcd _ _ _ (by constructor <;> omega) (by constructor <;> omega)).mono ?_; rintro e w' ⟨rfl, rfl⟩))
    all_goals
      go_ret
      refine ⟨ret_bool (by first | (simp_all [isNum]; done) | (simp_all [isNum]; omega)), ?_⟩
      exact (Below.refl _ _).alloc (Nat.le_refl _) _

end Go.Proofs.Ytjdimlhdkmkmbaa
namespace Go.Proofs.Ytjdimlhdkmkmbaa
set_option maxRecDepth 100000
open Go.ChangeShapes Go.WideShapes Go.ChangeAt Go.RowKit Go.Deep

def RetB (b : Bool) (w : World) (e : Ending) (w' : World) : Prop := e = .returned (.bool b) ∧ Below w.heap.size w w'
def RetI (n : Int) (w : World) (e : Ending) (w' : World) : Prop := e = .returned (.int .i64 n) ∧ Below w.heap.size w w'

def missing (d : ItemD) : Bool := d.num == 0 && d.den == 0 && d.text.isEmpty
def itemOk (k : Int) (d : ItemD) : Bool :=
  missing d || (k == 1 && (d.text.isEmpty && d.den == 1 && (d.num == 0 || d.num == 1))) || (k == 2 && isNum d) || (k == 3 && (d.num == 0 && d.den == 1 && decide (d.text.length ≤ 60)))

theorem below_alloc1 (w : World) (o : Obj) : Below w.heap.size w (w.alloc o) := (Below.refl _ _).alloc (Nat.le_refl _) _

theorem impl_isMissing (d : ItemD) (cs : List Value) (w : World) (h : ItemR w cs d) :
    Calls Try.prog 69 #[.agg cs.toArray] w (RetB (missing d) w) := by
  obtain ⟨rfl, h0, h1, h2⟩ := h
  by_cases g0 : d.num = 0 <;> by_cases g1 : d.den = 0 <;> by_cases g2 : d.text = []
  all_goals
    go_enter Try.func69, Try.ntmps69
    go_wp2
    go_ret
    exact ⟨ret_bool (by simp [missing, g0, g1, g2]), below_alloc1 _ _⟩

set_option maxHeartbeats 1000000 in
theorem impl_itemValid (k : Int) (d : ItemD) (cs : List Value) (w : World) (h : ItemR w cs d) :
    Calls Try.prog 126 #[.int .i64 k, .agg cs.toArray] w (RetB (itemOk k d) w) := by
  have HI := Lib.hid h
  obtain ⟨rfl, h0, h1, h2⟩ := h
  unfold maxLen at h2
  cases hm : missing d
  all_goals
    have HM := Lib.hid hm
    clear hm
    go_enter Try.func126, Try.ntmps126
    go_wp2_with (first | (go_at_call 69; refine (impl_isMissing d _ _ (HI.out.below (below_alloc1 _ _))).mono ?_; rintro e w1 ⟨rfl, hb⟩; rw [HM.out]; have hc0 := (hb.cell (p := ⟨w.heap.size, 0, none⟩) (by simp)); have hc1 := (hb.cell (p := ⟨w.heap.size, 1, none⟩) (by simp)); have hc2 := (hb.cell (p := ⟨w.heap.size, 2, none⟩) (by simp)); have HB := Lib.hid hb; clear hb) | (go_at_call 115; refine (impl_IsNumber d _ _ (HI.out.below ((below_alloc1 _ _).trans (HB.out.mono (by simp))))).mono ?_; rintro e w2 ⟨rfl, hb2⟩))
    all_goals
      go_ret
      refine ⟨ret_bool (by have := HM.out; first | (simp_all [itemOk]; done) | (simp_all [itemOk]; omega)), ?_⟩
      first | exact (below_alloc1 _ _).trans (HB.out.mono (by simp)) | exact ((below_alloc1 _ _).trans (HB.out.mono (by simp))).trans (hb2.mono (Nat.le_trans (by simp) HB.out.size))

set_option maxHeartbeats 1000000 in
theorem spec_l4Item (k : Int) (d : ItemD) (cs : List Value) (w : World) (h : ItemR w cs d) :
    Calls Try.prog 121 #[.int .i64 k, .agg cs.toArray] w (RetB (itemOk k d) w) := by
  have HI := Lib.hid h
  obtain ⟨rfl, h0, h1, h2⟩ := h
  unfold maxLen at h2
  by_cases g0 : d.num = 0 <;> by_cases g1 : d.den = 0 <;> by_cases g2 : d.text = [] <;> by_cases g3 : 0 ≤ d.num ∧ d.num ≤ 1
  all_goals
    go_enter Try.func121, Try.ntmps121
    go_wp2_with (first | (go_at_call 54; refine (spec_l1In_t _ _ _ _ (by omega) (by omega)).mono ?_; rintro e w' ⟨rfl, rfl⟩) | (go_at_call 54; refine (spec_l1In_f _ _ _ _ (by omega)).mono ?_; rintro e w' ⟨rfl, rfl⟩) | (go_at_call 127; refine (spec_IsNumber d _ _ (by have := HI.out.below (below_alloc1 w (.cells #[.int .i64 d.num, .int .i64 d.den, .string (str d.text)] 36)); first | exact this | (simp only [g0, g1, g2] at this; exact this))).mono ?_; rintro e w2 ⟨rfl, hb2⟩))
    all_goals
      go_ret
      refine ⟨ret_bool (by first | (simp_all [itemOk, missing]; done) | (simp_all [itemOk, missing]; omega)), ?_⟩
      first | exact below_alloc1 _ _ | exact (below_alloc1 _ _).trans (hb2.mono (by simp))

def lenV (d : VecD) : Nat := if d.kind = 5 then 1 else d.items.length + d.parts.length
def atomV (k : Int) : Bool := k == 1 || k == 2 || k == 3

theorem VecR.open_ {w : World} {cs : List Value} {d : VecD} (h : VecR w cs d) : ∃ (n : Nat) (A1 : Option Addr) (c1 : Nat) (A2 : Option Addr) (c2 : Nat) (A3 : Option Addr) (c3 : Nat) (A4 : Option Addr) (c4 : Nat) (A5 : Option Addr) (c5 : Nat),
    cs = [.int .i64 d.kind, .slice A1 d.items.length c1, .slice A2 d.parts.length c2, .slice A3 d.names.length c3, .slice A4 d.cls.length c4, .slice A5 d.levels.length c5, .int .i64 d.code, .int .i64 d.env] ∧
    I64 d.kind ∧ I64 d.code ∧ I64 d.env ∧ d.items.length ≤ 9223372036854775807 ∧ d.parts.length ≤ 9223372036854775807 ∧ d.names.length ≤ 9223372036854775807 ∧ d.cls.length ≤ 9223372036854775807 ∧ d.levels.length ≤ 9223372036854775807 ∧
    Hid (Items w (.slice A1 d.items.length c1) d.items ∧ Vectors n w (.slice A2 d.parts.length c2) d.parts ∧ Txts w (.slice A3 d.names.length c3) d.names ∧ Txts w (.slice A4 d.cls.length c4) d.cls ∧ Txts w (.slice A5 d.levels.length c5) d.levels) := by
  obtain ⟨n, h⟩ := h
  cases n with
  | zero => exact h.elim
  | succ n =>
    obtain ⟨v1, v2, v3, v4, v5, rfl, h0, h1, h2, h3, h4, h5, h6, h7⟩ := h
    obtain ⟨A1, c1, rfl⟩ := SlR.shape h1
    obtain ⟨A2, c2, rfl⟩ := SlR.shape h2
    obtain ⟨A3, c3, rfl⟩ := SlR.shape h3
    obtain ⟨A4, c4, rfl⟩ := SlR.shape h4
    obtain ⟨A5, c5, rfl⟩ := SlR.shape h5
    exact ⟨n, A1, c1, A2, c2, A3, c3, A4, c4, A5, c5, rfl, h0, h6, h7, SlR.length_le h1, SlR.length_le h2, SlR.length_le h3, SlR.length_le h4, SlR.length_le h5, h1, h2, h3, h4, h5⟩

theorem impl_length (d : VecD) (cs : List Value) (w : World) (h : VecR w cs d) (hz : d.items.length + d.parts.length ≤ 4611686018427387904) :
    Calls Try.prog 41 #[.agg cs.toArray] w (RetI (lenV d) w) := by
  obtain ⟨n, A1, c1, A2, c2, A3, c3, A4, c4, A5, c5, rfl, _, _, _, l1, l2, l3, l4, l5, HV⟩ := h.open_
  clear h
  by_cases hk : d.kind = 5
  all_goals
    go_enter Try.func41, Try.ntmps41
    go_wp2
    go_ret
    exact ⟨ret_int (by simp [lenV, hk]), below_alloc1 _ _⟩
theorem spec_l4Len (d : VecD) (cs : List Value) (w : World) (h : VecR w cs d) (hz : d.items.length + d.parts.length ≤ 4611686018427387904) :
    Calls Try.prog 46 #[.agg cs.toArray] w (RetI (lenV d) w) := by
  obtain ⟨n, A1, c1, A2, c2, A3, c3, A4, c4, A5, c5, rfl, _, _, _, l1, l2, l3, l4, l5, HV⟩ := h.open_
  clear h
  by_cases hk : d.kind = 5
  all_goals
    go_enter Try.func46, Try.ntmps46
    go_wp2
    go_ret
    exact ⟨ret_int (by simp [lenV, hk]), below_alloc1 _ _⟩
theorem impl_isAtomic (d : VecD) (cs : List Value) (w : World) (h : VecR w cs d) :
    Calls Try.prog 125 #[.agg cs.toArray] w (RetB (atomV d.kind) w) := by
  obtain ⟨n, A1, c1, A2, c2, A3, c3, A4, c4, A5, c5, rfl, _, _, _, l1, l2, l3, l4, l5, HV⟩ := h.open_
  clear h
  go_enter Try.func125, Try.ntmps125
  go_wp2
  all_goals
    go_ret
    exact ⟨ret_bool (by simp_all [atomV]), below_alloc1 _ _⟩

def allE (l : List (List UInt8)) : Bool := decide (∀ j (h : j < l.length), l[j] = [])
theorem allE_no (l : List (List UInt8)) (k : Nat) (h : k < l.length) (hn : ¬ l[k] = []) : allE l = false := by
  simp only [allE, decide_eq_false_iff_not]
  exact fun h' => hn (h' k h)

set_option maxHeartbeats 400000 in
theorem impl_allEmpty (l : List (List UInt8)) (v : Value) (w : World) (h : Txts w v l) :
    Calls Try.prog 96 #[v] w fun e w' => e = .returned (.bool (allE l)) ∧ w = w' := by
  obtain ⟨A, c, rfl, hlc, hm, HC⟩ := h.open_
  clear h
  unfold maxLen at hm
  go_enter Try.func96, Try.ntmps96
  go_wp2
  go_loop [7] (fun i => ∃ k : Nat, k ≤ l.length ∧ i = .int .i64 k ∧ Hid (∀ j (h : j < l.length), j < k → l[j] = [])) (fun i => l.length - (intOf i).toNat)
  case atStart => exact ⟨0, Nat.zero_le _, rfl, fun j _ h => absurd h (by omega)⟩
  case round =>
    obtain ⟨k, hk, rfl, hn⟩ := hrel
    by_cases hlt : k < l.length
    · obtain ⟨b, off, rfl, hbl, hcell, hsz⟩ := HC.out k hlt
      by_cases he : l[k] = []
      · have HE := Lib.hid he
        have hb1 : (!l[k].isEmpty) = false := by simp [he]
        have hb2 : l[k].isEmpty = true := by simp [he]
        clear he
        go_wp2
        go_round
        case rel => exact ⟨k + 1, by omega, by go_num, fun j h1 hj => by rcases Nat.lt_succ_iff_lt_or_eq.1 hj with h3 | rfl; exact hn.out j h1 h3; exact HE.out⟩
        case measure => simp [intOf]; omega
      · have hb1 : (!l[k].isEmpty) = true := by simp [he]
        have hb2 : l[k].isEmpty = false := by simp [he]
        go_wp2
        go_ret
        exact ⟨ret_bool (allE_no l k hlt he).symm, rfl⟩
    · go_wp2
      go_ret
      exact ⟨ret_bool (by simp only [allE]; exact (decide_eq_true (fun j h => hn.out j h (by omega))).symm), rfl⟩

end Go.Proofs.Ytjdimlhdkmkmbaa
namespace Go.Proofs.Ytjdimlhdkmkmbaa
set_option maxRecDepth 100000
open Go.ChangeShapes Go.WideShapes Go.ChangeAt Go.RowKit Go.Deep

def labB (l : List (List UInt8)) (k : Nat) (s : List UInt8) : Bool := !s.isEmpty && decide (s.length ≤ 60) && !hasB (l.take k) s
def labelsOk (l : List (List UInt8)) (most : Int) : Bool := decide ((l.length : Int) ≤ most) && decide (∀ j (h : j < l.length), labB l j l[j] = true)
theorem labelsOk_len {l : List (List UInt8)} {most : Int} (h : ¬ (l.length : Int) ≤ most) : labelsOk l most = false := by simp [labelsOk, h]
theorem labelsOk_no {l : List (List UInt8)} {most : Int} (k : Nat) (hk : k < l.length) (h : labB l k l[k] = false) : labelsOk l most = false := by
  simp only [labelsOk, Bool.and_eq_false_iff, decide_eq_false_iff_not]
  right
  intro h'
  rw [h' k hk] at h
  cases h
theorem labelsOk_yes {l : List (List UInt8)} {most : Int} (h : (l.length : Int) ≤ most) (hn : ∀ j (h : j < l.length), labB l j l[j] = true) : labelsOk l most = true := by
  simp only [labelsOk, Bool.and_eq_true, decide_eq_true_eq]
  exact ⟨h, hn⟩

theorem SlR.take {α : Type} {w : World} {size : Nat} {R : List Value → α → Prop} {A : Option Addr} {n c : Nat} {l : List α} (h : SlR w size R (.slice A n c) l) (k : Nat) (hk : k ≤ l.length) : SlR w size R (.slice A k c) (l.take k) := by
  obtain ⟨A', c', he, hlc, hc, hx⟩ := h
  injection he with e1 e2 e3
  subst e1 e3
  refine ⟨A, c, by rw [List.length_take, Nat.min_eq_left hk], by rw [List.length_take, Nat.min_eq_left hk]; omega, hc, fun h0 => ?_⟩
  rw [List.length_take, Nat.min_eq_left hk] at h0
  obtain ⟨b, off, hA, hb, hg⟩ := hx (by omega)
  refine ⟨b, off, hA, hb, fun j hj => ?_⟩
  rw [List.length_take, Nat.min_eq_left hk] at hj
  obtain ⟨cs, q1, q2, q3⟩ := hg j (by omega)
  exact ⟨cs, q1, q2, by rw [List.getElem_take]; exact q3⟩

set_option maxHeartbeats 1000000 in
theorem impl_labelsValid (l : List (List UInt8)) (most : Int) (v : Value) (w : World) (h : Txts w v l) :
    Calls Try.prog 124 #[v, .int .i64 most] w fun e w' => e = .returned (.bool (labelsOk l most)) ∧ w = w' := by
  have HT := Lib.hid h
  obtain ⟨A, c, rfl, hlc, hm, HC⟩ := h.open_
  clear h
  unfold maxLen at hm
  by_cases hle : (l.length : Int) ≤ most
  · go_enter Try.func124, Try.ntmps124
    go_wp2
    go_loop [13] (fun i => ∃ k : Nat, k ≤ l.length ∧ i = .int .i64 k ∧ Hid (∀ j (h : j < l.length), j < k → labB l j l[j] = true)) (fun i => l.length - (intOf i).toNat)
    case atStart => exact ⟨0, Nat.zero_le _, rfl, fun j _ h => absurd h (by omega)⟩
    case round =>
      obtain ⟨k, hk, rfl, hn⟩ := hrel
      by_cases hlt : k < l.length
      · obtain ⟨b, off, rfl, hbl, hcell, hsz⟩ := HC.out k hlt
        have HK := Lib.hid (SlR.take HT.out k (by omega))
        by_cases g1 : l[k] = []
        · have HE := Lib.hid (show labB l k l[k] = false by simp [labB, g1])
          have hb2 : l[k].isEmpty = true := by simp [g1]
          clear g1
          go_wp2
          go_ret
          exact ⟨ret_bool (labelsOk_no k hlt HE.out).symm, rfl⟩
        have hb2 : l[k].isEmpty = false := by simp [g1]
        by_cases g2 : 60 < l[k].length
        · have HE := Lib.hid (show labB l k l[k] = false by simp [labB]; intro _ _; omega)
          clear g1
          go_wp2
          go_ret
          exact ⟨ret_bool (labelsOk_no k hlt HE.out).symm, rfl⟩
        cases g3 : hasB (l.take k) l[k]
        all_goals
          have HE := Lib.hid (show labB l k l[k] = !hasB (l.take k) l[k] by simp [labB, g1]; intro _; omega)
          have HG := Lib.hid g3
          clear g1 g3
          go_wp2_with (go_at_call 52; refine (impl_hasText (l.take k) l[k] _ _ HK.out).mono ?_; rintro e w' ⟨rfl, rfl⟩; rw [HG.out])
        · go_round
          case rel => exact ⟨k + 1, by omega, by go_num, fun j h1 hj => by rcases Nat.lt_succ_iff_lt_or_eq.1 hj with h3 | rfl; exact hn.out j h1 h3; rw [HE.out, HG.out]; rfl⟩
          case measure => simp [intOf]; omega
        · go_ret
          exact ⟨ret_bool (labelsOk_no k hlt (by rw [HE.out, HG.out]; rfl)).symm, rfl⟩
      · go_wp2
        go_ret
        exact ⟨ret_bool (labelsOk_yes hle (fun j h => hn.out j h (by omega))).symm, rfl⟩
  · go_enter Try.func124, Try.ntmps124
    go_wp2
    go_ret
    exact ⟨ret_bool (labelsOk_len (by omega)).symm, rfl⟩

theorem findB_take (l : List (List UInt8)) (k : Nat) (hk : k < l.length) : decide (findB l l[k] < (k : Int)) = hasB (l.take k) l[k] := by
  rw [Bool.eq_iff_iff]
  simp only [decide_eq_true_eq, hasB, List.contains_iff_mem]
  constructor
  · intro h
    unfold findB at h
    split at h
    · rename_i i hi
      obtain ⟨h1, h2, h3⟩ := List.findIdx?_eq_some_iff_getElem.1 hi
      have hik : i < k := by omega
      have : l[i] = l[k] := by simpa using h2
      rw [← this]
      exact List.mem_take_iff_getElem.2 ⟨i, by omega, rfl⟩
    · rename_i hi
      have := List.findIdx?_eq_none_iff.1 hi l[k] (List.getElem_mem hk)
      simp at this
  · intro h
    obtain ⟨i, hi, he⟩ := List.mem_take_iff_getElem.1 h
    unfold findB
    split
    · rename_i j hj
      obtain ⟨h1, h2, h3⟩ := List.findIdx?_eq_some_iff_getElem.1 hj
      have : ¬ i < j := fun hij => by
        have := h3 i hij
        simp [he] at this
      omega
    · omega

set_option maxHeartbeats 1000000 in
theorem spec_l4Labels (l : List (List UInt8)) (most : Int) (v : Value) (w : World) (h : Txts w v l) :
    Calls Try.prog 120 #[v, .int .i64 most] w fun e w' => e = .returned (.bool (labelsOk l most)) ∧ w = w' := by
  have HT := Lib.hid h
  obtain ⟨A, c, rfl, hlc, hm, HC⟩ := h.open_
  clear h
  unfold maxLen at hm
  go_enter Try.func120, Try.ntmps120
  go_wp2
  go_loop [5] (fun i => ∃ k : Nat, k ≤ l.length ∧ i = .int .i64 k ∧ Hid (∀ j (h : j < l.length), j < k → labB l j l[j] = true)) (fun i => l.length - (intOf i).toNat)
  case atStart => exact ⟨0, Nat.zero_le _, rfl, fun j _ h => absurd h (by omega)⟩
  case round =>
    obtain ⟨k, hk, rfl, hn⟩ := hrel
    by_cases hlt : k < l.length
    · obtain ⟨b, off, rfl, hbl, hcell, hsz⟩ := HC.out k hlt
      by_cases hmo : (k : Int) ≤ most
      · by_cases g1 : l[k] = []
        · have HE := Lib.hid (show labB l k l[k] = false by simp [labB, g1])
          have hb2 : l[k].isEmpty = true := by simp [g1]
          clear g1
          go_wp2
          go_ret
          exact ⟨ret_bool (labelsOk_no k hlt HE.out).symm, rfl⟩
        have hb2 : l[k].isEmpty = false := by simp [g1]
        by_cases g2 : 60 < l[k].length
        · have HE := Lib.hid (show labB l k l[k] = false by simp [labB]; intro _ _; omega)
          clear g1
          go_wp2
          go_ret
          exact ⟨ret_bool (labelsOk_no k hlt HE.out).symm, rfl⟩
        have HX := Lib.hid (findB_take l k hlt)
        have HE := Lib.hid (show labB l k l[k] = !hasB (l.take k) l[k] by simp [labB, g1]; intro _; omega)
        by_cases g3 : findB l l[k] < (k : Int)
        all_goals
          clear g1
          go_wp2_with (go_at_call 108; refine (spec_l1Find l l[k] _ _ HT.out).mono ?_; rintro e w' ⟨rfl, rfl⟩)
        · go_ret
          exact ⟨ret_bool (labelsOk_no k hlt (by rw [HE.out, ← HX.out, decide_eq_true g3]; rfl)).symm, rfl⟩
        · go_round
          case rel => exact ⟨k + 1, by omega, by go_num, fun j h1 hj => by rcases Nat.lt_succ_iff_lt_or_eq.1 hj with h3 | rfl; exact hn.out j h1 h3; rw [HE.out, ← HX.out, decide_eq_false (by omega)]; rfl⟩
          case measure => simp [intOf]; omega
      · have hL : ¬ (l.length : Int) ≤ most := by omega
        go_wp2
        go_ret
        exact ⟨ret_bool (by rw [labelsOk_len (by omega)]), rfl⟩
    · by_cases hL : (l.length : Int) ≤ most
      · go_wp2
        go_ret
        exact ⟨ret_bool (by rw [labelsOk_yes hL (fun j h => hn.out j h (by omega))]), rfl⟩
      · go_wp2
        go_ret
        exact ⟨ret_bool (by rw [labelsOk_len (by omega)]), rfl⟩

def named (l : List (List UInt8)) : Bool := decide (∀ j (h : j < l.length), l[j].length ≤ 60) && (l.isEmpty || !allE l)
theorem named_no {l : List (List UInt8)} (k : Nat) (hk : k < l.length) (h : ¬ l[k].length ≤ 60) : named l = false := by
  simp only [named, Bool.and_eq_false_iff, decide_eq_false_iff_not]
  left
  exact fun h' => h (h' k hk)
theorem named_all {l : List (List UInt8)} (hn : ∀ j (h : j < l.length), l[j].length ≤ 60) : named l = (l.isEmpty || !allE l) := by
  simp only [named, Bool.and_eq_right_iff_imp]
  intro _
  exact decide_eq_true hn

/-- some element before k is not empty, or there is none at all -/
def someB (l : List (List UInt8)) (k : Nat) : Bool := l.isEmpty || !allE (l.take k)
theorem someB_zero (l : List (List UInt8)) : someB l 0 = l.isEmpty := by simp [someB, allE]
theorem someB_all (l : List (List UInt8)) (k : Nat) (h : l.length ≤ k) : someB l k = (l.isEmpty || !allE l) := by rw [someB, List.take_of_length_le h]
theorem someB_succ (l : List (List UInt8)) (k : Nat) (h : k < l.length) : someB l (k + 1) = (someB l k || !l[k].isEmpty) := by
  have h1 : allE (l.take (k + 1)) = (allE (l.take k) && l[k].isEmpty) := by
    rw [Bool.eq_iff_iff]
    simp only [allE, decide_eq_true_eq, Bool.and_eq_true, List.isEmpty_iff, List.length_take, List.getElem_take]
    constructor
    · intro h'
      exact ⟨fun j hj => h' j (by omega), h' k (by omega)⟩
    · rintro ⟨h2, h3⟩ j hj
      by_cases hjk : j < k
      · exact h2 j (by omega)
      · obtain rfl : j = k := by omega
        exact h3
  rw [someB, someB, h1]
  cases l.isEmpty <;> cases allE (l.take k) <;> cases l[k].isEmpty <;> rfl

set_option maxHeartbeats 1000000 in
theorem spec_l4Named (l : List (List UInt8)) (v : Value) (w : World) (h : Txts w v l) :
    Calls Try.prog 119 #[v] w fun e w' => e = .returned (.bool (named l)) ∧ w = w' := by
  obtain ⟨A, c, rfl, hlc, hm, HC⟩ := h.open_
  clear h
  unfold maxLen at hm
  go_enter Try.func119, Try.ntmps119
  go_wp2
  go_loop [3, 4] (fun s i => ∃ k : Nat, k ≤ l.length ∧ i = .int .i64 k ∧ s = .bool (someB l k) ∧ Hid (∀ j (h : j < l.length), j < k → l[j].length ≤ 60)) (fun _ i => l.length - (intOf i).toNat)
  case atStart => exact ⟨0, Nat.zero_le _, rfl, by rw [someB_zero]; cases l <;> simp <;> omega, fun j _ h => absurd h (by omega)⟩
  case round =>
    obtain ⟨k, hk, rfl, rfl, hn⟩ := hrel
    by_cases hlt : k < l.length
    · obtain ⟨b, off, rfl, hbl, hcell, hsz⟩ := HC.out k hlt
      by_cases g2 : 60 < l[k].length
      · go_wp2
        go_ret
        exact ⟨ret_bool (named_no k hlt (by omega)).symm, rfl⟩
      · have HS := Lib.hid (someB_succ l k hlt)
        cases hs : someB l k
        all_goals
          have HSS := Lib.hid hs
          clear hs
          go_wp2
          go_round
          case rel => exact ⟨k + 1, by omega, by go_num, by rw [HS.out, HSS.out]; simp, fun j h1 hj => by rcases Nat.lt_succ_iff_lt_or_eq.1 hj with h3 | rfl; exact hn.out j h1 h3; omega⟩
          case measure => simp [intOf]; omega
    · go_wp2
      go_ret
      exact ⟨ret_bool (by rw [someB_all l k (by omega), named_all (fun j h => hn.out j h (by omega))]), rfl⟩

end Go.Proofs.Ytjdimlhdkmkmbaa
