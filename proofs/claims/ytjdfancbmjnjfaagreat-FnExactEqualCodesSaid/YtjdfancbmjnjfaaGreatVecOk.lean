/-
  Contracts: the small tests that make up the validity of a vector, of the program and of the reference.
-/
import Derived.Test.YtjdfancbmjnjfaaGreatNumber
import Derived.Test.YtjdfancbmjnjfaaGreatVecAll
import Derived.Test.YtjdfancbmjnjfaaGreatFind
namespace Go.Proofs.YtjdfancbmjnjfaaGreat
set_option maxRecDepth 100000
open Go.ChangeShapes Go.WideShapes Go.ChangeAt Go.RowKit Go.Deep

def RetB (b : Bool) (w : World) (e : Ending) (w' : World) : Prop := e = .returned (.bool b) ∧ Below w.heap.size w w'
def RetI (n : Int) (w : World) (e : Ending) (w' : World) : Prop := e = .returned (.int .i64 n) ∧ Below w.heap.size w w'

def missing (d : ItemD) : Bool := d.num == 0 && d.den == 0 && d.text.isEmpty
def itemOk (k : Int) (d : ItemD) : Bool :=
  missing d || (k == 1 && (d.text.isEmpty && d.den == 1 && (d.num == 0 || d.num == 1))) || (k == 2 && isNum d) || (k == 3 && (d.num == 0 && d.den == 1 && decide (d.text.length ≤ 60)))

theorem below_alloc1 (w : World) (o : Obj) : Below w.heap.size w (w.alloc o) := (Below.refl _ _).alloc (Nat.le_refl _) _

theorem impl_isMissing (d : ItemD) (cs : List Value) (w : World) (h : ItemR w cs d) :
    Calls Tryz.prog 150 #[.agg cs.toArray] w (RetB (missing d) w) := by
  obtain ⟨rfl, h0, h1, h2⟩ := h
  by_cases g0 : d.num = 0 <;> by_cases g1 : d.den = 0 <;> by_cases g2 : d.text = []
  all_goals
    go_enter Tryz.func150, Tryz.ntmps150
    go_wp2
    go_ret
    exact ⟨ret_bool (by simp [missing, g0, g1, g2]), below_alloc1 _ _⟩

set_option maxHeartbeats 1000000 in
theorem impl_itemValid (k : Int) (d : ItemD) (cs : List Value) (w : World) (h : ItemR w cs d) :
    Calls Tryz.prog 149 #[.int .i64 k, .agg cs.toArray] w (RetB (itemOk k d) w) := by
  have HI := Lib.hid h
  obtain ⟨rfl, h0, h1, h2⟩ := h
  unfold maxLen at h2
  cases hm : missing d
  all_goals
    have HM := Lib.hid hm
    clear hm
    go_enter Tryz.func149, Tryz.ntmps149
    go_wp2_with (first | (go_at_call 150; refine (impl_isMissing d _ _ (HI.out.below (below_alloc1 _ _))).mono ?_; rintro e w1 ⟨rfl, hb⟩; rw [HM.out]; have hc0 := (hb.cell (p := ⟨w.heap.size, 0, none⟩) (by simp)); have hc1 := (hb.cell (p := ⟨w.heap.size, 1, none⟩) (by simp)); have hc2 := (hb.cell (p := ⟨w.heap.size, 2, none⟩) (by simp)); have HB := Lib.hid hb; clear hb) | (go_at_call 156; refine (impl_IsNumber d _ _ (HI.out.below ((below_alloc1 _ _).trans (HB.out.mono (by simp))))).mono ?_; rintro e w2 ⟨rfl, hb2⟩))
    all_goals
      go_ret
      refine ⟨ret_bool (by have := HM.out; first | (simp_all [itemOk]; done) | (simp_all [itemOk]; omega)), ?_⟩
      first | exact (below_alloc1 _ _).trans (HB.out.mono (by simp)) | exact ((below_alloc1 _ _).trans (HB.out.mono (by simp))).trans (hb2.mono (Nat.le_trans (by simp) HB.out.size))

set_option maxHeartbeats 1000000 in
theorem spec_l4Item (k : Int) (d : ItemD) (cs : List Value) (w : World) (h : ItemR w cs d) :
    Calls Tryz.prog 136 #[.int .i64 k, .agg cs.toArray] w (RetB (itemOk k d) w) := by
  have HI := Lib.hid h
  obtain ⟨rfl, h0, h1, h2⟩ := h
  unfold maxLen at h2
  by_cases g0 : d.num = 0 <;> by_cases g1 : d.den = 0 <;> by_cases g2 : d.text = [] <;> by_cases g3 : 0 ≤ d.num ∧ d.num ≤ 1
  all_goals
    go_enter Tryz.func136, Tryz.ntmps136
    go_wp2_with (first | (go_at_call 21; refine (spec_l1In_t _ _ _ _ (by omega) (by omega)).mono ?_; rintro e w' ⟨rfl, rfl⟩) | (go_at_call 21; refine (spec_l1In_f _ _ _ _ (by omega)).mono ?_; rintro e w' ⟨rfl, rfl⟩) | (go_at_call 143; refine (spec_IsNumber d _ _ (by have := HI.out.below (below_alloc1 w (.cells #[.int .i64 d.num, .int .i64 d.den, .string (str d.text)] 101)); first | exact this | (simp only [g0, g1, g2] at this; exact this))).mono ?_; rintro e w2 ⟨rfl, hb2⟩))
    all_goals
      go_ret
      refine ⟨ret_bool (by first | (simp_all [itemOk, missing]; done) | (simp_all [itemOk, missing]; omega)), ?_⟩
      first | exact below_alloc1 _ _ | exact (below_alloc1 _ _).trans (hb2.mono (by simp))

def lenV (d : VecD) : Nat := if d.kind = 5 then 1 else d.items.length + d.parts.length
def atomV (k : Int) : Bool := k == 1 || k == 2 || k == 3

theorem VecR.open_ {w : World} {cs : List Value} {d : VecD} (h : VecR w cs d) : ∃ (n : Nat) (A1 : Option Addr) (c1 : Nat) (A2 : Option Addr) (c2 : Nat) (A3 : Option Addr) (c3 : Nat) (A4 : Option Addr) (c4 : Nat) (A5 : Option Addr) (c5 : Nat),
    cs = [.int .i64 d.kind, .slice A1 d.items.length c1, .slice A2 d.parts.length c2, .slice A3 d.names.length c3, .slice A4 d.cls.length c4, .slice A5 d.levels.length c5, .int .i64 d.code, .int .i64 d.env] ∧
    I64 d.kind ∧ I64 d.code ∧ I64 d.env ∧ d.items.length ≤ 9223372036854775807 ∧ d.parts.length ≤ 9223372036854775807 ∧ d.names.length ≤ 9223372036854775807 ∧ d.cls.length ≤ 9223372036854775807 ∧ d.levels.length ≤ 9223372036854775807 ∧
    Hid (Items w (.slice A1 d.items.length c1) d.items ∧ Vectors n w (.slice A2 d.parts.length c2) d.parts ∧ Txts w (.slice A3 d.names.length c3) d.names ∧ Txts w (.slice A4 d.cls.length c4) d.cls ∧ Txts w (.slice A5 d.levels.length c5) d.levels) := by
  obtain ⟨n, h⟩ := h
  cases n with
  | zero => exact h.elim
  | succ n =>
    obtain ⟨v1, v2, v3, v4, v5, rfl, h0, h1, h2, h3, h4, h5, h6, h7⟩ := h
    obtain ⟨A1, c1, rfl⟩ := SlR.shape h1
    obtain ⟨A2, c2, rfl⟩ := SlR.shape h2
    obtain ⟨A3, c3, rfl⟩ := SlR.shape h3
    obtain ⟨A4, c4, rfl⟩ := SlR.shape h4
    obtain ⟨A5, c5, rfl⟩ := SlR.shape h5
    exact ⟨n, A1, c1, A2, c2, A3, c3, A4, c4, A5, c5, rfl, h0, h6, h7, SlR.length_le h1, SlR.length_le h2, SlR.length_le h3, SlR.length_le h4, SlR.length_le h5, h1, h2, h3, h4, h5⟩

theorem impl_length (d : VecD) (cs : List Value) (w : World) (h : VecR w cs d) (hz : d.items.length + d.parts.length ≤ 4611686018427387904) :
    Calls Tryz.prog 139 #[.agg cs.toArray] w (RetI (lenV d) w) := by
  obtain ⟨n, A1, c1, A2, c2, A3, c3, A4, c4, A5, c5, rfl, _, _, _, l1, l2, l3, l4, l5, HV⟩ := h.open_
  clear h
  by_cases hk : d.kind = 5
  all_goals
    go_enter Tryz.func139, Tryz.ntmps139
    go_wp2
    go_ret
    exact ⟨ret_int (by simp [lenV, hk]), below_alloc1 _ _⟩
theorem spec_l4Len (d : VecD) (cs : List Value) (w : World) (h : VecR w cs d) (hz : d.items.length + d.parts.length ≤ 4611686018427387904) :
    Calls Tryz.prog 133 #[.agg cs.toArray] w (RetI (lenV d) w) := by
  obtain ⟨n, A1, c1, A2, c2, A3, c3, A4, c4, A5, c5, rfl, _, _, _, l1, l2, l3, l4, l5, HV⟩ := h.open_
  clear h
  by_cases hk : d.kind = 5
  all_goals
    go_enter Tryz.func133, Tryz.ntmps133
    go_wp2
    go_ret
    exact ⟨ret_int (by simp [lenV, hk]), below_alloc1 _ _⟩
theorem impl_isAtomic (d : VecD) (cs : List Value) (w : World) (h : VecR w cs d) :
    Calls Tryz.prog 148 #[.agg cs.toArray] w (RetB (atomV d.kind) w) := by
  obtain ⟨n, A1, c1, A2, c2, A3, c3, A4, c4, A5, c5, rfl, _, _, _, l1, l2, l3, l4, l5, HV⟩ := h.open_
  clear h
  go_enter Tryz.func148, Tryz.ntmps148
  go_wp2
  all_goals
    go_ret
    exact ⟨ret_bool (by simp_all [atomV]), below_alloc1 _ _⟩

def allE (l : List (List UInt8)) : Bool := decide (∀ j (h : j < l.length), l[j] = [])
theorem allE_no (l : List (List UInt8)) (k : Nat) (h : k < l.length) (hn : ¬ l[k] = []) : allE l = false := by
  simp only [allE, decide_eq_false_iff_not]
  exact fun h' => hn (h' k h)

set_option maxHeartbeats 400000 in
theorem impl_allEmpty (l : List (List UInt8)) (v : Value) (w : World) (h : Txts w v l) :
    Calls Tryz.prog 147 #[v] w fun e w' => e = .returned (.bool (allE l)) ∧ w = w' := by
  obtain ⟨A, c, rfl, hlc, hm, HC⟩ := h.open_
  clear h
  unfold maxLen at hm
  go_enter Tryz.func147, Tryz.ntmps147
  go_wp2
  go_loop [7] (fun i => ∃ k : Nat, k ≤ l.length ∧ i = .int .i64 k ∧ Hid (∀ j (h : j < l.length), j < k → l[j] = [])) (fun i => l.length - (intOf i).toNat)
  case atStart => exact ⟨0, Nat.zero_le _, rfl, fun j _ h => absurd h (by omega)⟩
  case round =>
    obtain ⟨k, hk, rfl, hn⟩ := hrel
    by_cases hlt : k < l.length
    · obtain ⟨b, off, rfl, hbl, hcell, hsz⟩ := HC.out k hlt
      by_cases he : l[k] = []
      · have HE := Lib.hid he
        have hb1 : (!l[k].isEmpty) = false := by simp [he]
        have hb2 : l[k].isEmpty = true := by simp [he]
        clear he
        go_wp2
        go_round
        case rel => exact ⟨k + 1, by omega, by go_num, fun j h1 hj => by rcases Nat.lt_succ_iff_lt_or_eq.1 hj with h3 | rfl; exact hn.out j h1 h3; exact HE.out⟩
        case measure => simp [intOf]; omega
      · have hb1 : (!l[k].isEmpty) = true := by simp [he]
        have hb2 : l[k].isEmpty = false := by simp [he]
        go_wp2
        go_ret
        exact ⟨ret_bool (allE_no l k hlt he).symm, rfl⟩
    · go_wp2
      go_ret
      exact ⟨ret_bool (by simp only [allE]; exact (decide_eq_true (fun j h => hn.out j h (by omega))).symm), rfl⟩

end Go.Proofs.YtjdfancbmjnjfaaGreat
