/-
  Merged texts: VecOk4, VecOk5.
-/
import Derived.Test.YtjdimlhdkmkmbaaVecOk3
import Derived.Deep.DeepCutAuto
import Derived.Deep.Light
namespace Go.Proofs.Ytjdimlhdkmkmbaa
set_option maxRecDepth 100000
set_option maxRecDepth 100000
open Go.ChangeShapes Go.WideShapes Go.ChangeAt Go.RowKit Go.Deep

def nestV : Nat → VecD → Nat
  | 0, _ => 1
  | r + 1, d => (d.parts.map fun p => 1 + nestV r p).foldl max 0
def nestT (r : Nat) (l : List VecD) : Nat := (l.map fun p => 1 + nestV r p).foldl max 0
theorem nestV_succ (r : Nat) (d : VecD) : nestV (r + 1) d = nestT r d.parts := rfl
theorem nestT_succ (r : Nat) (l : List VecD) (k : Nat) (h : k < l.length) : nestT r (l.take (k + 1)) = max (nestT r (l.take k)) (1 + nestV r l[k]) := by
  unfold nestT
  rw [List.take_succ_eq_append_getElem h]
  simp only [List.map_append, List.map_cons, List.map_nil, List.foldl_append, List.foldl_cons, List.foldl_nil]
theorem foldl_max_le (l : List Nat) : ∀ a m : Nat, l.foldl max a ≤ m ↔ a ≤ m ∧ ∀ x ∈ l, x ≤ m := by
  induction l with
  | nil => simp
  | cons x l ih => intro a m; simp only [List.foldl_cons, ih, List.mem_cons, forall_eq_or_imp, Nat.max_le, and_assoc]
theorem nestV_le (r : Nat) : ∀ d, nestV r d ≤ r + 1 := by
  induction r with
  | zero => intro d; simp [nestV]
  | succ r ih =>
    intro d
    rw [nestV, foldl_max_le]
    refine ⟨by omega, fun x hx => ?_⟩
    obtain ⟨p, hp, rfl⟩ := List.mem_map.1 hx
    have := ih p
    omega
theorem nestT_le (r : Nat) (l : List VecD) : nestT r l ≤ r + 2 := by
  unfold nestT
  rw [foldl_max_le]
  refine ⟨by omega, fun x hx => ?_⟩
  obtain ⟨p, hp, rfl⟩ := List.mem_map.1 hx
  have := nestV_le r p
  omega

mutual
def cellsV : VecD → Nat
  | .mk k i p n c l co en => lenV (.mk k i p n c l co en) + cellsVs p
def cellsVs : List VecD → Nat
  | [] => 0
  | d :: l => cellsV d + cellsVs l
end
theorem cellsVs_eq (l : List VecD) : cellsVs l = (l.map cellsV).sum := by
  induction l with
  | nil => rfl
  | cons d l ih => rw [cellsVs, ih]; simp
theorem cellsV_eq (d : VecD) : cellsV d = lenV d + (d.parts.map cellsV).sum := by
  cases d with
  | mk k i p n c l co en => rw [cellsV, cellsVs_eq]; rfl
mutual
theorem cellsV_le : ∀ d : VecD, cellsV d ≤ 2 * szVector d + 1
  | .mk k i p n c l co en => by
    have h1 := cellsVs_le p
    have h2 := szS_length szItem i
    rw [cellsV, szVector]
    have h3 : lenV (.mk k i p n c l co en) ≤ 1 + i.length + p.length := by
      unfold lenV
      split
      · omega
      · simp [VecD.items, VecD.parts]
    omega
theorem cellsVs_le : ∀ l : List VecD, cellsVs l + l.length ≤ 2 * szVs l
  | [] => by simp [cellsVs, szVs]
  | d :: l => by
    have h1 := cellsV_le d
    have h2 := cellsVs_le l
    rw [cellsVs, szVs, List.length_cons]
    omega
end
def cellsT (l : List VecD) : Nat := (l.map cellsV).sum
theorem cellsT_succ (l : List VecD) (k : Nat) (h : k < l.length) : cellsT (l.take (k + 1)) = cellsT (l.take k) + cellsV l[k] := by
  unfold cellsT
  rw [List.take_succ_eq_append_getElem h]
  simp only [List.map_append, List.map_cons, List.map_nil, List.sum_append, List.sum_cons, List.sum_nil, Nat.add_zero]
theorem cellsT_take (l : List VecD) (k : Nat) : cellsT (l.take k) ≤ cellsT l := by
  unfold cellsT
  have h : (l.map cellsV).sum = ((l.take k).map cellsV).sum + ((l.drop k).map cellsV).sum := by
    rw [← List.sum_append, ← List.map_append, List.take_append_drop]
  omega
theorem sz_parts (d : VecD) (k : Nat) (h : k < d.parts.length) : szVector d.parts[k] ≤ szVector d := by
  have h1 := szVector_eq d
  have h2 := szS_at szVector d.parts k h
  omega
theorem sz_len (d : VecD) : d.items.length + d.parts.length ≤ szVector d := by
  have h1 := szVector_eq d
  have h2 := szS_length szItem d.items
  have h3 := szS_length szVector d.parts
  omega

mutual
def allShape : VecD → Bool
  | .mk k i p n c l co en => shapeOk (.mk k i p n c l co en) && allShapes p
def allShapes : List VecD → Bool
  | [] => true
  | d :: l => allShape d && allShapes l
end
theorem allShapes_eq (l : List VecD) : allShapes l = l.all allShape := by
  induction l with
  | nil => rfl
  | cons d l ih => rw [allShapes, ih]; rfl
theorem allShape_eq (d : VecD) : allShape d = (shapeOk d && d.parts.all allShape) := by
  cases d with
  | mk k i p n c l co en => rw [allShape, allShapes_eq]; rfl
def okN : Nat → VecD → Bool
  | 0, d => shapeOk d && d.parts.isEmpty
  | n + 1, d => shapeOk d && d.parts.all (okN n)
theorem okN_eq (r : Nat) : ∀ d, (decide (nestV (r + 1) d ≤ r) && allShape d) = okN r d := by
  induction r with
  | zero =>
    intro d
    rw [allShape_eq, okN, nestV_succ]
    cases hp : d.parts with
    | nil => simp [nestT]
    | cons p l =>
      have : ¬ nestT 0 (p :: l) ≤ 0 := by
        unfold nestT
        rw [foldl_max_le]
        rintro ⟨_, h⟩
        have := h (1 + nestV 0 p) (by simp)
        omega
      simp [this]
  | succ r ih =>
    intro d
    rw [allShape_eq, okN, nestV_succ, Bool.eq_iff_iff]
    simp only [Bool.and_eq_true, decide_eq_true_eq, List.all_eq_true, nestT, foldl_max_le, List.mem_map, forall_exists_index, and_imp, forall_apply_eq_imp_iff₂]
    constructor
    · rintro ⟨⟨_, h1⟩, h2, h3⟩
      refine ⟨h2, fun p hp => ?_⟩
      rw [← ih p, Bool.and_eq_true, decide_eq_true_eq]
      exact ⟨by have := h1 p hp; omega, h3 p hp⟩
    · rintro ⟨h2, h3⟩
      refine ⟨⟨by omega, fun p hp => ?_⟩, h2, fun p hp => ?_⟩
      all_goals
        have h4 := h3 p hp
        rw [← ih p, Bool.and_eq_true, decide_eq_true_eq] at h4
      · omega
      · exact h4.2
def vecOk (d : VecD) : Bool := okN 3 d && decide (cellsV d ≤ 200)

set_option maxHeartbeats 1000000 in
theorem impl_nest (r : Nat) : ∀ (d : VecD) (cs : List Value) (w : World), VecR w cs d → r ≤ 1000 →
    Calls Try.prog 92 #[.agg cs.toArray, .int .i64 r] w (RetI (nestV r d) w) := by
  induction r with
  | zero =>
    intro d cs w h hr
    obtain ⟨n, A1, c1, A2, c2, A3, c3, A4, c4, A5, c5, rfl, k0, k1, k2, l1, l2, l3, l4, l5, HV⟩ := h.open_
    clear h
    go_enter Try.func92, Try.ntmps92
    go_wp2
    go_ret
    exact ⟨rfl, below_alloc1 _ _⟩
  | succ r ih =>
  intro d cs w h hr
  have IH := Lib.hid ih
  clear ih
  have HI := Lib.hid h
  obtain ⟨n, A1, c1, A2, c2, A3, c3, A4, c4, A5, c5, rfl, k0, k1, k2, l1, l2, l3, l4, l5, HV⟩ := h.open_
  clear h
  obtain ⟨_, _, e2, hlc2, hm2, HC2⟩ := SlR.open_ HV.out.2.1
  injection e2 with e21 e22 e23
  subst e21 e23
  clear e22
  unfold maxLen at hm2
  generalize hR : ((r + 1 : Nat) : Int) = R
  have HR := Lib.hid hR
  have hR1 : 1 ≤ R := by omega
  have hR2 : R ≤ 1000 := by omega
  have hrb2 : (R == 0) = false := by simp; omega
  clear hR
  go_enter Try.func92, Try.ntmps92
  go_wp2
  go_loopw [5, 13] (fun o i wr => ∃ k : Nat, k ≤ d.parts.length ∧ i = .int .i64 k ∧ o = .int .i64 (nestT r (d.parts.take k)) ∧ Hid (Blk wr w.heap.size 28 [.int .i64 d.kind, .slice A1 d.items.length c1, .slice A2 d.parts.length c2, .slice A3 d.names.length c3, .slice A4 d.cls.length c4, .slice A5 d.levels.length c5, .int .i64 d.code, .int .i64 d.env] ∧ Below w.heap.size w wr)) (fun _ i _ => d.parts.length - (intOf i).toNat)
  case atStart => exact ⟨0, Nat.zero_le _, rfl, by simp [nestT], Blk.new _ _ _, below_alloc1 _ _⟩
  case round =>
      obtain ⟨k, hk, rfl, rfl, HX⟩ := hrel
      have x0 := HX.out.1.cell 0 _ rfl
      have x1 := HX.out.1.cell 1 _ rfl
      have x2 := HX.out.1.cell 2 _ rfl
      have x3 := HX.out.1.cell 3 _ rfl
      have x4 := HX.out.1.cell 4 _ rfl
      have x5 := HX.out.1.cell 5 _ rfl
      have x6 := HX.out.1.cell 6 _ rfl
      have x7 := HX.out.1.cell 7 _ rfl
      have hlw : w.heap.size < wr.heap.size := HX.out.1.lt
      have hn1 := nestT_le r (d.parts.take k)
      by_cases hlt : k < d.parts.length
      · have HS := Lib.hid (nestT_succ r d.parts k hlt)
        have hn2 := nestV_le r d.parts[k]
        obtain ⟨b, off, cs, rfl, hbl, hlen, hat, hvr⟩ := HC2.out k hlt
        obtain ⟨nn, hvr⟩ : ∃ n, VectorR n w cs d.parts[k] := ⟨_, hvr⟩
        have HPV := Lib.hid (show VecR w cs d.parts[k] from ⟨nn, hvr⟩)
        clear hvr
        obtain ⟨_, B1, b1, B2, b2, B3, b3, B4, b4, B5, b5, rfl, _⟩ := HPV.out.open_
        have y0 := (HX.out.2.cell (p := ⟨b, off + k * 8, none⟩) hbl).trans (by simpa using hat 0 _ rfl)
        have y1 := (HX.out.2.cell (p := ⟨b, off + k * 8 + 1, none⟩) hbl).trans (hat 1 _ rfl)
        have y2 := (HX.out.2.cell (p := ⟨b, off + k * 8 + 2, none⟩) hbl).trans (hat 2 _ rfl)
        have y3 := (HX.out.2.cell (p := ⟨b, off + k * 8 + 3, none⟩) hbl).trans (hat 3 _ rfl)
        have y4 := (HX.out.2.cell (p := ⟨b, off + k * 8 + 4, none⟩) hbl).trans (hat 4 _ rfl)
        have y5 := (HX.out.2.cell (p := ⟨b, off + k * 8 + 5, none⟩) hbl).trans (hat 5 _ rfl)
        have y6 := (HX.out.2.cell (p := ⟨b, off + k * 8 + 6, none⟩) hbl).trans (hat 6 _ rfl)
        have y7 := (HX.out.2.cell (p := ⟨b, off + k * 8 + 7, none⟩) hbl).trans (hat 7 _ rfl)
        clear hat
        go_wp2_with fail
        refine abs_w (Ex2 w w.heap.size w.heap.size 28 [.int .i64 d.kind, .slice A1 d.items.length c1, .slice (some ⟨b, off, none⟩) d.parts.length c2, .slice A3 d.names.length c3, .slice A4 d.cls.length c4, .slice A5 d.levels.length c5, .int .i64 d.code, .int .i64 d.env] wr.heap.size 28 [.int .i64 d.parts[k].kind, .slice B1 d.parts[k].items.length b1, .slice B2 d.parts[k].parts.length b2, .slice B3 d.parts[k].names.length b3, .slice B4 d.parts[k].cls.length b4, .slice B5 d.parts[k].levels.length b5, .int .i64 d.parts[k].code, .int .i64 d.parts[k].env]) ⟨HX.out.1.alloc _, Blk.new _ _ _, HX.out.2.alloc HX.out.2.size _, by simp; omega⟩ ?_
        rintro W hX
        rw [show R - 1 = (r : Int) by have := HR.out; omega]
        refine (IH.out d.parts[k] _ W (HPV.out.below hX.2.2.1) (by omega)).mono ?_
        rintro e w2 ⟨rfl, hb⟩
        have HX2 := Lib.hid (hX.below hb)
        clear hX hb x0 x1 x2 x3 x4 x5 x6 x7 y0 y1 y2 y3 y4 y5 y6 y7
        go_wp2_with fail
        all_goals
          go_roundw
          case rel => exact ⟨k + 1, by omega, by go_num, by rw [HS.out]; congr 1; omega, HX2.out.1, HX2.out.2.2.1⟩
          case measure => simp [intOf]; omega
      · obtain rfl : k = d.parts.length := by omega
        go_wp2_with fail
        go_ret
        exact ⟨ret_int (by rw [List.take_length, nestV_succ]), HX.out.2⟩

set_option maxHeartbeats 1000000 in
theorem impl_cells_n (n : Nat) : ∀ (d : VecD) (cs : List Value) (w : World), VectorR n w cs d → szVector d ≤ 1000000000000 →
    Calls Try.prog 94 #[.agg cs.toArray] w (RetI (cellsV d) w) := by
  induction n with
  | zero => intro d cs w h; exact h.elim
  | succ n ih =>
  intro d cs w h hz
  have IH := Lib.hid ih
  clear ih
  have HI := Lib.hid (show VecR w cs d from ⟨_, h⟩)
  obtain ⟨v1, v2, v3, v4, v5, rfl, h0, h1, h2, h3, h4, h5, h6, h7⟩ := h
  obtain ⟨A1, c1, rfl⟩ := SlR.shape h1
  obtain ⟨A2, c2, rfl⟩ := SlR.shape h2
  obtain ⟨A3, c3, rfl⟩ := SlR.shape h3
  obtain ⟨A4, c4, rfl⟩ := SlR.shape h4
  obtain ⟨A5, c5, rfl⟩ := SlR.shape h5
  obtain ⟨_, _, e2, hlc2, hm2, HC2⟩ := SlR.open_ h2
  injection e2 with e21 e22 e23
  subst e21 e23
  clear e22
  unfold maxLen at hm2
  clear h1 h2 h3 h4 h5
  have hce := cellsV_le d
  have hcq := cellsV_eq d
  have HCQ := Lib.hid (show cellsV d = lenV d + cellsT d.parts from hcq)
  have hsl := sz_len d
  have hct : lenV d + cellsT d.parts ≤ 2000000000001 := by have := HCQ.out; omega
  clear hcq
  go_enter Try.func94, Try.ntmps94
  go_wp2_with fail
  refine abs_w (fun W => Blk W w.heap.size 28 [.int .i64 d.kind, .slice A1 d.items.length c1, .slice A2 d.parts.length c2, .slice A3 d.names.length c3, .slice A4 d.cls.length c4, .slice A5 d.levels.length c5, .int .i64 d.code, .int .i64 d.env] ∧ Below w.heap.size w W) ⟨Blk.new _ _ _, below_alloc1 _ _⟩ ?_
  rintro W0 ⟨hK, hB⟩
  refine (impl_length d _ W0 (HI.out.below hB) (by omega)).mono ?_
  rintro e w1 ⟨rfl, hb⟩
  have HK := Lib.hid (hK.below hb)
  have HB := Lib.hid (hB.trans (hb.mono hB.size))
  clear hb hK hB W0
  have x2 := HK.out.cell 2 _ rfl
  go_wp2_with fail
  go_loopw [3, 11] (fun o i wr => ∃ k : Nat, k ≤ d.parts.length ∧ i = .int .i64 k ∧ o = .int .i64 ((lenV d + cellsT (d.parts.take k) : Nat) : Int) ∧ Hid (Blk wr w.heap.size 28 [.int .i64 d.kind, .slice A1 d.items.length c1, .slice A2 d.parts.length c2, .slice A3 d.names.length c3, .slice A4 d.cls.length c4, .slice A5 d.levels.length c5, .int .i64 d.code, .int .i64 d.env] ∧ Below w.heap.size w wr)) (fun _ i _ => d.parts.length - (intOf i).toNat)
  case atStart => exact ⟨0, Nat.zero_le _, rfl, by simp [cellsT], HK.out, HB.out⟩
  case round =>
      clear x2
      obtain ⟨k, hk, rfl, rfl, HX⟩ := hrel
      have x0 := HX.out.1.cell 0 _ rfl
      have x1 := HX.out.1.cell 1 _ rfl
      have x2 := HX.out.1.cell 2 _ rfl
      have x3 := HX.out.1.cell 3 _ rfl
      have x4 := HX.out.1.cell 4 _ rfl
      have x5 := HX.out.1.cell 5 _ rfl
      have x6 := HX.out.1.cell 6 _ rfl
      have x7 := HX.out.1.cell 7 _ rfl
      have hlw : w.heap.size < wr.heap.size := HX.out.1.lt
      have hn1 := cellsT_take d.parts k
      by_cases hlt : k < d.parts.length
      · have hs := cellsT_succ d.parts k hlt
        have hn3 := cellsT_take d.parts (k + 1)
        have HS := Lib.hid hs
        have hn2 : cellsV d.parts[k] ≤ 2000000000001 := by omega
        have hn4 := sz_parts d k hlt
        have hn5 : cellsT (d.parts.take k) + cellsV d.parts[k] ≤ 2000000000001 := by omega
        clear hs hn3
        obtain ⟨b, off, cs, rfl, hbl, hlen, hat, hvr⟩ := HC2.out k hlt
        have HPN := Lib.hid hvr
        have HPV := Lib.hid (show VecR w cs d.parts[k] from ⟨n, hvr⟩)
        clear hvr
        obtain ⟨_, B1, b1, B2, b2, B3, b3, B4, b4, B5, b5, rfl, _⟩ := HPV.out.open_
        have y0 := (HX.out.2.cell (p := ⟨b, off + k * 8, none⟩) hbl).trans (by simpa using hat 0 _ rfl)
        have y1 := (HX.out.2.cell (p := ⟨b, off + k * 8 + 1, none⟩) hbl).trans (hat 1 _ rfl)
        have y2 := (HX.out.2.cell (p := ⟨b, off + k * 8 + 2, none⟩) hbl).trans (hat 2 _ rfl)
        have y3 := (HX.out.2.cell (p := ⟨b, off + k * 8 + 3, none⟩) hbl).trans (hat 3 _ rfl)
        have y4 := (HX.out.2.cell (p := ⟨b, off + k * 8 + 4, none⟩) hbl).trans (hat 4 _ rfl)
        have y5 := (HX.out.2.cell (p := ⟨b, off + k * 8 + 5, none⟩) hbl).trans (hat 5 _ rfl)
        have y6 := (HX.out.2.cell (p := ⟨b, off + k * 8 + 6, none⟩) hbl).trans (hat 6 _ rfl)
        have y7 := (HX.out.2.cell (p := ⟨b, off + k * 8 + 7, none⟩) hbl).trans (hat 7 _ rfl)
        clear hat
        go_wp2_with fail
        refine abs_w (Ex2 w w.heap.size w.heap.size 28 [.int .i64 d.kind, .slice A1 d.items.length c1, .slice (some ⟨b, off, none⟩) d.parts.length c2, .slice A3 d.names.length c3, .slice A4 d.cls.length c4, .slice A5 d.levels.length c5, .int .i64 d.code, .int .i64 d.env] wr.heap.size 28 [.int .i64 d.parts[k].kind, .slice B1 d.parts[k].items.length b1, .slice B2 d.parts[k].parts.length b2, .slice B3 d.parts[k].names.length b3, .slice B4 d.parts[k].cls.length b4, .slice B5 d.parts[k].levels.length b5, .int .i64 d.parts[k].code, .int .i64 d.parts[k].env]) ⟨HX.out.1.alloc _, Blk.new _ _ _, HX.out.2.alloc HX.out.2.size _, by simp; omega⟩ ?_
        rintro W hX
        refine (IH.out d.parts[k] _ W (HPN.out.below hX.2.2.1) (by omega)).mono ?_
        rintro e w2 ⟨rfl, hb⟩
        have HX2 := Lib.hid (hX.below hb)
        clear hX hb x0 x1 x2 x3 x4 x5 x6 x7 y0 y1 y2 y3 y4 y5 y6 y7
        go_wp2_with fail
        go_roundw
        case rel => exact ⟨k + 1, by omega, by go_num, by rw [HS.out]; go_num, HX2.out.1, HX2.out.2.2.1⟩
        case measure => simp [intOf]; omega
      · obtain rfl : k = d.parts.length := by omega
        go_wp2_with fail
        go_ret
        exact ⟨ret_int (by rw [List.take_length, HCQ.out]), HX.out.2⟩
theorem impl_cells (d : VecD) (cs : List Value) (w : World) (h : VecR w cs d) (hz : szVector d ≤ 1000000000000) :
    Calls Try.prog 94 #[.agg cs.toArray] w (RetI (cellsV d) w) := by
  obtain ⟨n, h⟩ := h
  exact impl_cells_n n d cs w h hz

set_option maxHeartbeats 1000000 in
theorem spec_l4Cells_n (n : Nat) : ∀ (d : VecD) (cs : List Value) (w : World), VectorR n w cs d → szVector d ≤ 1000000000000 →
    Calls Try.prog 98 #[.agg cs.toArray] w (RetI (cellsV d) w) := by
  induction n with
  | zero => intro d cs w h; exact h.elim
  | succ n ih =>
  intro d cs w h hz
  have IH := Lib.hid ih
  clear ih
  have HI := Lib.hid (show VecR w cs d from ⟨_, h⟩)
  obtain ⟨v1, v2, v3, v4, v5, rfl, h0, h1, h2, h3, h4, h5, h6, h7⟩ := h
  obtain ⟨A1, c1, rfl⟩ := SlR.shape h1
  obtain ⟨A2, c2, rfl⟩ := SlR.shape h2
  obtain ⟨A3, c3, rfl⟩ := SlR.shape h3
  obtain ⟨A4, c4, rfl⟩ := SlR.shape h4
  obtain ⟨A5, c5, rfl⟩ := SlR.shape h5
  obtain ⟨_, _, e2, hlc2, hm2, HC2⟩ := SlR.open_ h2
  injection e2 with e21 e22 e23
  subst e21 e23
  clear e22
  unfold maxLen at hm2
  clear h1 h2 h3 h4 h5
  have hce := cellsV_le d
  have hcq := cellsV_eq d
  have HCQ := Lib.hid (show cellsV d = lenV d + cellsT d.parts from hcq)
  have hsl := sz_len d
  have hct : lenV d + cellsT d.parts ≤ 2000000000001 := by have := HCQ.out; omega
  clear hcq
  go_enter Try.func98, Try.ntmps98
  go_wp2_with fail
  refine abs_w (fun W => Blk W w.heap.size 28 [.int .i64 d.kind, .slice A1 d.items.length c1, .slice A2 d.parts.length c2, .slice A3 d.names.length c3, .slice A4 d.cls.length c4, .slice A5 d.levels.length c5, .int .i64 d.code, .int .i64 d.env] ∧ Below w.heap.size w W) ⟨Blk.new _ _ _, below_alloc1 _ _⟩ ?_
  rintro W0 ⟨hK, hB⟩
  refine (spec_l4Len d _ W0 (HI.out.below hB) (by omega)).mono ?_
  rintro e w1 ⟨rfl, hb⟩
  have HK := Lib.hid (hK.below hb)
  have HB := Lib.hid (hB.trans (hb.mono hB.size))
  clear hb hK hB W0
  have x2 := HK.out.cell 2 _ rfl
  go_wp2_with fail
  go_loopw [3, 4] (fun o i wr => ∃ k : Nat, k ≤ d.parts.length ∧ i = .int .i64 k ∧ o = .int .i64 ((lenV d + cellsT (d.parts.take k) : Nat) : Int) ∧ Hid (Blk wr w.heap.size 28 [.int .i64 d.kind, .slice A1 d.items.length c1, .slice A2 d.parts.length c2, .slice A3 d.names.length c3, .slice A4 d.cls.length c4, .slice A5 d.levels.length c5, .int .i64 d.code, .int .i64 d.env] ∧ Below w.heap.size w wr)) (fun _ i _ => d.parts.length - (intOf i).toNat)
  case atStart => exact ⟨0, Nat.zero_le _, rfl, by simp [cellsT], HK.out, HB.out⟩
  case round =>
      clear x2
      obtain ⟨k, hk, rfl, rfl, HX⟩ := hrel
      have x0 := HX.out.1.cell 0 _ rfl
      have x1 := HX.out.1.cell 1 _ rfl
      have x2 := HX.out.1.cell 2 _ rfl
      have x3 := HX.out.1.cell 3 _ rfl
      have x4 := HX.out.1.cell 4 _ rfl
      have x5 := HX.out.1.cell 5 _ rfl
      have x6 := HX.out.1.cell 6 _ rfl
      have x7 := HX.out.1.cell 7 _ rfl
      have hlw : w.heap.size < wr.heap.size := HX.out.1.lt
      have hn1 := cellsT_take d.parts k
      by_cases hlt : k < d.parts.length
      · have hs := cellsT_succ d.parts k hlt
        have hn3 := cellsT_take d.parts (k + 1)
        have HS := Lib.hid hs
        have hn2 : cellsV d.parts[k] ≤ 2000000000001 := by omega
        have hn4 := sz_parts d k hlt
        have hn5 : cellsT (d.parts.take k) + cellsV d.parts[k] ≤ 2000000000001 := by omega
        clear hs hn3
        obtain ⟨b, off, cs, rfl, hbl, hlen, hat, hvr⟩ := HC2.out k hlt
        have HPN := Lib.hid hvr
        have HPV := Lib.hid (show VecR w cs d.parts[k] from ⟨n, hvr⟩)
        clear hvr
        obtain ⟨_, B1, b1, B2, b2, B3, b3, B4, b4, B5, b5, rfl, _⟩ := HPV.out.open_
        have y0 := (HX.out.2.cell (p := ⟨b, off + k * 8, none⟩) hbl).trans (by simpa using hat 0 _ rfl)
        have y1 := (HX.out.2.cell (p := ⟨b, off + k * 8 + 1, none⟩) hbl).trans (hat 1 _ rfl)
        have y2 := (HX.out.2.cell (p := ⟨b, off + k * 8 + 2, none⟩) hbl).trans (hat 2 _ rfl)
        have y3 := (HX.out.2.cell (p := ⟨b, off + k * 8 + 3, none⟩) hbl).trans (hat 3 _ rfl)
        have y4 := (HX.out.2.cell (p := ⟨b, off + k * 8 + 4, none⟩) hbl).trans (hat 4 _ rfl)
        have y5 := (HX.out.2.cell (p := ⟨b, off + k * 8 + 5, none⟩) hbl).trans (hat 5 _ rfl)
        have y6 := (HX.out.2.cell (p := ⟨b, off + k * 8 + 6, none⟩) hbl).trans (hat 6 _ rfl)
        have y7 := (HX.out.2.cell (p := ⟨b, off + k * 8 + 7, none⟩) hbl).trans (hat 7 _ rfl)
        clear hat
        go_wp2_with fail
        refine (IH.out d.parts[k] _ _ (HPN.out.below HX.out.2) (by omega)).mono ?_
        rintro e w2 ⟨rfl, hb⟩
        have HX2 := Lib.hid (⟨HX.out.1.below hb, HX.out.2.trans (hb.mono HX.out.2.size)⟩ : Blk w2 w.heap.size 28 [.int .i64 d.kind, .slice A1 d.items.length c1, .slice (some ⟨b, off, none⟩) d.parts.length c2, .slice A3 d.names.length c3, .slice A4 d.cls.length c4, .slice A5 d.levels.length c5, .int .i64 d.code, .int .i64 d.env] ∧ Below w.heap.size w w2)
        clear hb x0 x1 x2 x3 x4 x5 x6 x7 y0 y1 y2 y3 y4 y5 y6 y7
        go_wp2_with fail
        go_roundw
        case rel => exact ⟨k + 1, by omega, by go_num, by rw [HS.out]; go_num, HX2.out.1, HX2.out.2⟩
        case measure => simp [intOf]; omega
      · obtain rfl : k = d.parts.length := by omega
        go_wp2_with fail
        go_ret
        exact ⟨ret_int (by rw [List.take_length, HCQ.out]), HX.out.2⟩
theorem spec_l4Cells (d : VecD) (cs : List Value) (w : World) (h : VecR w cs d) (hz : szVector d ≤ 1000000000000) :
    Calls Try.prog 98 #[.agg cs.toArray] w (RetI (cellsV d) w) := by
  obtain ⟨n, h⟩ := h
  exact spec_l4Cells_n n d cs w h hz

set_option maxHeartbeats 1000000 in
theorem impl_partsValid_n (n : Nat) : ∀ (d : VecD) (cs : List Value) (w : World), VectorR n w cs d → szVector d ≤ 1000000000000 →
    Calls Try.prog 93 #[.agg cs.toArray] w (RetB (allShape d) w) := by
  induction n with
  | zero => intro d cs w h; exact h.elim
  | succ n ih =>
  intro d cs w h hz
  have IH := Lib.hid ih
  clear ih
  have HI := Lib.hid (show VecR w cs d from ⟨_, h⟩)
  obtain ⟨v1, v2, v3, v4, v5, rfl, h0, h1, h2, h3, h4, h5, h6, h7⟩ := h
  obtain ⟨A1, c1, rfl⟩ := SlR.shape h1
  obtain ⟨A2, c2, rfl⟩ := SlR.shape h2
  obtain ⟨A3, c3, rfl⟩ := SlR.shape h3
  obtain ⟨A4, c4, rfl⟩ := SlR.shape h4
  obtain ⟨A5, c5, rfl⟩ := SlR.shape h5
  obtain ⟨_, _, e2, hlc2, hm2, HC2⟩ := SlR.open_ h2
  injection e2 with e21 e22 e23
  subst e21 e23
  clear e22
  unfold maxLen at hm2
  clear h1 h2 h3 h4 h5
  have HQ := Lib.hid (allShape_eq d)
  have hsl := sz_len d
  go_enter Try.func93, Try.ntmps93
  go_wp2_with fail
  refine abs_w (fun W => Blk W w.heap.size 28 [.int .i64 d.kind, .slice A1 d.items.length c1, .slice A2 d.parts.length c2, .slice A3 d.names.length c3, .slice A4 d.cls.length c4, .slice A5 d.levels.length c5, .int .i64 d.code, .int .i64 d.env] ∧ Below w.heap.size w W) ⟨Blk.new _ _ _, below_alloc1 _ _⟩ ?_
  rintro W0 ⟨hK, hB⟩
  refine (impl_shapeValid d _ W0 (HI.out.below hB) (by omega)).mono ?_
  rintro e w1 ⟨rfl, hb⟩
  have HK := Lib.hid (hK.below hb)
  have HB := Lib.hid (hB.trans (hb.mono hB.size))
  clear hb hK hB W0
  cases hs : shapeOk d
  · go_wp2_with fail
    go_ret
    exact ⟨ret_bool (by rw [HQ.out, hs]; rfl), HB.out⟩
  have HSH := Lib.hid hs
  clear hs
  have x2 := HK.out.cell 2 _ rfl
  go_wp2_with fail
  go_loopw [11] (fun i wr => ∃ k : Nat, k ≤ d.parts.length ∧ i = .int .i64 k ∧ Hid (∀ j (h : j < d.parts.length), j < k → allShape d.parts[j] = true) ∧ Hid (Blk wr w.heap.size 28 [.int .i64 d.kind, .slice A1 d.items.length c1, .slice A2 d.parts.length c2, .slice A3 d.names.length c3, .slice A4 d.cls.length c4, .slice A5 d.levels.length c5, .int .i64 d.code, .int .i64 d.env] ∧ Below w.heap.size w wr)) (fun i _ => d.parts.length - (intOf i).toNat)
  case atStart => exact ⟨0, Nat.zero_le _, rfl, fun j _ h => absurd h (by omega), HK.out, HB.out⟩
  case round =>
      clear x2
      obtain ⟨k, hk, rfl, hn, HX⟩ := hrel
      have x0 := HX.out.1.cell 0 _ rfl
      have x1 := HX.out.1.cell 1 _ rfl
      have x2 := HX.out.1.cell 2 _ rfl
      have x3 := HX.out.1.cell 3 _ rfl
      have x4 := HX.out.1.cell 4 _ rfl
      have x5 := HX.out.1.cell 5 _ rfl
      have x6 := HX.out.1.cell 6 _ rfl
      have x7 := HX.out.1.cell 7 _ rfl
      have hlw : w.heap.size < wr.heap.size := HX.out.1.lt
      by_cases hlt : k < d.parts.length
      · have hn4 := sz_parts d k hlt
        obtain ⟨b, off, cs, rfl, hbl, hlen, hat, hvr⟩ := HC2.out k hlt
        have HPN := Lib.hid hvr
        have HPV := Lib.hid (show VecR w cs d.parts[k] from ⟨n, hvr⟩)
        clear hvr
        obtain ⟨_, B1, b1, B2, b2, B3, b3, B4, b4, B5, b5, rfl, _⟩ := HPV.out.open_
        have y0 := (HX.out.2.cell (p := ⟨b, off + k * 8, none⟩) hbl).trans (by simpa using hat 0 _ rfl)
        have y1 := (HX.out.2.cell (p := ⟨b, off + k * 8 + 1, none⟩) hbl).trans (hat 1 _ rfl)
        have y2 := (HX.out.2.cell (p := ⟨b, off + k * 8 + 2, none⟩) hbl).trans (hat 2 _ rfl)
        have y3 := (HX.out.2.cell (p := ⟨b, off + k * 8 + 3, none⟩) hbl).trans (hat 3 _ rfl)
        have y4 := (HX.out.2.cell (p := ⟨b, off + k * 8 + 4, none⟩) hbl).trans (hat 4 _ rfl)
        have y5 := (HX.out.2.cell (p := ⟨b, off + k * 8 + 5, none⟩) hbl).trans (hat 5 _ rfl)
        have y6 := (HX.out.2.cell (p := ⟨b, off + k * 8 + 6, none⟩) hbl).trans (hat 6 _ rfl)
        have y7 := (HX.out.2.cell (p := ⟨b, off + k * 8 + 7, none⟩) hbl).trans (hat 7 _ rfl)
        clear hat
        go_wp2_with fail
        refine abs_w (Ex2 w w.heap.size w.heap.size 28 [.int .i64 d.kind, .slice A1 d.items.length c1, .slice (some ⟨b, off, none⟩) d.parts.length c2, .slice A3 d.names.length c3, .slice A4 d.cls.length c4, .slice A5 d.levels.length c5, .int .i64 d.code, .int .i64 d.env] wr.heap.size 28 [.int .i64 d.parts[k].kind, .slice B1 d.parts[k].items.length b1, .slice B2 d.parts[k].parts.length b2, .slice B3 d.parts[k].names.length b3, .slice B4 d.parts[k].cls.length b4, .slice B5 d.parts[k].levels.length b5, .int .i64 d.parts[k].code, .int .i64 d.parts[k].env]) ⟨HX.out.1.alloc _, Blk.new _ _ _, HX.out.2.alloc HX.out.2.size _, by simp; omega⟩ ?_
        rintro W hX
        refine (IH.out d.parts[k] _ W (HPN.out.below hX.2.2.1) (by omega)).mono ?_
        rintro e w2 ⟨rfl, hb⟩
        have HX2 := Lib.hid (hX.below hb)
        clear hX hb x0 x1 x2 x3 x4 x5 x6 x7 y0 y1 y2 y3 y4 y5 y6 y7
        cases hq : allShape d.parts[k]
        · go_wp2_with fail
          go_ret
          exact ⟨ret_bool (by
            rw [HQ.out, HSH.out]
            have : d.parts.all allShape = false := by
              simp only [List.all_eq_false]
              exact ⟨d.parts[k], List.getElem_mem hlt, by simp [hq]⟩
            rw [this]
            rfl), HX2.out.2.2.1⟩
        · have HQ2 := Lib.hid hq
          clear hq
          go_wp2_with fail
          go_roundw
          case rel => exact ⟨k + 1, by omega, by go_num, fun j h1 hj => by rcases Nat.lt_succ_iff_lt_or_eq.1 hj with h3 | rfl; exact hn.out j h1 h3; exact HQ2.out, HX2.out.1, HX2.out.2.2.1⟩
          case measure => simp [intOf]; omega
      · go_wp2_with fail
        go_ret
        exact ⟨ret_bool (by
          rw [HQ.out, HSH.out]
          have : d.parts.all allShape = true := by
            simp only [List.all_eq_true]
            intro p hp
            obtain ⟨j, hj, rfl⟩ := List.getElem_of_mem hp
            exact hn.out j hj (by omega)
          rw [this]
          rfl), HX.out.2⟩
theorem impl_partsValid (d : VecD) (cs : List Value) (w : World) (h : VecR w cs d) (hz : szVector d ≤ 1000000000000) :
    Calls Try.prog 93 #[.agg cs.toArray] w (RetB (allShape d) w) := by
  obtain ⟨n, h⟩ := h
  exact impl_partsValid_n n d cs w h hz

theorem vecOk_eq (d : VecD) : vecOk d = (decide ((nestV 4 d : Int) ≤ 3) && allShape d && decide ((cellsV d : Int) ≤ 200)) := by
  rw [vecOk, ← okN_eq 3 d]
  congr 1
  · congr 1
    exact decide_eq_decide.2 (show nestV 4 d ≤ 3 ↔ _ by omega)
  · exact decide_eq_decide.2 (by omega)

set_option maxHeartbeats 1000000 in
theorem impl_IsVector (d : VecD) (cs : List Value) (w : World) (h : VecR w cs d) (hz : szVector d ≤ 1000000000000) :
    Calls Try.prog 40 #[.agg cs.toArray] w (RetB (vecOk d) w) := by
  have HI := Lib.hid h
  obtain ⟨n, A1, c1, A2, c2, A3, c3, A4, c4, A5, c5, rfl, k0, k1, k2, l1, l2, l3, l4, l5, HV⟩ := h.open_
  clear h
  have HQ := Lib.hid (vecOk_eq d)
  have hc := cellsV_le d
  go_enter Try.func40, Try.ntmps40
  go_wp2_with fail
  refine abs_w (fun W => Blk W w.heap.size 28 [.int .i64 d.kind, .slice A1 d.items.length c1, .slice A2 d.parts.length c2, .slice A3 d.names.length c3, .slice A4 d.cls.length c4, .slice A5 d.levels.length c5, .int .i64 d.code, .int .i64 d.env] ∧ Below w.heap.size w W) ⟨Blk.new _ _ _, below_alloc1 _ _⟩ ?_
  rintro W0 ⟨hK, hB⟩
  refine (impl_nest 4 d _ W0 (HI.out.below hB) (by omega)).mono ?_
  rintro e w1 ⟨rfl, hb⟩
  have HK := Lib.hid (hK.below hb)
  have HB := Lib.hid (hB.trans (hb.mono hB.size))
  clear hb hK hB W0
  have x0 := HK.out.cell 0 _ rfl
  have x1 := HK.out.cell 1 _ rfl
  have x2 := HK.out.cell 2 _ rfl
  have x3 := HK.out.cell 3 _ rfl
  have x4 := HK.out.cell 4 _ rfl
  have x5 := HK.out.cell 5 _ rfl
  have x6 := HK.out.cell 6 _ rfl
  have x7 := HK.out.cell 7 _ rfl
  by_cases g1 : (nestV 4 d : Int) ≤ 3
  rotate_left
  · go_wp2_with fail
    go_ret
    exact ⟨ret_bool (by rw [HQ.out, decide_eq_false (by omega)]; rfl), HB.out⟩
  go_wp2_with fail
  refine (impl_partsValid d _ _ (HI.out.below HB.out) hz).mono ?_
  rintro e w2 ⟨rfl, hb⟩
  have HK2 := Lib.hid (HK.out.below hb)
  have HB2 := Lib.hid (HB.out.trans (hb.mono HB.out.size))
  clear hb HK HB x0 x1 x2 x3 x4 x5 x6 x7
  have x0 := HK2.out.cell 0 _ rfl
  have x1 := HK2.out.cell 1 _ rfl
  have x2 := HK2.out.cell 2 _ rfl
  have x3 := HK2.out.cell 3 _ rfl
  have x4 := HK2.out.cell 4 _ rfl
  have x5 := HK2.out.cell 5 _ rfl
  have x6 := HK2.out.cell 6 _ rfl
  have x7 := HK2.out.cell 7 _ rfl
  cases g2 : allShape d
  · go_wp2_with fail
    go_ret
    exact ⟨ret_bool (by rw [HQ.out, g2]; simp), HB2.out⟩
  have HG2 := Lib.hid g2
  clear g2
  go_wp2_with fail
  refine (impl_cells d _ _ (HI.out.below HB2.out) hz).mono ?_
  rintro e w3 ⟨rfl, hb⟩
  have HB3 := Lib.hid (HB2.out.trans (hb.mono HB2.out.size))
  clear hb HK2 HB2 x0 x1 x2 x3 x4 x5 x6 x7
  by_cases g3 : (cellsV d : Int) ≤ 200
  · go_wp2_with fail
    go_ret
    exact ⟨ret_bool (by rw [HQ.out, HG2.out, decide_eq_true g1, decide_eq_true g3]; rfl), HB3.out⟩
  · go_wp2_with fail
    go_ret
    exact ⟨ret_bool (by rw [HQ.out, HG2.out, decide_eq_true g1, decide_eq_false (by omega)]; rfl), HB3.out⟩

end Go.Proofs.Ytjdimlhdkmkmbaa
namespace Go.Proofs.Ytjdimlhdkmkmbaa
set_option maxRecDepth 100000
open Go.ChangeShapes Go.WideShapes Go.ChangeAt Go.RowKit Go.Deep

def tA (d : VecD) : Bool := decide (0 ≤ d.kind) && decide (d.kind ≤ 5) && decide (lenV d ≤ 40) && (decide (d.names.length = 0) || decide (d.names.length = lenV d)) && named d.names && labelsOk d.cls 3 && labelsOk d.levels 20
def tB (d : VecD) : Bool := (d.kind == 5 || (d.code == 0 && d.env == 0)) && (d.kind == 2 || decide (d.levels.length = 0)) && (d.kind == 4 || decide (d.parts.length = 0))
def tC (d : VecD) : Bool := d.kind != 4 || decide (d.items.length = 0)
def tF (d : VecD) : Bool := decide (d.items.length = 0) && decide (d.names.length = 0) && (decide (-999 ≤ d.code) && decide (d.code ≤ 99999)) && (decide (0 ≤ d.env) && decide (d.env ≤ 99999))
def tG (d : VecD) : Bool := decide (lenV d = 0) && decide (d.cls.length = 0)
def itemU (d : VecD) (x : ItemD) : Bool := itemOk d.kind x && (decide (d.levels.length = 0) || x.den == 0 || (x.den == 1 && (decide (1 ≤ x.num) && decide (x.num ≤ d.levels.length))))
def tH (d : VecD) : Bool := decide (∀ j (h : j < d.items.length), itemU d d.items[j] = true)
def shapeT (d : VecD) : Bool := tA d && tB d && (if d.kind = 5 then tF d else if d.kind = 0 then tG d else tC d && tH d)

theorem isNum_den {x : ItemD} (h : isNum x = true) : 1 ≤ x.den := by grind [isNum]
theorem named_sBC (d : VecD) : ((decide (d.names.length = 0) || decide (d.names.length = lenV d)) && named d.names) = (sB d && sC d) := by
  rw [named, sB, sC, len_zero_iff]
  cases decide (∀ j (h : j < d.names.length), d.names[j].length ≤ 60) <;> cases decide (d.names.length = 0) <;> cases decide (d.names.length = lenV d) <;> cases allE d.names <;> rfl
theorem itemUT (d : VecD) (x : ItemD) (h : atomV d.kind = true) : itemU d x = itemT d x := by
  have := @isNum_den x
  rw [itemU, itemT, len_zero_iff]
  simp only [atomV, itemOk, missing] at *
  grind
theorem shapeT_eq (d : VecD) : shapeT d = shapeOk d := by
  have hq := named_sBC d
  have hH : atomV d.kind = true → tH d = sH d := fun h => by
    unfold tH sH
    exact decide_eq_decide.2 ⟨fun h' j hj => by rw [← itemUT d _ h]; exact h' j hj, fun h' j hj => by rw [itemUT d _ h]; exact h' j hj⟩
  have hE : d.items.length = 0 → tH d = true ∧ sH d = true := fun h => by
    unfold tH sH
    exact ⟨decide_eq_true (fun j hj => absurd hj (by omega)), decide_eq_true (fun j hj => absurd hj (by omega))⟩
  have hN : atomV d.kind = false → d.items.length ≠ 0 → sH d = false := fun h h0 => by
    unfold sH
    exact decide_eq_false (fun h' => by
      have := h' 0 (by omega)
      simp [itemT, h] at this)
  have hA : tA d = (sA d && (sB d && sC d)) := by
    rw [← hq, tA, sA]
    cases labelsOk d.cls 3 <;> cases labelsOk d.levels 20 <;> cases named d.names <;> cases decide (0 ≤ d.kind) <;> cases decide (d.kind ≤ 5) <;> cases decide (lenV d ≤ 40) <;> cases (decide (d.names.length = 0) || decide (d.names.length = lenV d)) <;> rfl
  unfold shapeT shapeOk
  rw [hA]
  cases h1 : sA d
  · simp
  cases h2 : sB d
  · simp
  cases h3 : sC d
  · simp
  have hk : 0 ≤ d.kind ∧ d.kind ≤ 5 := by simp [sA] at h1; omega
  have hl : lenV d = if d.kind = 5 then 1 else d.items.length + d.parts.length := rfl
  simp only [tB, sD, sE, sF, sG, tC, tF, tG, len_zero_iff, Bool.true_and]
  by_cases k5 : d.kind = 5
  · simp only [k5, if_true]
    by_cases hi : d.items.length = 0
    · have := hE hi
      simp [hi, this.2]
      grind
    · simp [hi]
  by_cases k0 : d.kind = 0
  · simp only [k0, if_true] at *
    by_cases hi : d.items.length = 0
    · have := hE hi
      simp [hi, this.2, hl]
      grind
    · simp [hi, hl]
  by_cases hat : atomV d.kind = true
  · have := hH hat
    simp only [k0, k5, if_false, this]
    have k4 : d.kind ≠ 4 := by intro h; simp [atomV, h] at hat
    grind
  · have hat' : atomV d.kind = false := by simpa using hat
    have k4 : d.kind = 4 := by simp [atomV] at hat'; omega
    simp only [k4] at *
    by_cases hi : d.items.length = 0
    · have := hE hi
      simp [hi, this.1, this.2]
      grind
    · have := hN hat' hi
      simp [hi, this]
def okP : Nat → VecD → Bool
  | 0, _ => false
  | m + 1, p => okN m p
theorem okN_all (n : Nat) (d : VecD) : okN n d = (shapeT d && d.parts.all (okP n)) := by
  rw [shapeT_eq]
  cases n with
  | zero =>
    rw [okN]
    congr 1
    cases d.parts with
    | nil => rfl
    | cons p l => simp [okP]
  | succ n => rfl
theorem okN_5 {n : Nat} {d : VecD} (h1 : tA d = true) (h2 : tB d = true) (h : d.kind = 5) : okN n d = tF d := by
  have hp : d.parts = [] := by
    have : d.parts.length = 0 := by grind [tB]
    exact List.length_eq_zero_iff.1 this
  rw [okN_all, shapeT, h1, h2, if_pos h, hp]
  simp
theorem okN_0 {n : Nat} {d : VecD} (h1 : tA d = true) (h2 : tB d = true) (h : d.kind = 0) : okN n d = tG d := by
  have hp : d.parts = [] := by
    have : d.parts.length = 0 := by grind [tB]
    exact List.length_eq_zero_iff.1 this
  rw [okN_all, shapeT, h1, h2, if_neg (by omega), if_pos h, hp]
  simp
theorem okN_r {n : Nat} {d : VecD} (h1 : tA d = true) (h2 : tB d = true) (h5 : ¬ d.kind = 5) (h0 : ¬ d.kind = 0) : okN n d = (tC d && tH d && d.parts.all (okP n)) := by
  rw [okN_all, shapeT, h1, h2, if_neg h5, if_neg h0]
  simp
theorem tH_no {d : VecD} (k : Nat) (h : k < d.items.length) (hf : itemU d d.items[k] = false) : tH d = false := by
  unfold tH
  exact decide_eq_false (fun h' => by rw [h' k h] at hf; cases hf)

def L4IsC (m : Nat) : Prop := ∀ (d : VecD) (cs : List Value) (w : World), VecR w cs d → szVector d ≤ 1000000000000 → Calls Try.prog 97 #[.agg cs.toArray, .int .i64 m] w (RetB (okN m d) w)

set_option maxHeartbeats 4000000 in
theorem spec_l4Is_step (nst : Nat) (R : Int) (HR : Hid (R = nst)) (hR0 : 0 ≤ R) (hR1 : R ≤ 1000) (IH : Hid (∀ m, nst = m + 1 → L4IsC m)) (d : VecD) (cs : List Value) (w : World) (h : VecR w cs d) (hz : szVector d ≤ 1000000000000) :
    Calls Try.prog 97 #[.agg cs.toArray, .int .i64 R] w (RetB (okN nst d) w) := by
  have HI := Lib.hid h
  obtain ⟨n, A1, c1, A2, c2, A3, c3, A4, c4, A5, c5, rfl, k0, k1, k2, l1, l2, l3, l4, l5, HV⟩ := h.open_
  clear h
  have HQ := Lib.hid (okN_all nst d)
  have hsl := sz_len d
  have hlv : lenV d ≤ 1000000000001 := by unfold lenV; split <;> omega
  go_enter Try.func97, Try.ntmps97
  go_wp2_with fail
  refine abs_w (fun W => Blk W w.heap.size 28 [.int .i64 d.kind, .slice A1 d.items.length c1, .slice A2 d.parts.length c2, .slice A3 d.names.length c3, .slice A4 d.cls.length c4, .slice A5 d.levels.length c5, .int .i64 d.code, .int .i64 d.env] ∧ Below w.heap.size w W) ⟨Blk.new _ _ _, below_alloc1 _ _⟩ ?_
  rintro W0 ⟨hK, hB⟩
  refine (spec_l4Len d _ W0 (HI.out.below hB) (by omega)).mono ?_
  rintro e w1 ⟨rfl, hb⟩
  have HK := Lib.hid (hK.below hb)
  have HB := Lib.hid (hB.trans (hb.mono hB.size))
  clear hb hK hB W0
  have x0 := HK.out.cell 0 _ rfl
  have x1 := HK.out.cell 1 _ rfl
  have x2 := HK.out.cell 2 _ rfl
  have x3 := HK.out.cell 3 _ rfl
  have x4 := HK.out.cell 4 _ rfl
  have x5 := HK.out.cell 5 _ rfl
  have x6 := HK.out.cell 6 _ rfl
  have x7 := HK.out.cell 7 _ rfl
  go_upto_region 2 with fail
  generalize (Value.agg #[.int .i64 d.kind, .slice A1 d.items.length c1, .slice A2 d.parts.length c2, .slice A3 d.names.length c3, .slice A4 d.cls.length c4, .slice A5 d.levels.length c5, .int .i64 d.code, .int .i64 d.env]) = V0
  go_upto_region 2 with fail
  go_cut [49] from 11 to 49 (fun s wx => s = .bool (!tA d) ∧ w1 = wx)
  case first =>
    by_cases q0 : 0 ≤ d.kind ∧ d.kind ≤ 5 <;> cases p3 : ((d.names.length : Int) != 0) <;> cases p4 : ((d.names.length : Int) != (lenV d : Int))
    all_goals
      go_wp2_with (first | (go_at_call 54; refine (spec_l1In_t _ _ _ _ (by omega) (by omega)).mono ?_; rintro e w' ⟨rfl, rfl⟩) | (go_at_call 54; refine (spec_l1In_f _ _ _ _ (by omega)).mono ?_; rintro e w' ⟨rfl, rfl⟩) | (go_at_call 119; refine (spec_l4Named _ _ _ (HV.out.2.2.1.below HB.out)).mono ?_; rintro e w' ⟨rfl, rfl⟩) | (go_at_call 120; refine (spec_l4Labels _ _ _ _ (by first | exact HV.out.2.2.2.1.below HB.out | exact HV.out.2.2.2.2.below HB.out)).mono ?_; rintro e w' ⟨rfl, rfl⟩))
      all_goals
        go_meet
        case rel => exact ⟨by congr 1; go_light; grind [tA], rfl⟩
  obtain ⟨rfl, rfl⟩ := hcut
  cases htA : tA d
  · go_wp2_with fail
    go_ret
    exact ⟨ret_bool (by rw [HQ.out]; simp [shapeT, htA]), HB.out⟩
  have HtA := Lib.hid htA
  clear htA
  go_upto_region 4 with fail
  go_cut [84] from 50 to 84 (fun s wx => s = .bool (!tB d) ∧ w1 = wx)
  case first =>
    skip
    all_goals
      go_wp2_with fail
      all_goals
        go_meet
        case rel => exact ⟨by congr 1; go_light; grind [tB, len_zero_iff], rfl⟩
  obtain ⟨rfl, rfl⟩ := hcut
  cases htB : tB d
  · go_wp2_with fail
    go_ret
    exact ⟨ret_bool (by rw [HQ.out]; simp [shapeT, htB]), HB.out⟩
  have HtB := Lib.hid htB
  clear htB
  by_cases k5 : d.kind = 5
  · have HQ5 := Lib.hid (okN_5 (n := nst) HtA.out HtB.out k5)
    by_cases g1 : -999 ≤ d.code ∧ d.code ≤ 99999 <;> by_cases g2 : 0 ≤ d.env ∧ d.env ≤ 99999
    all_goals
      go_wp2_with (first | (go_at_call 54; refine (spec_l1In_t _ _ _ _ (by omega) (by omega)).mono ?_; rintro e w' ⟨rfl, rfl⟩) | (go_at_call 54; refine (spec_l1In_f _ _ _ _ (by omega)).mono ?_; rintro e w' ⟨rfl, rfl⟩))
      all_goals
        go_ret
        exact ⟨ret_bool (by go_light; rw [HQ5.out]; grind [tF]), HB.out⟩
  by_cases k0' : d.kind = 0
  · have HQ0 := Lib.hid (okN_0 (n := nst) HtA.out HtB.out k0')
    go_wp2_with fail
    all_goals
      go_ret
      exact ⟨ret_bool (by go_light; rw [HQ0.out]; grind [tG]), HB.out⟩
  have HQR := Lib.hid (okN_r (n := nst) HtA.out HtB.out k5 k0')
  have b5 : (d.kind == 5) = false := by simp [k5]
  have b0 : (d.kind == 0) = false := by simp [k0']
  clear k5 k0'
  go_upto_region 10 with fail
  go_cut [127] from 85 to 127 (fun s wx => s = .bool (!tC d) ∧ w1 = wx)
  case first =>
    skip
    all_goals
      go_wp2_with fail
      all_goals
        go_meet
        case rel => exact ⟨by congr 1; go_light; grind [tC, len_zero_iff], rfl⟩
  obtain ⟨rfl, rfl⟩ := hcut
  cases htC : tC d
  · go_wp2_with fail
    go_ret
    exact ⟨ret_bool (by rw [HQR.out, htC]; rfl), HB.out⟩
  have HtC := Lib.hid htC
  clear htC
  obtain ⟨_, _, e1, hlc1, hm1, HC1⟩ := SlR.open_ HV.out.1
  injection e1 with e11 e12 e13
  subst e11 e13
  clear e12
  unfold maxLen at hm1
  go_wp2_with fail
  go_loopw [6] (fun i wr => ∃ k : Nat, k ≤ d.items.length ∧ i = .int .i64 k ∧ Hid (∀ j (h : j < d.items.length), j < k → itemU d d.items[j] = true) ∧ Hid (Blk wr w.heap.size 28 [.int .i64 d.kind, .slice A1 d.items.length c1, .slice A2 d.parts.length c2, .slice A3 d.names.length c3, .slice A4 d.cls.length c4, .slice A5 d.levels.length c5, .int .i64 d.code, .int .i64 d.env] ∧ Below w.heap.size w wr)) (fun i _ => d.items.length - (intOf i).toNat)
  case atStart => exact ⟨0, Nat.zero_le _, rfl, fun j _ h => absurd h (by omega), HK.out, HB.out⟩
  case round =>
      clear x0 x1 x2 x3 x4 x5 x6 x7 HK HB
      obtain ⟨k, hk, rfl, hn, HX⟩ := hrel
      have x0 := HX.out.1.cell 0 _ rfl
      have x1 := HX.out.1.cell 1 _ rfl
      have x2 := HX.out.1.cell 2 _ rfl
      have x3 := HX.out.1.cell 3 _ rfl
      have x4 := HX.out.1.cell 4 _ rfl
      have x5 := HX.out.1.cell 5 _ rfl
      have x6 := HX.out.1.cell 6 _ rfl
      have x7 := HX.out.1.cell 7 _ rfl
      have hlw : w.heap.size < wr.heap.size := HX.out.1.lt
      by_cases hlt : k < d.items.length
      · obtain ⟨b, off, cs, rfl, hbl, _, hat, rfl, i0, i1, i2⟩ := HC1.out k hlt
        have y0 := (HX.out.2.cell (p := ⟨b, off + k * 3, none⟩) hbl).trans (by simpa using hat 0 _ rfl)
        have y1 := (HX.out.2.cell (p := ⟨b, off + k * 3 + 1, none⟩) hbl).trans (hat 1 _ rfl)
        have y2 := (HX.out.2.cell (p := ⟨b, off + k * 3 + 2, none⟩) hbl).trans (hat 2 _ rfl)
        have HIT := Lib.hid (show ∀ W, ItemR W [.int .i64 d.items[k].num, .int .i64 d.items[k].den, .string (str d.items[k].text)] d.items[k] from fun _ => ⟨rfl, i0, i1, i2⟩)
        clear hat
        unfold maxLen at i2
        go_wp2_with fail
        refine abs_w (Ex2 w w.heap.size w.heap.size 28 [.int .i64 d.kind, .slice (some ⟨b, off, none⟩) d.items.length c1, .slice A2 d.parts.length c2, .slice A3 d.names.length c3, .slice A4 d.cls.length c4, .slice A5 d.levels.length c5, .int .i64 d.code, .int .i64 d.env] wr.heap.size 36 [.int .i64 d.items[k].num, .int .i64 d.items[k].den, .string (str d.items[k].text)]) ⟨HX.out.1.alloc _, Blk.new _ _ _, HX.out.2.alloc HX.out.2.size _, by simp; omega⟩ ?_
        rintro W hX
        refine (spec_l4Item d.kind d.items[k] _ W (HIT.out _)).mono ?_
        rintro e w3 ⟨rfl, hb⟩
        have HX3 := Lib.hid (hX.below hb)
        clear hX hb x0 x1 x2 x3 x4 x5 x6 x7 y0 y1 y2
        cases hio : itemOk d.kind d.items[k]
        · have HT := Lib.hid (tH_no k hlt (show itemU d d.items[k] = false by simp [itemU, hio]))
          clear hio
          go_wp2_with fail
          go_ret
          exact ⟨ret_bool (by rw [HQR.out, HT.out]; simp), HX3.out.2.2.1⟩
        have HIO := Lib.hid hio
        clear hio
        have x5 := HX3.out.1.cell 5 _ rfl
        have z0 := HX3.out.2.1.cell 0 _ rfl
        have z1 := HX3.out.2.1.cell 1 _ rfl
        have z2 := HX3.out.2.1.cell 2 _ rfl
        cases p5 : decide (0 < d.levels.length)
        · have HT := Lib.hid (show itemU d d.items[k] = true by simp at p5; simp [itemU, HIO.out, p5])
          go_wp2_with fail
          go_roundw
          case rel => first | exact ⟨k + 1, by omega, by go_num, fun j h1 hj => by rcases Nat.lt_succ_iff_lt_or_eq.1 hj with h3 | rfl; exact hn.out j h1 h3; exact HT.out, HX3.out.1, HX3.out.2.2.1⟩ | ((repeat apply Exists.intro); exact ⟨⟨k + 1, by omega, by go_num, fun j h1 hj => by rcases Nat.lt_succ_iff_lt_or_eq.1 hj with h3 | rfl; exact hn.out j h1 h3; exact HT.out, HX3.out.1, HX3.out.2.2.1⟩, rfl⟩)
          case measure => simp [intOf]; omega
        have hp5 : d.levels.length ≠ 0 := by simp at p5; omega
        have HT := Lib.hid (show itemU d d.items[k] = (!(d.items[k].den != 0) || (!(d.items[k].den != 1) && (decide (1 ≤ d.items[k].num) && decide (d.items[k].num ≤ d.levels.length)))) by simp [itemU, HIO.out, hp5, bne])
        cases q0 : (d.items[k].den != 0) <;> cases q1 : (d.items[k].den != 1) <;> by_cases q2 : 1 ≤ d.items[k].num ∧ d.items[k].num ≤ d.levels.length
        all_goals
          have HQ0 := Lib.hid q0
          have HQ1 := Lib.hid q1
          have HQ2 := Lib.hid q2
          go_wp2_with (first | (go_at_call 54; refine (spec_l1In_t _ _ _ _ (by omega) (by omega)).mono ?_; rintro e w' ⟨rfl, rfl⟩) | (go_at_call 54; refine (spec_l1In_f _ _ _ _ (by omega)).mono ?_; rintro e w' ⟨rfl, rfl⟩))
          first
            | (go_ret
               exact ⟨ret_bool (by rw [HQR.out, tH_no k hlt (by rw [HT.out, HQ0.out, HQ1.out]; have := HQ2.out; first | rfl | (simp; omega))]; simp), HX3.out.2.2.1⟩)
            | (go_roundw
               case rel => first | exact ⟨k + 1, by omega, by go_num, fun j h1 hj => by rcases Nat.lt_succ_iff_lt_or_eq.1 hj with h3 | rfl; exact hn.out j h1 h3; (rw [HT.out, HQ0.out, HQ1.out]; have := HQ2.out; first | rfl | (simp; omega)), HX3.out.1, HX3.out.2.2.1⟩ | ((repeat apply Exists.intro); exact ⟨⟨k + 1, by omega, by go_num, fun j h1 hj => by rcases Nat.lt_succ_iff_lt_or_eq.1 hj with h3 | rfl; exact hn.out j h1 h3; (rw [HT.out, HQ0.out, HQ1.out]; have := HQ2.out; first | rfl | (simp; omega)), HX3.out.1, HX3.out.2.2.1⟩, rfl⟩)
               case measure => simp [intOf]; omega)
      have HtH := Lib.hid (show tH d = true by unfold tH; exact decide_eq_true (fun j h => hn.out j h (by omega)))
      clear hn HC1
      obtain ⟨_, _, e2, hlc2, hm2, HC2⟩ := SlR.open_ HV.out.2.1
      injection e2 with e21 e22 e23
      subst e21 e23
      clear e22
      unfold maxLen at hm2
      go_wp2_with fail
      obtain ⟨wo, rfl⟩ : ∃ wo : World, wo = wr := ⟨_, rfl⟩
      go_loopw [8] (fun i wr => ∃ k : Nat, k ≤ d.parts.length ∧ i = .int .i64 k ∧ Hid (∀ j (h : j < d.parts.length), j < k → okP nst d.parts[j] = true) ∧ Hid (Blk wr w.heap.size 28 [.int .i64 d.kind, .slice A1 d.items.length c1, .slice A2 d.parts.length c2, .slice A3 d.names.length c3, .slice A4 d.cls.length c4, .slice A5 d.levels.length c5, .int .i64 d.code, .int .i64 d.env] ∧ Below w.heap.size w wr)) (fun i _ => d.parts.length - (intOf i).toNat)
      case atStart => exact ⟨0, Nat.zero_le _, rfl, fun j _ h => absurd h (by omega), HX.out⟩
      case round =>
        clear x0 x1 x2 x3 x4 x5 x6 x7 HX hk hlt hlw
        obtain ⟨k, hk, rfl, hn, HX⟩ := hrel
        have x2 := HX.out.1.cell 2 _ rfl
        by_cases hlt : k < d.parts.length
        · have hn4 := sz_parts d k hlt
          obtain ⟨b, off, cs, rfl, hbl, hlen, hat, hvr⟩ := HC2.out k hlt
          obtain ⟨nn, hvr⟩ : ∃ n, VectorR n w cs d.parts[k] := ⟨_, hvr⟩
          have HPV := Lib.hid (show VecR w cs d.parts[k] from ⟨nn, hvr⟩)
          clear hvr
          obtain ⟨_, B1, b1, B2, b2, B3, b3, B4, b4, B5, b5', rfl, _⟩ := HPV.out.open_
          have y0 := (HX.out.2.cell (p := ⟨b, off + k * 8, none⟩) hbl).trans (by simpa using hat 0 _ rfl)
          have y1 := (HX.out.2.cell (p := ⟨b, off + k * 8 + 1, none⟩) hbl).trans (hat 1 _ rfl)
          have y2 := (HX.out.2.cell (p := ⟨b, off + k * 8 + 2, none⟩) hbl).trans (hat 2 _ rfl)
          have y3 := (HX.out.2.cell (p := ⟨b, off + k * 8 + 3, none⟩) hbl).trans (hat 3 _ rfl)
          have y4 := (HX.out.2.cell (p := ⟨b, off + k * 8 + 4, none⟩) hbl).trans (hat 4 _ rfl)
          have y5 := (HX.out.2.cell (p := ⟨b, off + k * 8 + 5, none⟩) hbl).trans (hat 5 _ rfl)
          have y6 := (HX.out.2.cell (p := ⟨b, off + k * 8 + 6, none⟩) hbl).trans (hat 6 _ rfl)
          have y7 := (HX.out.2.cell (p := ⟨b, off + k * 8 + 7, none⟩) hbl).trans (hat 7 _ rfl)
          clear hat
          by_cases hr0 : nst = 0
          · have hb3 : (R == 0) = true := by have := HR.out; simp; omega
            have hb4 : decide (R = 0) = true := by have := HR.out; simp; omega
            go_wp2_with fail
            go_ret
            exact ⟨ret_bool (by
              rw [HQR.out]
              have : d.parts.all (okP nst) = false := by
                simp only [List.all_eq_false]
                exact ⟨d.parts[k], List.getElem_mem hlt, by rw [hr0]; simp [okP]⟩
              rw [this]
              simp), HX.out.2⟩
          obtain ⟨m, hm⟩ : ∃ m, nst = m + 1 := ⟨nst - 1, by omega⟩
          have HM := Lib.hid hm
          have hb3 : (R == 0) = false := by have := HR.out; simp; omega
          have hb4 : decide (R = 0) = false := by have := HR.out; simp; omega
          clear hr0 hm
          go_wp2_with fail
          rw [show R - 1 = (m : Int) by have := HR.out; have := HM.out; omega]
          refine (IH.out m HM.out d.parts[k] _ _ (HPV.out.below HX.out.2) (by omega)).mono ?_
          rintro e w2 ⟨rfl, hb⟩
          have HX2 := Lib.hid (⟨HX.out.1.below hb, HX.out.2.trans (hb.mono HX.out.2.size)⟩ : Blk w2 w.heap.size 28 [.int .i64 d.kind, .slice A1 d.items.length c1, .slice (some ⟨b, off, none⟩) d.parts.length c2, .slice A3 d.names.length c3, .slice A4 d.cls.length c4, .slice A5 d.levels.length c5, .int .i64 d.code, .int .i64 d.env] ∧ Below w.heap.size w w2)
          clear hb x2 y0 y1 y2 y3 y4 y5 y6 y7
          have HO := Lib.hid (show okP nst d.parts[k] = okN m d.parts[k] by rw [HM.out]; rfl)
          cases hq : okN m d.parts[k]
          · go_wp2_with fail
            go_ret
            exact ⟨ret_bool (by
              rw [HQR.out]
              have : d.parts.all (okP nst) = false := by
                simp only [List.all_eq_false]
                exact ⟨d.parts[k], List.getElem_mem hlt, by rw [HO.out, hq]; simp⟩
              rw [this]
              simp), HX2.out.2⟩
          · have HQ2 := Lib.hid hq
            clear hq
            go_wp2_with fail
            go_roundw
            case rel => first | exact ⟨k + 1, by omega, by go_num, fun j h1 hj => by rcases Nat.lt_succ_iff_lt_or_eq.1 hj with h3 | rfl; exact hn.out j h1 h3; exact HO.out.trans HQ2.out, HX2.out⟩ | ((repeat apply Exists.intro); exact ⟨⟨k + 1, by omega, by go_num, fun j h1 hj => by rcases Nat.lt_succ_iff_lt_or_eq.1 hj with h3 | rfl; exact hn.out j h1 h3; exact HO.out.trans HQ2.out, HX2.out⟩, rfl⟩)
            case measure => simp [intOf]; omega
        · go_wp2_with fail
          go_ret
          exact ⟨ret_bool (by
            rw [HQR.out, HtC.out, HtH.out]
            have : d.parts.all (okP nst) = true := by
              simp only [List.all_eq_true]
              intro p hp
              obtain ⟨j, hj, rfl⟩ := List.getElem_of_mem hp
              exact hn.out j hj (by omega)
            rw [this]
            rfl), HX.out.2⟩

theorem spec_l4Is (m : Nat) : m ≤ 1000 → L4IsC m := by
  induction m with
  | zero => intro h d cs w hv hz; exact spec_l4Is_step 0 0 rfl (by omega) (by omega) (fun m h => by omega) d cs w hv hz
  | succ m ih => intro h d cs w hv hz; exact spec_l4Is_step (m + 1) _ rfl (by omega) (by omega) (fun m' h' => by (obtain rfl : m' = m := (by omega)); exact ih (by omega)) d cs w hv hz

set_option maxHeartbeats 1000000 in
theorem spec_IsVector (d : VecD) (cs : List Value) (w : World) (h : VecR w cs d) (hz : szVector d ≤ 1000000000000) :
    Calls Try.prog 44 #[.agg cs.toArray] w (RetB (vecOk d) w) := by
  have HI := Lib.hid h
  obtain ⟨n, A1, c1, A2, c2, A3, c3, A4, c4, A5, c5, rfl, k0, k1, k2, l1, l2, l3, l4, l5, HV⟩ := h.open_
  clear h
  have HQ := Lib.hid (show vecOk d = (okN 3 d && decide (cellsV d ≤ 200)) from rfl)
  have hc := cellsV_le d
  go_enter Try.func44, Try.ntmps44
  go_wp2_with fail
  refine abs_w (fun W => Blk W w.heap.size 28 [.int .i64 d.kind, .slice A1 d.items.length c1, .slice A2 d.parts.length c2, .slice A3 d.names.length c3, .slice A4 d.cls.length c4, .slice A5 d.levels.length c5, .int .i64 d.code, .int .i64 d.env] ∧ Below w.heap.size w W) ⟨Blk.new _ _ _, below_alloc1 _ _⟩ ?_
  rintro W0 ⟨hK, hB⟩
  refine (spec_l4Is 3 (by omega) d _ W0 (HI.out.below hB) hz).mono ?_
  rintro e w1 ⟨rfl, hb⟩
  have HK := Lib.hid (hK.below hb)
  have HB := Lib.hid (hB.trans (hb.mono hB.size))
  clear hb hK hB W0
  have x0 := HK.out.cell 0 _ rfl
  have x1 := HK.out.cell 1 _ rfl
  have x2 := HK.out.cell 2 _ rfl
  have x3 := HK.out.cell 3 _ rfl
  have x4 := HK.out.cell 4 _ rfl
  have x5 := HK.out.cell 5 _ rfl
  have x6 := HK.out.cell 6 _ rfl
  have x7 := HK.out.cell 7 _ rfl
  cases g2 : okN 3 d
  · go_wp2_with fail
    go_ret
    exact ⟨ret_bool (by rw [HQ.out, g2]; rfl), HB.out⟩
  have HG2 := Lib.hid g2
  clear g2
  go_wp2_with fail
  refine (spec_l4Cells d _ _ (HI.out.below HB.out) hz).mono ?_
  rintro e w3 ⟨rfl, hb⟩
  have HB3 := Lib.hid (HB.out.trans (hb.mono HB.out.size))
  clear hb HK HB x0 x1 x2 x3 x4 x5 x6 x7
  by_cases g3 : (cellsV d : Int) ≤ 200
  · go_wp2_with fail
    go_ret
    exact ⟨ret_bool (by rw [HQ.out, HG2.out]; simp; omega), HB3.out⟩
  · go_wp2_with fail
    go_ret
    exact ⟨ret_bool (by rw [HQ.out, HG2.out]; simp; omega), HB3.out⟩

end Go.Proofs.Ytjdimlhdkmkmbaa
