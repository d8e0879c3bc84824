/-
  Contracts: nesting, cells, and IsVector of the program; the pure law that joins them.
-/
import Derived.Test.YtjdfancbmjnjfaaGreatVecOk3
namespace Go.Proofs.YtjdfancbmjnjfaaGreat
set_option maxRecDepth 100000
open Go.ChangeShapes Go.WideShapes Go.ChangeAt Go.RowKit Go.Deep

def nestV : Nat → VecD → Nat
  | 0, _ => 1
  | r + 1, d => (d.parts.map fun p => 1 + nestV r p).foldl max 0
def nestT (r : Nat) (l : List VecD) : Nat := (l.map fun p => 1 + nestV r p).foldl max 0
theorem nestV_succ (r : Nat) (d : VecD) : nestV (r + 1) d = nestT r d.parts := rfl
theorem nestT_succ (r : Nat) (l : List VecD) (k : Nat) (h : k < l.length) : nestT r (l.take (k + 1)) = max (nestT r (l.take k)) (1 + nestV r l[k]) := by
  unfold nestT
  rw [List.take_succ_eq_append_getElem h]
  simp only [List.map_append, List.map_cons, List.map_nil, List.foldl_append, List.foldl_cons, List.foldl_nil]
theorem foldl_max_le (l : List Nat) : ∀ a m : Nat, l.foldl max a ≤ m ↔ a ≤ m ∧ ∀ x ∈ l, x ≤ m := by
  induction l with
  | nil => simp
  | cons x l ih => intro a m; simp only [List.foldl_cons, ih, List.mem_cons, forall_eq_or_imp, Nat.max_le, and_assoc]
theorem nestV_le (r : Nat) : ∀ d, nestV r d ≤ r + 1 := by
  induction r with
  | zero => intro d; simp [nestV]
  | succ r ih =>
    intro d
    rw [nestV, foldl_max_le]
    refine ⟨by omega, fun x hx => ?_⟩
    obtain ⟨p, hp, rfl⟩ := List.mem_map.1 hx
    have := ih p
    omega
theorem nestT_le (r : Nat) (l : List VecD) : nestT r l ≤ r + 2 := by
  unfold nestT
  rw [foldl_max_le]
  refine ⟨by omega, fun x hx => ?_⟩
  obtain ⟨p, hp, rfl⟩ := List.mem_map.1 hx
  have := nestV_le r p
  omega

mutual
def cellsV : VecD → Nat
  | .mk k i p n c l co en => lenV (.mk k i p n c l co en) + cellsVs p
def cellsVs : List VecD → Nat
  | [] => 0
  | d :: l => cellsV d + cellsVs l
end
theorem cellsVs_eq (l : List VecD) : cellsVs l = (l.map cellsV).sum := by
  induction l with
  | nil => rfl
  | cons d l ih => rw [cellsVs, ih]; simp
theorem cellsV_eq (d : VecD) : cellsV d = lenV d + (d.parts.map cellsV).sum := by
  cases d with
  | mk k i p n c l co en => rw [cellsV, cellsVs_eq]; rfl
mutual
theorem cellsV_le : ∀ d : VecD, cellsV d ≤ 2 * szVector d + 1
  | .mk k i p n c l co en => by
    have h1 := cellsVs_le p
    have h2 := szS_length szItem i
    rw [cellsV, szVector]
    have h3 : lenV (.mk k i p n c l co en) ≤ 1 + i.length + p.length := by
      unfold lenV
      split
      · omega
      · simp [VecD.items, VecD.parts]
    omega
theorem cellsVs_le : ∀ l : List VecD, cellsVs l + l.length ≤ 2 * szVs l
  | [] => by simp [cellsVs, szVs]
  | d :: l => by
    have h1 := cellsV_le d
    have h2 := cellsVs_le l
    rw [cellsVs, szVs, List.length_cons]
    omega
end
def cellsT (l : List VecD) : Nat := (l.map cellsV).sum
theorem cellsT_succ (l : List VecD) (k : Nat) (h : k < l.length) : cellsT (l.take (k + 1)) = cellsT (l.take k) + cellsV l[k] := by
  unfold cellsT
  rw [List.take_succ_eq_append_getElem h]
  simp only [List.map_append, List.map_cons, List.map_nil, List.sum_append, List.sum_cons, List.sum_nil, Nat.add_zero]
theorem cellsT_take (l : List VecD) (k : Nat) : cellsT (l.take k) ≤ cellsT l := by
  unfold cellsT
  have h : (l.map cellsV).sum = ((l.take k).map cellsV).sum + ((l.drop k).map cellsV).sum := by
    rw [← List.sum_append, ← List.map_append, List.take_append_drop]
  omega
theorem sz_parts (d : VecD) (k : Nat) (h : k < d.parts.length) : szVector d.parts[k] ≤ szVector d := by
  have h1 := szVector_eq d
  have h2 := szS_at szVector d.parts k h
  omega
theorem sz_len (d : VecD) : d.items.length + d.parts.length ≤ szVector d := by
  have h1 := szVector_eq d
  have h2 := szS_length szItem d.items
  have h3 := szS_length szVector d.parts
  omega

mutual
def allShape : VecD → Bool
  | .mk k i p n c l co en => shapeOk (.mk k i p n c l co en) && allShapes p
def allShapes : List VecD → Bool
  | [] => true
  | d :: l => allShape d && allShapes l
end
theorem allShapes_eq (l : List VecD) : allShapes l = l.all allShape := by
  induction l with
  | nil => rfl
  | cons d l ih => rw [allShapes, ih]; rfl
theorem allShape_eq (d : VecD) : allShape d = (shapeOk d && d.parts.all allShape) := by
  cases d with
  | mk k i p n c l co en => rw [allShape, allShapes_eq]; rfl
def okN : Nat → VecD → Bool
  | 0, d => shapeOk d && d.parts.isEmpty
  | n + 1, d => shapeOk d && d.parts.all (okN n)
theorem okN_eq (r : Nat) : ∀ d, (decide (nestV (r + 1) d ≤ r) && allShape d) = okN r d := by
  induction r with
  | zero =>
    intro d
    rw [allShape_eq, okN, nestV_succ]
    cases hp : d.parts with
    | nil => simp [nestT]
    | cons p l =>
      have : ¬ nestT 0 (p :: l) ≤ 0 := by
        unfold nestT
        rw [foldl_max_le]
        rintro ⟨_, h⟩
        have := h (1 + nestV 0 p) (by simp)
        omega
      simp [this]
  | succ r ih =>
    intro d
    rw [allShape_eq, okN, nestV_succ, Bool.eq_iff_iff]
    simp only [Bool.and_eq_true, decide_eq_true_eq, List.all_eq_true, nestT, foldl_max_le, List.mem_map, forall_exists_index, and_imp, forall_apply_eq_imp_iff₂]
    constructor
    · rintro ⟨⟨_, h1⟩, h2, h3⟩
      refine ⟨h2, fun p hp => ?_⟩
      rw [← ih p, Bool.and_eq_true, decide_eq_true_eq]
      exact ⟨by have := h1 p hp; omega, h3 p hp⟩
    · rintro ⟨h2, h3⟩
      refine ⟨⟨by omega, fun p hp => ?_⟩, h2, fun p hp => ?_⟩
      all_goals
        have h4 := h3 p hp
        rw [← ih p, Bool.and_eq_true, decide_eq_true_eq] at h4
      · omega
      · exact h4.2
def vecOk (d : VecD) : Bool := okN 3 d && decide (cellsV d ≤ 200)

set_option maxHeartbeats 1000000 in
theorem impl_nest (r : Nat) : ∀ (d : VecD) (cs : List Value) (w : World), VecR w cs d → r ≤ 1000 →
    Calls Tryz.prog 121 #[.agg cs.toArray, .int .i64 r] w (RetI (nestV r d) w) := by
  induction r with
  | zero =>
    intro d cs w h hr
    obtain ⟨n, A1, c1, A2, c2, A3, c3, A4, c4, A5, c5, rfl, k0, k1, k2, l1, l2, l3, l4, l5, HV⟩ := h.open_
    clear h
    go_enter Tryz.func121, Tryz.ntmps121
    go_wp2
    go_ret
    exact ⟨rfl, below_alloc1 _ _⟩
  | succ r ih =>
  intro d cs w h hr
  have IH := Lib.hid ih
  clear ih
  have HI := Lib.hid h
  obtain ⟨n, A1, c1, A2, c2, A3, c3, A4, c4, A5, c5, rfl, k0, k1, k2, l1, l2, l3, l4, l5, HV⟩ := h.open_
  clear h
  obtain ⟨_, _, e2, hlc2, hm2, HC2⟩ := SlR.open_ HV.out.2.1
  injection e2 with e21 e22 e23
  subst e21 e23
  clear e22
  unfold maxLen at hm2
  generalize hR : ((r + 1 : Nat) : Int) = R
  have HR := Lib.hid hR
  have hR1 : 1 ≤ R := by omega
  have hR2 : R ≤ 1000 := by omega
  have hrb2 : (R == 0) = false := by simp; omega
  clear hR
  go_enter Tryz.func121, Tryz.ntmps121
  go_wp2
  go_loopw [5, 13] (fun o i wr => ∃ k : Nat, k ≤ d.parts.length ∧ i = .int .i64 k ∧ o = .int .i64 (nestT r (d.parts.take k)) ∧ Hid (Blk wr w.heap.size 61 [.int .i64 d.kind, .slice A1 d.items.length c1, .slice A2 d.parts.length c2, .slice A3 d.names.length c3, .slice A4 d.cls.length c4, .slice A5 d.levels.length c5, .int .i64 d.code, .int .i64 d.env] ∧ Below w.heap.size w wr)) (fun _ i _ => d.parts.length - (intOf i).toNat)
  case atStart => exact ⟨0, Nat.zero_le _, rfl, by simp [nestT], Blk.new _ _ _, below_alloc1 _ _⟩
  case round =>
      obtain ⟨k, hk, rfl, rfl, HX⟩ := hrel
      have x0 := HX.out.1.cell 0 _ rfl
      have x1 := HX.out.1.cell 1 _ rfl
      have x2 := HX.out.1.cell 2 _ rfl
      have x3 := HX.out.1.cell 3 _ rfl
      have x4 := HX.out.1.cell 4 _ rfl
      have x5 := HX.out.1.cell 5 _ rfl
      have x6 := HX.out.1.cell 6 _ rfl
      have x7 := HX.out.1.cell 7 _ rfl
      have hlw : w.heap.size < wr.heap.size := HX.out.1.lt
      have hn1 := nestT_le r (d.parts.take k)
      by_cases hlt : k < d.parts.length
      · have HS := Lib.hid (nestT_succ r d.parts k hlt)
        have hn2 := nestV_le r d.parts[k]
        obtain ⟨b, off, cs, rfl, hbl, hlen, hat, hvr⟩ := HC2.out k hlt
        obtain ⟨nn, hvr⟩ : ∃ n, VectorR n w cs d.parts[k] := ⟨_, hvr⟩
        have HPV := Lib.hid (show VecR w cs d.parts[k] from ⟨nn, hvr⟩)
        clear hvr
        obtain ⟨_, B1, b1, B2, b2, B3, b3, B4, b4, B5, b5, rfl, _⟩ := HPV.out.open_
        have y0 := (HX.out.2.cell (p := ⟨b, off + k * 8, none⟩) hbl).trans (by simpa using hat 0 _ rfl)
        have y1 := (HX.out.2.cell (p := ⟨b, off + k * 8 + 1, none⟩) hbl).trans (hat 1 _ rfl)
        have y2 := (HX.out.2.cell (p := ⟨b, off + k * 8 + 2, none⟩) hbl).trans (hat 2 _ rfl)
        have y3 := (HX.out.2.cell (p := ⟨b, off + k * 8 + 3, none⟩) hbl).trans (hat 3 _ rfl)
        have y4 := (HX.out.2.cell (p := ⟨b, off + k * 8 + 4, none⟩) hbl).trans (hat 4 _ rfl)
        have y5 := (HX.out.2.cell (p := ⟨b, off + k * 8 + 5, none⟩) hbl).trans (hat 5 _ rfl)
        have y6 := (HX.out.2.cell (p := ⟨b, off + k * 8 + 6, none⟩) hbl).trans (hat 6 _ rfl)
        have y7 := (HX.out.2.cell (p := ⟨b, off + k * 8 + 7, none⟩) hbl).trans (hat 7 _ rfl)
        clear hat
        go_wp2_with fail
        refine abs_w (Ex2 w w.heap.size w.heap.size 61 [.int .i64 d.kind, .slice A1 d.items.length c1, .slice (some ⟨b, off, none⟩) d.parts.length c2, .slice A3 d.names.length c3, .slice A4 d.cls.length c4, .slice A5 d.levels.length c5, .int .i64 d.code, .int .i64 d.env] wr.heap.size 61 [.int .i64 d.parts[k].kind, .slice B1 d.parts[k].items.length b1, .slice B2 d.parts[k].parts.length b2, .slice B3 d.parts[k].names.length b3, .slice B4 d.parts[k].cls.length b4, .slice B5 d.parts[k].levels.length b5, .int .i64 d.parts[k].code, .int .i64 d.parts[k].env]) ⟨HX.out.1.alloc _, Blk.new _ _ _, HX.out.2.alloc HX.out.2.size _, by simp; omega⟩ ?_
        rintro W hX
        rw [show R - 1 = (r : Int) by have := HR.out; omega]
        refine (IH.out d.parts[k] _ W (HPV.out.below hX.2.2.1) (by omega)).mono ?_
        rintro e w2 ⟨rfl, hb⟩
        have HX2 := Lib.hid (hX.below hb)
        clear hX hb x0 x1 x2 x3 x4 x5 x6 x7 y0 y1 y2 y3 y4 y5 y6 y7
        go_wp2_with fail
        all_goals
          go_roundw
          case rel => exact ⟨k + 1, by omega, by go_num, by rw [HS.out]; congr 1; omega, HX2.out.1, HX2.out.2.2.1⟩
          case measure => simp [intOf]; omega
      · obtain rfl : k = d.parts.length := by omega
        go_wp2_with fail
        go_ret
        exact ⟨ret_int (by rw [List.take_length, nestV_succ]), HX.out.2⟩

set_option maxHeartbeats 1000000 in
theorem impl_cells_n (n : Nat) : ∀ (d : VecD) (cs : List Value) (w : World), VectorR n w cs d → szVector d ≤ 1000000000000 →
    Calls Tryz.prog 123 #[.agg cs.toArray] w (RetI (cellsV d) w) := by
  induction n with
  | zero => intro d cs w h; exact h.elim
  | succ n ih =>
  intro d cs w h hz
  have IH := Lib.hid ih
  clear ih
  have HI := Lib.hid (show VecR w cs d from ⟨_, h⟩)
  obtain ⟨v1, v2, v3, v4, v5, rfl, h0, h1, h2, h3, h4, h5, h6, h7⟩ := h
  obtain ⟨A1, c1, rfl⟩ := SlR.shape h1
  obtain ⟨A2, c2, rfl⟩ := SlR.shape h2
  obtain ⟨A3, c3, rfl⟩ := SlR.shape h3
  obtain ⟨A4, c4, rfl⟩ := SlR.shape h4
  obtain ⟨A5, c5, rfl⟩ := SlR.shape h5
  obtain ⟨_, _, e2, hlc2, hm2, HC2⟩ := SlR.open_ h2
  injection e2 with e21 e22 e23
  subst e21 e23
  clear e22
  unfold maxLen at hm2
  clear h1 h2 h3 h4 h5
  have hce := cellsV_le d
  have hcq := cellsV_eq d
  have HCQ := Lib.hid (show cellsV d = lenV d + cellsT d.parts from hcq)
  have hsl := sz_len d
  have hct : lenV d + cellsT d.parts ≤ 2000000000001 := by have := HCQ.out; omega
  clear hcq
  go_enter Tryz.func123, Tryz.ntmps123
  go_wp2_with fail
  refine abs_w (fun W => Blk W w.heap.size 61 [.int .i64 d.kind, .slice A1 d.items.length c1, .slice A2 d.parts.length c2, .slice A3 d.names.length c3, .slice A4 d.cls.length c4, .slice A5 d.levels.length c5, .int .i64 d.code, .int .i64 d.env] ∧ Below w.heap.size w W) ⟨Blk.new _ _ _, below_alloc1 _ _⟩ ?_
  rintro W0 ⟨hK, hB⟩
  refine (impl_length d _ W0 (HI.out.below hB) (by omega)).mono ?_
  rintro e w1 ⟨rfl, hb⟩
  have HK := Lib.hid (hK.below hb)
  have HB := Lib.hid (hB.trans (hb.mono hB.size))
  clear hb hK hB W0
  have x2 := HK.out.cell 2 _ rfl
  go_wp2_with fail
  go_loopw [3, 11] (fun o i wr => ∃ k : Nat, k ≤ d.parts.length ∧ i = .int .i64 k ∧ o = .int .i64 ((lenV d + cellsT (d.parts.take k) : Nat) : Int) ∧ Hid (Blk wr w.heap.size 61 [.int .i64 d.kind, .slice A1 d.items.length c1, .slice A2 d.parts.length c2, .slice A3 d.names.length c3, .slice A4 d.cls.length c4, .slice A5 d.levels.length c5, .int .i64 d.code, .int .i64 d.env] ∧ Below w.heap.size w wr)) (fun _ i _ => d.parts.length - (intOf i).toNat)
  case atStart => exact ⟨0, Nat.zero_le _, rfl, by simp [cellsT], HK.out, HB.out⟩
  case round =>
      clear x2
      obtain ⟨k, hk, rfl, rfl, HX⟩ := hrel
      have x0 := HX.out.1.cell 0 _ rfl
      have x1 := HX.out.1.cell 1 _ rfl
      have x2 := HX.out.1.cell 2 _ rfl
      have x3 := HX.out.1.cell 3 _ rfl
      have x4 := HX.out.1.cell 4 _ rfl
      have x5 := HX.out.1.cell 5 _ rfl
      have x6 := HX.out.1.cell 6 _ rfl
      have x7 := HX.out.1.cell 7 _ rfl
      have hlw : w.heap.size < wr.heap.size := HX.out.1.lt
      have hn1 := cellsT_take d.parts k
      by_cases hlt : k < d.parts.length
      · have hs := cellsT_succ d.parts k hlt
        have hn3 := cellsT_take d.parts (k + 1)
        have HS := Lib.hid hs
        have hn2 : cellsV d.parts[k] ≤ 2000000000001 := by omega
        have hn4 := sz_parts d k hlt
        have hn5 : cellsT (d.parts.take k) + cellsV d.parts[k] ≤ 2000000000001 := by omega
        clear hs hn3
        obtain ⟨b, off, cs, rfl, hbl, hlen, hat, hvr⟩ := HC2.out k hlt
        have HPN := Lib.hid hvr
        have HPV := Lib.hid (show VecR w cs d.parts[k] from ⟨n, hvr⟩)
        clear hvr
        obtain ⟨_, B1, b1, B2, b2, B3, b3, B4, b4, B5, b5, rfl, _⟩ := HPV.out.open_
        have y0 := (HX.out.2.cell (p := ⟨b, off + k * 8, none⟩) hbl).trans (by simpa using hat 0 _ rfl)
        have y1 := (HX.out.2.cell (p := ⟨b, off + k * 8 + 1, none⟩) hbl).trans (hat 1 _ rfl)
        have y2 := (HX.out.2.cell (p := ⟨b, off + k * 8 + 2, none⟩) hbl).trans (hat 2 _ rfl)
        have y3 := (HX.out.2.cell (p := ⟨b, off + k * 8 + 3, none⟩) hbl).trans (hat 3 _ rfl)
        have y4 := (HX.out.2.cell (p := ⟨b, off + k * 8 + 4, none⟩) hbl).trans (hat 4 _ rfl)
        have y5 := (HX.out.2.cell (p := ⟨b, off + k * 8 + 5, none⟩) hbl).trans (hat 5 _ rfl)
        have y6 := (HX.out.2.cell (p := ⟨b, off + k * 8 + 6, none⟩) hbl).trans (hat 6 _ rfl)
        have y7 := (HX.out.2.cell (p := ⟨b, off + k * 8 + 7, none⟩) hbl).trans (hat 7 _ rfl)
        clear hat
        go_wp2_with fail
        refine abs_w (Ex2 w w.heap.size w.heap.size 61 [.int .i64 d.kind, .slice A1 d.items.length c1, .slice (some ⟨b, off, none⟩) d.parts.length c2, .slice A3 d.names.length c3, .slice A4 d.cls.length c4, .slice A5 d.levels.length c5, .int .i64 d.code, .int .i64 d.env] wr.heap.size 61 [.int .i64 d.parts[k].kind, .slice B1 d.parts[k].items.length b1, .slice B2 d.parts[k].parts.length b2, .slice B3 d.parts[k].names.length b3, .slice B4 d.parts[k].cls.length b4, .slice B5 d.parts[k].levels.length b5, .int .i64 d.parts[k].code, .int .i64 d.parts[k].env]) ⟨HX.out.1.alloc _, Blk.new _ _ _, HX.out.2.alloc HX.out.2.size _, by simp; omega⟩ ?_
        rintro W hX
        refine (IH.out d.parts[k] _ W (HPN.out.below hX.2.2.1) (by omega)).mono ?_
        rintro e w2 ⟨rfl, hb⟩
        have HX2 := Lib.hid (hX.below hb)
        clear hX hb x0 x1 x2 x3 x4 x5 x6 x7 y0 y1 y2 y3 y4 y5 y6 y7
        go_wp2_with fail
        go_roundw
        case rel => exact ⟨k + 1, by omega, by go_num, by rw [HS.out]; go_num, HX2.out.1, HX2.out.2.2.1⟩
        case measure => simp [intOf]; omega
      · obtain rfl : k = d.parts.length := by omega
        go_wp2_with fail
        go_ret
        exact ⟨ret_int (by rw [List.take_length, HCQ.out]), HX.out.2⟩
theorem impl_cells (d : VecD) (cs : List Value) (w : World) (h : VecR w cs d) (hz : szVector d ≤ 1000000000000) :
    Calls Tryz.prog 123 #[.agg cs.toArray] w (RetI (cellsV d) w) := by
  obtain ⟨n, h⟩ := h
  exact impl_cells_n n d cs w h hz

set_option maxHeartbeats 1000000 in
theorem spec_l4Cells_n (n : Nat) : ∀ (d : VecD) (cs : List Value) (w : World), VectorR n w cs d → szVector d ≤ 1000000000000 →
    Calls Tryz.prog 117 #[.agg cs.toArray] w (RetI (cellsV d) w) := by
  induction n with
  | zero => intro d cs w h; exact h.elim
  | succ n ih =>
  intro d cs w h hz
  have IH := Lib.hid ih
  clear ih
  have HI := Lib.hid (show VecR w cs d from ⟨_, h⟩)
  obtain ⟨v1, v2, v3, v4, v5, rfl, h0, h1, h2, h3, h4, h5, h6, h7⟩ := h
  obtain ⟨A1, c1, rfl⟩ := SlR.shape h1
  obtain ⟨A2, c2, rfl⟩ := SlR.shape h2
  obtain ⟨A3, c3, rfl⟩ := SlR.shape h3
  obtain ⟨A4, c4, rfl⟩ := SlR.shape h4
  obtain ⟨A5, c5, rfl⟩ := SlR.shape h5
  obtain ⟨_, _, e2, hlc2, hm2, HC2⟩ := SlR.open_ h2
  injection e2 with e21 e22 e23
  subst e21 e23
  clear e22
  unfold maxLen at hm2
  clear h1 h2 h3 h4 h5
  have hce := cellsV_le d
  have hcq := cellsV_eq d
  have HCQ := Lib.hid (show cellsV d = lenV d + cellsT d.parts from hcq)
  have hsl := sz_len d
  have hct : lenV d + cellsT d.parts ≤ 2000000000001 := by have := HCQ.out; omega
  clear hcq
  go_enter Tryz.func117, Tryz.ntmps117
  go_wp2_with fail
  refine abs_w (fun W => Blk W w.heap.size 61 [.int .i64 d.kind, .slice A1 d.items.length c1, .slice A2 d.parts.length c2, .slice A3 d.names.length c3, .slice A4 d.cls.length c4, .slice A5 d.levels.length c5, .int .i64 d.code, .int .i64 d.env] ∧ Below w.heap.size w W) ⟨Blk.new _ _ _, below_alloc1 _ _⟩ ?_
  rintro W0 ⟨hK, hB⟩
  refine (spec_l4Len d _ W0 (HI.out.below hB) (by omega)).mono ?_
  rintro e w1 ⟨rfl, hb⟩
  have HK := Lib.hid (hK.below hb)
  have HB := Lib.hid (hB.trans (hb.mono hB.size))
  clear hb hK hB W0
  have x2 := HK.out.cell 2 _ rfl
  go_wp2_with fail
  go_loopw [3, 4] (fun o i wr => ∃ k : Nat, k ≤ d.parts.length ∧ i = .int .i64 k ∧ o = .int .i64 ((lenV d + cellsT (d.parts.take k) : Nat) : Int) ∧ Hid (Blk wr w.heap.size 61 [.int .i64 d.kind, .slice A1 d.items.length c1, .slice A2 d.parts.length c2, .slice A3 d.names.length c3, .slice A4 d.cls.length c4, .slice A5 d.levels.length c5, .int .i64 d.code, .int .i64 d.env] ∧ Below w.heap.size w wr)) (fun _ i _ => d.parts.length - (intOf i).toNat)
  case atStart => exact ⟨0, Nat.zero_le _, rfl, by simp [cellsT], HK.out, HB.out⟩
  case round =>
      clear x2
      obtain ⟨k, hk, rfl, rfl, HX⟩ := hrel
      have x0 := HX.out.1.cell 0 _ rfl
      have x1 := HX.out.1.cell 1 _ rfl
      have x2 := HX.out.1.cell 2 _ rfl
      have x3 := HX.out.1.cell 3 _ rfl
      have x4 := HX.out.1.cell 4 _ rfl
      have x5 := HX.out.1.cell 5 _ rfl
      have x6 := HX.out.1.cell 6 _ rfl
      have x7 := HX.out.1.cell 7 _ rfl
      have hlw : w.heap.size < wr.heap.size := HX.out.1.lt
      have hn1 := cellsT_take d.parts k
      by_cases hlt : k < d.parts.length
      · have hs := cellsT_succ d.parts k hlt
        have hn3 := cellsT_take d.parts (k + 1)
        have HS := Lib.hid hs
        have hn2 : cellsV d.parts[k] ≤ 2000000000001 := by omega
        have hn4 := sz_parts d k hlt
        have hn5 : cellsT (d.parts.take k) + cellsV d.parts[k] ≤ 2000000000001 := by omega
        clear hs hn3
        obtain ⟨b, off, cs, rfl, hbl, hlen, hat, hvr⟩ := HC2.out k hlt
        have HPN := Lib.hid hvr
        have HPV := Lib.hid (show VecR w cs d.parts[k] from ⟨n, hvr⟩)
        clear hvr
        obtain ⟨_, B1, b1, B2, b2, B3, b3, B4, b4, B5, b5, rfl, _⟩ := HPV.out.open_
        have y0 := (HX.out.2.cell (p := ⟨b, off + k * 8, none⟩) hbl).trans (by simpa using hat 0 _ rfl)
        have y1 := (HX.out.2.cell (p := ⟨b, off + k * 8 + 1, none⟩) hbl).trans (hat 1 _ rfl)
        have y2 := (HX.out.2.cell (p := ⟨b, off + k * 8 + 2, none⟩) hbl).trans (hat 2 _ rfl)
        have y3 := (HX.out.2.cell (p := ⟨b, off + k * 8 + 3, none⟩) hbl).trans (hat 3 _ rfl)
        have y4 := (HX.out.2.cell (p := ⟨b, off + k * 8 + 4, none⟩) hbl).trans (hat 4 _ rfl)
        have y5 := (HX.out.2.cell (p := ⟨b, off + k * 8 + 5, none⟩) hbl).trans (hat 5 _ rfl)
        have y6 := (HX.out.2.cell (p := ⟨b, off + k * 8 + 6, none⟩) hbl).trans (hat 6 _ rfl)
        have y7 := (HX.out.2.cell (p := ⟨b, off + k * 8 + 7, none⟩) hbl).trans (hat 7 _ rfl)
        clear hat
        go_wp2_with fail
        refine (IH.out d.parts[k] _ _ (HPN.out.below HX.out.2) (by omega)).mono ?_
        rintro e w2 ⟨rfl, hb⟩
        have HX2 := Lib.hid (⟨HX.out.1.below hb, HX.out.2.trans (hb.mono HX.out.2.size)⟩ : Blk w2 w.heap.size 61 [.int .i64 d.kind, .slice A1 d.items.length c1, .slice (some ⟨b, off, none⟩) d.parts.length c2, .slice A3 d.names.length c3, .slice A4 d.cls.length c4, .slice A5 d.levels.length c5, .int .i64 d.code, .int .i64 d.env] ∧ Below w.heap.size w w2)
        clear hb x0 x1 x2 x3 x4 x5 x6 x7 y0 y1 y2 y3 y4 y5 y6 y7
        go_wp2_with fail
        go_roundw
        case rel => exact ⟨k + 1, by omega, by go_num, by rw [HS.out]; go_num, HX2.out.1, HX2.out.2⟩
        case measure => simp [intOf]; omega
      · obtain rfl : k = d.parts.length := by omega
        go_wp2_with fail
        go_ret
        exact ⟨ret_int (by rw [List.take_length, HCQ.out]), HX.out.2⟩
theorem spec_l4Cells (d : VecD) (cs : List Value) (w : World) (h : VecR w cs d) (hz : szVector d ≤ 1000000000000) :
    Calls Tryz.prog 117 #[.agg cs.toArray] w (RetI (cellsV d) w) := by
  obtain ⟨n, h⟩ := h
  exact spec_l4Cells_n n d cs w h hz

set_option maxHeartbeats 1000000 in
theorem impl_partsValid_n (n : Nat) : ∀ (d : VecD) (cs : List Value) (w : World), VectorR n w cs d → szVector d ≤ 1000000000000 →
    Calls Tryz.prog 122 #[.agg cs.toArray] w (RetB (allShape d) w) := by
  induction n with
  | zero => intro d cs w h; exact h.elim
  | succ n ih =>
  intro d cs w h hz
  have IH := Lib.hid ih
  clear ih
  have HI := Lib.hid (show VecR w cs d from ⟨_, h⟩)
  obtain ⟨v1, v2, v3, v4, v5, rfl, h0, h1, h2, h3, h4, h5, h6, h7⟩ := h
  obtain ⟨A1, c1, rfl⟩ := SlR.shape h1
  obtain ⟨A2, c2, rfl⟩ := SlR.shape h2
  obtain ⟨A3, c3, rfl⟩ := SlR.shape h3
  obtain ⟨A4, c4, rfl⟩ := SlR.shape h4
  obtain ⟨A5, c5, rfl⟩ := SlR.shape h5
  obtain ⟨_, _, e2, hlc2, hm2, HC2⟩ := SlR.open_ h2
  injection e2 with e21 e22 e23
  subst e21 e23
  clear e22
  unfold maxLen at hm2
  clear h1 h2 h3 h4 h5
  have HQ := Lib.hid (allShape_eq d)
  have hsl := sz_len d
  go_enter Tryz.func122, Tryz.ntmps122
  go_wp2_with fail
  refine abs_w (fun W => Blk W w.heap.size 61 [.int .i64 d.kind, .slice A1 d.items.length c1, .slice A2 d.parts.length c2, .slice A3 d.names.length c3, .slice A4 d.cls.length c4, .slice A5 d.levels.length c5, .int .i64 d.code, .int .i64 d.env] ∧ Below w.heap.size w W) ⟨Blk.new _ _ _, below_alloc1 _ _⟩ ?_
  rintro W0 ⟨hK, hB⟩
  refine (impl_shapeValid d _ W0 (HI.out.below hB) (by omega)).mono ?_
  rintro e w1 ⟨rfl, hb⟩
  have HK := Lib.hid (hK.below hb)
  have HB := Lib.hid (hB.trans (hb.mono hB.size))
  clear hb hK hB W0
  cases hs : shapeOk d
  · go_wp2_with fail
    go_ret
    exact ⟨ret_bool (by rw [HQ.out, hs]; rfl), HB.out⟩
  have HSH := Lib.hid hs
  clear hs
  have x2 := HK.out.cell 2 _ rfl
  go_wp2_with fail
  go_loopw [11] (fun i wr => ∃ k : Nat, k ≤ d.parts.length ∧ i = .int .i64 k ∧ Hid (∀ j (h : j < d.parts.length), j < k → allShape d.parts[j] = true) ∧ Hid (Blk wr w.heap.size 61 [.int .i64 d.kind, .slice A1 d.items.length c1, .slice A2 d.parts.length c2, .slice A3 d.names.length c3, .slice A4 d.cls.length c4, .slice A5 d.levels.length c5, .int .i64 d.code, .int .i64 d.env] ∧ Below w.heap.size w wr)) (fun i _ => d.parts.length - (intOf i).toNat)
  case atStart => exact ⟨0, Nat.zero_le _, rfl, fun j _ h => absurd h (by omega), HK.out, HB.out⟩
  case round =>
      clear x2
      obtain ⟨k, hk, rfl, hn, HX⟩ := hrel
      have x0 := HX.out.1.cell 0 _ rfl
      have x1 := HX.out.1.cell 1 _ rfl
      have x2 := HX.out.1.cell 2 _ rfl
      have x3 := HX.out.1.cell 3 _ rfl
      have x4 := HX.out.1.cell 4 _ rfl
      have x5 := HX.out.1.cell 5 _ rfl
      have x6 := HX.out.1.cell 6 _ rfl
      have x7 := HX.out.1.cell 7 _ rfl
      have hlw : w.heap.size < wr.heap.size := HX.out.1.lt
      by_cases hlt : k < d.parts.length
      · have hn4 := sz_parts d k hlt
        obtain ⟨b, off, cs, rfl, hbl, hlen, hat, hvr⟩ := HC2.out k hlt
        have HPN := Lib.hid hvr
        have HPV := Lib.hid (show VecR w cs d.parts[k] from ⟨n, hvr⟩)
        clear hvr
        obtain ⟨_, B1, b1, B2, b2, B3, b3, B4, b4, B5, b5, rfl, _⟩ := HPV.out.open_
        have y0 := (HX.out.2.cell (p := ⟨b, off + k * 8, none⟩) hbl).trans (by simpa using hat 0 _ rfl)
        have y1 := (HX.out.2.cell (p := ⟨b, off + k * 8 + 1, none⟩) hbl).trans (hat 1 _ rfl)
        have y2 := (HX.out.2.cell (p := ⟨b, off + k * 8 + 2, none⟩) hbl).trans (hat 2 _ rfl)
        have y3 := (HX.out.2.cell (p := ⟨b, off + k * 8 + 3, none⟩) hbl).trans (hat 3 _ rfl)
        have y4 := (HX.out.2.cell (p := ⟨b, off + k * 8 + 4, none⟩) hbl).trans (hat 4 _ rfl)
        have y5 := (HX.out.2.cell (p := ⟨b, off + k * 8 + 5, none⟩) hbl).trans (hat 5 _ rfl)
        have y6 := (HX.out.2.cell (p := ⟨b, off + k * 8 + 6, none⟩) hbl).trans (hat 6 _ rfl)
        have y7 := (HX.out.2.cell (p := ⟨b, off + k * 8 + 7, none⟩) hbl).trans (hat 7 _ rfl)
        clear hat
        go_wp2_with fail
        refine abs_w (Ex2 w w.heap.size w.heap.size 61 [.int .i64 d.kind, .slice A1 d.items.length c1, .slice (some ⟨b, off, none⟩) d.parts.length c2, .slice A3 d.names.length c3, .slice A4 d.cls.length c4, .slice A5 d.levels.length c5, .int .i64 d.code, .int .i64 d.env] wr.heap.size 61 [.int .i64 d.parts[k].kind, .slice B1 d.parts[k].items.length b1, .slice B2 d.parts[k].parts.length b2, .slice B3 d.parts[k].names.length b3, .slice B4 d.parts[k].cls.length b4, .slice B5 d.parts[k].levels.length b5, .int .i64 d.parts[k].code, .int .i64 d.parts[k].env]) ⟨HX.out.1.alloc _, Blk.new _ _ _, HX.out.2.alloc HX.out.2.size _, by simp; omega⟩ ?_
        rintro W hX
        refine (IH.out d.parts[k] _ W (HPN.out.below hX.2.2.1) (by omega)).mono ?_
        rintro e w2 ⟨rfl, hb⟩
        have HX2 := Lib.hid (hX.below hb)
        clear hX hb x0 x1 x2 x3 x4 x5 x6 x7 y0 y1 y2 y3 y4 y5 y6 y7
        cases hq : allShape d.parts[k]
        · go_wp2_with fail
          go_ret
          exact ⟨ret_bool (by
            rw [HQ.out, HSH.out]
            have : d.parts.all allShape = false := by
              simp only [List.all_eq_false]
              exact ⟨d.parts[k], List.getElem_mem hlt, by simp [hq]⟩
            rw [this]
            rfl), HX2.out.2.2.1⟩
        · have HQ2 := Lib.hid hq
          clear hq
          go_wp2_with fail
          go_roundw
          case rel => exact ⟨k + 1, by omega, by go_num, fun j h1 hj => by rcases Nat.lt_succ_iff_lt_or_eq.1 hj with h3 | rfl; exact hn.out j h1 h3; exact HQ2.out, HX2.out.1, HX2.out.2.2.1⟩
          case measure => simp [intOf]; omega
      · go_wp2_with fail
        go_ret
        exact ⟨ret_bool (by
          rw [HQ.out, HSH.out]
          have : d.parts.all allShape = true := by
            simp only [List.all_eq_true]
            intro p hp
            obtain ⟨j, hj, rfl⟩ := List.getElem_of_mem hp
            exact hn.out j hj (by omega)
          rw [this]
          rfl), HX.out.2⟩
theorem impl_partsValid (d : VecD) (cs : List Value) (w : World) (h : VecR w cs d) (hz : szVector d ≤ 1000000000000) :
    Calls Tryz.prog 122 #[.agg cs.toArray] w (RetB (allShape d) w) := by
  obtain ⟨n, h⟩ := h
  exact impl_partsValid_n n d cs w h hz

theorem vecOk_eq (d : VecD) : vecOk d = (decide ((nestV 4 d : Int) ≤ 3) && allShape d && decide ((cellsV d : Int) ≤ 200)) := by
  rw [vecOk, ← okN_eq 3 d]
  congr 1
  · congr 1
    exact decide_eq_decide.2 (show nestV 4 d ≤ 3 ↔ _ by omega)
  · exact decide_eq_decide.2 (by omega)

set_option maxHeartbeats 1000000 in
theorem impl_IsVector (d : VecD) (cs : List Value) (w : World) (h : VecR w cs d) (hz : szVector d ≤ 1000000000000) :
    Calls Tryz.prog 92 #[.agg cs.toArray] w (RetB (vecOk d) w) := by
  have HI := Lib.hid h
  obtain ⟨n, A1, c1, A2, c2, A3, c3, A4, c4, A5, c5, rfl, k0, k1, k2, l1, l2, l3, l4, l5, HV⟩ := h.open_
  clear h
  have HQ := Lib.hid (vecOk_eq d)
  have hc := cellsV_le d
  go_enter Tryz.func92, Tryz.ntmps92
  go_wp2_with fail
  refine abs_w (fun W => Blk W w.heap.size 61 [.int .i64 d.kind, .slice A1 d.items.length c1, .slice A2 d.parts.length c2, .slice A3 d.names.length c3, .slice A4 d.cls.length c4, .slice A5 d.levels.length c5, .int .i64 d.code, .int .i64 d.env] ∧ Below w.heap.size w W) ⟨Blk.new _ _ _, below_alloc1 _ _⟩ ?_
  rintro W0 ⟨hK, hB⟩
  refine (impl_nest 4 d _ W0 (HI.out.below hB) (by omega)).mono ?_
  rintro e w1 ⟨rfl, hb⟩
  have HK := Lib.hid (hK.below hb)
  have HB := Lib.hid (hB.trans (hb.mono hB.size))
  clear hb hK hB W0
  have x0 := HK.out.cell 0 _ rfl
  have x1 := HK.out.cell 1 _ rfl
  have x2 := HK.out.cell 2 _ rfl
  have x3 := HK.out.cell 3 _ rfl
  have x4 := HK.out.cell 4 _ rfl
  have x5 := HK.out.cell 5 _ rfl
  have x6 := HK.out.cell 6 _ rfl
  have x7 := HK.out.cell 7 _ rfl
  by_cases g1 : (nestV 4 d : Int) ≤ 3
  rotate_left
  · go_wp2_with fail
    go_ret
    exact ⟨ret_bool (by rw [HQ.out, decide_eq_false (by omega)]; rfl), HB.out⟩
  go_wp2_with fail
  refine (impl_partsValid d _ _ (HI.out.below HB.out) hz).mono ?_
  rintro e w2 ⟨rfl, hb⟩
  have HK2 := Lib.hid (HK.out.below hb)
  have HB2 := Lib.hid (HB.out.trans (hb.mono HB.out.size))
  clear hb HK HB x0 x1 x2 x3 x4 x5 x6 x7
  have x0 := HK2.out.cell 0 _ rfl
  have x1 := HK2.out.cell 1 _ rfl
  have x2 := HK2.out.cell 2 _ rfl
  have x3 := HK2.out.cell 3 _ rfl
  have x4 := HK2.out.cell 4 _ rfl
  have x5 := HK2.out.cell 5 _ rfl
  have x6 := HK2.out.cell 6 _ rfl
  have x7 := HK2.out.cell 7 _ rfl
  cases g2 : allShape d
  · go_wp2_with fail
    go_ret
    exact ⟨ret_bool (by rw [HQ.out, g2]; simp), HB2.out⟩
  have HG2 := Lib.hid g2
  clear g2
  go_wp2_with fail
  refine (impl_cells d _ _ (HI.out.below HB2.out) hz).mono ?_
  rintro e w3 ⟨rfl, hb⟩
  have HB3 := Lib.hid (HB2.out.trans (hb.mono HB2.out.size))
  clear hb HK2 HB2 x0 x1 x2 x3 x4 x5 x6 x7
  by_cases g3 : (cellsV d : Int) ≤ 200
  · go_wp2_with fail
    go_ret
    exact ⟨ret_bool (by rw [HQ.out, HG2.out, decide_eq_true g1, decide_eq_true g3]; rfl), HB3.out⟩
  · go_wp2_with fail
    go_ret
    exact ⟨ret_bool (by rw [HQ.out, HG2.out, decide_eq_true g1, decide_eq_false (by omega)]; rfl), HB3.out⟩

end Go.Proofs.YtjdfancbmjnjfaaGreat
