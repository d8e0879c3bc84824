/-
  Contracts: what the laws of vectors draw: elements, factors, vectors of any kind.
-/
import Derived.Test.YtjdimlhdkmkmbaaDrawBox
import Derived.Test.YtjdimlhdkmkmbaaTxtVec
namespace Go.Proofs.Ytjdimlhdkmkmbaa
set_option maxRecDepth 100000
open Go.ChangeShapes Go.WideShapes Go.ChangeAt Go.RowKit Go.Deep
set_option linter.unusedVariables false

theorem ints_lit {W : World} (ss : List Int) (n : Nat) (hn : ss.length = n) (h1 : n ≤ 256) (h2 : ∀ x ∈ ss, I64 x) : Ints (W.alloc (.cells (ss.map fun x => Value.int .i64 x).toArray 3)) (.slice (some ⟨W.heap.size, 0, none⟩) n n) ss := by
  subst hn
  exact Ints.of_own (l := ss) (owns_new W 3 1 ss.length (ss.map fun x => Value.int .i64 x).toArray ss.length (ss.map fun x => Value.int .i64 x) (by simp) (Nat.le_refl _) (by unfold maxLen; omega) (by simp) (by simp [List.take_of_length_le])) h2
theorem apart_lit {W : World} {g n : Nat} {m c : Nat} (hg : g < W.heap.size) : Apart n g (.slice (some ⟨W.heap.size, 0, none⟩) m c) := fun _ a m c hv => by
  injection hv with e1
  injection e1 with e1
  subst e1
  show W.heap.size ≠ _
  omega

/-! ### an element of any kind -/
def itZ : List Value := [.int .i64 0, .int .i64 0, .string ByteArray.empty]
structure IB0 (g : Nat) (v : Value) (l : List Nat) (w : World) (W : World) : Prop where
  cur : Cur W g v l
  res : Blk W w.heap.size 36 itZ
  only : Only g w W
structure IB (g : Nat) (v : Value) (l : List Nat) (w : World) (b : Nat) (x : ItemD) (W : World) : Prop where
  cur : Cur W g v l
  res : Blk W w.heap.size 36 itZ
  bx : Blk W b 36 (itC x)
  only : Only g w W
  lo : w.heap.size + 1 ≤ b
  ok : ItOk x
section
variable {g : Nat} {v : Value} {l : List Nat} {w : World} {b : Nat} {x : ItemD} {W W' : World}
theorem IB0.next (h : IB0 g v l w W) (hg : g < w.heap.size) (hc : Cur W' g v l) (ho : Only g W W') : IB0 g v l w W' :=
  ⟨hc, (ho.block _ h.res.lt (fun e => by injection e with e; omega)).trans h.res, h.only.trans ho⟩
theorem IB.make (h : IB0 g v l w W) (x : ItemD) (hx : ItOk x) : IB g v l w W.heap.size x (W.alloc (.cells (itC x).toArray 36)) :=
  have hb := (Below.refl W.heap.size W).alloc (Nat.le_refl _) (.cells (itC x).toArray 36)
  ⟨Cur.below_ h.cur hb, h.res.below hb, Blk.new W _ (itC x), h.only.trans (Only.of_below hb), h.res.lt, hx⟩
theorem IB.next (h : IB g v l w b x W) (hg : g < w.heap.size) (hc : Cur W' g v l) (ho : Only g W W') : IB g v l w b x W' :=
  have hl := h.lo
  ⟨hc, (ho.block _ h.res.lt (fun e => by injection e with e; omega)).trans h.res, (ho.block _ h.bx.lt (fun e => by injection e with e; omega)).trans h.bx, h.only.trans ho, hl, h.ok⟩
theorem IB.step (h : IB g v l w b x W) (hb : Below W.heap.size W W') : IB g v l w b x W' :=
  ⟨Cur.below_ h.cur hb, h.res.below hb, h.bx.below hb, h.only.trans (Only.of_below hb), h.lo, h.ok⟩
theorem IB.far (h : IB g v l w b x W) (hg : g < w.heap.size) (hy : Bytes w v l) (ha : Apart l.length g v) (hb : Below w.heap.size W W') : Cur W' g v l ∧ Only g w W' :=
  have ho := h.only.belowB hb
  ⟨Cur.next h.cur hb hg (hy.only ha ho), ho⟩
end
def RetIt (g : Nat) (v : Value) (l : List Nat) (w : World) (e : Ending) (w' : World) : Prop := ∃ x : ItemD, e = .returned (.agg #[.int .i64 x.num, .int .i64 x.den, .string (str x.text)]) ∧ ItOk x ∧ Cur w' g v l ∧ Only g w w'
def five5 : List Int := [0, -1, 2, 1000000000, -9223372036854775808]
def four5 : List Int := [0, 1000000000, -9223372036854775808, 9223372036854775807]
theorem five5_i64 : ∀ x ∈ five5, I64 x := by
  intro x hx
  simp only [five5, List.mem_cons, List.not_mem_nil, or_false] at hx
  rcases hx with rfl | rfl | rfl | rfl | rfl <;> exact ⟨by decide, by decide⟩
theorem four5_i64 : ∀ x ∈ four5, I64 x := by
  intro x hx
  simp only [four5, List.mem_cons, List.not_mem_nil, or_false] at hx
  rcases hx with rfl | rfl | rfl | rfl <;> exact ⟨by decide, by decide⟩

set_option maxHeartbeats 2000000 in
theorem spec_l2Any (g : Nat) (v : Value) (l : List Nat) (w : World) (hC : Cur w g v l) (ha : Apart l.length g v) :
    Calls Try.prog 87 #[.pointer (some ⟨g, 0, none⟩)] w (RetIt g v l w) := by
  have hgl := Cur.lt_ hC
  have HA := Lib.hid ha
  have HY := Lib.hid (show Bytes w v l from by obtain ⟨_, _, _, _, _, h⟩ := hC; exact h)
  have hb0 := (Below.refl w.heap.size w).alloc (Nat.le_refl _) (.cells itZ.toArray 36)
  have HV := Lib.hid (show IB0 g v l w (w.alloc (.cells itZ.toArray 36)) from ⟨Cur.below_ hC hb0, Blk.new w 36 itZ, Only.of_below hb0⟩)
  clear hC ha hb0
  go_enter Try.func87, Try.ntmps87
  go_wp2_with fail
  refine Calls.mono (spec_l2Draw g v l _ (by exact HV.out.cur) HA.out) ?_
  rintro e w1 ⟨n, d, rfl, hn, hd, hc, ho⟩
  have HX := Lib.hid (IB.make (HV.out.next hgl hc ho) ⟨n, d, []⟩ ⟨hn.i64, hd.i64, Nat.zero_le _⟩)
  have HN := Lib.hid hn.i64
  have HD := Lib.hid hd.i64
  clear hc ho HV hn hd
  go_upto_region 2 with fail
  generalize w1.heap.size = bx at HX ⊢
  refine gen_w (G := IB g v l w bx ⟨n, d, []⟩) HX.out ?_
  intro w2 HX2
  have HX2 := Lib.hid (show IB g v l w bx ⟨n, d, []⟩ w2 from HX2)
  clear HX
  go_wp2_with fail
  refine Calls.mono (spec_l1Below g v l 20 _ HX2.out.cur HA.out (by omega) (by omega)) ?_
  rintro e w3 ⟨x, rfl, hx0, hx1, hc, ho⟩
  have HX3 := Lib.hid (HX2.out.next hgl hc ho)
  clear hc ho HX2
  have fin : ∀ (W W' : World) (x y : ItemD), IB g v l w bx x W → ItOk y → Below w.heap.size W W' → RetIt g v l w (.returned (.agg #[.int .i64 y.num, .int .i64 y.den, .string (str y.text)])) W' := fun W W' x y h hy hb =>
    ⟨y, rfl, hy, (h.far hgl HY.out HA.out hb).1, (h.far hgl HY.out HA.out hb).2⟩
  have FIN := Lib.hid fin
  clear fin
  have hlo := HX3.out.lo
  by_cases c0 : x = 0
  · subst c0
    have y0 := HX3.out.bx.cell 0 _ rfl
    have y1 := HX3.out.bx.cell 1 _ rfl
    have y2 := HX3.out.bx.cell 2 _ rfl
    have r0 := HX3.out.res.cell 0 _ rfl
    have r1 := HX3.out.res.cell 1 _ rfl
    have r2 := HX3.out.res.cell 2 _ rfl
    have z0 := HX3.out.res.frozen 0
    have z1 := HX3.out.res.frozen 1
    have z2 := HX3.out.res.frozen 2
    have f0 := HX3.out.bx.frozen 0
    have f1 := HX3.out.bx.frozen 1
    have f2 := HX3.out.bx.frozen 2
    go_wp2_with fail
    exact bodyPost_ret (v := .agg #[.int .i64 n, .int .i64 d, .string (str [97])]) (by simp [results, Try.results87, go_sem, r0, r1, r2]; try rfl) rfl (FIN.out _ _ _ ⟨n, d, [97]⟩ HX3.out ⟨HN.out, HD.out, (show 1 ≤ 100 by omega)⟩ (below_sc (b := w.heap.size) (o := 2) (below_sc (b := w.heap.size) (o := 1) (below_sc (b := w.heap.size) (o := 0) (below_sc (b := bx) (o := 2) (Below.refl w.heap.size _) (by have := HX3.out.lo; omega) (.string (str [97]))) (Nat.le_refl _) (.int .i64 n)) (Nat.le_refl _) (.int .i64 d)) (Nat.le_refl _) (.string (str [97]))))
  by_cases c1 : x = 1
  · subst c1
    have HI := Lib.hid (ints_lit (W := w3) five5 5 rfl (by decide) five5_i64)
    have HAP := Lib.hid (apart_lit (W := w3) (g := g) (n := 5) (m := 5) (c := 5) (Cur.lt_ HX3.out.cur))
    have HL := Lib.hid (HX3.out.step ((Below.refl _ _).alloc (Nat.le_refl _) (.cells (five5.map fun x => Value.int .i64 x).toArray 3)))
    go_wp2_with fail
    refine Calls.mono (spec_l1PickInt g v l _ five5 _ (by exact HL.out.cur) HA.out (by exact HI.out) (by exact HAP.out) (by decide) (by decide)) ?_
    rintro e w4 ⟨y, rfl, hy, hc, ho⟩
    have HX4 := Lib.hid (HL.out.next hgl hc ho)
    have HYI := Lib.hid hy
    clear hc ho HL HI HAP hy
    have y0 := HX4.out.bx.cell 0 _ rfl
    have y1 := HX4.out.bx.cell 1 _ rfl
    have y2 := HX4.out.bx.cell 2 _ rfl
    have r0 := HX4.out.res.cell 0 _ rfl
    have r1 := HX4.out.res.cell 1 _ rfl
    have r2 := HX4.out.res.cell 2 _ rfl
    have z0 := HX4.out.res.frozen 0
    have z1 := HX4.out.res.frozen 1
    have z2 := HX4.out.res.frozen 2
    have f0 := HX4.out.bx.frozen 0
    have f1 := HX4.out.bx.frozen 1
    have f2 := HX4.out.bx.frozen 2
    go_wp2_with fail
    exact bodyPost_ret (v := .agg #[.int .i64 n, .int .i64 y, .string (str [])]) (by simp [results, Try.results87, go_sem, r0, r1, r2]; try rfl) rfl (FIN.out _ _ _ ⟨n, y, []⟩ HX4.out ⟨HN.out, HYI.out, Nat.zero_le _⟩ (below_sc (b := w.heap.size) (o := 2) (below_sc (b := w.heap.size) (o := 1) (below_sc (b := w.heap.size) (o := 0) (below_sc (b := bx) (o := 1) (Below.refl w.heap.size _) (by have := HX4.out.lo; omega) (.int .i64 y)) (Nat.le_refl _) (.int .i64 n)) (Nat.le_refl _) (.int .i64 y)) (Nat.le_refl _) (.string (str []))))
  by_cases c2 : x = 2
  · subst c2
    have HI := Lib.hid (ints_lit (W := w3) four5 4 rfl (by decide) four5_i64)
    have HAP := Lib.hid (apart_lit (W := w3) (g := g) (n := 4) (m := 4) (c := 4) (Cur.lt_ HX3.out.cur))
    have HL := Lib.hid (HX3.out.step ((Below.refl _ _).alloc (Nat.le_refl _) (.cells (four5.map fun x => Value.int .i64 x).toArray 3)))
    go_wp2_with fail
    refine Calls.mono (spec_l1PickInt g v l _ four5 _ (by exact HL.out.cur) HA.out (by exact HI.out) (by exact HAP.out) (by decide) (by decide)) ?_
    rintro e w4 ⟨y, rfl, hy, hc, ho⟩
    have HX4 := Lib.hid (HL.out.next hgl hc ho)
    have HYI := Lib.hid hy
    clear hc ho HL HI HAP hy
    have y0 := HX4.out.bx.cell 0 _ rfl
    have y1 := HX4.out.bx.cell 1 _ rfl
    have y2 := HX4.out.bx.cell 2 _ rfl
    have r0 := HX4.out.res.cell 0 _ rfl
    have r1 := HX4.out.res.cell 1 _ rfl
    have r2 := HX4.out.res.cell 2 _ rfl
    have z0 := HX4.out.res.frozen 0
    have z1 := HX4.out.res.frozen 1
    have z2 := HX4.out.res.frozen 2
    have f0 := HX4.out.bx.frozen 0
    have f1 := HX4.out.bx.frozen 1
    have f2 := HX4.out.bx.frozen 2
    go_wp2_with fail
    exact bodyPost_ret (v := .agg #[.int .i64 y, .int .i64 d, .string (str [])]) (by simp [results, Try.results87, go_sem, r0, r1, r2]; try rfl) rfl (FIN.out _ _ _ ⟨y, d, []⟩ HX4.out ⟨HYI.out, HD.out, Nat.zero_le _⟩ (below_sc (b := w.heap.size) (o := 2) (below_sc (b := w.heap.size) (o := 1) (below_sc (b := w.heap.size) (o := 0) (below_sc (b := bx) (o := 0) (Below.refl w.heap.size _) (by have := HX4.out.lo; omega) (.int .i64 y)) (Nat.le_refl _) (.int .i64 y)) (Nat.le_refl _) (.int .i64 d)) (Nat.le_refl _) (.string (str []))))
  · have y0 := HX3.out.bx.cell 0 _ rfl
    have y1 := HX3.out.bx.cell 1 _ rfl
    have y2 := HX3.out.bx.cell 2 _ rfl
    have r0 := HX3.out.res.cell 0 _ rfl
    have r1 := HX3.out.res.cell 1 _ rfl
    have r2 := HX3.out.res.cell 2 _ rfl
    have z0 := HX3.out.res.frozen 0
    have z1 := HX3.out.res.frozen 1
    have z2 := HX3.out.res.frozen 2
    have f0 := HX3.out.bx.frozen 0
    have f1 := HX3.out.bx.frozen 1
    have f2 := HX3.out.bx.frozen 2
    go_wp2_with fail
    exact bodyPost_ret (v := .agg #[.int .i64 n, .int .i64 d, .string (str [])]) (by simp [results, Try.results87, go_sem, r0, r1, r2]; try rfl) rfl (FIN.out _ _ _ ⟨n, d, []⟩ HX3.out ⟨HN.out, HD.out, Nat.zero_le _⟩ (below_sc (b := w.heap.size) (o := 2) (below_sc (b := w.heap.size) (o := 1) (below_sc (b := w.heap.size) (o := 0) (Below.refl w.heap.size _) (Nat.le_refl _) (.int .i64 n)) (Nat.le_refl _) (.int .i64 d)) (Nat.le_refl _) (.string (str []))))

/-! ### names that are all empty are none -/
def RetClean (cs : List Value) (d : VecD) (w : World) (e : Ending) (w' : World) : Prop :=
  ∃ cs' : List Value, e = .returned (.agg cs'.toArray) ∧ Below w.heap.size w w' ∧ ((allE d.names = false ∧ cs' = cs) ∨ (allE d.names = true ∧ ∃ q, w.heap.size ≤ q ∧ q < w'.heap.size ∧ cs' = cs.set 3 (.slice (some ⟨q, 0, none⟩) 0 0) ∧ Blk w' q 9 []))
set_option maxHeartbeats 2000000 in
theorem spec_l4Clean (d : VecD) (cs : List Value) (w : World) (h : VecR w cs d) :
    Calls Try.prog 48 #[.agg cs.toArray] w (RetClean cs d w) := by
  obtain ⟨n, A1, c1, A2, c2, A3, c3, A4, c4, A5, c5, rfl, k0, k1, k2, l1, l2, l3, l4, l5, HV⟩ := h.open_
  clear h
  obtain ⟨A, c, hv, hlc, hm, HC⟩ := Txts.open_ HV.out.2.2.1
  injection hv with e1 e2 e3
  subst e1 e3
  clear HV e2
  unfold maxLen at hm
  go_enter Try.func48, Try.ntmps48
  go_upto_region 1 with fail
  refine gen_w (G := fun W => Blk W w.heap.size 28 [.int .i64 d.kind, .slice A1 d.items.length c1, .slice A2 d.parts.length c2, .slice A3 d.names.length c3, .slice A4 d.cls.length c4, .slice A5 d.levels.length c5, .int .i64 d.code, .int .i64 d.env] ∧ Blk W (w.heap.size + 1) 28 nvZ ∧ Below w.heap.size w W) (show Ok _ _ from ⟨(Blk.new w 28 [.int .i64 d.kind, .slice A1 d.items.length c1, .slice A2 d.parts.length c2, .slice A3 d.names.length c3, .slice A4 d.cls.length c4, .slice A5 d.levels.length c5, .int .i64 d.code, .int .i64 d.env]).alloc _, Blk.new_at _ 28 nvZ _ (by simp), ((Below.refl _ _).alloc (Nat.le_refl _) _).alloc (by simp) _⟩) ?_
  rintro W0 ⟨hP, hR, hB⟩
  have HP := Lib.hid hP
  have HR := Lib.hid hR
  have HB := Lib.hid hB
  have hlt := hR.lt
  have hlt0 := hP.lt
  have y0 := hP.cell 0 _ rfl
  have y1 := hP.cell 1 _ rfl
  have y2 := hP.cell 2 _ rfl
  have y3 := hP.cell 3 _ rfl
  have y4 := hP.cell 4 _ rfl
  have y5 := hP.cell 5 _ rfl
  have y6 := hP.cell 6 _ rfl
  have y7 := hP.cell 7 _ rfl
  have r0 := hR.cell 0 _ rfl
  have r1 := hR.cell 1 _ rfl
  have r2 := hR.cell 2 _ rfl
  have r3 := hR.cell 3 _ rfl
  have r4 := hR.cell 4 _ rfl
  have r5 := hR.cell 5 _ rfl
  have r6 := hR.cell 6 _ rfl
  have r7 := hR.cell 7 _ rfl
  have z0 := hR.frozen 0
  have z1 := hR.frozen 1
  have z2 := hR.frozen 2
  have z3 := hR.frozen 3
  have z4 := hR.frozen 4
  have z5 := hR.frozen 5
  have z6 := hR.frozen 6
  have z7 := hR.frozen 7
  have f0 := hP.frozen 0
  have f1 := hP.frozen 1
  have f2 := hP.frozen 2
  have f3 := hP.frozen 3
  have f4 := hP.frozen 4
  have f5 := hP.frozen 5
  have f6 := hP.frozen 6
  have f7 := hP.frozen 7
  clear hP hR hB
  go_wp2_with fail
  go_loop [3] (fun i => ∃ k : Nat, k ≤ d.names.length ∧ i = .int .i64 k ∧ Hid (∀ j (h : j < d.names.length), j < k → d.names[j] = [])) (fun i => d.names.length - (intOf i).toNat)
  case atStart => exact ⟨0, Nat.zero_le _, rfl, fun j _ h => absurd h (by omega)⟩
  case round =>
    obtain ⟨k, hk, rfl, hn⟩ := hrel
    by_cases hlt2 : k < d.names.length
    · obtain ⟨b, off, rfl, hbl, hcell, hsz⟩ := HC.out k hlt2
      have hcell := (HB.out.cell (p := ⟨b, off + k, none⟩) hbl).trans hcell
      by_cases he : d.names[k] = []
      · have HE := Lib.hid he
        have hb1 : (!d.names[k].isEmpty) = false := by simp [he]
        have hb2 : d.names[k].isEmpty = true := by simp [he]
        clear he
        go_wp2_with fail
        go_round
        case rel => exact ⟨k + 1, by omega, by go_num, fun j h1 hj => by rcases Nat.lt_succ_iff_lt_or_eq.1 hj with h3 | rfl; exact hn.out j h1 h3; exact HE.out⟩
        case measure => simp [intOf]; omega
      · have HE := Lib.hid (allE_no d.names k hlt2 he)
        have hb1 : (!d.names[k].isEmpty) = true := by simp [he]
        have hb2 : d.names[k].isEmpty = false := by simp [he]
        clear he
        go_wp2_with fail
        exact bodyPost_ret (v := .agg #[.int .i64 d.kind, .slice A1 d.items.length c1, .slice A2 d.parts.length c2, .slice (some ⟨b, off, none⟩) d.names.length c3, .slice A4 d.cls.length c4, .slice A5 d.levels.length c5, .int .i64 d.code, .int .i64 d.env]) (by simp [results, Try.results48, go_sem, r0, r1, r2, r3, r4, r5, r6, r7]; try rfl) rfl ⟨_, rfl, below_sc (b := w.heap.size + 1) (o := 7) (below_sc (b := w.heap.size + 1) (o := 6) (below_sc (b := w.heap.size + 1) (o := 5) (below_sc (b := w.heap.size + 1) (o := 4) (below_sc (b := w.heap.size + 1) (o := 3) (below_sc (b := w.heap.size + 1) (o := 2) (below_sc (b := w.heap.size + 1) (o := 1) (below_sc (b := w.heap.size + 1) (o := 0) (HB.out) (by omega) (.int .i64 d.kind)) (by omega) (.slice A1 d.items.length c1)) (by omega) (.slice A2 d.parts.length c2)) (by omega) (.slice (some ⟨b, off, none⟩) d.names.length c3)) (by omega) (.slice A4 d.cls.length c4)) (by omega) (.slice A5 d.levels.length c5)) (by omega) (.int .i64 d.code)) (by omega) (.int .i64 d.env), .inl ⟨HE.out, rfl⟩⟩
    · have HE := Lib.hid (show allE d.names = true from by simp only [allE]; exact decide_eq_true (fun j h => hn.out j h (by omega)))
      have hq : w.heap.size + 2 ≤ W0.heap.size := by omega
      clear hn
      obtain ⟨q, hqe⟩ : ∃ q, q = W0.heap.size := ⟨_, rfl⟩
      have hq2 : w.heap.size + 2 ≤ q := by omega
      have HQ := Lib.hid (show Below w.heap.size w ((W0.setCell ⟨w.heap.size, 3, none⟩ (.slice (some ⟨q, 0, none⟩) 0 0)).alloc (.cells #[] 9)) from (below_sc HB.out (Nat.le_refl _) _).alloc (by rw [size_sc]; exact HB.out.size) _)
      have HQB := Lib.hid (show Blk ((W0.setCell ⟨w.heap.size, 3, none⟩ (.slice (some ⟨q, 0, none⟩) 0 0)).alloc (.cells #[] 9)) q 9 [] from Blk.new_at _ 9 [] q (by rw [size_sc]; exact hqe))
      have HPN := Lib.hid (show Blk ((W0.setCell ⟨w.heap.size, 3, none⟩ (.slice (some ⟨q, 0, none⟩) 0 0)).alloc (.cells #[] 9)) w.heap.size 28 [.int .i64 d.kind, .slice A1 d.items.length c1, .slice A2 d.parts.length c2, .slice (some ⟨q, 0, none⟩) 0 0, .slice A4 d.cls.length c4, .slice A5 d.levels.length c5, .int .i64 d.code, .int .i64 d.env] from (HP.out.set_ 3 _).alloc _)
      have HRN := Lib.hid (show Blk ((W0.setCell ⟨w.heap.size, 3, none⟩ (.slice (some ⟨q, 0, none⟩) 0 0)).alloc (.cells #[] 9)) (w.heap.size + 1) 28 nvZ from (HR.out.far ⟨w.heap.size, 3, none⟩ (by show w.heap.size + 1 ≠ w.heap.size; omega) _).alloc _)
      go_upto_region 7 with fail
      rw [← hqe]
      refine gen_w (G := fun W => Blk W w.heap.size 28 [.int .i64 d.kind, .slice A1 d.items.length c1, .slice A2 d.parts.length c2, .slice (some ⟨q, 0, none⟩) 0 0, .slice A4 d.cls.length c4, .slice A5 d.levels.length c5, .int .i64 d.code, .int .i64 d.env] ∧ Blk W (w.heap.size + 1) 28 nvZ ∧ Blk W q 9 [] ∧ Below w.heap.size w W) (show Ok _ _ from ⟨HPN.out, HRN.out, HQB.out, HQ.out⟩) ?_
      rintro W2 ⟨hP2, hR2, hQ2, hB2⟩
      have HQ2 := Lib.hid hQ2
      have HB2 := Lib.hid hB2
      have hlt2 := hR2.lt
      clear HQ HQB HPN HRN y0 y1 y2 y3 y4 y5 y6 y7 r0 r1 r2 r3 r4 r5 r6 r7 z0 z1 z2 z3 z4 z5 z6 z7 f0 f1 f2 f3 f4 f5 f6 f7 hqe HP HR
      have y0 := hP2.cell 0 _ rfl
      have y1 := hP2.cell 1 _ rfl
      have y2 := hP2.cell 2 _ rfl
      have y3 := hP2.cell 3 _ rfl
      have y4 := hP2.cell 4 _ rfl
      have y5 := hP2.cell 5 _ rfl
      have y6 := hP2.cell 6 _ rfl
      have y7 := hP2.cell 7 _ rfl
      have r0 := hR2.cell 0 _ rfl
      have r1 := hR2.cell 1 _ rfl
      have r2 := hR2.cell 2 _ rfl
      have r3 := hR2.cell 3 _ rfl
      have r4 := hR2.cell 4 _ rfl
      have r5 := hR2.cell 5 _ rfl
      have r6 := hR2.cell 6 _ rfl
      have r7 := hR2.cell 7 _ rfl
      have z0 := hR2.frozen 0
      have z1 := hR2.frozen 1
      have z2 := hR2.frozen 2
      have z3 := hR2.frozen 3
      have z4 := hR2.frozen 4
      have z5 := hR2.frozen 5
      have z6 := hR2.frozen 6
      have z7 := hR2.frozen 7
      clear hP2 hR2 hQ2 hB2
      have HEND := Lib.hid (fun W' (hb : Below (w.heap.size + 1) W2 W') (hk : Keeps (fun x => x ≠ w.heap.size + 1) W2 W') => (show RetClean [.int .i64 d.kind, .slice A1 d.items.length c1, .slice A2 d.parts.length c2, .slice A3 d.names.length c3, .slice A4 d.cls.length c4, .slice A5 d.levels.length c5, .int .i64 d.code, .int .i64 d.env] d w (.returned (.agg #[.int .i64 d.kind, .slice A1 d.items.length c1, .slice A2 d.parts.length c2, .slice (some ⟨q, 0, none⟩) 0 0, .slice A4 d.cls.length c4, .slice A5 d.levels.length c5, .int .i64 d.code, .int .i64 d.env])) W' from ⟨[.int .i64 d.kind, .slice A1 d.items.length c1, .slice A2 d.parts.length c2, .slice (some ⟨q, 0, none⟩) 0 0, .slice A4 d.cls.length c4, .slice A5 d.levels.length c5, .int .i64 d.code, .int .i64 d.env], rfl, HB2.out.trans (hb.mono (by omega)), .inr ⟨HE.out, q, by omega, Nat.lt_of_lt_of_le HQ2.out.lt hk.1, rfl, HQ2.out.keeps hk (by show q ≠ w.heap.size + 1; omega)⟩⟩))
      go_wp2_with fail
      exact bodyPost_ret (v := .agg #[.int .i64 d.kind, .slice A1 d.items.length c1, .slice A2 d.parts.length c2, .slice (some ⟨q, 0, none⟩) 0 0, .slice A4 d.cls.length c4, .slice A5 d.levels.length c5, .int .i64 d.code, .int .i64 d.env]) (by simp [results, Try.results48, go_sem, r0, r1, r2, r3, r4, r5, r6, r7]; try rfl) rfl (HEND.out _ (below_sc (b := w.heap.size + 1) (o := 7) (below_sc (b := w.heap.size + 1) (o := 6) (below_sc (b := w.heap.size + 1) (o := 5) (below_sc (b := w.heap.size + 1) (o := 4) (below_sc (b := w.heap.size + 1) (o := 3) (below_sc (b := w.heap.size + 1) (o := 2) (below_sc (b := w.heap.size + 1) (o := 1) (below_sc (b := w.heap.size + 1) (o := 0) (Below.refl (w.heap.size + 1) W2) (by omega) (.int .i64 d.kind)) (by omega) (.slice A1 d.items.length c1)) (by omega) (.slice A2 d.parts.length c2)) (by omega) (.slice (some ⟨q, 0, none⟩) 0 0)) (by omega) (.slice A4 d.cls.length c4)) (by omega) (.slice A5 d.levels.length c5)) (by omega) (.int .i64 d.code)) (by omega) (.int .i64 d.env)) (Keeps.sc (b := w.heap.size + 1) (o := 7) (Keeps.sc (b := w.heap.size + 1) (o := 6) (Keeps.sc (b := w.heap.size + 1) (o := 5) (Keeps.sc (b := w.heap.size + 1) (o := 4) (Keeps.sc (b := w.heap.size + 1) (o := 3) (Keeps.sc (b := w.heap.size + 1) (o := 2) (Keeps.sc (b := w.heap.size + 1) (o := 1) (Keeps.sc (b := w.heap.size + 1) (o := 0) (Keeps.refl (fun x => x ≠ w.heap.size + 1) W2) (by simp) (.int .i64 d.kind)) (by simp) (.slice A1 d.items.length c1)) (by simp) (.slice A2 d.parts.length c2)) (by simp) (.slice (some ⟨q, 0, none⟩) 0 0)) (by simp) (.slice A4 d.cls.length c4)) (by simp) (.slice A5 d.levels.length c5)) (by simp) (.int .i64 d.code)) (by simp) (.int .i64 d.env)))
end Go.Proofs.Ytjdimlhdkmkmbaa
