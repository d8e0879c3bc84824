/-
  Contracts: what the laws of vectors draw: subscripts.
-/
import Derived.Test.YtjdimlhdkmkmbaaDrawL5
namespace Go.Proofs.Ytjdimlhdkmkmbaa
set_option maxRecDepth 100000
open Go.ChangeShapes Go.WideShapes Go.ChangeAt Go.RowKit Go.Deep
set_option linter.unusedVariables false

theorem VS0.done {g : Nat} {v : Value} {l : List Nat} {w W W' : World} {cs : List Value} {d : VecD} {B : Nat} (h : VS0 g v l w W) (hg : g < w.heap.size) (hy : Bytes w v l) (ha : Apart l.length g v) (hV : VecO (Rng (w.heap.size + 1) W.heap.size) W cs d) (hz : szVector d ≤ B) (hk : Keeps (fun b => b ≠ w.heap.size) W W') (hb : Below w.heap.size W W') : RetVecC g v l B w (.returned (.agg cs.toArray)) W' :=
  have hs := hb.size
  have ho := h.only.belowB hb
  ⟨cs, d, rfl, (hV.keeps (hk.mono fun x hx => by have := hx.1; omega)).mono fun x hx => ⟨by have := hx.1; omega, by have := hx.2; omega⟩, hz, Cur.next h.cur hb hg (hy.only ha ho), ho⟩
theorem own_lift {W : World} {e : TypeId} {size n cap : Nat} {q b : Nat} {xs : List Value} (h : W.ownsRow b e size (.slice (some ⟨q, 0, none⟩) n cap) n xs) {lo : Nat} (hq : lo ≤ q) : W.ownsRow lo e size (.slice (some ⟨q, 0, none⟩) n cap) n xs := by
  refine ⟨h.1, ?_⟩
  rcases h.2 with ⟨h, _⟩ | ⟨g, c, cur, hv, _, hg, rest⟩
  · cases h
  · simp only [Value.slice.injEq, Option.some.injEq, Addr.mk.injEq, and_true, true_and] at hv
    obtain ⟨rfl, rfl⟩ := hv
    exact .inr ⟨q, cap, cur, rfl, hq, hg, rest⟩
theorem VS0.belowR {g : Nat} {v : Value} {l : List Nat} {w W W' : World} (h : VS0 g v l w W) (hg : g < w.heap.size) (hy : Bytes w v l) (ha : Apart l.length g v) (hb : Below (w.heap.size + 1) W W') : VS0 g v l w W' :=
  have ho := h.only.belowB (hb.mono (by omega))
  ⟨Cur.next h.cur (hb.mono (B' := w.heap.size) (by omega)) hg (hy.only ha ho), (hb.block _ (by omega)).trans h.r, ho⟩
def four4t : List (List UInt8) := [[97], [98], [120], [97, 108]]
theorem four4t_len : ∀ s ∈ four4t, s.length ≤ 60 := by decide
theorem four4t_len' : ∀ s ∈ four4t, s.length ≤ 100 := by decide
def three3 : List Int := [-1, -2, 0]
theorem three3_i64 : ∀ x ∈ three3, I64 x := by
  intro x hx
  simp only [three3, List.mem_cons, List.not_mem_nil, or_false] at hx
  rcases hx with rfl | rfl | rfl <;> exact ⟨by decide, by decide⟩
theorem sz_txtV {l : List (List UInt8)} (hs : ∀ s ∈ l, s.length ≤ 60) : szVector (txtV l) ≤ 101 * l.length := by
  have := sz_atV (kd := 3) (its := l.map tItem) (fun x hx => by obtain ⟨n, h, rfl⟩ := List.mem_map.1 hx; exact tItem_ok (hs n h))
  rw [List.length_map] at this
  exact this
theorem sz_numV (l : List Int) : szVector (numV l) ≤ 101 * l.length := by
  have := sz_atV (kd := 2) (its := l.map numItem) (fun x hx => by obtain ⟨n, _, rfl⟩ := List.mem_map.1 hx; exact numItem_ok n)
  rw [List.length_map] at this
  exact this

set_option maxHeartbeats 16000000 in
theorem spec_l9Subscript (g : Nat) (v : Value) (l : List Nat) (n : Nat) (w : World) (hC : Cur w g v l) (ha : Apart l.length g v) (hn : n ≤ 4) :
    Calls Try.prog 84 #[.pointer (some ⟨g, 0, none⟩), .int .i64 n] w (RetVecC g v l 300000 w) := by
  have hgl := Cur.lt_ hC
  have HA := Lib.hid ha
  have HY := Lib.hid (show Bytes w v l from by obtain ⟨_, _, _, _, _, h⟩ := hC; exact h)
  have hb0 := (Below.refl w.heap.size w).alloc (Nat.le_refl _) (.cells nvZ.toArray 28)
  have HV := Lib.hid (show VS0 g v l w (w.alloc (.cells nvZ.toArray 28)) from ⟨Cur.below_ hC hb0, Blk.new w 28 nvZ, Only.of_below hb0⟩)
  clear hC ha hb0
  go_enter Try.func84, Try.ntmps84
  go_wp2_with fail
  refine Calls.mono (spec_l1Below g v l 8 _ (by exact HV.out.cur) HA.out (by omega) (by omega)) ?_
  rintro e w1 ⟨t, rfl, ht0, ht1, hc, ho⟩
  have HV1 := Lib.hid (HV.out.next hgl hc ho)
  clear hc ho HV
  have hlt1 := HV1.out.r.lt
  by_cases t0 : t = 0
  · subst t0
    go_wp2_with fail
    refine Calls.mono (spec_l4Any g v l _ HV1.out.cur HA.out) ?_
    rintro e w2 ⟨cs, d, rfl, hV, hz, hc, ho⟩
    obtain ⟨A1, c1, A2, c2, A3, c3, A4, c4, A5, c5, rfl⟩ := hV.shape
    have HV2 := Lib.hid (HV1.out.next hgl hc ho)
    have HVV := Lib.hid (hV.mono (S' := Rng (w.heap.size + 1) w2.heap.size) fun x hx => ⟨by have := hx.1; omega, hx.2⟩)
    have HZ := Lib.hid hz
    clear hc ho hV hz
    have r0 := HV2.out.r.cell 0 _ rfl
    have r1 := HV2.out.r.cell 1 _ rfl
    have r2 := HV2.out.r.cell 2 _ rfl
    have r3 := HV2.out.r.cell 3 _ rfl
    have r4 := HV2.out.r.cell 4 _ rfl
    have r5 := HV2.out.r.cell 5 _ rfl
    have r6 := HV2.out.r.cell 6 _ rfl
    have r7 := HV2.out.r.cell 7 _ rfl
    have z0 := HV2.out.r.frozen 0
    have z1 := HV2.out.r.frozen 1
    have z2 := HV2.out.r.frozen 2
    have z3 := HV2.out.r.frozen 3
    have z4 := HV2.out.r.frozen 4
    have z5 := HV2.out.r.frozen 5
    have z6 := HV2.out.r.frozen 6
    have z7 := HV2.out.r.frozen 7
    go_wp2_with fail
    exact bodyPost_ret (v := .agg #[.int .i64 d.kind, .slice A1 d.items.length c1, .slice A2 d.parts.length c2, .slice A3 d.names.length c3, .slice A4 d.cls.length c4, .slice A5 d.levels.length c5, .int .i64 d.code, .int .i64 d.env]) (by simp [results, Try.results84, go_sem, r0, r1, r2, r3, r4, r5, r6, r7]; try rfl) rfl (VS0.done HV2.out hgl HY.out HA.out HVV.out HZ.out (Keeps.sc (b := w.heap.size) (o := 7) (Keeps.sc (b := w.heap.size) (o := 6) (Keeps.sc (b := w.heap.size) (o := 5) (Keeps.sc (b := w.heap.size) (o := 4) (Keeps.sc (b := w.heap.size) (o := 3) (Keeps.sc (b := w.heap.size) (o := 2) (Keeps.sc (b := w.heap.size) (o := 1) (Keeps.sc (b := w.heap.size) (o := 0) (Keeps.refl (fun b => b ≠ w.heap.size) w2) (by simp) (.int .i64 d.kind)) (by simp) (.slice A1 d.items.length c1)) (by simp) (.slice A2 d.parts.length c2)) (by simp) (.slice A3 d.names.length c3)) (by simp) (.slice A4 d.cls.length c4)) (by simp) (.slice A5 d.levels.length c5)) (by simp) (.int .i64 d.code)) (by simp) (.int .i64 d.env)) (below_sc (b := w.heap.size) (o := 7) (below_sc (b := w.heap.size) (o := 6) (below_sc (b := w.heap.size) (o := 5) (below_sc (b := w.heap.size) (o := 4) (below_sc (b := w.heap.size) (o := 3) (below_sc (b := w.heap.size) (o := 2) (below_sc (b := w.heap.size) (o := 1) (below_sc (b := w.heap.size) (o := 0) (Below.refl w.heap.size w2) (Nat.le_refl _) (.int .i64 d.kind)) (Nat.le_refl _) (.slice A1 d.items.length c1)) (Nat.le_refl _) (.slice A2 d.parts.length c2)) (Nat.le_refl _) (.slice A3 d.names.length c3)) (Nat.le_refl _) (.slice A4 d.cls.length c4)) (Nat.le_refl _) (.slice A5 d.levels.length c5)) (Nat.le_refl _) (.int .i64 d.code)) (Nat.le_refl _) (.int .i64 d.env)))
  by_cases t1 : t = 1
  · subst t1
    go_wp2_with fail
    refine Calls.mono (spec_l1Below g v l ((n : Int) + 2) _ HV1.out.cur HA.out (by omega) (by omega)) ?_
    rintro e w2 ⟨y, rfl, hy0, hy1, hc, ho⟩
    obtain ⟨m, rfl⟩ := Int.eq_ofNat_of_zero_le hy0
    have HV2 := Lib.hid (HV1.out.next hgl hc ho)
    have hlt2 := HV2.out.r.lt
    clear hc ho HV1
    go_wp2_with fail
    refine Calls.mono (spec_l4Atom g v l 1 m _ HV2.out.cur HA.out ⟨by decide, by decide⟩ (by omega)) ?_
    rintro e w3 ⟨U, q, its, rfl, hV, hl, hi, hc, ho⟩
    have HV3 := Lib.hid (HV2.out.next hgl hc ho)
    have HVV := Lib.hid (hV.mono (S' := Rng (w.heap.size + 1) w3.heap.size) fun x hx => ⟨by have := hx.1; omega, hx.2⟩)
    have HZ := Lib.hid (show szVector (atV 1 its) ≤ 300000 by have := sz_atV (kd := 1) hi; omega)
    clear hc ho hV hi
    have r0 := HV3.out.r.cell 0 _ rfl
    have r1 := HV3.out.r.cell 1 _ rfl
    have r2 := HV3.out.r.cell 2 _ rfl
    have r3 := HV3.out.r.cell 3 _ rfl
    have r4 := HV3.out.r.cell 4 _ rfl
    have r5 := HV3.out.r.cell 5 _ rfl
    have r6 := HV3.out.r.cell 6 _ rfl
    have r7 := HV3.out.r.cell 7 _ rfl
    have z0 := HV3.out.r.frozen 0
    have z1 := HV3.out.r.frozen 1
    have z2 := HV3.out.r.frozen 2
    have z3 := HV3.out.r.frozen 3
    have z4 := HV3.out.r.frozen 4
    have z5 := HV3.out.r.frozen 5
    have z6 := HV3.out.r.frozen 6
    have z7 := HV3.out.r.frozen 7
    go_wp2_with fail
    exact bodyPost_ret (v := .agg #[.int .i64 1, .slice U m q, .slice none 0 0, .slice none 0 0, .slice none 0 0, .slice none 0 0, .int .i64 0, .int .i64 0]) (by simp [results, Try.results84, go_sem, r0, r1, r2, r3, r4, r5, r6, r7]; try rfl) rfl (VS0.done HV3.out hgl HY.out HA.out HVV.out HZ.out (Keeps.sc (b := w.heap.size) (o := 7) (Keeps.sc (b := w.heap.size) (o := 6) (Keeps.sc (b := w.heap.size) (o := 5) (Keeps.sc (b := w.heap.size) (o := 4) (Keeps.sc (b := w.heap.size) (o := 3) (Keeps.sc (b := w.heap.size) (o := 2) (Keeps.sc (b := w.heap.size) (o := 1) (Keeps.sc (b := w.heap.size) (o := 0) (Keeps.refl (fun b => b ≠ w.heap.size) w3) (by simp) (.int .i64 1)) (by simp) (.slice U m q)) (by simp) (.slice none 0 0)) (by simp) (.slice none 0 0)) (by simp) (.slice none 0 0)) (by simp) (.slice none 0 0)) (by simp) (.int .i64 0)) (by simp) (.int .i64 0)) (below_sc (b := w.heap.size) (o := 7) (below_sc (b := w.heap.size) (o := 6) (below_sc (b := w.heap.size) (o := 5) (below_sc (b := w.heap.size) (o := 4) (below_sc (b := w.heap.size) (o := 3) (below_sc (b := w.heap.size) (o := 2) (below_sc (b := w.heap.size) (o := 1) (below_sc (b := w.heap.size) (o := 0) (Below.refl w.heap.size w3) (Nat.le_refl _) (.int .i64 1)) (Nat.le_refl _) (.slice U m q)) (Nat.le_refl _) (.slice none 0 0)) (Nat.le_refl _) (.slice none 0 0)) (Nat.le_refl _) (.slice none 0 0)) (Nat.le_refl _) (.slice none 0 0)) (Nat.le_refl _) (.int .i64 0)) (Nat.le_refl _) (.int .i64 0)))
  by_cases t2 : t = 2
  · subst t2
    have hbl := (Below.refl w1.heap.size w1).alloc (Nat.le_refl _) (.cells (four4t.map fun s => Value.string (str s)).toArray 9)
    have HVA := Lib.hid (VS0.step HV1.out hbl)
    have HT := Lib.hid (Txts.lit (W := w1) four4t 4 rfl (by decide) four4t_len')
    have HAP := Lib.hid (apart_lit (W := w1) (g := g) (n := 4) (m := 4) (c := 4) (Cur.lt_ HV1.out.cur))
    clear hbl
    go_wp2_with fail
    refine Calls.mono (spec_l1Below g v l 4 _ (by exact HVA.out.cur) HA.out (by omega) (by omega)) ?_
    rintro e w2 ⟨y, rfl, hy0, hy1, hc, ho⟩
    obtain ⟨m, rfl⟩ := Int.eq_ofNat_of_zero_le hy0
    have hm : 1 + m ≤ 4 := by omega
    have HV2 := Lib.hid (HVA.out.next hgl hc ho)
    have HT2 := Lib.hid (SlR.take (HT.out.only HAP.out ho) (1 + m) hm)
    have hml : (four4t.take (1 + m)).length = 1 + m := by rw [List.length_take]; exact Nat.min_eq_left hm
    have HML := Lib.hid hml
    have hlt2 := HV2.out.r.lt
    clear hc ho HVA HT HAP HV1 hml
    go_wp2_with fail
    refine Calls.mono (spec_TextVector (four4t.take (1 + m)) (by rw [HML.out]; omega) (fun s hs => four4t_len s (List.mem_of_mem_take hs)) _ _ (by exact HT2.out)) ?_
    rintro e w3 ⟨cs, rfl, hV, hb⟩
    obtain ⟨A1, c1, A2, c2, A3, c3, A4, c4, A5, c5, rfl⟩ := hV.shape
    have HV3 := Lib.hid (VS0.step HV2.out hb)
    have HVV := Lib.hid (hV.mono (S' := Rng (w.heap.size + 1) w3.heap.size) fun x hx => ⟨by have := hx.1; omega, hx.2⟩)
    have HZ := Lib.hid (show szVector (txtV (four4t.take (1 + m))) ≤ 300000 by have := sz_txtV (l := four4t.take (1 + m)) (fun s hs => four4t_len s (List.mem_of_mem_take hs)); have := HML.out; omega)
    generalize hd : txtV (four4t.take (1 + m)) = d at HVV HZ hV ⊢
    clear hV hb hd
    have r0 := HV3.out.r.cell 0 _ rfl
    have r1 := HV3.out.r.cell 1 _ rfl
    have r2 := HV3.out.r.cell 2 _ rfl
    have r3 := HV3.out.r.cell 3 _ rfl
    have r4 := HV3.out.r.cell 4 _ rfl
    have r5 := HV3.out.r.cell 5 _ rfl
    have r6 := HV3.out.r.cell 6 _ rfl
    have r7 := HV3.out.r.cell 7 _ rfl
    have z0 := HV3.out.r.frozen 0
    have z1 := HV3.out.r.frozen 1
    have z2 := HV3.out.r.frozen 2
    have z3 := HV3.out.r.frozen 3
    have z4 := HV3.out.r.frozen 4
    have z5 := HV3.out.r.frozen 5
    have z6 := HV3.out.r.frozen 6
    have z7 := HV3.out.r.frozen 7
    go_wp2_with fail
    exact bodyPost_ret (v := .agg #[.int .i64 d.kind, .slice A1 d.items.length c1, .slice A2 d.parts.length c2, .slice A3 d.names.length c3, .slice A4 d.cls.length c4, .slice A5 d.levels.length c5, .int .i64 d.code, .int .i64 d.env]) (by simp [results, Try.results84, go_sem, r0, r1, r2, r3, r4, r5, r6, r7]; try rfl) rfl (VS0.done HV3.out hgl HY.out HA.out HVV.out HZ.out (Keeps.sc (b := w.heap.size) (o := 7) (Keeps.sc (b := w.heap.size) (o := 6) (Keeps.sc (b := w.heap.size) (o := 5) (Keeps.sc (b := w.heap.size) (o := 4) (Keeps.sc (b := w.heap.size) (o := 3) (Keeps.sc (b := w.heap.size) (o := 2) (Keeps.sc (b := w.heap.size) (o := 1) (Keeps.sc (b := w.heap.size) (o := 0) (Keeps.refl (fun b => b ≠ w.heap.size) w3) (by simp) (.int .i64 d.kind)) (by simp) (.slice A1 d.items.length c1)) (by simp) (.slice A2 d.parts.length c2)) (by simp) (.slice A3 d.names.length c3)) (by simp) (.slice A4 d.cls.length c4)) (by simp) (.slice A5 d.levels.length c5)) (by simp) (.int .i64 d.code)) (by simp) (.int .i64 d.env)) (below_sc (b := w.heap.size) (o := 7) (below_sc (b := w.heap.size) (o := 6) (below_sc (b := w.heap.size) (o := 5) (below_sc (b := w.heap.size) (o := 4) (below_sc (b := w.heap.size) (o := 3) (below_sc (b := w.heap.size) (o := 2) (below_sc (b := w.heap.size) (o := 1) (below_sc (b := w.heap.size) (o := 0) (Below.refl w.heap.size w3) (Nat.le_refl _) (.int .i64 d.kind)) (Nat.le_refl _) (.slice A1 d.items.length c1)) (Nat.le_refl _) (.slice A2 d.parts.length c2)) (Nat.le_refl _) (.slice A3 d.names.length c3)) (Nat.le_refl _) (.slice A4 d.cls.length c4)) (Nat.le_refl _) (.slice A5 d.levels.length c5)) (Nat.le_refl _) (.int .i64 d.code)) (Nat.le_refl _) (.int .i64 d.env)))
  by_cases t3 : t = 3
  · subst t3
    have hbl := (Below.refl w1.heap.size w1).alloc (Nat.le_refl _) (.cells (three3.map fun x => Value.int .i64 x).toArray 3)
    have HVA := Lib.hid (VS0.step HV1.out hbl)
    have HT := Lib.hid (ints_lit (W := w1) three3 3 rfl (by decide) three3_i64)
    have HAP := Lib.hid (apart_lit (W := w1) (g := g) (n := 3) (m := 3) (c := 3) (Cur.lt_ HV1.out.cur))
    clear hbl
    go_wp2_with fail
    refine Calls.mono (spec_l1Below g v l 3 _ (by exact HVA.out.cur) HA.out (by omega) (by omega)) ?_
    rintro e w2 ⟨y, rfl, hy0, hy1, hc, ho⟩
    obtain ⟨m, rfl⟩ := Int.eq_ofNat_of_zero_le hy0
    have hm : 1 + m ≤ 3 := by omega
    have HV2 := Lib.hid (HVA.out.next hgl hc ho)
    have HT2 := Lib.hid (SlR.take (HT.out.only HAP.out ho) (1 + m) hm)
    have hml : (three3.take (1 + m)).length = 1 + m := by rw [List.length_take]; exact Nat.min_eq_left hm
    have HML := Lib.hid hml
    have hlt2 := HV2.out.r.lt
    clear hc ho HVA HT HAP HV1 hml
    go_wp2_with fail
    refine Calls.mono (spec_NumberVector (three3.take (1 + m)) (by rw [HML.out]; omega) _ _ (by exact HT2.out)) ?_
    rintro e w3 ⟨cs, rfl, hV, hb⟩
    obtain ⟨A1, c1, A2, c2, A3, c3, A4, c4, A5, c5, rfl⟩ := hV.shape
    have HV3 := Lib.hid (VS0.step HV2.out hb)
    have HVV := Lib.hid (hV.mono (S' := Rng (w.heap.size + 1) w3.heap.size) fun x hx => ⟨by have := hx.1; omega, hx.2⟩)
    have HZ := Lib.hid (show szVector (numV (three3.take (1 + m))) ≤ 300000 by have := sz_numV (three3.take (1 + m)); have := HML.out; omega)
    generalize hd : numV (three3.take (1 + m)) = d at HVV HZ hV ⊢
    clear hV hb hd
    have r0 := HV3.out.r.cell 0 _ rfl
    have r1 := HV3.out.r.cell 1 _ rfl
    have r2 := HV3.out.r.cell 2 _ rfl
    have r3 := HV3.out.r.cell 3 _ rfl
    have r4 := HV3.out.r.cell 4 _ rfl
    have r5 := HV3.out.r.cell 5 _ rfl
    have r6 := HV3.out.r.cell 6 _ rfl
    have r7 := HV3.out.r.cell 7 _ rfl
    have z0 := HV3.out.r.frozen 0
    have z1 := HV3.out.r.frozen 1
    have z2 := HV3.out.r.frozen 2
    have z3 := HV3.out.r.frozen 3
    have z4 := HV3.out.r.frozen 4
    have z5 := HV3.out.r.frozen 5
    have z6 := HV3.out.r.frozen 6
    have z7 := HV3.out.r.frozen 7
    go_wp2_with fail
    exact bodyPost_ret (v := .agg #[.int .i64 d.kind, .slice A1 d.items.length c1, .slice A2 d.parts.length c2, .slice A3 d.names.length c3, .slice A4 d.cls.length c4, .slice A5 d.levels.length c5, .int .i64 d.code, .int .i64 d.env]) (by simp [results, Try.results84, go_sem, r0, r1, r2, r3, r4, r5, r6, r7]; try rfl) rfl (VS0.done HV3.out hgl HY.out HA.out HVV.out HZ.out (Keeps.sc (b := w.heap.size) (o := 7) (Keeps.sc (b := w.heap.size) (o := 6) (Keeps.sc (b := w.heap.size) (o := 5) (Keeps.sc (b := w.heap.size) (o := 4) (Keeps.sc (b := w.heap.size) (o := 3) (Keeps.sc (b := w.heap.size) (o := 2) (Keeps.sc (b := w.heap.size) (o := 1) (Keeps.sc (b := w.heap.size) (o := 0) (Keeps.refl (fun b => b ≠ w.heap.size) w3) (by simp) (.int .i64 d.kind)) (by simp) (.slice A1 d.items.length c1)) (by simp) (.slice A2 d.parts.length c2)) (by simp) (.slice A3 d.names.length c3)) (by simp) (.slice A4 d.cls.length c4)) (by simp) (.slice A5 d.levels.length c5)) (by simp) (.int .i64 d.code)) (by simp) (.int .i64 d.env)) (below_sc (b := w.heap.size) (o := 7) (below_sc (b := w.heap.size) (o := 6) (below_sc (b := w.heap.size) (o := 5) (below_sc (b := w.heap.size) (o := 4) (below_sc (b := w.heap.size) (o := 3) (below_sc (b := w.heap.size) (o := 2) (below_sc (b := w.heap.size) (o := 1) (below_sc (b := w.heap.size) (o := 0) (Below.refl w.heap.size w3) (Nat.le_refl _) (.int .i64 d.kind)) (Nat.le_refl _) (.slice A1 d.items.length c1)) (Nat.le_refl _) (.slice A2 d.parts.length c2)) (Nat.le_refl _) (.slice A3 d.names.length c3)) (Nat.le_refl _) (.slice A4 d.cls.length c4)) (Nat.le_refl _) (.slice A5 d.levels.length c5)) (Nat.le_refl _) (.int .i64 d.code)) (Nat.le_refl _) (.int .i64 d.env)))
  by_cases t4 : t = 4
  · subst t4
    go_wp2_with fail
    refine Calls.mono (spec_l1Below g v l 4 _ HV1.out.cur HA.out (by omega) (by omega)) ?_
    rintro e w2 ⟨y, rfl, hy0, hy1, hc, ho⟩
    obtain ⟨m, rfl⟩ := Int.eq_ofNat_of_zero_le hy0
    have HV2 := Lib.hid (HV1.out.next hgl hc ho)
    have hlt2 := HV2.out.r.lt
    clear hc ho HV1
    go_wp2_with fail
    refine Calls.mono (spec_l4Atom g v l 2 m _ HV2.out.cur HA.out ⟨by decide, by decide⟩ (by omega)) ?_
    rintro e w3 ⟨U, q, its, rfl, hV, hl, hi, hc, ho⟩
    have HV3 := Lib.hid (HV2.out.next hgl hc ho)
    have HVV := Lib.hid (hV.mono (S' := Rng (w.heap.size + 1) w3.heap.size) fun x hx => ⟨by have := hx.1; omega, hx.2⟩)
    have HZ := Lib.hid (show szVector (atV 2 its) ≤ 300000 by have := sz_atV (kd := 2) hi; omega)
    clear hc ho hV hi
    have r0 := HV3.out.r.cell 0 _ rfl
    have r1 := HV3.out.r.cell 1 _ rfl
    have r2 := HV3.out.r.cell 2 _ rfl
    have r3 := HV3.out.r.cell 3 _ rfl
    have r4 := HV3.out.r.cell 4 _ rfl
    have r5 := HV3.out.r.cell 5 _ rfl
    have r6 := HV3.out.r.cell 6 _ rfl
    have r7 := HV3.out.r.cell 7 _ rfl
    have z0 := HV3.out.r.frozen 0
    have z1 := HV3.out.r.frozen 1
    have z2 := HV3.out.r.frozen 2
    have z3 := HV3.out.r.frozen 3
    have z4 := HV3.out.r.frozen 4
    have z5 := HV3.out.r.frozen 5
    have z6 := HV3.out.r.frozen 6
    have z7 := HV3.out.r.frozen 7
    go_wp2_with fail
    exact bodyPost_ret (v := .agg #[.int .i64 2, .slice U m q, .slice none 0 0, .slice none 0 0, .slice none 0 0, .slice none 0 0, .int .i64 0, .int .i64 0]) (by simp [results, Try.results84, go_sem, r0, r1, r2, r3, r4, r5, r6, r7]; try rfl) rfl (VS0.done HV3.out hgl HY.out HA.out HVV.out HZ.out (Keeps.sc (b := w.heap.size) (o := 7) (Keeps.sc (b := w.heap.size) (o := 6) (Keeps.sc (b := w.heap.size) (o := 5) (Keeps.sc (b := w.heap.size) (o := 4) (Keeps.sc (b := w.heap.size) (o := 3) (Keeps.sc (b := w.heap.size) (o := 2) (Keeps.sc (b := w.heap.size) (o := 1) (Keeps.sc (b := w.heap.size) (o := 0) (Keeps.refl (fun b => b ≠ w.heap.size) w3) (by simp) (.int .i64 2)) (by simp) (.slice U m q)) (by simp) (.slice none 0 0)) (by simp) (.slice none 0 0)) (by simp) (.slice none 0 0)) (by simp) (.slice none 0 0)) (by simp) (.int .i64 0)) (by simp) (.int .i64 0)) (below_sc (b := w.heap.size) (o := 7) (below_sc (b := w.heap.size) (o := 6) (below_sc (b := w.heap.size) (o := 5) (below_sc (b := w.heap.size) (o := 4) (below_sc (b := w.heap.size) (o := 3) (below_sc (b := w.heap.size) (o := 2) (below_sc (b := w.heap.size) (o := 1) (below_sc (b := w.heap.size) (o := 0) (Below.refl w.heap.size w3) (Nat.le_refl _) (.int .i64 2)) (Nat.le_refl _) (.slice U m q)) (Nat.le_refl _) (.slice none 0 0)) (Nat.le_refl _) (.slice none 0 0)) (Nat.le_refl _) (.slice none 0 0)) (Nat.le_refl _) (.slice none 0 0)) (Nat.le_refl _) (.int .i64 0)) (Nat.le_refl _) (.int .i64 0)))
  · have HVA := Lib.hid (VS0.step HV1.out ((Below.refl w1.heap.size w1).alloc (Nat.le_refl _) (.cells #[] 3)))
    have HOE := Lib.hid (owns_new w1 3 1 0 #[] 0 [] (by simp) (Nat.le_refl _) (by unfold maxLen; omega) (by simp) (by simp))
    go_upto_region 13 with fail
    refine gen_w (G := fun W => VS0 g v l w W ∧ W.ownsRow (w.heap.size + 1) 3 1 (.slice (some ⟨w1.heap.size, 0, none⟩) 0 0) 0 []) (show Ok _ _ from ⟨HVA.out, own_lift HOE.out (by omega)⟩) ?_
    rintro w2 ⟨h1, h2⟩
    have HV2 := Lib.hid h1
    have HO2 := Lib.hid h2
    clear h1 h2 HVA HOE
    go_wp2_with fail
    refine Calls.mono (spec_l1Below g v l 3 _ HV2.out.cur HA.out (by omega) (by omega)) ?_
    rintro e w3 ⟨y, rfl, hy0, hy1, hc, ho⟩
    obtain ⟨m, rfl⟩ := Int.eq_ofNat_of_zero_le hy0
    have HV3 := Lib.hid (HV2.out.next hgl hc ho)
    have HO3 := Lib.hid (own_only HO2.out ho (by omega))
    clear hc ho HV2 HO2
    go_wp2_with fail
    go_loopw [5, 6] (fun o i wr => ∃ (j k : Nat) (U : Option Addr) (q : Nat) (xs : List Int), j ≤ 3 ∧ i = .int .i64 j ∧ j + k ≤ 3 ∧ o = .slice U k q ∧ Hid (xs.length = k ∧ ∀ x ∈ xs, I64 x) ∧ Hid (VS0 g v l w wr) ∧ Hid (wr.ownsRow (w.heap.size + 1) 3 1 (.slice U k q) k (xs.map fun x => Value.int .i64 x))) (fun _ i _ => (intOf i).toNat)
    case atStart => exact ⟨1 + m, 0, _, _, [], by omega, by go_num, by omega, rfl, ⟨rfl, fun x h => (by cases h)⟩, HV3.out, HO3.out⟩
    case round =>
      obtain ⟨j, k, U, q, xs, hj, rfl, hjk, rfl, HX, HV, HO⟩ := hrel
      by_cases hlt : 0 < j
      · go_wp2_with fail
        refine Calls.mono (spec_l1Below g v l ((n : Int) + 1) _ HV.out.cur HA.out (by omega) (by omega)) ?_
        rintro e w4 ⟨y, rfl, hy0, hy1, hc, ho⟩
        have HV4 := Lib.hid (HV.out.next hgl hc ho)
        have HO4 := Lib.hid (own_only HO.out ho (by omega))
        have hlt4 := HV4.out.r.lt
        have hwl : w.heap.size + 1 ≤ w4.heap.size := by omega
        have HIY := Lib.hid (show I64 (1 + y) by unfold I64; omega)
        clear hc ho HV HO
        go_wp2_with (at_builtin; go_must (refine wpList_push rfl _ _ 39 rfl (w.heap.size + 1) 3 (.int .i64 0) 1 8 Try.underlying39 info_int rfl (by decide) _ _ _ _ _ rfl rfl (by exact HO4.out) rfl (by simp [Value.oneCell']) (by omega) (by omega) hwl ?_); intro v1 w6 ho1 hg1 hk1 hb1; obtain ⟨A6, c6, rfl⟩ := own_shapeN ho1)
        go_roundw
        case rel =>
          have hb2 := VS0.belowR HV4.out hgl HY.out HA.out hb1
          refine ⟨j - 1, k + 1, A6, c6, xs ++ [1 + y], by omega, by go_num, by omega, rfl, ⟨by rw [List.length_append, HX.out.1]; rfl, fun x hx => ?_⟩, hb2, ?_⟩
          · rcases List.mem_append.1 hx with hx | hx
            · exact HX.out.2 x hx
            · rw [List.mem_singleton.1 hx]; exact HIY.out
          · show World.ownsRow _ _ _ _ _ _ _
            rw [List.map_append]
            exact ho1
        case measure => simp [intOf]; omega
      · obtain rfl : j = 0 := by omega
        have hlt4 := HV.out.r.lt
        have HXI := Lib.hid (show Ints wr (.slice U k q) xs from by obtain ⟨h1, h2⟩ := HX.out; subst h1; exact Ints.of_own HO.out h2)
        go_wp2_with fail
        refine Calls.mono (spec_NumberVector xs (by rw [HX.out.1]; omega) _ _ (by exact HXI.out)) ?_
        rintro e w3 ⟨cs, rfl, hV, hb⟩
        obtain ⟨A1, c1, A2, c2, A3, c3, A4, c4, A5, c5, rfl⟩ := hV.shape
        have HV3 := Lib.hid (VS0.step HV.out hb)
        have HVV := Lib.hid (hV.mono (S' := Rng (w.heap.size + 1) w3.heap.size) fun x hx => ⟨by have := hx.1; omega, hx.2⟩)
        have HZ := Lib.hid (show szVector (numV xs) ≤ 300000 by have := sz_numV xs; have := HX.out.1; omega)
        generalize hd : numV xs = d at HVV HZ hV ⊢
        clear hV hb hd
        have r0 := HV3.out.r.cell 0 _ rfl
        have r1 := HV3.out.r.cell 1 _ rfl
        have r2 := HV3.out.r.cell 2 _ rfl
        have r3 := HV3.out.r.cell 3 _ rfl
        have r4 := HV3.out.r.cell 4 _ rfl
        have r5 := HV3.out.r.cell 5 _ rfl
        have r6 := HV3.out.r.cell 6 _ rfl
        have r7 := HV3.out.r.cell 7 _ rfl
        have z0 := HV3.out.r.frozen 0
        have z1 := HV3.out.r.frozen 1
        have z2 := HV3.out.r.frozen 2
        have z3 := HV3.out.r.frozen 3
        have z4 := HV3.out.r.frozen 4
        have z5 := HV3.out.r.frozen 5
        have z6 := HV3.out.r.frozen 6
        have z7 := HV3.out.r.frozen 7
        go_wp2_with fail
        exact bodyPost_ret (v := .agg #[.int .i64 d.kind, .slice A1 d.items.length c1, .slice A2 d.parts.length c2, .slice A3 d.names.length c3, .slice A4 d.cls.length c4, .slice A5 d.levels.length c5, .int .i64 d.code, .int .i64 d.env]) (by simp [results, Try.results84, go_sem, r0, r1, r2, r3, r4, r5, r6, r7]; try rfl) rfl (VS0.done HV3.out hgl HY.out HA.out HVV.out HZ.out (Keeps.sc (b := w.heap.size) (o := 7) (Keeps.sc (b := w.heap.size) (o := 6) (Keeps.sc (b := w.heap.size) (o := 5) (Keeps.sc (b := w.heap.size) (o := 4) (Keeps.sc (b := w.heap.size) (o := 3) (Keeps.sc (b := w.heap.size) (o := 2) (Keeps.sc (b := w.heap.size) (o := 1) (Keeps.sc (b := w.heap.size) (o := 0) (Keeps.refl (fun b => b ≠ w.heap.size) w3) (by simp) (.int .i64 d.kind)) (by simp) (.slice A1 d.items.length c1)) (by simp) (.slice A2 d.parts.length c2)) (by simp) (.slice A3 d.names.length c3)) (by simp) (.slice A4 d.cls.length c4)) (by simp) (.slice A5 d.levels.length c5)) (by simp) (.int .i64 d.code)) (by simp) (.int .i64 d.env)) (below_sc (b := w.heap.size) (o := 7) (below_sc (b := w.heap.size) (o := 6) (below_sc (b := w.heap.size) (o := 5) (below_sc (b := w.heap.size) (o := 4) (below_sc (b := w.heap.size) (o := 3) (below_sc (b := w.heap.size) (o := 2) (below_sc (b := w.heap.size) (o := 1) (below_sc (b := w.heap.size) (o := 0) (Below.refl w.heap.size w3) (Nat.le_refl _) (.int .i64 d.kind)) (Nat.le_refl _) (.slice A1 d.items.length c1)) (Nat.le_refl _) (.slice A2 d.parts.length c2)) (Nat.le_refl _) (.slice A3 d.names.length c3)) (Nat.le_refl _) (.slice A4 d.cls.length c4)) (Nat.le_refl _) (.slice A5 d.levels.length c5)) (Nat.le_refl _) (.int .i64 d.code)) (Nat.le_refl _) (.int .i64 d.env)))
end Go.Proofs.Ytjdimlhdkmkmbaa
