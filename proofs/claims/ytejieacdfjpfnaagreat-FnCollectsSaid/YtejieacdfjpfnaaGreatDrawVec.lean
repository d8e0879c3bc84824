/-
  Contracts: what the laws of stores draw: a value.
-/
import Derived.Test.YtejieacdfjpfnaaGreatNumVec
import Derived.Test.YtejieacdfjpfnaaGreatKVecMk
import Derived.Test.YtejieacdfjpfnaaGreatFreeG
namespace Go.Proofs.YtejieacdfjpfnaaGreat
set_option maxRecDepth 100000
open Go.ChangeShapes Go.WideShapes Go.ChangeAt Go.RowKit Go.Deep
set_option linter.unusedVariables false

def funV (c e : Int) : VecD := .mk 5 [] [] [] [] [] c e
def funC (c e : Int) : List Value := [.int .i64 5, .slice none 0 0, .slice none 0 0, .slice none 0 0, .slice none 0 0, .slice none 0 0, .int .i64 c, .int .i64 e]
theorem i64five : I64 5 := ⟨by decide, by decide⟩
theorem funV_own (S : Nat → Prop) (W : World) {c e : Int} (hc : I64 c) (he : I64 e) : VecO S W (funC c e) (funV c e) :=
  ⟨1, none, 0, none, 0, none, 0, none, 0, none, 0, fun _ => 0, rfl, i64five, ItemsO.nil_ _ _, SlO.nil_ _ _ _ _ _, TxtO.nil_ _ _, TxtO.nil_ _ _, TxtO.nil_ _ _, hc, he⟩
def RetVecC (g : Nat) (v : Value) (l : List Nat) (B : Nat) (w : World) (e : Ending) (w' : World) : Prop :=
  ∃ (cs : List Value) (d : VecD), e = .returned (.agg cs.toArray) ∧ VecO (Rng w.heap.size w'.heap.size) w' cs d ∧ szVector d ≤ B ∧ Cur w' g v l ∧ Only g w w'

/-- a value's draw under way -/
structure VS (g : Nat) (v : Value) (l : List Nat) (w : World) (b : Nat) (cs : List Value) (W : World) : Prop where
  cur : Cur W g v l
  r : Blk W w.heap.size 45 nvZ
  o : Blk W b 45 cs
  b : w.heap.size < b
  only : Only g w W
section
variable {g : Nat} {v : Value} {l : List Nat} {w : World} {b : Nat} {cs : List Value} {W W' : World}
theorem VS.next (h : VS g v l w b cs W) (hg : g < w.heap.size) (hc : Cur W' g v l) (ho : Only g W W') : VS g v l w b cs W' :=
  ⟨hc, (ho.block _ h.r.lt (fun e => by injection e with e; omega)).trans h.r, (ho.block _ h.o.lt (fun e => by injection e with e; have := h.b; omega)).trans h.o, h.b, h.only.trans ho⟩
theorem VS.step (h : VS g v l w b cs W) (hb : Below W.heap.size W W') : VS g v l w b cs W' :=
  ⟨Cur.below_ h.cur hb, h.r.below hb, h.o.below hb, h.b, h.only.trans (Only.of_below hb)⟩
theorem VS.far (h : VS g v l w b cs W) (hg : g < w.heap.size) (hy : Bytes w v l) (ha : Apart l.length g v) (hb : Below w.heap.size W W') : Cur W' g v l ∧ Only g w W' :=
  have ho := h.only.belowB hb
  ⟨Cur.next h.cur hb hg (hy.only ha ho), ho⟩
end
structure VS0 (g : Nat) (v : Value) (l : List Nat) (w : World) (W : World) : Prop where
  cur : Cur W g v l
  r : Blk W w.heap.size 45 nvZ
  only : Only g w W
theorem VS0.next {g : Nat} {v : Value} {l : List Nat} {w W W' : World} (h : VS0 g v l w W) (hg : g < w.heap.size) (hc : Cur W' g v l) (ho : Only g W W') : VS0 g v l w W' :=
  ⟨hc, (ho.block _ h.r.lt (fun e => by injection e with e; omega)).trans h.r, h.only.trans ho⟩

theorem sz_funV (c e : Int) : szVector (funV c e) = 0 := by rw [szVector_eq]; rfl
theorem VS.make {g : Nat} {v : Value} {l : List Nat} {w W : World} (h : VS0 g v l w W) (cs : List Value) : VS g v l w W.heap.size cs (W.alloc (.cells cs.toArray 45)) :=
  have hb : Below W.heap.size W (W.alloc (.cells cs.toArray 45)) := (Below.refl _ _).alloc (Nat.le_refl _) _
  ⟨Cur.below_ h.cur hb, h.r.below hb, Blk.new W _ cs, h.r.lt, h.only.trans (Only.of_below hb)⟩
theorem VS.done {g : Nat} {v : Value} {l : List Nat} {w : World} {b : Nat} {bs : List Value} {W W' : World} {cs : List Value} {d : VecD} {B : Nat} (h : VS g v l w b bs W) (hg : g < w.heap.size) (hy : Bytes w v l) (ha : Apart l.length g v) (hV : VecO (Rng (w.heap.size + 1) W.heap.size) W cs d) (hz : szVector d ≤ B) (hk : Keeps (fun b => b ≠ w.heap.size) W W') (hb : Below w.heap.size W W') : RetVecC g v l B w (.returned (.agg cs.toArray)) W' :=
  have hs := hb.size
  ⟨cs, d, rfl, (hV.keeps (hk.mono fun x hx => by have := hx.1; omega)).mono fun x hx => ⟨by have := hx.1; omega, by have := hx.2; omega⟩, hz, (h.far hg hy ha hb).1, (h.far hg hy ha hb).2⟩

theorem i64four : I64 4 := ⟨by decide, by decide⟩
/-- a list of a function and a number -/
def lvR (x y : Int) : Nat → (Nat → Nat → Prop) → (Nat → Value) → World → Prop
  | 0, _, vs, _ => vs 0 = .agg (funC x y).toArray
  | 1, _, vs, W => ∃ u, vs 1 = u ∧ Ints W u [1]
  | 2, T, vs, W => ∃ cs, vs 2 = .agg cs.toArray ∧ VecO (T 2) W cs (numV [1])
  | 3, T, vs, W => ∃ b cs, vs 3 = .slice (some ⟨b, 0, none⟩) 2 2 ∧ Blk W b 45 (funC x y ++ cs) ∧ VecO (T 2) W cs (numV [1]) ∧ T 3 b
  | 4, T, vs, W => ∃ b cs, vs 4 = .agg #[.int .i64 4, .slice none 0 0, .slice (some ⟨b, 0, none⟩) 2 2, .slice none 0 0, .slice none 0 0, .slice none 0 0, .int .i64 0, .int .i64 0] ∧ Blk W b 45 (funC x y ++ cs) ∧ VecO (T 2) W cs (numV [1]) ∧ T 3 b
  | _, _, _, _ => True
theorem lvK (x y : Int) (i : Nat) (T T' : Nat → Nat → Prop) (vs vs' : Nat → Value) (W W' : World) (hv : ∀ j ∈ [i], vs' j = vs j) (hT : ∀ l b, T l b → T' l b) (hb : Below W.heap.size W W') (h0 : lvR x y i T vs W) : lvR x y i T' vs' W' :=
  have keep : ∀ {cs d}, VecO (T 2) W cs d → VecO (T' 2) W' cs d := fun h => (h.keeps (Keeps.of_below _ hb)).mono fun z hz => hT 2 z hz
  match i, hv, h0 with
  | 0, hv, h => (hv 0 (List.mem_cons_self)).trans h
  | 1, hv, ⟨u, e, h⟩ => ⟨u, (hv 1 (List.mem_cons_self)).trans e, SlR.below h hb (fun _ _ h => h)⟩
  | 2, hv, ⟨cs, e, h⟩ => ⟨cs, (hv 2 List.mem_cons_self).trans e, keep h⟩
  | 3, hv, ⟨b, cs, e, h1, h2, h3⟩ => ⟨b, cs, (hv 3 List.mem_cons_self).trans e, h1.below hb, keep h2, hT 3 b h3⟩
  | 4, hv, ⟨b, cs, e, h1, h2, h3⟩ => ⟨b, cs, (hv 4 List.mem_cons_self).trans e, h1.below hb, keep h2, hT 3 b h3⟩
  | _ + 5, _, _ => trivial
theorem sz_listV {x y : Int} : szVector (.mk 4 [] [funV x y, numV [1]] [] [] [] 0 0) ≤ 1000 := by
  have h := sz_atV (kd := 2) (its := [numItem 1]) (fun x hx => by rw [List.mem_singleton.1 hx]; exact numItem_ok 1)
  have h2 : szVector (numV [1]) = szVector (atV 2 [numItem 1]) := rfl
  rw [szVector_eq]
  simp only [VecD.items, VecD.parts, VecD.names, VecD.cls, VecD.levels, szS, szL, List.length_nil, List.map_nil, List.sum_nil, List.map_cons, List.sum_cons, List.length_cons, sz_funV]
  rw [h2]
  simp only [List.length_cons, List.length_nil] at h
  omega

set_option maxHeartbeats 4000000 in
theorem spec_l26Vector (g : Nat) (v : Value) (l : List Nat) (m : Nat) (w : World) (hC : Cur w g v l) (ha : Apart l.length g v) (h1 : 1 ≤ m) (h2 : m ≤ 256) :
    Calls Tryz.prog 162 #[.pointer (some ⟨g, 0, none⟩), .int .i64 m] w (RetVecC g v l 1000 w) := by
  have hgl := Cur.lt_ hC
  have HA := Lib.hid ha
  have HY := Lib.hid (show Bytes w v l from by obtain ⟨_, _, _, _, _, h⟩ := hC; exact h)
  have hb0 := (Below.refl w.heap.size w).alloc (Nat.le_refl _) (.cells nvZ.toArray 45)
  have HV := Lib.hid (show VS0 g v l w (w.alloc (.cells nvZ.toArray 45)) from ⟨Cur.below_ hC hb0, Blk.new w 45 nvZ, Only.of_below hb0⟩)
  clear hC ha hb0
  go_enter Tryz.func162, Tryz.ntmps162
  go_wp2_with fail
  refine Calls.mono (spec_l1Below g v l 5 _ (by exact HV.out.cur) HA.out (by omega) (by omega)) ?_
  rintro e w1 ⟨x, rfl, hx0, hx1, hc, ho⟩
  have HV1 := Lib.hid (HV.out.next hgl hc ho)
  clear hc ho HV
  go_wp2_with fail
  refine Calls.mono (spec_l1Below g v l m _ HV1.out.cur HA.out (by omega) (by omega)) ?_
  rintro e w2 ⟨y, rfl, hy0, hy1, hc, ho⟩
  have HV2 := Lib.hid (HV1.out.next hgl hc ho)
  have hIx : I64 x := by unfold I64; omega
  have hIy : I64 y := by unfold I64; omega
  clear hc ho HV1
  go_upto_region 2 with fail
  have HX := Lib.hid (VS.make HV2.out (funC x y))
  clear HV2
  generalize hbx : w2.heap.size = bx at HX ⊢
  clear hbx
  refine gen_w (G := VS g v l w bx (funC x y)) HX.out ?_
  intro w3 HX3
  have HV3 := Lib.hid (show VS g v l w bx (funC x y) w3 from HX3)
  clear HX HX3
  go_wp2_with fail
  refine Calls.mono (spec_l1Once g v l 3 _ HV3.out.cur HA.out (by omega) (by omega)) ?_
  rintro e w4 ⟨b1, rfl, hc, ho⟩
  have HV4 := Lib.hid (HV3.out.next hgl hc ho)
  clear hc ho HV3
  cases b1
  · go_wp2_with fail
    refine Calls.mono (spec_l1Once g v l 3 _ HV4.out.cur HA.out (by omega) (by omega)) ?_
    rintro e w5 ⟨b2, rfl, hc, ho⟩
    have HV5 := Lib.hid (HV4.out.next hgl hc ho)
    clear hc ho HV4
    cases b2
    · have y0 := HV5.out.o.cell 0 _ rfl
      have y1 := HV5.out.o.cell 1 _ rfl
      have y2 := HV5.out.o.cell 2 _ rfl
      have y3 := HV5.out.o.cell 3 _ rfl
      have y4 := HV5.out.o.cell 4 _ rfl
      have y5 := HV5.out.o.cell 5 _ rfl
      have y6 := HV5.out.o.cell 6 _ rfl
      have y7 := HV5.out.o.cell 7 _ rfl
      have r0 := HV5.out.r.cell 0 _ rfl
      have r1 := HV5.out.r.cell 1 _ rfl
      have r2 := HV5.out.r.cell 2 _ rfl
      have r3 := HV5.out.r.cell 3 _ rfl
      have r4 := HV5.out.r.cell 4 _ rfl
      have r5 := HV5.out.r.cell 5 _ rfl
      have r6 := HV5.out.r.cell 6 _ rfl
      have r7 := HV5.out.r.cell 7 _ rfl
      have z0 := HV5.out.r.frozen 0
      have z1 := HV5.out.r.frozen 1
      have z2 := HV5.out.r.frozen 2
      have z3 := HV5.out.r.frozen 3
      have z4 := HV5.out.r.frozen 4
      have z5 := HV5.out.r.frozen 5
      have z6 := HV5.out.r.frozen 6
      have z7 := HV5.out.r.frozen 7
      have HF := Lib.hid (show VecO (Rng (w.heap.size + 1) w5.heap.size) w5 (funC x y) (funV x y) from funV_own _ _ hIx hIy)
      go_wp2_with fail
      have hkF := Keeps.sc (b := w.heap.size) (o := 7) (Keeps.sc (b := w.heap.size) (o := 6) (Keeps.sc (b := w.heap.size) (o := 5) (Keeps.sc (b := w.heap.size) (o := 4) (Keeps.sc (b := w.heap.size) (o := 3) (Keeps.sc (b := w.heap.size) (o := 2) (Keeps.sc (b := w.heap.size) (o := 1) (Keeps.sc (b := w.heap.size) (o := 0) (Keeps.refl (fun b => b ≠ w.heap.size) w5) (by simp) (.int .i64 5)) (by simp) (.slice none 0 0)) (by simp) (.slice none 0 0)) (by simp) (.slice none 0 0)) (by simp) (.slice none 0 0)) (by simp) (.slice none 0 0)) (by simp) (.int .i64 x)) (by simp) (.int .i64 y)
      have hbF := below_sc (b := w.heap.size) (o := 7) (below_sc (b := w.heap.size) (o := 6) (below_sc (b := w.heap.size) (o := 5) (below_sc (b := w.heap.size) (o := 4) (below_sc (b := w.heap.size) (o := 3) (below_sc (b := w.heap.size) (o := 2) (below_sc (b := w.heap.size) (o := 1) (below_sc (b := w.heap.size) (o := 0) (Below.refl w.heap.size w5) (Nat.le_refl _) (.int .i64 5)) (Nat.le_refl _) (.slice none 0 0)) (Nat.le_refl _) (.slice none 0 0)) (Nat.le_refl _) (.slice none 0 0)) (Nat.le_refl _) (.slice none 0 0)) (Nat.le_refl _) (.slice none 0 0)) (Nat.le_refl _) (.int .i64 x)) (Nat.le_refl _) (.int .i64 y)
      exact bodyPost_ret (v := .agg #[.int .i64 5, .slice none 0 0, .slice none 0 0, .slice none 0 0, .slice none 0 0, .slice none 0 0, .int .i64 x, .int .i64 y]) (by simp [results, Tryz.results162, go_sem, r0, r1, r2, r3, r4, r5, r6, r7]; try rfl) rfl (HV5.out.done hgl HY.out HA.out HF.out (by rw [sz_funV]; omega) hkF hbF)
    · go_wp2_with fail
      refine Calls.mono (spec_l4Atom g v l 2 2 _ HV5.out.cur HA.out ⟨by decide, by decide⟩ (by omega)) ?_
      rintro e w6 ⟨U, q, its, rfl, hV, hl, hi, hc, ho⟩
      have HV6 := Lib.hid (HV5.out.next hgl hc ho)
      have HVV := Lib.hid (hV.mono (S' := Rng (w.heap.size + 1) w6.heap.size) fun b hb => ⟨by have := hb.1; have := HV5.out.r.lt; omega, hb.2⟩)
      have HZ := Lib.hid (show szVector (atV 2 its) ≤ 1000 by have := sz_atV (kd := 2) hi; omega)
      clear hc ho hV hi HV5
      have r0 := HV6.out.r.cell 0 _ rfl
      have r1 := HV6.out.r.cell 1 _ rfl
      have r2 := HV6.out.r.cell 2 _ rfl
      have r3 := HV6.out.r.cell 3 _ rfl
      have r4 := HV6.out.r.cell 4 _ rfl
      have r5 := HV6.out.r.cell 5 _ rfl
      have r6 := HV6.out.r.cell 6 _ rfl
      have r7 := HV6.out.r.cell 7 _ rfl
      have z0 := HV6.out.r.frozen 0
      have z1 := HV6.out.r.frozen 1
      have z2 := HV6.out.r.frozen 2
      have z3 := HV6.out.r.frozen 3
      have z4 := HV6.out.r.frozen 4
      have z5 := HV6.out.r.frozen 5
      have z6 := HV6.out.r.frozen 6
      have z7 := HV6.out.r.frozen 7
      go_wp2_with fail
      have hkF := Keeps.sc (b := w.heap.size) (o := 7) (Keeps.sc (b := w.heap.size) (o := 6) (Keeps.sc (b := w.heap.size) (o := 5) (Keeps.sc (b := w.heap.size) (o := 4) (Keeps.sc (b := w.heap.size) (o := 3) (Keeps.sc (b := w.heap.size) (o := 2) (Keeps.sc (b := w.heap.size) (o := 1) (Keeps.sc (b := w.heap.size) (o := 0) (Keeps.refl (fun b => b ≠ w.heap.size) w6) (by simp) (.int .i64 2)) (by simp) (.slice U 2 q)) (by simp) (.slice none 0 0)) (by simp) (.slice none 0 0)) (by simp) (.slice none 0 0)) (by simp) (.slice none 0 0)) (by simp) (.int .i64 0)) (by simp) (.int .i64 0)
      have hbF := below_sc (b := w.heap.size) (o := 7) (below_sc (b := w.heap.size) (o := 6) (below_sc (b := w.heap.size) (o := 5) (below_sc (b := w.heap.size) (o := 4) (below_sc (b := w.heap.size) (o := 3) (below_sc (b := w.heap.size) (o := 2) (below_sc (b := w.heap.size) (o := 1) (below_sc (b := w.heap.size) (o := 0) (Below.refl w.heap.size w6) (Nat.le_refl _) (.int .i64 2)) (Nat.le_refl _) (.slice U 2 q)) (Nat.le_refl _) (.slice none 0 0)) (Nat.le_refl _) (.slice none 0 0)) (Nat.le_refl _) (.slice none 0 0)) (Nat.le_refl _) (.slice none 0 0)) (Nat.le_refl _) (.int .i64 0)) (Nat.le_refl _) (.int .i64 0)
      exact bodyPost_ret (v := .agg #[.int .i64 2, .slice U 2 q, .slice none 0 0, .slice none 0 0, .slice none 0 0, .slice none 0 0, .int .i64 0, .int .i64 0]) (by simp [results, Tryz.results162, go_sem, r0, r1, r2, r3, r4, r5, r6, r7]; try rfl) rfl (HV6.out.done hgl HY.out HA.out HVV.out HZ.out hkF hbF)
  · go_upto_region 3 with fail
    have HVX := Lib.hid HV4.out
    refine wp_region_free (by kernel_rfl) (by kernel_rfl) (VS g v l w bx (funC x y)) (fun i => i) (fun i => [i]) (lvR x y) (fun vs => ⟨#[.pointer (some ⟨g, 0, none⟩), .int .i64 (m : Int), undef, undef, .pointer (some ⟨w.heap.size, 0, none⟩), .pointer (some ⟨bx, 0, none⟩), .pointer (some ⟨g, 0, none⟩), .int .i64 x, .pointer (some ⟨g, 0, none⟩), .int .i64 (m : Int), .int .i64 y, .agg #[.int .i64 5, .slice none 0 0, .slice none 0 0, .slice none 0 0, .slice none 0 0, .slice none 0 0, .int .i64 x, .int .i64 y], .pointer (some ⟨g, 0, none⟩), .bool true, vs 0, vs 1, vs 2, vs 3, vs 4, undef, undef, undef, undef, undef], []⟩) (fun vs => by kernel_rfl) (by kernel_rfl) (HVX.out.step (Below.drew (Below.refl _ _))) (lvK x y) ?_ ?_
    · intro i o ho hi vs T W hS hd'
      have h9 : i + 1 < 6 := by simpa using hi
      have hi' : i = 0 ∨ i = 1 ∨ i = 2 ∨ i = 3 ∨ i = 4 := by omega
      clear h9 hi
      rcases hi' with rfl | rfl | rfl | rfl | rfl
      · obtain rfl := Option.some.inj ho
        have y0 := hS.o.cell 0 _ rfl
        have y1 := hS.o.cell 1 _ rfl
        have y2 := hS.o.cell 2 _ rfl
        have y3 := hS.o.cell 3 _ rfl
        have y4 := hS.o.cell 4 _ rfl
        have y5 := hS.o.cell 5 _ rfl
        have y6 := hS.o.cell 6 _ rfl
        have y7 := hS.o.cell 7 _ rfl
        exact oper_ok (by go_simp; rfl) ⟨_, rfl, Below.refl _ _, hS, upd_same _ _ _⟩
      · obtain rfl := Option.some.inj ho
        refine oper_ok (by go_simp; exact ⟨rfl, rfl⟩) ⟨_, rfl, (Below.refl _ _).alloc (Nat.le_refl _) _, hS.step ((Below.refl _ _).alloc (Nat.le_refl _) _), _, upd_same _ _ _, ?_⟩
        exact Ints.of_own (l := [1]) (owns_new W 3 1 1 #[.int .i64 1] 1 [.int .i64 1] rfl (Nat.le_refl _) (by unfold maxLen; omega) rfl rfl) (fun z hz => by rw [List.mem_singleton.1 hz]; exact i64o_)
      · obtain rfl := Option.some.inj ho
        obtain ⟨u, e1, hu⟩ := (show ∃ u, vs 1 = u ∧ Ints W u [1] from hd' ⟨1, .data⟩ (by simp) rfl)
        refine oper_call (by go_simp) (spec_NumberVector [1] (by decide) u W hu) ?_
        rintro e W' ⟨cs, rfl, hV, hb⟩
        exact ⟨_, rfl, _, rfl, hb, hS.step hb, cs, upd_same _ _ _, hV.mono fun z hz => .inr ⟨rfl, hz.1, hz.2⟩⟩
      · obtain rfl := Option.some.inj ho
        have e0 := (show vs 0 = .agg (funC x y).toArray from hd' ⟨0, .data⟩ (by simp) rfl)
        obtain ⟨cs, e2, hV⟩ := (show ∃ cs, vs 2 = .agg cs.toArray ∧ VecO (T 2) W cs (numV [1]) from hd' ⟨2, .data⟩ (by simp) rfl)
        obtain ⟨A1, c1, A2, c2, A3, c3, A4, c4, A5, c5, rfl⟩ := hV.shape
        have e0' : vs 0 = .agg #[.int .i64 5, .slice none 0 0, .slice none 0 0, .slice none 0 0, .slice none 0 0, .slice none 0 0, .int .i64 x, .int .i64 y] := e0
        have HVV := Lib.hid hV
        clear e0 hV
        refine oper_ok (by go_simp; rfl) ⟨_, rfl, (Below.refl _ _).alloc (Nat.le_refl _) _, hS.step ((Below.refl _ _).alloc (Nat.le_refl _) _), _, _, upd_same _ _ _, Blk.new W _ (funC x y ++ _), (HVV.out.keeps (Keeps.of_below _ ((Below.refl _ _).alloc (Nat.le_refl _) _))).mono fun z hz => .inl hz, .inr ⟨rfl, Nat.le_refl _, by simp⟩⟩
      · obtain rfl := Option.some.inj ho
        obtain ⟨b, cs, e3, hB, hV, hT⟩ := (show ∃ b cs, vs 3 = .slice (some ⟨b, 0, none⟩) 2 2 ∧ Blk W b 45 (funC x y ++ cs) ∧ VecO (T 2) W cs (numV [1]) ∧ T 3 b from hd' ⟨3, .data⟩ (by simp) rfl)
        have HB := Lib.hid hB
        have HVV := Lib.hid hV
        clear hB hV
        exact oper_ok (by go_simp) ⟨_, rfl, Below.refl _ _, hS, b, cs, upd_same _ _ _, HB.out, HVV.out.mono fun z hz => .inl hz, .inl hT⟩
    · intro o ho vs T W hS hsz hT1 hT2 hR
      obtain ⟨od, oo, ot, opos, oa, og⟩ := o
      obtain ⟨rfl, rfl⟩ : od = none ∧ oo = .store 45 (.tmp 4) (.tmp 18) := ⟨(congrArg Oper.dst (Option.some.inj ho)).symm, (congrArg Oper.op (Option.some.inj ho)).symm⟩
      clear ho
      obtain ⟨b, cs, e4, hB, hV, hT⟩ := (show ∃ b cs, vs 4 = .agg #[.int .i64 4, .slice none 0 0, .slice (some ⟨b, 0, none⟩) 2 2, .slice none 0 0, .slice none 0 0, .slice none 0 0, .int .i64 0, .int .i64 0] ∧ Blk W b 45 (funC x y ++ cs) ∧ VecO (T 2) W cs (numV [1]) ∧ T 3 b from hR 4 (by decide))
      rw [e4]
      have hw4 := HVX.out.r.lt
      have hb1 := hT1 3 b hT
      have hVL : VecO (Rng (w.heap.size + 1) W.heap.size) W [.int .i64 4, .slice none 0 0, .slice (some ⟨b, 0, none⟩) 2 2, .slice none 0 0, .slice none 0 0, .slice none 0 0, .int .i64 0, .int .i64 0] (.mk 4 [] [funV x y, numV [1]] [] [] [] 0 0) :=
        vecO_mk (fun _ => 2) (.mk 4 [] [funV x y, numV [1]] [] [] [] 0 0) i64four (ItemsO.nil_ _ _) (vecs_two hB (funV_own (fun _ => False) W hIx hIy) hV ⟨⟨by omega, by omega⟩, rfl⟩ (fun _ h => h.elim) (fun z hz => ⟨⟨⟨by have := hT1 2 z hz; omega, by have := hT1 2 z hz; omega⟩, rfl⟩, fun h => by subst h; have := hT2 2 3 _ hz hT; omega, fun h => h⟩)) (TxtO.nil_ _ _) (TxtO.nil_ _ _) (TxtO.nil_ _ _) i64z_ i64z_
      have HVL := Lib.hid hVL
      have HSX := Lib.hid hS
      clear hR e4 hB hV hT hT1 hT2 hVL
      have r0 := HSX.out.r.cell 0 _ rfl
      have r1 := HSX.out.r.cell 1 _ rfl
      have r2 := HSX.out.r.cell 2 _ rfl
      have r3 := HSX.out.r.cell 3 _ rfl
      have r4 := HSX.out.r.cell 4 _ rfl
      have r5 := HSX.out.r.cell 5 _ rfl
      have r6 := HSX.out.r.cell 6 _ rfl
      have r7 := HSX.out.r.cell 7 _ rfl
      have z0 := HSX.out.r.frozen 0
      have z1 := HSX.out.r.frozen 1
      have z2 := HSX.out.r.frozen 2
      have z3 := HSX.out.r.frozen 3
      have z4 := HSX.out.r.frozen 4
      have z5 := HSX.out.r.frozen 5
      have z6 := HSX.out.r.frozen 6
      have z7 := HSX.out.r.frozen 7
      refine oper_gen (fun K hK => ?_)
      go_wp2_with fail
      refine hK.out _ _ ?_
      clear hK K
      go_wp2_with fail
      have hkF := Keeps.sc (b := w.heap.size) (o := 7) (Keeps.sc (b := w.heap.size) (o := 6) (Keeps.sc (b := w.heap.size) (o := 5) (Keeps.sc (b := w.heap.size) (o := 4) (Keeps.sc (b := w.heap.size) (o := 3) (Keeps.sc (b := w.heap.size) (o := 2) (Keeps.sc (b := w.heap.size) (o := 1) (Keeps.sc (b := w.heap.size) (o := 0) (Keeps.refl (fun b => b ≠ w.heap.size) W) (by simp) (.int .i64 4)) (by simp) (.slice none 0 0)) (by simp) (.slice (some ⟨b, 0, none⟩) 2 2)) (by simp) (.slice none 0 0)) (by simp) (.slice none 0 0)) (by simp) (.slice none 0 0)) (by simp) (.int .i64 0)) (by simp) (.int .i64 0)
      have hbF := below_sc (b := w.heap.size) (o := 7) (below_sc (b := w.heap.size) (o := 6) (below_sc (b := w.heap.size) (o := 5) (below_sc (b := w.heap.size) (o := 4) (below_sc (b := w.heap.size) (o := 3) (below_sc (b := w.heap.size) (o := 2) (below_sc (b := w.heap.size) (o := 1) (below_sc (b := w.heap.size) (o := 0) (Below.refl w.heap.size W) (Nat.le_refl _) (.int .i64 4)) (Nat.le_refl _) (.slice none 0 0)) (Nat.le_refl _) (.slice (some ⟨b, 0, none⟩) 2 2)) (Nat.le_refl _) (.slice none 0 0)) (Nat.le_refl _) (.slice none 0 0)) (Nat.le_refl _) (.slice none 0 0)) (Nat.le_refl _) (.int .i64 0)) (Nat.le_refl _) (.int .i64 0)
      exact bodyPost_ret (v := .agg #[.int .i64 4, .slice none 0 0, .slice (some ⟨b, 0, none⟩) 2 2, .slice none 0 0, .slice none 0 0, .slice none 0 0, .int .i64 0, .int .i64 0]) (by simp [results, Tryz.results162, go_sem, r0, r1, r2, r3, r4, r5, r6, r7]; try rfl) rfl (HSX.out.done hgl HY.out HA.out HVL.out sz_listV hkF hbF)
end Go.Proofs.YtejieacdfjpfnaaGreat
