/-
  Contracts: what the laws of vectors draw: vectors of any kind.
-/
import Derived.Test.YtjdimlhdkmkmbaaDrawFac
import Derived.Deep.CutBlock
namespace Go.Proofs.Ytjdimlhdkmkmbaa
set_option maxRecDepth 100000
open Go.ChangeShapes Go.WideShapes Go.ChangeAt Go.RowKit Go.Deep
set_option linter.unusedVariables false

def kinds12 : List Int := [1, 2, 2, 2, 3, 3, 4, 6, 0, 5, 2, 3]
def lens8 : List Int := [1, 2, 3, 0, 1, 4, 2, 6]
theorem kinds12_i64 : ∀ x ∈ kinds12, I64 x := fun x hx => by
  have : -100 ≤ x ∧ x ≤ 100 := by revert x; decide
  unfold I64; omega
theorem lens8_i64 : ∀ x ∈ lens8, I64 x := fun x hx => by
  have : -100 ≤ x ∧ x ≤ 100 := by revert x; decide
  unfold I64; omega
theorem kinds12_at {x : Int} (h : x ∈ kinds12) : x = 0 ∨ x = 1 ∨ x = 2 ∨ x = 3 ∨ x = 4 ∨ x = 5 ∨ x = 6 := by revert x; decide
theorem lens8_at {x : Int} (h : x ∈ lens8) : ∃ n : Nat, x = n ∧ n ≤ 6 := by
  have : 0 ≤ x ∧ x ≤ 6 := by revert x; decide
  exact ⟨x.toNat, by omega, by omega⟩
def names8 : List (List UInt8) := [[97], [98], [120], [], [97, 108], [110, 32, 49], [97, 108, 112, 104, 97], [105, 102]]
theorem names8_len : ∀ s ∈ names8, s.length ≤ 5 := by decide
theorem names8_len' : ∀ s ∈ names8, s.length ≤ 100 := by decide
def cls2 : List (List UInt8) := [[115, 113, 117, 97, 114, 101], [115, 104, 97, 112, 101]]
theorem szL_le (B : Nat) : ∀ (l : List (List UInt8)), (∀ s ∈ l, s.length ≤ B) → szL l ≤ l.length * (B + 1)
  | [], _ => Nat.zero_le _
  | a :: l, h => by
    have ih := szL_le B l fun s hs => h s (List.mem_cons_of_mem _ hs)
    have ha := h a List.mem_cons_self
    have e : szL (a :: l) = szL l + 1 + a.length := by simp [szL]; omega
    rw [e, List.length_cons, Nat.succ_mul]
    omega
theorem szS_le (B : Nat) : ∀ (l : List VecD), (∀ p ∈ l, szVector p ≤ B) → szS szVector l ≤ l.length * (B + 1)
  | [], _ => Nat.zero_le _
  | a :: l, h => by
    have ih := szS_le B l fun s hs => h s (List.mem_cons_of_mem _ hs)
    have ha := h a List.mem_cons_self
    have e : szS szVector (a :: l) = szS szVector l + 1 + szVector a := by simp [szS]; omega
    rw [e, List.length_cons, Nat.succ_mul]
    omega
/-- what the switch of a draw leaves in the box: a vector without names and class -/
def Raw (g : Nat) (v : Value) (l : List Nat) (w : World) (bx : Nat) (B : Nat) (W : World) : Prop :=
  ∃ (k' co ev : Int) (its : List ItemD) (ps : List VecD) (cl lv : List (List UInt8)) (A1 A2 A3 A4 A5 : Option Addr) (c1 c2 c3 c4 c5 : Nat),
    SV g v l w bx [.int .i64 k', .slice A1 its.length c1, .slice A2 ps.length c2, .slice A3 0 c3, .slice A4 cl.length c4, .slice A5 lv.length c5, .int .i64 co, .int .i64 ev] W.heap.size (.mk k' its ps [] cl lv co ev) W ∧ szVector (.mk k' its ps [] cl lv co ev) ≤ B
theorem raw_mk {g : Nat} {v : Value} {l : List Nat} {w : World} {bx B : Nat} {W : World} {cs : List Value} {d : VecD} {q : Nat} (h : SV g v l w bx cs q d W) (hn : d.names = []) (hz : szVector d ≤ B) : Raw g v l w bx B W := by
  obtain ⟨A1, c1, A2, c2, A3, c3, A4, c4, A5, c5, rfl⟩ := h.st.shape
  obtain ⟨k', its, ps, ns, cl, lv, co, ev⟩ := d
  simp only [VecD.names] at hn
  subst hn
  exact ⟨k', co, ev, its, ps, cl, lv, A1, A2, A3, A4, A5, c1, c2, c3, c4, c5, h.rebase, hz⟩
theorem szL_cls2 (m : Nat) : szL (cls2.take m) ≤ 14 := by
  have : szL (cls2.take m) ≤ (cls2.take m).length * 7 := szL_le 6 _ fun s hs => by
    have : ∀ s ∈ cls2, s.length ≤ 6 := by decide
    exact this s (List.mem_of_mem_take hs)
  have h2 : (cls2.take m).length ≤ 2 := by rw [List.length_take]; exact Nat.min_le_right _ _
  omega
theorem class_put {g : Nat} {v : Value} {l : List Nat} {w : World} {b q : Nat} {d : VecD} {W : World} {k co ev : Int} {v1 v2 v3 v5 : Value} {A : Option Addr} {n c : Nat} (h : SV g v l w b [.int .i64 k, v1, v2, v3, .slice A n c, v5, .int .i64 co, .int .i64 ev] q d W) (hg : g < w.heap.size) (hy : Bytes w v l) (ha : Apart l.length g v)
    {z : Nat} (hB : Blk W z 9 (cls2.map fun s => Value.string (str s))) (m : Nat) (hm : m ≤ 2) (hz : q ≤ z) :
    SV g v l w b [.int .i64 k, v1, v2, v3, .slice (some ⟨z, 0, none⟩) m 2, v5, .int .i64 co, .int .i64 ev] W.heap.size (setC d (cls2.take m)) (W.setCell ⟨b, 4, none⟩ (.slice (some ⟨z, 0, none⟩) m 2)) := by
  obtain ⟨S3, h3, rfl, hS3, hcl⟩ := h.st.ed4
  have hlt := hB.lt
  have hq := h.qs
  have hrq := h.rq
  have hlo := BV.lo h.bc
  have t := txtO_take cls2 2 rfl hB m hm (by omega) (by decide)
  have hl : (cls2.take m).length = m := by rw [List.length_take]; exact Nat.min_eq_left hm
  have hv := hcl W (fun x => Rng (w.heap.size + 1) W.heap.size x ∧ x ≠ b) (fun x => x = z) (some ⟨z, 0, none⟩) 2 (cls2.take m) (Keeps.refl _ _) (by rw [hl]; exact t) (fun x hx => by subst hx; exact ⟨⟨⟨by omega, hlt⟩, by omega⟩, .inr fun hs => by have := hs.1.2; omega⟩) (fun x hx _ => ⟨⟨hx.1.1, by have := hx.1.2; omega⟩, hx.2⟩)
  rw [hl] at hv
  exact SV.put h.bc hg hy ha 4 _ hv
theorem sz_zD : szVector zD = 0 := by rw [szVector_eq]; rfl
def bd (n : Nat) : Nat := 2000 * 10 ^ n
theorem bd_succ (n : Nat) : bd (n + 1) = 10 * bd n := by unfold bd; rw [Nat.pow_succ]; omega
theorem bd_pos (n : Nat) : 2000 ≤ bd n := by unfold bd; have : 0 < 10 ^ n := Nat.pos_of_ne_zero (by simp); omega

set_option maxHeartbeats 16000000 in
theorem spec_l4Draw_step (nest : Nat) (N : Int) (HN : Hid (N = nest)) (hN0 : 0 ≤ N) (hN2 : N ≤ 2) (IH : ∀ m, nest = m + 1 → ∀ (g : Nat) (v : Value) (l : List Nat) (w : World), Cur w g v l → Apart l.length g v → Calls Try.prog 85 #[.pointer (some ⟨g, 0, none⟩), .int .i64 m] w (RetVecC g v l (bd m) w))
    (g : Nat) (v : Value) (l : List Nat) (w : World) (hC : Cur w g v l) (ha : Apart l.length g v) :
    Calls Try.prog 85 #[.pointer (some ⟨g, 0, none⟩), .int .i64 N] w (RetVecC g v l (bd nest) w) := by
  have IH := Lib.hid IH
  have hgl := Cur.lt_ hC
  have HA := Lib.hid ha
  have HY := Lib.hid (show Bytes w v l from by obtain ⟨_, _, _, _, _, h⟩ := hC; exact h)
  have hb0 := (Below.refl w.heap.size w).alloc (Nat.le_refl _) (.cells nvZ.toArray 28)
  have HV := Lib.hid (show VS0 g v l w (w.alloc (.cells nvZ.toArray 28)) from ⟨Cur.below_ hC hb0, Blk.new w 28 nvZ, Only.of_below hb0⟩)
  clear hC ha hb0
  go_enter Try.func85, Try.ntmps85
  go_upto_region 1 with fail
  refine gen_w (G := VS0 g v l w) HV.out ?_
  intro w0 HV0
  have HV := Lib.hid (show VS0 g v l w w0 from HV0)
  clear HV0
  have HI := Lib.hid (ints_lit (W := w0) kinds12 12 rfl (by decide) kinds12_i64)
  have HAP := Lib.hid (apart_lit (W := w0) (g := g) (n := 12) (m := 12) (c := 12) (Cur.lt_ HV.out.cur))
  have HVb := Lib.hid (VS0.step HV.out ((Below.refl _ _).alloc (Nat.le_refl _) (.cells (kinds12.map fun x => Value.int .i64 x).toArray 3)))
  go_wp2_with fail
  refine Calls.mono (spec_l1PickIntM g v l _ kinds12 _ (by exact HVb.out.cur) HA.out (by exact HI.out) (by exact HAP.out) (by decide) (by decide)) ?_
  rintro e w1 ⟨kd, rfl, hkd, hc, ho⟩
  have HV1 := Lib.hid (HVb.out.next hgl hc ho)
  have hkd := kinds12_at hkd
  clear hc ho HV HVb HI HAP
  have HI := Lib.hid (ints_lit (W := w1) lens8 8 rfl (by decide) lens8_i64)
  have HAP := Lib.hid (apart_lit (W := w1) (g := g) (n := 8) (m := 8) (c := 8) (Cur.lt_ HV1.out.cur))
  have HVb := Lib.hid (VS0.step HV1.out ((Below.refl _ _).alloc (Nat.le_refl _) (.cells (lens8.map fun x => Value.int .i64 x).toArray 3)))
  go_wp2_with fail
  refine Calls.mono (spec_l1PickIntM g v l _ lens8 _ (by exact HVb.out.cur) HA.out (by exact HI.out) (by exact HAP.out) (by decide) (by decide)) ?_
  rintro e w2 ⟨nv, rfl, hnv, hc, ho⟩
  obtain ⟨n, rfl, hn⟩ := lens8_at hnv
  have HV2 := Lib.hid (HVb.out.next hgl hc ho)
  clear hc ho HV1 HVb HI HAP hnv
  have HS := Lib.hid (SV.make HV2.out.cur HV2.out.r HV2.out.only (zeroOD (Rng (w.heap.size + 1) w2.heap.size) w2) HV2.out.r.lt)
  clear HV2
  go_upto_block 0 with fail
  generalize hbx : w2.heap.size = bx at HS ⊢
  clear hbx
  refine gen_w (G := SV g v l w bx zV (bx + 1) zD) HS.out ?_
  intro w3 HX3
  have HS3 := Lib.hid (SV.rebase (show SV g v l w bx zV (bx + 1) zD w3 from HX3))
  clear HX3 HS
  have hbd := bd_pos nest
  go_cut [] from 8 to 61 (fun wx => (kd ≠ 0 ∧ kd ≠ 5) ∧ Hid (Raw g v l w bx (bd nest - 100) wx))
  case first =>
    rcases hkd with rfl | rfl | rfl | rfl | rfl | rfl | rfl
    · have y0 := (BV.bx HS3.out.bc).cell 0 _ rfl
      have y1 := (BV.bx HS3.out.bc).cell 1 _ rfl
      have y2 := (BV.bx HS3.out.bc).cell 2 _ rfl
      have y3 := (BV.bx HS3.out.bc).cell 3 _ rfl
      have y4 := (BV.bx HS3.out.bc).cell 4 _ rfl
      have y5 := (BV.bx HS3.out.bc).cell 5 _ rfl
      have y6 := (BV.bx HS3.out.bc).cell 6 _ rfl
      have y7 := (BV.bx HS3.out.bc).cell 7 _ rfl
      have r0 := (BV.res HS3.out.bc).cell 0 _ rfl
      have r1 := (BV.res HS3.out.bc).cell 1 _ rfl
      have r2 := (BV.res HS3.out.bc).cell 2 _ rfl
      have r3 := (BV.res HS3.out.bc).cell 3 _ rfl
      have r4 := (BV.res HS3.out.bc).cell 4 _ rfl
      have r5 := (BV.res HS3.out.bc).cell 5 _ rfl
      have r6 := (BV.res HS3.out.bc).cell 6 _ rfl
      have r7 := (BV.res HS3.out.bc).cell 7 _ rfl
      have z0 := (BV.res HS3.out.bc).frozen 0
      have z1 := (BV.res HS3.out.bc).frozen 1
      have z2 := (BV.res HS3.out.bc).frozen 2
      have z3 := (BV.res HS3.out.bc).frozen 3
      have z4 := (BV.res HS3.out.bc).frozen 4
      have z5 := (BV.res HS3.out.bc).frozen 5
      have z6 := (BV.res HS3.out.bc).frozen 6
      have z7 := (BV.res HS3.out.bc).frozen 7
      go_wp2_with fail
      exact bodyPost_ret (v := .agg #[.int .i64 0, .slice none 0 0, .slice none 0 0, .slice none 0 0, .slice none 0 0, .slice none 0 0, .int .i64 0, .int .i64 0]) (by simp [results, Try.results85, go_sem, r0, r1, r2, r3, r4, r5, r6, r7]; try rfl) rfl (SV.done HS3.out hgl HY.out HA.out (by rw [sz_zD]; exact Nat.zero_le _) (Keeps.sc (b := w.heap.size) (o := 7) (Keeps.sc (b := w.heap.size) (o := 6) (Keeps.sc (b := w.heap.size) (o := 5) (Keeps.sc (b := w.heap.size) (o := 4) (Keeps.sc (b := w.heap.size) (o := 3) (Keeps.sc (b := w.heap.size) (o := 2) (Keeps.sc (b := w.heap.size) (o := 1) (Keeps.sc (b := w.heap.size) (o := 0) (Keeps.refl (fun b => b ≠ w.heap.size) w3) (by simp) (.int .i64 0)) (by simp) (.slice none 0 0)) (by simp) (.slice none 0 0)) (by simp) (.slice none 0 0)) (by simp) (.slice none 0 0)) (by simp) (.slice none 0 0)) (by simp) (.int .i64 0)) (by simp) (.int .i64 0)) (below_sc (b := w.heap.size) (o := 7) (below_sc (b := w.heap.size) (o := 6) (below_sc (b := w.heap.size) (o := 5) (below_sc (b := w.heap.size) (o := 4) (below_sc (b := w.heap.size) (o := 3) (below_sc (b := w.heap.size) (o := 2) (below_sc (b := w.heap.size) (o := 1) (below_sc (b := w.heap.size) (o := 0) (Below.refl w.heap.size w3) (Nat.le_refl _) (.int .i64 0)) (Nat.le_refl _) (.slice none 0 0)) (Nat.le_refl _) (.slice none 0 0)) (Nat.le_refl _) (.slice none 0 0)) (Nat.le_refl _) (.slice none 0 0)) (Nat.le_refl _) (.slice none 0 0)) (Nat.le_refl _) (.int .i64 0)) (Nat.le_refl _) (.int .i64 0)))
    · go_wp2_with fail
      refine Calls.mono (spec_l4Atom g v l 1 n _ (BV.cur HS3.out.bc) HA.out ⟨by decide, by decide⟩ (by omega)) ?_
      rintro e w6 ⟨U, q, its, rfl, hV, hl, hi, hc, ho⟩
      have HS6 := Lib.hid (HS3.out.next hgl hc ho)
      have HVV := Lib.hid (hV.mono (S' := fun x => Rng (w.heap.size + 1) w6.heap.size x ∧ x ≠ bx) fun x hx => ⟨⟨by have := hx.1; have := HS3.out.rq; have := BV.lo HS3.out.bc; omega, hx.2⟩, by have := hx.1; have := HS3.out.rq; omega⟩)
      have HZ := Lib.hid (show szVector (atV 1 its) ≤ bd nest - 100 by have := sz_atV (kd := 1) hi; omega)
      clear hc ho hV hi
      have y0 := (BV.bx HS6.out.bc).cell 0 _ rfl
      have y1 := (BV.bx HS6.out.bc).cell 1 _ rfl
      have y2 := (BV.bx HS6.out.bc).cell 2 _ rfl
      have y3 := (BV.bx HS6.out.bc).cell 3 _ rfl
      have y4 := (BV.bx HS6.out.bc).cell 4 _ rfl
      have y5 := (BV.bx HS6.out.bc).cell 5 _ rfl
      have y6 := (BV.bx HS6.out.bc).cell 6 _ rfl
      have y7 := (BV.bx HS6.out.bc).cell 7 _ rfl
      have f0 := (BV.bx HS6.out.bc).frozen 0
      have f1 := (BV.bx HS6.out.bc).frozen 1
      have f2 := (BV.bx HS6.out.bc).frozen 2
      have f3 := (BV.bx HS6.out.bc).frozen 3
      have f4 := (BV.bx HS6.out.bc).frozen 4
      have f5 := (BV.bx HS6.out.bc).frozen 5
      have f6 := (BV.bx HS6.out.bc).frozen 6
      have f7 := (BV.bx HS6.out.bc).frozen 7
      go_wp2_with fail
      go_meet
      case rel => first | exact ⟨⟨by decide, by decide⟩, raw_mk (SV.set8 HS6.out.bc rfl hgl HY.out HA.out HVV.out) rfl HZ.out⟩ | ((repeat apply Exists.intro); exact ⟨⟨⟨by decide, by decide⟩, raw_mk (SV.set8 HS6.out.bc rfl hgl HY.out HA.out HVV.out) rfl HZ.out⟩, rfl⟩)
    · go_wp2_with fail
      refine Calls.mono (spec_l4Atom g v l 2 n _ (BV.cur HS3.out.bc) HA.out ⟨by decide, by decide⟩ (by omega)) ?_
      rintro e w6 ⟨U, q, its, rfl, hV, hl, hi, hc, ho⟩
      have HS6 := Lib.hid (HS3.out.next hgl hc ho)
      have HVV := Lib.hid (hV.mono (S' := fun x => Rng (w.heap.size + 1) w6.heap.size x ∧ x ≠ bx) fun x hx => ⟨⟨by have := hx.1; have := HS3.out.rq; have := BV.lo HS3.out.bc; omega, hx.2⟩, by have := hx.1; have := HS3.out.rq; omega⟩)
      have HZ := Lib.hid (show szVector (atV 2 its) ≤ bd nest - 100 by have := sz_atV (kd := 2) hi; omega)
      clear hc ho hV hi
      have y0 := (BV.bx HS6.out.bc).cell 0 _ rfl
      have y1 := (BV.bx HS6.out.bc).cell 1 _ rfl
      have y2 := (BV.bx HS6.out.bc).cell 2 _ rfl
      have y3 := (BV.bx HS6.out.bc).cell 3 _ rfl
      have y4 := (BV.bx HS6.out.bc).cell 4 _ rfl
      have y5 := (BV.bx HS6.out.bc).cell 5 _ rfl
      have y6 := (BV.bx HS6.out.bc).cell 6 _ rfl
      have y7 := (BV.bx HS6.out.bc).cell 7 _ rfl
      have f0 := (BV.bx HS6.out.bc).frozen 0
      have f1 := (BV.bx HS6.out.bc).frozen 1
      have f2 := (BV.bx HS6.out.bc).frozen 2
      have f3 := (BV.bx HS6.out.bc).frozen 3
      have f4 := (BV.bx HS6.out.bc).frozen 4
      have f5 := (BV.bx HS6.out.bc).frozen 5
      have f6 := (BV.bx HS6.out.bc).frozen 6
      have f7 := (BV.bx HS6.out.bc).frozen 7
      go_wp2_with fail
      go_meet
      case rel => first | exact ⟨⟨by decide, by decide⟩, raw_mk (SV.set8 HS6.out.bc rfl hgl HY.out HA.out HVV.out) rfl HZ.out⟩ | ((repeat apply Exists.intro); exact ⟨⟨⟨by decide, by decide⟩, raw_mk (SV.set8 HS6.out.bc rfl hgl HY.out HA.out HVV.out) rfl HZ.out⟩, rfl⟩)
    · go_wp2_with fail
      refine Calls.mono (spec_l4Atom g v l 3 n _ (BV.cur HS3.out.bc) HA.out ⟨by decide, by decide⟩ (by omega)) ?_
      rintro e w6 ⟨U, q, its, rfl, hV, hl, hi, hc, ho⟩
      have HS6 := Lib.hid (HS3.out.next hgl hc ho)
      have HVV := Lib.hid (hV.mono (S' := fun x => Rng (w.heap.size + 1) w6.heap.size x ∧ x ≠ bx) fun x hx => ⟨⟨by have := hx.1; have := HS3.out.rq; have := BV.lo HS3.out.bc; omega, hx.2⟩, by have := hx.1; have := HS3.out.rq; omega⟩)
      have HZ := Lib.hid (show szVector (atV 3 its) ≤ bd nest - 100 by have := sz_atV (kd := 3) hi; omega)
      clear hc ho hV hi
      have y0 := (BV.bx HS6.out.bc).cell 0 _ rfl
      have y1 := (BV.bx HS6.out.bc).cell 1 _ rfl
      have y2 := (BV.bx HS6.out.bc).cell 2 _ rfl
      have y3 := (BV.bx HS6.out.bc).cell 3 _ rfl
      have y4 := (BV.bx HS6.out.bc).cell 4 _ rfl
      have y5 := (BV.bx HS6.out.bc).cell 5 _ rfl
      have y6 := (BV.bx HS6.out.bc).cell 6 _ rfl
      have y7 := (BV.bx HS6.out.bc).cell 7 _ rfl
      have f0 := (BV.bx HS6.out.bc).frozen 0
      have f1 := (BV.bx HS6.out.bc).frozen 1
      have f2 := (BV.bx HS6.out.bc).frozen 2
      have f3 := (BV.bx HS6.out.bc).frozen 3
      have f4 := (BV.bx HS6.out.bc).frozen 4
      have f5 := (BV.bx HS6.out.bc).frozen 5
      have f6 := (BV.bx HS6.out.bc).frozen 6
      have f7 := (BV.bx HS6.out.bc).frozen 7
      go_wp2_with fail
      go_meet
      case rel => first | exact ⟨⟨by decide, by decide⟩, raw_mk (SV.set8 HS6.out.bc rfl hgl HY.out HA.out HVV.out) rfl HZ.out⟩ | ((repeat apply Exists.intro); exact ⟨⟨⟨by decide, by decide⟩, raw_mk (SV.set8 HS6.out.bc rfl hgl HY.out HA.out HVV.out) rfl HZ.out⟩, rfl⟩)
    · by_cases hz : nest = 0
      · have hz2 : ¬ (0 : Int) < N := by have := HN.out; omega
        go_wp2_with fail
        refine Calls.mono (spec_l4Atom g v l 3 n _ (BV.cur HS3.out.bc) HA.out ⟨by decide, by decide⟩ (by omega)) ?_
        rintro e w6 ⟨U, q, its, rfl, hV, hl, hi, hc, ho⟩
        have HS6 := Lib.hid (HS3.out.next hgl hc ho)
        have HVV := Lib.hid (hV.mono (S' := fun x => Rng (w.heap.size + 1) w6.heap.size x ∧ x ≠ bx) fun x hx => ⟨⟨by have := hx.1; have := HS3.out.rq; have := BV.lo HS3.out.bc; omega, hx.2⟩, by have := hx.1; have := HS3.out.rq; omega⟩)
        have HZ := Lib.hid (show szVector (atV 3 its) ≤ bd nest - 100 by have := sz_atV (kd := 3) hi; omega)
        clear hc ho hV hi
        have y0 := (BV.bx HS6.out.bc).cell 0 _ rfl
        have y1 := (BV.bx HS6.out.bc).cell 1 _ rfl
        have y2 := (BV.bx HS6.out.bc).cell 2 _ rfl
        have y3 := (BV.bx HS6.out.bc).cell 3 _ rfl
        have y4 := (BV.bx HS6.out.bc).cell 4 _ rfl
        have y5 := (BV.bx HS6.out.bc).cell 5 _ rfl
        have y6 := (BV.bx HS6.out.bc).cell 6 _ rfl
        have y7 := (BV.bx HS6.out.bc).cell 7 _ rfl
        have f0 := (BV.bx HS6.out.bc).frozen 0
        have f1 := (BV.bx HS6.out.bc).frozen 1
        have f2 := (BV.bx HS6.out.bc).frozen 2
        have f3 := (BV.bx HS6.out.bc).frozen 3
        have f4 := (BV.bx HS6.out.bc).frozen 4
        have f5 := (BV.bx HS6.out.bc).frozen 5
        have f6 := (BV.bx HS6.out.bc).frozen 6
        have f7 := (BV.bx HS6.out.bc).frozen 7
        go_wp2_with fail
        go_meet
        case rel => first | exact ⟨⟨by decide, by decide⟩, raw_mk (SV.set8 HS6.out.bc rfl hgl HY.out HA.out HVV.out) rfl HZ.out⟩ | ((repeat apply Exists.intro); exact ⟨⟨⟨by decide, by decide⟩, raw_mk (SV.set8 HS6.out.bc rfl hgl HY.out HA.out HVV.out) rfl HZ.out⟩, rfl⟩)
      obtain ⟨m, hm⟩ : ∃ m, nest = m + 1 := ⟨nest - 1, by omega⟩
      have hbs := bd_succ m
      have HBS := Lib.hid (show bd nest = 10 * bd m by rw [hm, hbs])
      have HM := Lib.hid hm
      have hNp : (0 : Int) < N := by have := HN.out; omega
      have hm1 : N - 1 = (m : Int) := by have := HN.out; omega
      have HM1 := Lib.hid hm1
      have hbm := bd_pos m
      clear hm hm1 hbs hz
      have y0 := (BV.bx HS3.out.bc).cell 0 _ rfl
      have f0 := (BV.bx HS3.out.bc).frozen 0
      have HSP := Lib.hid (SV.put HS3.out.bc hgl HY.out HA.out 0 (.int .i64 4) (VecO.edk (show VecO _ _ [.int .i64 0, .slice none 0 0, .slice none 0 0, .slice none 0 0, .slice none 0 0, .slice none 0 0, .int .i64 0, .int .i64 0] zD from HS3.out.st) 4 0 ⟨by decide, by decide⟩ i64z_))
      go_wp2_with fail
      go_loopw [8] (fun i wr => ∃ (k : Nat) (A : Option Addr) (c : Nat) (ps : List VecD), k ≤ n ∧ i = .int .i64 k ∧ Hid (ps.length = k) ∧ Hid (∀ p ∈ ps, szVector p ≤ bd m) ∧ Hid (SV g v l w bx [.int .i64 4, .slice none 0 0, .slice A k c, .slice none 0 0, .slice none 0 0, .slice none 0 0, .int .i64 0, .int .i64 0] wr.heap.size (.mk 4 [] ps [] [] [] 0 0) wr)) (fun i _ => n - (intOf i).toNat)
      case atStart => exact ⟨0, none, 0, [], Nat.zero_le _, rfl, rfl, fun p h => (by cases h), HSP.out.rebase⟩
      case round =>
        obtain ⟨k, A, c, ps, hk, rfl, HL, HZ, HS⟩ := hrel
        by_cases hlt : k < n
        · have t2 := fun W (h : Ok (BV g v l w bx [.int .i64 4, .slice none 0 0, .slice A k c, .slice none 0 0, .slice none 0 0, .slice none 0 0, .int .i64 0, .int .i64 0]) W) => (BV.bx h).cell 2 _ rfl
          go_wp2_with fail
          have g1 : Ok (BV g v l w bx [.int .i64 4, .slice none 0 0, .slice A k c, .slice none 0 0, .slice none 0 0, .slice none 0 0, .int .i64 0, .int .i64 0]) wr.drew := BV.step HS.out.bc (Below.drew (Below.refl _ _))
          refine wp_region_phase (T := Ok (BV g v l w bx [.int .i64 4, .slice none 0 0, .slice A k c, .slice none 0 0, .slice none 0 0, .slice none 0 0, .int .i64 0, .int .i64 0])) (by kernel_rfl) [(2, 0), (1, 1), (2, 2), (2, 3), (2, 4), (0, 5), (0, 6), (0, 7), (2, 8), (0, 9)] [9] (by kernel_rfl) g1 ?_
          repeat ((first | (refine dynL_take rfl rfl (fun W g => by go_simp; rfl) ?_) | (refine dynL_pure rfl rfl (fun W => by go_simp; rfl) ?_)); go_simp)
          refine dynL_act rfl rfl (fun K hK => ?_)
          go_wp2_with fail
          rw [HM1.out]
          refine Calls.mono (IH.out m HM.out g v l _ (BV.cur g1) HA.out) ?_
          rintro e w7 ⟨xcs, x, rfl, hV, hz, hc, ho⟩
          obtain ⟨a1, b1, a2, b2, a3, b3, a4, b4, a5, b5, rfl⟩ := hV.shape
          have HS7 := Lib.hid (SV.next (HS.out.step (Below.drew (Below.refl _ _))) hgl hc ho)
          have HVX := Lib.hid (show VecO (Rng wr.heap.size w7.heap.size) w7 _ x from hV)
          have HZX := Lib.hid hz
          have g2 := HS7.out.bc
          clear hc ho hV hz g1
          simp only []
          refine hK.out _ _ g2 ?_
          clear hK
          go_simp
          repeat ((first | (refine dynL_take rfl rfl (fun W g => by go_simp; rfl) ?_) | (refine dynL_pure rfl rfl (fun W => by go_simp; rfl) ?_)); go_simp)
          refine dynL_act rfl rfl (fun K hK => ?_)
          go_wp2_with fail
          refine hK.out _ _ (BV.step g2 ((Below.refl _ _).alloc (Nat.le_refl _) _)) ?_
          clear hK
          refine dynL_act rfl rfl (fun K hK => ?_)
          have hlw := BV.lo g2
          have hlt7 := (BV.bx g2).lt
          obtain ⟨xs, hown, hrow, hpush⟩ := HS7.out.pushP hgl HY.out HA.out x _ HVX.out
          refine wp_push (.tmp 53) (.tmp 58) 25 rfl (w.heap.size + 1) 28 (.agg #[.int .i64 0, .slice none 0 0, .slice none 0 0, .slice none 0 0, .slice none 0 0, .slice none 0 0, .int .i64 0, .int .i64 0]) 8 144 Try.underlying25 info_Vector rfl (by decide) w7 (.slice A k c) k xs #[.int .i64 x.kind, .slice a1 x.items.length b1, .slice a2 x.parts.length b2, .slice a3 x.names.length b3, .slice a4 x.cls.length b4, .slice a5 x.levels.length b5, .int .i64 x.code, .int .i64 x.env] rfl rfl hown rfl (by simp [Value.oneCell']) (by omega) (by omega) (by omega) ?_
          intro v1 w8 ho8 hg8 hk8 hb8
          obtain ⟨A8, c8, rfl⟩ := own_shapeN ho8
          have HS8 := Lib.hid (hpush A8 c8 w8 ho8 hg8 hk8 hb8)
          have g3 := BV.grow g2 hgl HY.out HA.out hb8 hg8 hrow
          clear hown hrow hpush ho8 hg8 hk8 hb8 hlw hlt7 HS7 g2
          refine hK.out _ _ g3 ?_
          clear hK
          go_simp
          repeat ((first | (refine dynL_take rfl rfl (fun W g => by go_simp; rfl) ?_) | (refine dynL_pure rfl rfl (fun W => by go_simp; rfl) ?_)); go_simp)
          have y2 := (BV.bx g3).cell 2 _ rfl
          have f2 := (BV.bx g3).frozen 2
          refine dynL_last rfl (by simp) rfl (fun K hK => ?_)
          go_wp2_with fail
          refine hK.out _ _ ?_
          clear hK
          refine dynL_done ?_
          go_wp2_with fail
          refine ⟨?_, by simp [intOf]; omega⟩
          have hps : Hid ((ps ++ [x]).length = k + 1) := by
            show _ = _
            rw [List.length_append, HL.out]; rfl
          have hzs : Hid (∀ p ∈ ps ++ [x], szVector p ≤ bd m) := by
            intro p hp
            rcases List.mem_append.1 hp with hp | hp
            · exact HZ.out p hp
            · rw [List.mem_singleton.1 hp]; exact HZX.out
          have hss := HS8.out.rebase
          first
          | exact ⟨k + 1, A8, c8, ps ++ [x], hlt, by go_num, hps, hzs, hss⟩
          | ((repeat apply Exists.intro); refine ⟨⟨k + 1, A8, c8, ps ++ [x], hlt, ?n1, hps, hzs, hss⟩, ?n4⟩; case n4 => rfl; case n1 => go_num)
        · obtain rfl : k = n := by omega
          go_wp2_with fail
          go_meet
          case rel =>
            have hfin : szVector (.mk 4 [] ps [] [] [] 0 0) ≤ bd nest - 100 := by
              have h := szS_le (bd m) ps HZ.out
              have hl := HL.out
              have hbs := HBS.out
              rw [szVector_eq]
              have h6 : ps.length * (bd m + 1) ≤ 6 * (bd m + 1) := Nat.mul_le_mul_right _ (by omega)
              simp only [VecD.items, VecD.parts, VecD.names, VecD.cls, VecD.levels, szS, szL, List.length_nil, List.map_nil, List.sum_nil] at h ⊢
              omega
            first
            | exact ⟨⟨by decide, by decide⟩, raw_mk HS.out rfl hfin⟩
            | ((repeat apply Exists.intro); exact ⟨⟨⟨by decide, by decide⟩, raw_mk HS.out rfl hfin⟩, rfl⟩)
    · go_wp2_with fail
      refine Calls.mono (spec_l1Below g v l 4 _ (BV.cur HS3.out.bc) HA.out (by omega) (by omega)) ?_
      rintro e w6 ⟨x, rfl, hx0, hx1, hc, ho⟩
      have HS6 := Lib.hid (HS3.out.next hgl hc ho)
      have HIX := Lib.hid (show I64 (x - 2) by unfold I64; omega)
      clear hc ho
      have r0 := (BV.res HS6.out.bc).cell 0 _ rfl
      have r1 := (BV.res HS6.out.bc).cell 1 _ rfl
      have r2 := (BV.res HS6.out.bc).cell 2 _ rfl
      have r3 := (BV.res HS6.out.bc).cell 3 _ rfl
      have r4 := (BV.res HS6.out.bc).cell 4 _ rfl
      have r5 := (BV.res HS6.out.bc).cell 5 _ rfl
      have r6 := (BV.res HS6.out.bc).cell 6 _ rfl
      have r7 := (BV.res HS6.out.bc).cell 7 _ rfl
      have z0 := (BV.res HS6.out.bc).frozen 0
      have z1 := (BV.res HS6.out.bc).frozen 1
      have z2 := (BV.res HS6.out.bc).frozen 2
      have z3 := (BV.res HS6.out.bc).frozen 3
      have z4 := (BV.res HS6.out.bc).frozen 4
      have z5 := (BV.res HS6.out.bc).frozen 5
      have z6 := (BV.res HS6.out.bc).frozen 6
      have z7 := (BV.res HS6.out.bc).frozen 7
      go_wp2_with fail
      have hbF := below_sc (b := w.heap.size) (o := 7) (below_sc (b := w.heap.size) (o := 6) (below_sc (b := w.heap.size) (o := 5) (below_sc (b := w.heap.size) (o := 4) (below_sc (b := w.heap.size) (o := 3) (below_sc (b := w.heap.size) (o := 2) (below_sc (b := w.heap.size) (o := 1) (below_sc (b := w.heap.size) (o := 0) (Below.refl w.heap.size w6) (Nat.le_refl _) (.int .i64 5)) (Nat.le_refl _) (.slice none 0 0)) (Nat.le_refl _) (.slice none 0 0)) (Nat.le_refl _) (.slice none 0 0)) (Nat.le_refl _) (.slice none 0 0)) (Nat.le_refl _) (.slice none 0 0)) (Nat.le_refl _) (.int .i64 (x - 2))) (Nat.le_refl _) (.int .i64 0)
      have hoF := (BV.only HS6.out.bc).belowB hbF
      exact bodyPost_ret (v := .agg #[.int .i64 5, .slice none 0 0, .slice none 0 0, .slice none 0 0, .slice none 0 0, .slice none 0 0, .int .i64 (x - 2), .int .i64 0]) (by simp [results, Try.results85, go_sem, r0, r1, r2, r3, r4, r5, r6, r7]; try rfl) rfl ⟨[.int .i64 5, .slice none 0 0, .slice none 0 0, .slice none 0 0, .slice none 0 0, .slice none 0 0, .int .i64 (x - 2), .int .i64 0], funV (x - 2) 0, rfl, funV_own _ _ HIX.out i64z_, by rw [sz_funV]; omega, Cur.next (BV.cur HS6.out.bc) hbF hgl (HY.out.only HA.out hoF), hoF⟩
    · go_wp2_with fail
      refine Calls.mono (spec_l4Factor g v l n _ (BV.cur HS3.out.bc) HA.out (by omega)) ?_
      rintro e w6 ⟨cs6, its, m, rfl, hV, hl, hi, hc, ho⟩
      obtain ⟨A1, c1, A2, c2, A3, c3, A4, c4, A5, c5, rfl⟩ := hV.shape
      have HS6 := Lib.hid (HS3.out.next hgl hc ho)
      have HVV := Lib.hid (hV.mono (S' := fun x => Rng (w.heap.size + 1) w6.heap.size x ∧ x ≠ bx) fun x hx => ⟨⟨by have := hx.1; have := HS3.out.rq; have := BV.lo HS3.out.bc; omega, hx.2⟩, by have := hx.1; have := HS3.out.rq; omega⟩)
      have HZ := Lib.hid (show szVector (facD its m) ≤ bd nest - 100 by have := sz_fac hi m; omega)
      clear hc ho hV hi
      have y0 := (BV.bx HS6.out.bc).cell 0 _ rfl
      have y1 := (BV.bx HS6.out.bc).cell 1 _ rfl
      have y2 := (BV.bx HS6.out.bc).cell 2 _ rfl
      have y3 := (BV.bx HS6.out.bc).cell 3 _ rfl
      have y4 := (BV.bx HS6.out.bc).cell 4 _ rfl
      have y5 := (BV.bx HS6.out.bc).cell 5 _ rfl
      have y6 := (BV.bx HS6.out.bc).cell 6 _ rfl
      have y7 := (BV.bx HS6.out.bc).cell 7 _ rfl
      have f0 := (BV.bx HS6.out.bc).frozen 0
      have f1 := (BV.bx HS6.out.bc).frozen 1
      have f2 := (BV.bx HS6.out.bc).frozen 2
      have f3 := (BV.bx HS6.out.bc).frozen 3
      have f4 := (BV.bx HS6.out.bc).frozen 4
      have f5 := (BV.bx HS6.out.bc).frozen 5
      have f6 := (BV.bx HS6.out.bc).frozen 6
      have f7 := (BV.bx HS6.out.bc).frozen 7
      go_wp2_with fail
      go_meet
      case rel => first | exact ⟨⟨by decide, by decide⟩, raw_mk (SV.set8 HS6.out.bc rfl hgl HY.out HA.out HVV.out) rfl HZ.out⟩ | ((repeat apply Exists.intro); exact ⟨⟨⟨by decide, by decide⟩, raw_mk (SV.set8 HS6.out.bc rfl hgl HY.out HA.out HVV.out) rfl HZ.out⟩, rfl⟩)
  case rest =>
  obtain ⟨⟨hk0, hk5⟩, HR⟩ := hcut
  obtain ⟨k', co, ev, its, ps, cl, lv, A1, A2, A3, A4, A5, c1, c2, c3, c4, c5, hSR, hZR⟩ := HR.out
  have HS9 := Lib.hid hSR
  have HZ9 := Lib.hid hZR
  clear HR hSR hZR HS3
  obtain ⟨w9, hw9⟩ : ∃ w9, w9 = wc := ⟨_, rfl⟩
  rw [← hw9] at HS9 ⊢
  clear hw9
  go_wp2_with fail
  refine Calls.mono (spec_l1Once g v l 2 _ (BV.cur HS9.out.bc) HA.out (by omega) (by omega)) ?_
  rintro e w10 ⟨b1, rfl, hc, ho⟩
  have HS10 := Lib.hid ((HS9.out.next hgl hc ho).rebase)
  clear hc ho HS9
  cases b1
  · have HZT := Lib.hid (show szVector (.mk k' its ps [] cl lv co ev) ≤ bd nest - 50 by have := HZ9.out; omega)
    by_cases hk6 : kd < 6
    · go_wp2_with fail
      refine Calls.mono (spec_l1Once g v l 9 _ (BV.cur HS10.out.bc) HA.out (by omega) (by omega)) ?_
      rintro e wa ⟨b2, rfl, hc, ho⟩
      have HT := Lib.hid ((HS10.out.next hgl hc ho).rebase)
      clear hc ho
      cases b2
      · have y0 := (BV.bx HT.out.bc).cell 0 _ rfl
        have y1 := (BV.bx HT.out.bc).cell 1 _ rfl
        have y2 := (BV.bx HT.out.bc).cell 2 _ rfl
        have y3 := (BV.bx HT.out.bc).cell 3 _ rfl
        have y4 := (BV.bx HT.out.bc).cell 4 _ rfl
        have y5 := (BV.bx HT.out.bc).cell 5 _ rfl
        have y6 := (BV.bx HT.out.bc).cell 6 _ rfl
        have y7 := (BV.bx HT.out.bc).cell 7 _ rfl
        have r0 := (BV.res HT.out.bc).cell 0 _ rfl
        have r1 := (BV.res HT.out.bc).cell 1 _ rfl
        have r2 := (BV.res HT.out.bc).cell 2 _ rfl
        have r3 := (BV.res HT.out.bc).cell 3 _ rfl
        have r4 := (BV.res HT.out.bc).cell 4 _ rfl
        have r5 := (BV.res HT.out.bc).cell 5 _ rfl
        have r6 := (BV.res HT.out.bc).cell 6 _ rfl
        have r7 := (BV.res HT.out.bc).cell 7 _ rfl
        have z0 := (BV.res HT.out.bc).frozen 0
        have z1 := (BV.res HT.out.bc).frozen 1
        have z2 := (BV.res HT.out.bc).frozen 2
        have z3 := (BV.res HT.out.bc).frozen 3
        have z4 := (BV.res HT.out.bc).frozen 4
        have z5 := (BV.res HT.out.bc).frozen 5
        have z6 := (BV.res HT.out.bc).frozen 6
        have z7 := (BV.res HT.out.bc).frozen 7
        go_wp2_with fail
        exact bodyPost_ret (v := .agg #[.int .i64 k', .slice A1 its.length c1, .slice A2 ps.length c2, .slice A3 0 c3, .slice A4 cl.length c4, .slice A5 lv.length c5, .int .i64 co, .int .i64 ev]) (by simp [results, Try.results85, go_sem, r0, r1, r2, r3, r4, r5, r6, r7]; try rfl) rfl (SV.done HT.out hgl HY.out HA.out (by have := HZT.out; omega) (Keeps.sc (b := w.heap.size) (o := 7) (Keeps.sc (b := w.heap.size) (o := 6) (Keeps.sc (b := w.heap.size) (o := 5) (Keeps.sc (b := w.heap.size) (o := 4) (Keeps.sc (b := w.heap.size) (o := 3) (Keeps.sc (b := w.heap.size) (o := 2) (Keeps.sc (b := w.heap.size) (o := 1) (Keeps.sc (b := w.heap.size) (o := 0) (Keeps.refl (fun b => b ≠ w.heap.size) wa) (by simp) (.int .i64 k')) (by simp) (.slice A1 its.length c1)) (by simp) (.slice A2 ps.length c2)) (by simp) (.slice A3 0 c3)) (by simp) (.slice A4 cl.length c4)) (by simp) (.slice A5 lv.length c5)) (by simp) (.int .i64 co)) (by simp) (.int .i64 ev)) (below_sc (b := w.heap.size) (o := 7) (below_sc (b := w.heap.size) (o := 6) (below_sc (b := w.heap.size) (o := 5) (below_sc (b := w.heap.size) (o := 4) (below_sc (b := w.heap.size) (o := 3) (below_sc (b := w.heap.size) (o := 2) (below_sc (b := w.heap.size) (o := 1) (below_sc (b := w.heap.size) (o := 0) (Below.refl w.heap.size wa) (Nat.le_refl _) (.int .i64 k')) (Nat.le_refl _) (.slice A1 its.length c1)) (Nat.le_refl _) (.slice A2 ps.length c2)) (Nat.le_refl _) (.slice A3 0 c3)) (Nat.le_refl _) (.slice A4 cl.length c4)) (Nat.le_refl _) (.slice A5 lv.length c5)) (Nat.le_refl _) (.int .i64 co)) (Nat.le_refl _) (.int .i64 ev)))
      · have hbl := (Below.refl wa.heap.size wa).alloc (Nat.le_refl _) (.cells (cls2.map fun s => Value.string (str s)).toArray 9)
        have HTA := Lib.hid (HT.out.step hbl)
        have HCB := Lib.hid (Blk.new wa 9 (cls2.map fun s => Value.string (str s)))
        clear hbl
        go_wp2_with fail
        refine Calls.mono (spec_l1Below g v l 2 _ (by exact BV.cur HTA.out.bc) HA.out (by omega) (by omega)) ?_
        rintro e wb ⟨x, rfl, hx0, hx1, hc, ho⟩
        obtain ⟨m2, rfl⟩ := Int.eq_ofNat_of_zero_le hx0
        have hm2 : 1 + m2 ≤ 2 := by omega
        have HTB := Lib.hid (HTA.out.next hgl hc ho)
        have HCC := Lib.hid (show Blk wb wa.heap.size 9 (cls2.map fun s => Value.string (str s)) from (ho.block _ HCB.out.lt (fun e => by injection e with e; have := (BV.bx HT.out.bc).lt; have := BV.lo HT.out.bc; omega)).trans HCB.out)
        have HST := Lib.hid (class_put HTB.out hgl HY.out HA.out HCC.out (1 + m2) hm2 (Nat.le_refl _))
        have hql := HCC.out.lt
        clear hc ho HTA HCB
        have y4 := (BV.bx HTB.out.bc).cell 4 _ rfl
        have f4 := (BV.bx HTB.out.bc).frozen 4
        go_upto_region 25 with fail
        clear y4 f4
        refine gen_w (G := SV g v l w bx [.int .i64 k', .slice A1 its.length c1, .slice A2 ps.length c2, .slice A3 0 c3, .slice (some ⟨wa.heap.size, 0, none⟩) (1 + m2) 2, .slice A5 lv.length c5, .int .i64 co, .int .i64 ev] wb.heap.size (setC (VecD.mk k' its ps [] cl lv co ev) (cls2.take (1 + m2)))) HST.out ?_
        intro wd hD
        have HD := Lib.hid (SV.rebase (show SV g v l w bx [.int .i64 k', .slice A1 its.length c1, .slice A2 ps.length c2, .slice A3 0 c3, .slice (some ⟨wa.heap.size, 0, none⟩) (1 + m2) 2, .slice A5 lv.length c5, .int .i64 co, .int .i64 ev] wb.heap.size (setC (VecD.mk k' its ps [] cl lv co ev) (cls2.take (1 + m2))) wd from hD))
        have HZD := Lib.hid (show szVector (setC (VecD.mk k' its ps [] cl lv co ev) (cls2.take (1 + m2))) ≤ bd nest by
          have h1 := sz_setC (VecD.mk k' its ps [] cl lv co ev) (cls2.take (1 + m2))
          have h2 := szL_cls2 (1 + m2)
          have := HZT.out
          omega)
        clear hD HST
        have y0 := (BV.bx HD.out.bc).cell 0 _ rfl
        have y1 := (BV.bx HD.out.bc).cell 1 _ rfl
        have y2 := (BV.bx HD.out.bc).cell 2 _ rfl
        have y3 := (BV.bx HD.out.bc).cell 3 _ rfl
        have y4 := (BV.bx HD.out.bc).cell 4 _ rfl
        have y5 := (BV.bx HD.out.bc).cell 5 _ rfl
        have y6 := (BV.bx HD.out.bc).cell 6 _ rfl
        have y7 := (BV.bx HD.out.bc).cell 7 _ rfl
        have r0 := (BV.res HD.out.bc).cell 0 _ rfl
        have r1 := (BV.res HD.out.bc).cell 1 _ rfl
        have r2 := (BV.res HD.out.bc).cell 2 _ rfl
        have r3 := (BV.res HD.out.bc).cell 3 _ rfl
        have r4 := (BV.res HD.out.bc).cell 4 _ rfl
        have r5 := (BV.res HD.out.bc).cell 5 _ rfl
        have r6 := (BV.res HD.out.bc).cell 6 _ rfl
        have r7 := (BV.res HD.out.bc).cell 7 _ rfl
        have z0 := (BV.res HD.out.bc).frozen 0
        have z1 := (BV.res HD.out.bc).frozen 1
        have z2 := (BV.res HD.out.bc).frozen 2
        have z3 := (BV.res HD.out.bc).frozen 3
        have z4 := (BV.res HD.out.bc).frozen 4
        have z5 := (BV.res HD.out.bc).frozen 5
        have z6 := (BV.res HD.out.bc).frozen 6
        have z7 := (BV.res HD.out.bc).frozen 7
        go_wp2_with fail
        exact bodyPost_ret (v := .agg #[.int .i64 k', .slice A1 its.length c1, .slice A2 ps.length c2, .slice A3 0 c3, .slice (some ⟨wa.heap.size, 0, none⟩) (1 + m2) 2, .slice A5 lv.length c5, .int .i64 co, .int .i64 ev]) (by simp [results, Try.results85, go_sem, r0, r1, r2, r3, r4, r5, r6, r7]; try rfl) rfl (SV.done HD.out hgl HY.out HA.out HZD.out (Keeps.sc (b := w.heap.size) (o := 7) (Keeps.sc (b := w.heap.size) (o := 6) (Keeps.sc (b := w.heap.size) (o := 5) (Keeps.sc (b := w.heap.size) (o := 4) (Keeps.sc (b := w.heap.size) (o := 3) (Keeps.sc (b := w.heap.size) (o := 2) (Keeps.sc (b := w.heap.size) (o := 1) (Keeps.sc (b := w.heap.size) (o := 0) (Keeps.refl (fun b => b ≠ w.heap.size) wd) (by simp) (.int .i64 k')) (by simp) (.slice A1 its.length c1)) (by simp) (.slice A2 ps.length c2)) (by simp) (.slice A3 0 c3)) (by simp) (.slice (some ⟨wa.heap.size, 0, none⟩) (1 + m2) 2)) (by simp) (.slice A5 lv.length c5)) (by simp) (.int .i64 co)) (by simp) (.int .i64 ev)) (below_sc (b := w.heap.size) (o := 7) (below_sc (b := w.heap.size) (o := 6) (below_sc (b := w.heap.size) (o := 5) (below_sc (b := w.heap.size) (o := 4) (below_sc (b := w.heap.size) (o := 3) (below_sc (b := w.heap.size) (o := 2) (below_sc (b := w.heap.size) (o := 1) (below_sc (b := w.heap.size) (o := 0) (Below.refl w.heap.size wd) (Nat.le_refl _) (.int .i64 k')) (Nat.le_refl _) (.slice A1 its.length c1)) (Nat.le_refl _) (.slice A2 ps.length c2)) (Nat.le_refl _) (.slice A3 0 c3)) (Nat.le_refl _) (.slice (some ⟨wa.heap.size, 0, none⟩) (1 + m2) 2)) (Nat.le_refl _) (.slice A5 lv.length c5)) (Nat.le_refl _) (.int .i64 co)) (Nat.le_refl _) (.int .i64 ev)))
    · have y0 := (BV.bx HS10.out.bc).cell 0 _ rfl
      have y1 := (BV.bx HS10.out.bc).cell 1 _ rfl
      have y2 := (BV.bx HS10.out.bc).cell 2 _ rfl
      have y3 := (BV.bx HS10.out.bc).cell 3 _ rfl
      have y4 := (BV.bx HS10.out.bc).cell 4 _ rfl
      have y5 := (BV.bx HS10.out.bc).cell 5 _ rfl
      have y6 := (BV.bx HS10.out.bc).cell 6 _ rfl
      have y7 := (BV.bx HS10.out.bc).cell 7 _ rfl
      have r0 := (BV.res HS10.out.bc).cell 0 _ rfl
      have r1 := (BV.res HS10.out.bc).cell 1 _ rfl
      have r2 := (BV.res HS10.out.bc).cell 2 _ rfl
      have r3 := (BV.res HS10.out.bc).cell 3 _ rfl
      have r4 := (BV.res HS10.out.bc).cell 4 _ rfl
      have r5 := (BV.res HS10.out.bc).cell 5 _ rfl
      have r6 := (BV.res HS10.out.bc).cell 6 _ rfl
      have r7 := (BV.res HS10.out.bc).cell 7 _ rfl
      have z0 := (BV.res HS10.out.bc).frozen 0
      have z1 := (BV.res HS10.out.bc).frozen 1
      have z2 := (BV.res HS10.out.bc).frozen 2
      have z3 := (BV.res HS10.out.bc).frozen 3
      have z4 := (BV.res HS10.out.bc).frozen 4
      have z5 := (BV.res HS10.out.bc).frozen 5
      have z6 := (BV.res HS10.out.bc).frozen 6
      have z7 := (BV.res HS10.out.bc).frozen 7
      go_wp2_with fail
      exact bodyPost_ret (v := .agg #[.int .i64 k', .slice A1 its.length c1, .slice A2 ps.length c2, .slice A3 0 c3, .slice A4 cl.length c4, .slice A5 lv.length c5, .int .i64 co, .int .i64 ev]) (by simp [results, Try.results85, go_sem, r0, r1, r2, r3, r4, r5, r6, r7]; try rfl) rfl (SV.done HS10.out hgl HY.out HA.out (by have := HZT.out; omega) (Keeps.sc (b := w.heap.size) (o := 7) (Keeps.sc (b := w.heap.size) (o := 6) (Keeps.sc (b := w.heap.size) (o := 5) (Keeps.sc (b := w.heap.size) (o := 4) (Keeps.sc (b := w.heap.size) (o := 3) (Keeps.sc (b := w.heap.size) (o := 2) (Keeps.sc (b := w.heap.size) (o := 1) (Keeps.sc (b := w.heap.size) (o := 0) (Keeps.refl (fun b => b ≠ w.heap.size) w10) (by simp) (.int .i64 k')) (by simp) (.slice A1 its.length c1)) (by simp) (.slice A2 ps.length c2)) (by simp) (.slice A3 0 c3)) (by simp) (.slice A4 cl.length c4)) (by simp) (.slice A5 lv.length c5)) (by simp) (.int .i64 co)) (by simp) (.int .i64 ev)) (below_sc (b := w.heap.size) (o := 7) (below_sc (b := w.heap.size) (o := 6) (below_sc (b := w.heap.size) (o := 5) (below_sc (b := w.heap.size) (o := 4) (below_sc (b := w.heap.size) (o := 3) (below_sc (b := w.heap.size) (o := 2) (below_sc (b := w.heap.size) (o := 1) (below_sc (b := w.heap.size) (o := 0) (Below.refl w.heap.size w10) (Nat.le_refl _) (.int .i64 k')) (Nat.le_refl _) (.slice A1 its.length c1)) (Nat.le_refl _) (.slice A2 ps.length c2)) (Nat.le_refl _) (.slice A3 0 c3)) (Nat.le_refl _) (.slice A4 cl.length c4)) (Nat.le_refl _) (.slice A5 lv.length c5)) (Nat.le_refl _) (.int .i64 co)) (Nat.le_refl _) (.int .i64 ev)))
  · go_wp2_with fail
    go_loopw [9] (fun i wr => ∃ (k : Nat) (A : Option Addr) (c : Nat) (ns : List (List UInt8)), k ≤ n ∧ i = .int .i64 k ∧ Hid (ns.length = k) ∧ Hid (∀ s ∈ ns, s.length ≤ 5) ∧ Hid (SV g v l w bx [.int .i64 k', .slice A1 its.length c1, .slice A2 ps.length c2, .slice A k c, .slice A4 cl.length c4, .slice A5 lv.length c5, .int .i64 co, .int .i64 ev] wr.heap.size (.mk k' its ps ns cl lv co ev) wr)) (fun i _ => n - (intOf i).toNat)
    case atStart => exact ⟨0, A3, c3, [], Nat.zero_le _, rfl, rfl, fun p h => (by cases h), HS10.out⟩
    case round =>
      obtain ⟨k, A, c, ns, hk, rfl, HL, HZ, HS⟩ := hrel
      by_cases hlt : k < n
      · have t3 := fun W (h : Ok (BV g v l w bx [.int .i64 k', .slice A1 its.length c1, .slice A2 ps.length c2, .slice A k c, .slice A4 cl.length c4, .slice A5 lv.length c5, .int .i64 co, .int .i64 ev]) W) => (BV.bx h).cell 3 _ rfl
        go_wp2_with fail
        have g1 : Ok (BV g v l w bx [.int .i64 k', .slice A1 its.length c1, .slice A2 ps.length c2, .slice A k c, .slice A4 cl.length c4, .slice A5 lv.length c5, .int .i64 co, .int .i64 ev]) wr.drew := BV.step HS.out.bc (Below.drew (Below.refl _ _))
        refine wp_region_phase (T := Ok (BV g v l w bx [.int .i64 k', .slice A1 its.length c1, .slice A2 ps.length c2, .slice A k c, .slice A4 cl.length c4, .slice A5 lv.length c5, .int .i64 co, .int .i64 ev])) (by kernel_rfl) [(2, 0), (1, 1), (2, 2), (0, 3), (0, 4), (0, 5), (0, 6), (2, 7), (0, 8)] [8] (by kernel_rfl) g1 ?_
        repeat ((first | (refine dynL_take rfl rfl (fun W g => by go_simp; rfl) ?_) | (refine dynL_pure rfl rfl (fun W => by go_simp; rfl) ?_)); go_simp)
        refine dynL_act rfl rfl (fun K hK => ?_)
        go_wp2_with fail
        have HT := Lib.hid (Txts.lit (W := wr.drew) names8 8 rfl (by decide) names8_len')
        have HAP := Lib.hid (apart_lit (W := wr.drew) (g := g) (n := 8) (m := 8) (c := 8) (Cur.lt_ (BV.cur g1)))
        have g2 := Lib.hid (show Ok (BV g v l w bx [.int .i64 k', .slice A1 its.length c1, .slice A2 ps.length c2, .slice A k c, .slice A4 cl.length c4, .slice A5 lv.length c5, .int .i64 co, .int .i64 ev]) (wr.drew.alloc (.cells (names8.map fun s => Value.string (str s)).toArray 9)) from BV.step g1 ((Below.refl _ _).alloc (Nat.le_refl _) _))
        have HSA := Lib.hid (SV.step (SV.step HS.out (Below.drew (Below.refl _ _))) ((Below.refl _ _).alloc (Nat.le_refl _) (.cells (names8.map fun s => Value.string (str s)).toArray 9)))
        refine hK.out _ _ (by exact g2.out) ?_
        clear hK
        refine dynL_act rfl rfl (fun K hK => ?_)
        go_wp2_with fail
        refine Calls.mono (spec_l1Pick g v l _ names8 _ (by exact BV.cur g2.out) HA.out (by exact HT.out) (by exact HAP.out) (by decide) (by decide)) ?_
        rintro e w7 ⟨s, rfl, hs, hc, ho⟩
        have HS7 := Lib.hid (SV.next HSA.out hgl hc (by exact ho))
        have HSL := Lib.hid (names8_len s hs)
        have g3 := HS7.out.bc
        clear hc ho HT HAP g2 g1 HSA hs
        simp only []
        refine hK.out _ _ g3 ?_
        clear hK
        go_simp
        repeat ((first | (refine dynL_take rfl rfl (fun W g => by go_simp; rfl) ?_) | (refine dynL_pure rfl rfl (fun W => by go_simp; rfl) ?_)); go_simp)
        refine dynL_act rfl rfl (fun K hK => ?_)
        go_wp2_with fail
        refine hK.out _ _ (BV.step g3 ((Below.refl _ _).alloc (Nat.le_refl _) _)) ?_
        clear hK
        refine dynL_act rfl rfl (fun K hK => ?_)
        have hlw := BV.lo g3
        have hlt7 := (BV.bx g3).lt
        obtain ⟨xs, hown, hrow, hpush⟩ := HS7.out.pushN hgl HY.out HA.out s (by have := HSL.out; unfold maxLen; omega)
        refine wp_push (.tmp 69) (.tmp 73) 26 rfl (w.heap.size + 1) 9 (.string ByteArray.empty) 1 16 Try.underlying26 info_strD rfl (by decide) w7 (.slice A k c) k xs #[.string (str s)] rfl rfl hown rfl (by simp [Value.oneCell']) (by omega) (by omega) (by omega) ?_
        intro v1 w8 ho8 hg8 hk8 hb8
        obtain ⟨A8, c8, rfl⟩ := own_shapeN ho8
        have HS8 := Lib.hid (hpush A8 c8 w8 ho8 hg8 hk8 hb8)
        have g4 := BV.grow g3 hgl HY.out HA.out hb8 hg8 hrow
        clear hown hrow hpush ho8 hg8 hk8 hb8 hlw hlt7 HS7 g3
        refine hK.out _ _ g4 ?_
        clear hK
        go_simp
        repeat ((first | (refine dynL_take rfl rfl (fun W g => by go_simp; rfl) ?_) | (refine dynL_pure rfl rfl (fun W => by go_simp; rfl) ?_)); go_simp)
        have y3 := (BV.bx g4).cell 3 _ rfl
        have f3 := (BV.bx g4).frozen 3
        refine dynL_last rfl (by simp) rfl (fun K hK => ?_)
        go_wp2_with fail
        refine hK.out _ _ ?_
        clear hK
        refine dynL_done ?_
        go_wp2_with fail
        refine ⟨?_, by simp [intOf]; omega⟩
        have hps : Hid ((ns ++ [s]).length = k + 1) := by
          show _ = _
          rw [List.length_append, HL.out]; rfl
        have hzs : Hid (∀ p ∈ ns ++ [s], p.length ≤ 5) := by
          intro p hp
          rcases List.mem_append.1 hp with hp | hp
          · exact HZ.out p hp
          · rw [List.mem_singleton.1 hp]; exact HSL.out
        have hss := HS8.out.rebase
        first
        | exact ⟨k + 1, A8, c8, ns ++ [s], hlt, by go_num, hps, hzs, hss⟩
        | ((repeat apply Exists.intro); refine ⟨⟨k + 1, A8, c8, ns ++ [s], hlt, ?n1, hps, hzs, hss⟩, ?n4⟩; case n4 => rfl; case n1 => go_num)
      · obtain rfl : k = n := by omega
        have y0 := (BV.bx HS.out.bc).cell 0 _ rfl
        have y1 := (BV.bx HS.out.bc).cell 1 _ rfl
        have y2 := (BV.bx HS.out.bc).cell 2 _ rfl
        have y3 := (BV.bx HS.out.bc).cell 3 _ rfl
        have y4 := (BV.bx HS.out.bc).cell 4 _ rfl
        have y5 := (BV.bx HS.out.bc).cell 5 _ rfl
        have y6 := (BV.bx HS.out.bc).cell 6 _ rfl
        have y7 := (BV.bx HS.out.bc).cell 7 _ rfl
        go_wp2_with fail
        refine Calls.mono (spec_l4Clean (.mk k' its ps ns cl lv co ev) _ _ HS.out.st.read) ?_
        intro e w7 hr
        obtain ⟨cs7, rfl, hb, hV⟩ := clean_own HS.out.st (fun x hx => hx.1.2) hr
        obtain ⟨a1, b1, a2, b2, a3, b3, a4, b4, a5, b5, hcs⟩ := hV.shape
        simp only [setN, VecD.kind, VecD.items, VecD.parts, VecD.names, VecD.cls, VecD.levels, VecD.code, VecD.env] at hcs
        subst hcs
        have HSB := Lib.hid (SV.step HS.out hb)
        have HVB := Lib.hid (hV.mono (S' := fun x => Rng (w.heap.size + 1) w7.heap.size x ∧ x ≠ bx) fun x hx => by
          have hs := hb.size
          have h2 := BV.lo HS.out.bc
          have h3 := HS.out.rq
          rcases hx with hx | hx
          · exact ⟨⟨hx.1.1, by have := hx.1.2; omega⟩, hx.2⟩
          · exact ⟨⟨by have := hx.1; omega, hx.2⟩, by have := hx.1; omega⟩)
        have HSE := Lib.hid (SV.set8 HSB.out.bc rfl hgl HY.out HA.out HVB.out)
        have HZT := Lib.hid (show szVector (setN (.mk k' its ps ns cl lv co ev) (tidyN ns)) ≤ bd nest - 50 from by
          have h1 := sz_tidy (.mk k' its ps ns cl lv co ev)
          have h2 := sz_setN (.mk k' its ps [] cl lv co ev) ns
          have h3 := szL_le 5 ns HZ.out
          have h4 := HZ9.out
          have hl := HL.out
          have h5 : ns.length * 6 ≤ 36 := by omega
          simp only [setN, VecD.kind, VecD.items, VecD.parts, VecD.names, VecD.cls, VecD.levels, VecD.code, VecD.env, show szL [] = 0 from rfl] at h1 h2 ⊢
          omega)
        clear y0 y1 y2 y3 y4 y5 y6 y7
        have y0 := (BV.bx HSB.out.bc).cell 0 _ rfl
        have y1 := (BV.bx HSB.out.bc).cell 1 _ rfl
        have y2 := (BV.bx HSB.out.bc).cell 2 _ rfl
        have y3 := (BV.bx HSB.out.bc).cell 3 _ rfl
        have y4 := (BV.bx HSB.out.bc).cell 4 _ rfl
        have y5 := (BV.bx HSB.out.bc).cell 5 _ rfl
        have y6 := (BV.bx HSB.out.bc).cell 6 _ rfl
        have y7 := (BV.bx HSB.out.bc).cell 7 _ rfl
        have f0 := (BV.bx HSB.out.bc).frozen 0
        have f1 := (BV.bx HSB.out.bc).frozen 1
        have f2 := (BV.bx HSB.out.bc).frozen 2
        have f3 := (BV.bx HSB.out.bc).frozen 3
        have f4 := (BV.bx HSB.out.bc).frozen 4
        have f5 := (BV.bx HSB.out.bc).frozen 5
        have f6 := (BV.bx HSB.out.bc).frozen 6
        have f7 := (BV.bx HSB.out.bc).frozen 7
        clear hV hb hr HSB HVB
        go_upto_region 23 with fail
        clear y0 y1 y2 y3 y4 y5 y6 y7 f0 f1 f2 f3 f4 f5 f6 f7
        refine gen_w (G := SV g v l w bx [.int .i64 k', .slice a1 its.length b1, .slice a2 ps.length b2, .slice a3 (tidyN ns).length b3, .slice a4 cl.length b4, .slice a5 lv.length b5, .int .i64 co, .int .i64 ev] w7.heap.size (setN (.mk k' its ps ns cl lv co ev) (tidyN ns))) HSE.out ?_
        intro we hE
        have HE := Lib.hid (SV.rebase (show SV g v l w bx [.int .i64 k', .slice a1 its.length b1, .slice a2 ps.length b2, .slice a3 (tidyN ns).length b3, .slice a4 cl.length b4, .slice a5 lv.length b5, .int .i64 co, .int .i64 ev] w7.heap.size (setN (.mk k' its ps ns cl lv co ev) (tidyN ns)) we from hE))
        clear hE HSE HS
        by_cases hk6 : kd < 6
        · go_wp2_with fail
          refine Calls.mono (spec_l1Once g v l 9 _ (BV.cur HE.out.bc) HA.out (by omega) (by omega)) ?_
          rintro e wa ⟨b2, rfl, hc, ho⟩
          have HT := Lib.hid ((HE.out.next hgl hc ho).rebase)
          clear hc ho
          cases b2
          · have y0 := (BV.bx HT.out.bc).cell 0 _ rfl
            have y1 := (BV.bx HT.out.bc).cell 1 _ rfl
            have y2 := (BV.bx HT.out.bc).cell 2 _ rfl
            have y3 := (BV.bx HT.out.bc).cell 3 _ rfl
            have y4 := (BV.bx HT.out.bc).cell 4 _ rfl
            have y5 := (BV.bx HT.out.bc).cell 5 _ rfl
            have y6 := (BV.bx HT.out.bc).cell 6 _ rfl
            have y7 := (BV.bx HT.out.bc).cell 7 _ rfl
            have r0 := (BV.res HT.out.bc).cell 0 _ rfl
            have r1 := (BV.res HT.out.bc).cell 1 _ rfl
            have r2 := (BV.res HT.out.bc).cell 2 _ rfl
            have r3 := (BV.res HT.out.bc).cell 3 _ rfl
            have r4 := (BV.res HT.out.bc).cell 4 _ rfl
            have r5 := (BV.res HT.out.bc).cell 5 _ rfl
            have r6 := (BV.res HT.out.bc).cell 6 _ rfl
            have r7 := (BV.res HT.out.bc).cell 7 _ rfl
            have z0 := (BV.res HT.out.bc).frozen 0
            have z1 := (BV.res HT.out.bc).frozen 1
            have z2 := (BV.res HT.out.bc).frozen 2
            have z3 := (BV.res HT.out.bc).frozen 3
            have z4 := (BV.res HT.out.bc).frozen 4
            have z5 := (BV.res HT.out.bc).frozen 5
            have z6 := (BV.res HT.out.bc).frozen 6
            have z7 := (BV.res HT.out.bc).frozen 7
            go_wp2_with fail
            exact bodyPost_ret (v := .agg #[.int .i64 k', .slice a1 its.length b1, .slice a2 ps.length b2, .slice a3 (tidyN ns).length b3, .slice a4 cl.length b4, .slice a5 lv.length b5, .int .i64 co, .int .i64 ev]) (by simp [results, Try.results85, go_sem, r0, r1, r2, r3, r4, r5, r6, r7]; try rfl) rfl (SV.done HT.out hgl HY.out HA.out (by have := HZT.out; omega) (Keeps.sc (b := w.heap.size) (o := 7) (Keeps.sc (b := w.heap.size) (o := 6) (Keeps.sc (b := w.heap.size) (o := 5) (Keeps.sc (b := w.heap.size) (o := 4) (Keeps.sc (b := w.heap.size) (o := 3) (Keeps.sc (b := w.heap.size) (o := 2) (Keeps.sc (b := w.heap.size) (o := 1) (Keeps.sc (b := w.heap.size) (o := 0) (Keeps.refl (fun b => b ≠ w.heap.size) wa) (by simp) (.int .i64 k')) (by simp) (.slice a1 its.length b1)) (by simp) (.slice a2 ps.length b2)) (by simp) (.slice a3 (tidyN ns).length b3)) (by simp) (.slice a4 cl.length b4)) (by simp) (.slice a5 lv.length b5)) (by simp) (.int .i64 co)) (by simp) (.int .i64 ev)) (below_sc (b := w.heap.size) (o := 7) (below_sc (b := w.heap.size) (o := 6) (below_sc (b := w.heap.size) (o := 5) (below_sc (b := w.heap.size) (o := 4) (below_sc (b := w.heap.size) (o := 3) (below_sc (b := w.heap.size) (o := 2) (below_sc (b := w.heap.size) (o := 1) (below_sc (b := w.heap.size) (o := 0) (Below.refl w.heap.size wa) (Nat.le_refl _) (.int .i64 k')) (Nat.le_refl _) (.slice a1 its.length b1)) (Nat.le_refl _) (.slice a2 ps.length b2)) (Nat.le_refl _) (.slice a3 (tidyN ns).length b3)) (Nat.le_refl _) (.slice a4 cl.length b4)) (Nat.le_refl _) (.slice a5 lv.length b5)) (Nat.le_refl _) (.int .i64 co)) (Nat.le_refl _) (.int .i64 ev)))
          · have hbl := (Below.refl wa.heap.size wa).alloc (Nat.le_refl _) (.cells (cls2.map fun s => Value.string (str s)).toArray 9)
            have HTA := Lib.hid (HT.out.step hbl)
            have HCB := Lib.hid (Blk.new wa 9 (cls2.map fun s => Value.string (str s)))
            clear hbl
            go_wp2_with fail
            refine Calls.mono (spec_l1Below g v l 2 _ (by exact BV.cur HTA.out.bc) HA.out (by omega) (by omega)) ?_
            rintro e wb ⟨x, rfl, hx0, hx1, hc, ho⟩
            obtain ⟨m2, rfl⟩ := Int.eq_ofNat_of_zero_le hx0
            have hm2 : 1 + m2 ≤ 2 := by omega
            have HTB := Lib.hid (HTA.out.next hgl hc ho)
            have HCC := Lib.hid (show Blk wb wa.heap.size 9 (cls2.map fun s => Value.string (str s)) from (ho.block _ HCB.out.lt (fun e => by injection e with e; have := (BV.bx HT.out.bc).lt; have := BV.lo HT.out.bc; omega)).trans HCB.out)
            have HST := Lib.hid (class_put HTB.out hgl HY.out HA.out HCC.out (1 + m2) hm2 (Nat.le_refl _))
            have hql := HCC.out.lt
            clear hc ho HTA HCB
            have y4 := (BV.bx HTB.out.bc).cell 4 _ rfl
            have f4 := (BV.bx HTB.out.bc).frozen 4
            go_upto_region 25 with fail
            clear y4 f4
            refine gen_w (G := SV g v l w bx [.int .i64 k', .slice a1 its.length b1, .slice a2 ps.length b2, .slice a3 (tidyN ns).length b3, .slice (some ⟨wa.heap.size, 0, none⟩) (1 + m2) 2, .slice a5 lv.length b5, .int .i64 co, .int .i64 ev] wb.heap.size (setC (setN (.mk k' its ps ns cl lv co ev) (tidyN ns)) (cls2.take (1 + m2)))) HST.out ?_
            intro wd hD
            have HD := Lib.hid (SV.rebase (show SV g v l w bx [.int .i64 k', .slice a1 its.length b1, .slice a2 ps.length b2, .slice a3 (tidyN ns).length b3, .slice (some ⟨wa.heap.size, 0, none⟩) (1 + m2) 2, .slice a5 lv.length b5, .int .i64 co, .int .i64 ev] wb.heap.size (setC (setN (.mk k' its ps ns cl lv co ev) (tidyN ns)) (cls2.take (1 + m2))) wd from hD))
            have HZD := Lib.hid (show szVector (setC (setN (.mk k' its ps ns cl lv co ev) (tidyN ns)) (cls2.take (1 + m2))) ≤ bd nest by
              have h1 := sz_setC (setN (.mk k' its ps ns cl lv co ev) (tidyN ns)) (cls2.take (1 + m2))
              have h2 := szL_cls2 (1 + m2)
              have := HZT.out
              omega)
            clear hD HST
            have y0 := (BV.bx HD.out.bc).cell 0 _ rfl
            have y1 := (BV.bx HD.out.bc).cell 1 _ rfl
            have y2 := (BV.bx HD.out.bc).cell 2 _ rfl
            have y3 := (BV.bx HD.out.bc).cell 3 _ rfl
            have y4 := (BV.bx HD.out.bc).cell 4 _ rfl
            have y5 := (BV.bx HD.out.bc).cell 5 _ rfl
            have y6 := (BV.bx HD.out.bc).cell 6 _ rfl
            have y7 := (BV.bx HD.out.bc).cell 7 _ rfl
            have r0 := (BV.res HD.out.bc).cell 0 _ rfl
            have r1 := (BV.res HD.out.bc).cell 1 _ rfl
            have r2 := (BV.res HD.out.bc).cell 2 _ rfl
            have r3 := (BV.res HD.out.bc).cell 3 _ rfl
            have r4 := (BV.res HD.out.bc).cell 4 _ rfl
            have r5 := (BV.res HD.out.bc).cell 5 _ rfl
            have r6 := (BV.res HD.out.bc).cell 6 _ rfl
            have r7 := (BV.res HD.out.bc).cell 7 _ rfl
            have z0 := (BV.res HD.out.bc).frozen 0
            have z1 := (BV.res HD.out.bc).frozen 1
            have z2 := (BV.res HD.out.bc).frozen 2
            have z3 := (BV.res HD.out.bc).frozen 3
            have z4 := (BV.res HD.out.bc).frozen 4
            have z5 := (BV.res HD.out.bc).frozen 5
            have z6 := (BV.res HD.out.bc).frozen 6
            have z7 := (BV.res HD.out.bc).frozen 7
            go_wp2_with fail
            exact bodyPost_ret (v := .agg #[.int .i64 k', .slice a1 its.length b1, .slice a2 ps.length b2, .slice a3 (tidyN ns).length b3, .slice (some ⟨wa.heap.size, 0, none⟩) (1 + m2) 2, .slice a5 lv.length b5, .int .i64 co, .int .i64 ev]) (by simp [results, Try.results85, go_sem, r0, r1, r2, r3, r4, r5, r6, r7]; try rfl) rfl (SV.done HD.out hgl HY.out HA.out HZD.out (Keeps.sc (b := w.heap.size) (o := 7) (Keeps.sc (b := w.heap.size) (o := 6) (Keeps.sc (b := w.heap.size) (o := 5) (Keeps.sc (b := w.heap.size) (o := 4) (Keeps.sc (b := w.heap.size) (o := 3) (Keeps.sc (b := w.heap.size) (o := 2) (Keeps.sc (b := w.heap.size) (o := 1) (Keeps.sc (b := w.heap.size) (o := 0) (Keeps.refl (fun b => b ≠ w.heap.size) wd) (by simp) (.int .i64 k')) (by simp) (.slice a1 its.length b1)) (by simp) (.slice a2 ps.length b2)) (by simp) (.slice a3 (tidyN ns).length b3)) (by simp) (.slice (some ⟨wa.heap.size, 0, none⟩) (1 + m2) 2)) (by simp) (.slice a5 lv.length b5)) (by simp) (.int .i64 co)) (by simp) (.int .i64 ev)) (below_sc (b := w.heap.size) (o := 7) (below_sc (b := w.heap.size) (o := 6) (below_sc (b := w.heap.size) (o := 5) (below_sc (b := w.heap.size) (o := 4) (below_sc (b := w.heap.size) (o := 3) (below_sc (b := w.heap.size) (o := 2) (below_sc (b := w.heap.size) (o := 1) (below_sc (b := w.heap.size) (o := 0) (Below.refl w.heap.size wd) (Nat.le_refl _) (.int .i64 k')) (Nat.le_refl _) (.slice a1 its.length b1)) (Nat.le_refl _) (.slice a2 ps.length b2)) (Nat.le_refl _) (.slice a3 (tidyN ns).length b3)) (Nat.le_refl _) (.slice (some ⟨wa.heap.size, 0, none⟩) (1 + m2) 2)) (Nat.le_refl _) (.slice a5 lv.length b5)) (Nat.le_refl _) (.int .i64 co)) (Nat.le_refl _) (.int .i64 ev)))
        · have y0 := (BV.bx HE.out.bc).cell 0 _ rfl
          have y1 := (BV.bx HE.out.bc).cell 1 _ rfl
          have y2 := (BV.bx HE.out.bc).cell 2 _ rfl
          have y3 := (BV.bx HE.out.bc).cell 3 _ rfl
          have y4 := (BV.bx HE.out.bc).cell 4 _ rfl
          have y5 := (BV.bx HE.out.bc).cell 5 _ rfl
          have y6 := (BV.bx HE.out.bc).cell 6 _ rfl
          have y7 := (BV.bx HE.out.bc).cell 7 _ rfl
          have r0 := (BV.res HE.out.bc).cell 0 _ rfl
          have r1 := (BV.res HE.out.bc).cell 1 _ rfl
          have r2 := (BV.res HE.out.bc).cell 2 _ rfl
          have r3 := (BV.res HE.out.bc).cell 3 _ rfl
          have r4 := (BV.res HE.out.bc).cell 4 _ rfl
          have r5 := (BV.res HE.out.bc).cell 5 _ rfl
          have r6 := (BV.res HE.out.bc).cell 6 _ rfl
          have r7 := (BV.res HE.out.bc).cell 7 _ rfl
          have z0 := (BV.res HE.out.bc).frozen 0
          have z1 := (BV.res HE.out.bc).frozen 1
          have z2 := (BV.res HE.out.bc).frozen 2
          have z3 := (BV.res HE.out.bc).frozen 3
          have z4 := (BV.res HE.out.bc).frozen 4
          have z5 := (BV.res HE.out.bc).frozen 5
          have z6 := (BV.res HE.out.bc).frozen 6
          have z7 := (BV.res HE.out.bc).frozen 7
          go_wp2_with fail
          exact bodyPost_ret (v := .agg #[.int .i64 k', .slice a1 its.length b1, .slice a2 ps.length b2, .slice a3 (tidyN ns).length b3, .slice a4 cl.length b4, .slice a5 lv.length b5, .int .i64 co, .int .i64 ev]) (by simp [results, Try.results85, go_sem, r0, r1, r2, r3, r4, r5, r6, r7]; try rfl) rfl (SV.done HE.out hgl HY.out HA.out (by have := HZT.out; omega) (Keeps.sc (b := w.heap.size) (o := 7) (Keeps.sc (b := w.heap.size) (o := 6) (Keeps.sc (b := w.heap.size) (o := 5) (Keeps.sc (b := w.heap.size) (o := 4) (Keeps.sc (b := w.heap.size) (o := 3) (Keeps.sc (b := w.heap.size) (o := 2) (Keeps.sc (b := w.heap.size) (o := 1) (Keeps.sc (b := w.heap.size) (o := 0) (Keeps.refl (fun b => b ≠ w.heap.size) we) (by simp) (.int .i64 k')) (by simp) (.slice a1 its.length b1)) (by simp) (.slice a2 ps.length b2)) (by simp) (.slice a3 (tidyN ns).length b3)) (by simp) (.slice a4 cl.length b4)) (by simp) (.slice a5 lv.length b5)) (by simp) (.int .i64 co)) (by simp) (.int .i64 ev)) (below_sc (b := w.heap.size) (o := 7) (below_sc (b := w.heap.size) (o := 6) (below_sc (b := w.heap.size) (o := 5) (below_sc (b := w.heap.size) (o := 4) (below_sc (b := w.heap.size) (o := 3) (below_sc (b := w.heap.size) (o := 2) (below_sc (b := w.heap.size) (o := 1) (below_sc (b := w.heap.size) (o := 0) (Below.refl w.heap.size we) (Nat.le_refl _) (.int .i64 k')) (Nat.le_refl _) (.slice a1 its.length b1)) (Nat.le_refl _) (.slice a2 ps.length b2)) (Nat.le_refl _) (.slice a3 (tidyN ns).length b3)) (Nat.le_refl _) (.slice a4 cl.length b4)) (Nat.le_refl _) (.slice a5 lv.length b5)) (Nat.le_refl _) (.int .i64 co)) (Nat.le_refl _) (.int .i64 ev)))
theorem spec_l4Draw (nest : Nat) (hn : nest ≤ 2) : ∀ (g : Nat) (v : Value) (l : List Nat) (w : World), Cur w g v l → Apart l.length g v → Calls Try.prog 85 #[.pointer (some ⟨g, 0, none⟩), .int .i64 nest] w (RetVecC g v l (bd nest) w) := by
  induction nest with
  | zero => exact spec_l4Draw_step 0 0 rfl (by omega) (by omega) (fun m h => by omega)
  | succ n ih =>
    intro g v l w hC ha
    exact spec_l4Draw_step (n + 1) ((n + 1 : Nat) : Int) rfl (by omega) (by omega) (fun m h => by
      obtain rfl : n = m := by omega
      exact ih (by omega)) g v l w hC ha
end Go.Proofs.Ytjdimlhdkmkmbaa
