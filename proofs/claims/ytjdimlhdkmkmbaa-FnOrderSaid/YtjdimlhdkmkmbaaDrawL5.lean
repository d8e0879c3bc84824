/-
  Contracts: what the laws of vectors draw: vectors of any kind, right or not; subscripts.
-/
import Derived.Test.YtjdimlhdkmkmbaaDrawL4
namespace Go.Proofs.Ytjdimlhdkmkmbaa
set_option maxRecDepth 100000
open Go.ChangeShapes Go.WideShapes Go.ChangeAt Go.RowKit Go.Deep
set_option linter.unusedVariables false

def kinds6v : List Int := [-1, 6, 0, 3, 1, -9223372036854775808]
theorem kinds6v_i64 : ∀ x ∈ kinds6v, I64 x := by
  intro x hx
  simp only [kinds6v, List.mem_cons, List.not_mem_nil, or_false] at hx
  rcases hx with rfl | rfl | rfl | rfl | rfl | rfl <;> exact ⟨by decide, by decide⟩
def two2 : List (List UInt8) := [[97], [97]]
def setK (d : VecD) (k co : Int) : VecD := .mk k d.items d.parts d.names d.cls d.levels co d.env
def setL (d : VecD) (l : List (List UInt8)) : VecD := .mk d.kind d.items d.parts d.names d.cls l d.code d.env
def setI (d : VecD) (l : List ItemD) : VecD := .mk d.kind l d.parts d.names d.cls d.levels d.code d.env
theorem sz_setK (d : VecD) (k co : Int) : szVector (setK d k co) = szVector d := by
  rw [szVector_eq, szVector_eq d]; rfl
theorem sz_setL (d : VecD) (l : List (List UInt8)) : szVector (setL d l) + szL d.levels = szVector d + szL l := by
  rw [szVector_eq, szVector_eq d]
  simp only [setL, VecD.items, VecD.parts, VecD.names, VecD.cls, VecD.levels]
  omega
theorem sz_pushI (d : VecD) (x : ItemD) (h : ItOk x) : szVector (setI d (d.items ++ [x])) ≤ szVector d + 101 := by
  have h2 := h.2.2
  rw [szVector_eq, szVector_eq d]
  simp only [setI, VecD.items, VecD.parts, VecD.names, VecD.cls, VecD.levels, szS, List.map_append, List.sum_append, List.length_append, List.map_cons, List.map_nil, List.sum_cons, List.sum_nil, List.length_cons, List.length_nil, szItem]
  omega
theorem sz_pushN (d : VecD) (s : List UInt8) : szVector (setN d (d.names ++ [s])) = szVector d + 1 + s.length := by
  rw [szVector_eq, szVector_eq d]
  simp only [setN, VecD.items, VecD.parts, VecD.names, VecD.cls, VecD.levels, szL, List.map_append, List.sum_append, List.length_append, List.map_cons, List.map_nil, List.sum_cons, List.sum_nil, List.length_cons, List.length_nil]
  omega
theorem lev_put {g : Nat} {v : Value} {l : List Nat} {w : World} {b q : Nat} {d : VecD} {W : World} {k co ev : Int} {v1 v2 v3 v4 : Value} {A : Option Addr} {n c : Nat} (h : SV g v l w b [.int .i64 k, v1, v2, v3, v4, .slice A n c, .int .i64 co, .int .i64 ev] q d W) (hg : g < w.heap.size) (hy : Bytes w v l) (ha : Apart l.length g v)
    {z : Nat} (hB : Blk W z 9 (two2.map fun s => Value.string (str s))) (hz : q ≤ z) :
    SV g v l w b [.int .i64 k, v1, v2, v3, v4, .slice (some ⟨z, 0, none⟩) 2 2, .int .i64 co, .int .i64 ev] W.heap.size (setL d two2) (W.setCell ⟨b, 5, none⟩ (.slice (some ⟨z, 0, none⟩) 2 2)) := by
  obtain ⟨S3, h3, rfl, hS3, hcl⟩ := h.st.ed5
  have hlt := hB.lt
  have hq := h.qs
  have hrq := h.rq
  have hlo := BV.lo h.bc
  have t := txtO_take two2 2 rfl hB 2 (Nat.le_refl _) (by omega) (by decide)
  have hv := hcl W (fun x => Rng (w.heap.size + 1) W.heap.size x ∧ x ≠ b) (fun x => x = z) (some ⟨z, 0, none⟩) 2 two2 (Keeps.refl _ _) t (fun x hx => by subst hx; exact ⟨⟨⟨by omega, hlt⟩, by omega⟩, .inr fun hs => by have := hs.1.2; omega⟩) (fun x hx _ => ⟨⟨hx.1.1, by have := hx.1.2; omega⟩, hx.2⟩)
  exact SV.put h.bc hg hy ha 5 _ hv
/-- what the edits of a draw leave in the box -/
def AnyV (g : Nat) (v : Value) (l : List Nat) (w : World) (bx : Nat) (B : Nat) (W : World) : Prop :=
  ∃ (d : VecD) (A1 A2 A3 A4 A5 : Option Addr) (c1 c2 c3 c4 c5 : Nat), SV g v l w bx [.int .i64 d.kind, .slice A1 d.items.length c1, .slice A2 d.parts.length c2, .slice A3 d.names.length c3, .slice A4 d.cls.length c4, .slice A5 d.levels.length c5, .int .i64 d.code, .int .i64 d.env] W.heap.size d W ∧ szVector d ≤ B
theorem anyV_mk {g : Nat} {v : Value} {l : List Nat} {w : World} {bx B : Nat} {W : World} {cs : List Value} {d : VecD} {q : Nat} (h : SV g v l w bx cs q d W) (hz : szVector d ≤ B) : AnyV g v l w bx B W := by
  obtain ⟨A1, c1, A2, c2, A3, c3, A4, c4, A5, c5, rfl⟩ := h.st.shape
  exact ⟨d, A1, A2, A3, A4, A5, c1, c2, c3, c4, c5, h.rebase, hz⟩

set_option maxHeartbeats 16000000 in
theorem spec_l4Any (g : Nat) (v : Value) (l : List Nat) (w : World) (hC : Cur w g v l) (ha : Apart l.length g v) :
    Calls Try.prog 37 #[.pointer (some ⟨g, 0, none⟩)] w (RetVecC g v l 300000 w) := by
  have hgl := Cur.lt_ hC
  have HA := Lib.hid ha
  have HY := Lib.hid (show Bytes w v l from by obtain ⟨_, _, _, _, _, h⟩ := hC; exact h)
  have hb0 := (Below.refl w.heap.size w).alloc (Nat.le_refl _) (.cells nvZ.toArray 28)
  have HV := Lib.hid (show VS0 g v l w (w.alloc (.cells nvZ.toArray 28)) from ⟨Cur.below_ hC hb0, Blk.new w 28 nvZ, Only.of_below hb0⟩)
  have hsw : (w.alloc (.cells nvZ.toArray 28)).heap.size = w.heap.size + 1 := by simp
  have HSW := Lib.hid hsw
  clear hC ha hb0 hsw
  go_enter Try.func37, Try.ntmps37
  go_wp2_with fail
  refine Calls.mono (spec_l4Draw 2 (by omega) g v l _ (by exact HV.out.cur) HA.out) ?_
  rintro e w1 ⟨cs1, d, rfl, hV, hz, hc, ho⟩
  obtain ⟨A1, c1, A2, c2, A3, c3, A4, c4, A5, c5, rfl⟩ := hV.shape
  have HV1 := Lib.hid (HV.out.next hgl hc ho)
  have HZ := Lib.hid hz
  have HS := Lib.hid (SV.make HV1.out.cur HV1.out.r HV1.out.only (hV.mono (S' := Rng (w.heap.size + 1) w1.heap.size) fun x hx => ⟨by have := hx.1; rw [← HSW.out]; exact this, hx.2⟩) HV1.out.r.lt)
  clear hc ho HV HV1 hV hz
  go_upto_region 2 with fail
  generalize hbx : w1.heap.size = bx at HS ⊢
  clear hbx
  refine gen_w (G := SV g v l w bx [.int .i64 d.kind, .slice A1 d.items.length c1, .slice A2 d.parts.length c2, .slice A3 d.names.length c3, .slice A4 d.cls.length c4, .slice A5 d.levels.length c5, .int .i64 d.code, .int .i64 d.env] (bx + 1) d) HS.out ?_
  intro w3 HX3
  have HS3 := Lib.hid (SV.rebase (show SV g v l w bx [.int .i64 d.kind, .slice A1 d.items.length c1, .slice A2 d.parts.length c2, .slice A3 d.names.length c3, .slice A4 d.cls.length c4, .slice A5 d.levels.length c5, .int .i64 d.code, .int .i64 d.env] (bx + 1) d w3 from HX3))
  clear HX3 HS
  go_wp2_with fail
  refine Calls.mono (spec_l1Below g v l 30 _ (BV.cur HS3.out.bc) HA.out (by omega) (by omega)) ?_
  rintro e w4 ⟨t, rfl, ht0, ht1, hc, ho⟩
  have HS4 := Lib.hid ((HS3.out.next hgl hc ho).rebase)
  clear hc ho HS3
  have HIK := Lib.hid HS4.out.st.kinds
  have hnl : d.names.length ≤ 300000 := by
    have h1 := szVector_eq d
    have h2 := szL_length d.names
    have h3 := HZ.out
    have h4 : bd 2 = 200000 := rfl
    omega
  have hil : d.items.length ≤ 300000 := by
    have h1 := sz_len d
    have h3 := HZ.out
    have h4 : bd 2 = 200000 := rfl
    omega
  go_upto_block 0 with fail
  go_cut [] from 8 to 41 (fun wx => Hid (AnyV g v l w bx 300000 wx))
  case first =>
    have hb2 : bd 2 = 200000 := rfl
    by_cases t0 : t = 0
    · subst t0
      have HI := Lib.hid (ints_lit (W := w4) kinds6v 6 rfl (by decide) kinds6v_i64)
      have HAP := Lib.hid (apart_lit (W := w4) (g := g) (n := 6) (m := 6) (c := 6) (Cur.lt_ (BV.cur HS4.out.bc)))
      have HSA := Lib.hid (HS4.out.step ((Below.refl _ _).alloc (Nat.le_refl _) (.cells (kinds6v.map fun x => Value.int .i64 x).toArray 3)))
      go_wp2_with fail
      refine Calls.mono (spec_l1PickInt g v l _ kinds6v _ (by exact BV.cur HSA.out.bc) HA.out (by exact HI.out) (by exact HAP.out) (by decide) (by decide)) ?_
      rintro e w5 ⟨y, rfl, hy, hc, ho⟩
      have HS5 := Lib.hid ((HSA.out.next hgl hc ho).rebase)
      have HYI := Lib.hid hy
      clear hc ho HI HAP HSA hy
      have y0 := (BV.bx HS5.out.bc).cell 0 _ rfl
      have f0 := (BV.bx HS5.out.bc).frozen 0
      go_wp2_with fail
      go_meet
      case rel => exact anyV_mk (d := setK d y d.code) (SV.put HS5.out.bc hgl HY.out HA.out 0 (.int .i64 y) (VecO.edk HS5.out.st y d.code HYI.out HIK.out.2.2.2.2.1)) (by rw [sz_setK]; have := HZ.out; omega)
    by_cases t1 : t = 1
    · subst t1
      obtain ⟨xs, hown, hrow, hpush⟩ := HS4.out.pushN hgl HY.out HA.out [122] (by decide)
      have hlw := BV.lo HS4.out.bc
      have hlt7 := (BV.bx HS4.out.bc).lt
      have y3 := (BV.bx HS4.out.bc).cell 3 _ rfl
      have HG := Lib.hid HS4.out.bc
      have HPU := Lib.hid hpush
      have HRO := Lib.hid hrow
      have hwl : w.heap.size + 1 ≤ w4.heap.size := by omega
      clear hpush hrow
      go_wp2_with (at_builtin; go_must (refine wpList_push rfl _ _ 26 rfl (w.heap.size + 1) 9 (.string ByteArray.empty) 1 16 Try.underlying26 info_strD rfl (by decide) _ _ _ _ _ rfl rfl (by exact hown) rfl (by simp [Value.oneCell']) (by omega) (by omega) hwl ?_); intro v1 w6 ho1 hg1 hk1 hb1; obtain ⟨A6, c6, rfl⟩ := own_shapeN ho1; have HS6 := Lib.hid (HPU.out A6 c6 w6 ho1 hg1 hk1 hb1); have g6 := BV.grow HG.out hgl HY.out HA.out hb1 hg1 HRO.out; have y6 := (BV.bx g6).cell 3 _ rfl; have f6 := (BV.bx g6).frozen 3; clear ho1 hg1 hk1 hb1)
      go_meet
      case rel => exact anyV_mk (d := setN d (d.names ++ [[122]])) HS6.out (by rw [sz_pushN]; have := HZ.out; simp only [List.length_cons, List.length_nil]; omega)
    by_cases t2 : t = 2
    · subst t2
      have t1' := fun W (h : Ok (BV g v l w bx [.int .i64 d.kind, .slice A1 d.items.length c1, .slice A2 d.parts.length c2, .slice A3 d.names.length c3, .slice A4 d.cls.length c4, .slice A5 d.levels.length c5, .int .i64 d.code, .int .i64 d.env]) W) => (BV.bx h).cell 1 _ rfl
      go_wp2_with fail
      have g1 : Ok (BV g v l w bx [.int .i64 d.kind, .slice A1 d.items.length c1, .slice A2 d.parts.length c2, .slice A3 d.names.length c3, .slice A4 d.cls.length c4, .slice A5 d.levels.length c5, .int .i64 d.code, .int .i64 d.env]) w4.drew := BV.step HS4.out.bc (Below.drew (Below.refl _ _))
      have HS5 := Lib.hid (HS4.out.step (Below.drew (Below.refl _ _)))
      refine wp_region_phase (T := Ok (BV g v l w bx [.int .i64 d.kind, .slice A1 d.items.length c1, .slice A2 d.parts.length c2, .slice A3 d.names.length c3, .slice A4 d.cls.length c4, .slice A5 d.levels.length c5, .int .i64 d.code, .int .i64 d.env])) (by kernel_rfl) [(2, 0), (1, 1), (2, 2), (0, 3), (0, 4), (0, 5), (2, 6), (0, 7)] [7] (by kernel_rfl) g1 ?_
      repeat ((first | (refine dynL_take rfl rfl (fun W g => by go_simp; rfl) ?_) | (refine dynL_pure rfl rfl (fun W => by go_simp; rfl) ?_)); go_simp)
      refine dynL_act rfl rfl (fun K hK => ?_)
      go_wp2_with fail
      refine Calls.mono (spec_l2Any g v l _ (BV.cur g1) HA.out) ?_
      rintro e w7 ⟨x, rfl, hx, hc, ho⟩
      have HS7 := Lib.hid ((HS5.out.next hgl hc ho).rebase)
      have HX := Lib.hid hx
      have g2 := HS7.out.bc
      clear hc ho hx g1 HS5
      simp only []
      refine hK.out _ _ g2 ?_
      clear hK
      go_simp
      repeat ((first | (refine dynL_take rfl rfl (fun W g => by go_simp; rfl) ?_) | (refine dynL_pure rfl rfl (fun W => by go_simp; rfl) ?_)); go_simp)
      refine dynL_act rfl rfl (fun K hK => ?_)
      go_wp2_with fail
      refine hK.out _ _ (BV.step g2 ((Below.refl _ _).alloc (Nat.le_refl _) _)) ?_
      clear hK
      refine dynL_act rfl rfl (fun K hK => ?_)
      have hlw := BV.lo g2
      have hlt7 := (BV.bx g2).lt
      obtain ⟨xs, hown, hrow, hpush⟩ := HS7.out.pushI hgl HY.out HA.out x HX.out
      refine wp_push (.tmp 24) (.tmp 27) 24 rfl (w.heap.size + 1) 36 (.agg #[.int .i64 0, .int .i64 0, .string ByteArray.empty]) 3 32 Try.underlying24 info_Item rfl (by decide) w7 (.slice A1 d.items.length c1) d.items.length xs #[.int .i64 x.num, .int .i64 x.den, .string (str x.text)] rfl rfl hown rfl (by simp [Value.oneCell']) (by omega) (by omega) (by omega) ?_
      intro v1 w8 ho8 hg8 hk8 hb8
      obtain ⟨A8, c8, rfl⟩ := own_shapeN ho8
      have HS8 := Lib.hid (hpush A8 c8 w8 ho8 hg8 hk8 hb8)
      have g3 := BV.grow g2 hgl HY.out HA.out hb8 hg8 hrow
      clear hown hrow hpush ho8 hg8 hk8 hb8 hlw hlt7 HS7 g2
      refine hK.out _ _ g3 ?_
      clear hK
      go_simp
      repeat ((first | (refine dynL_take rfl rfl (fun W g => by go_simp; rfl) ?_) | (refine dynL_pure rfl rfl (fun W => by go_simp; rfl) ?_)); go_simp)
      have y1 := (BV.bx g3).cell 1 _ rfl
      have f1 := (BV.bx g3).frozen 1
      refine dynL_last rfl (by simp) rfl (fun K hK => ?_)
      go_wp2_with fail
      refine hK.out _ _ ?_
      clear hK
      refine dynL_done ?_
      go_wp2_with fail
      go_meet
      case rel => exact anyV_mk (d := setI d (d.items ++ [x])) HS8.out (by have := sz_pushI d x HX.out; have := HZ.out; omega)
    by_cases t3 : t = 3
    · subst t3
      have hbl := (Below.refl w4.heap.size w4).alloc (Nat.le_refl _) (.cells (two2.map fun s => Value.string (str s)).toArray 9)
      have HSA := Lib.hid (HS4.out.step hbl)
      have HCB := Lib.hid (Blk.new w4 9 (two2.map fun s => Value.string (str s)))
      have hlt7 := (BV.bx HS4.out.bc).lt
      have hP := lev_put HSA.out hgl HY.out HA.out HCB.out (Nat.le_refl _)
      rw [World.setCell_alloc_past _ _ _ _ hlt7] at hP
      have HP := Lib.hid hP
      clear hP
      have y5 := (BV.bx HS4.out.bc).cell 5 _ rfl
      have f5 := (BV.bx HS4.out.bc).frozen 5
      clear hbl
      go_wp2_with fail
      go_meet
      case rel =>
        have h1 := sz_setL d two2
        have h2 : szL two2 = 4 := by decide
        exact anyV_mk (d := setL d two2) HP.out (by have := HZ.out; omega)
    by_cases t4 : t = 4
    · subst t4
      have y6 := (BV.bx HS4.out.bc).cell 6 _ rfl
      have f6 := (BV.bx HS4.out.bc).frozen 6
      go_wp2_with fail
      go_meet
      case rel => exact anyV_mk (d := setK d d.kind 1) (SV.put HS4.out.bc hgl HY.out HA.out 6 (.int .i64 1) (VecO.edk HS4.out.st d.kind 1 HIK.out.2.2.2.1 i64o_)) (by rw [sz_setK]; have := HZ.out; omega)
    by_cases t5 : t = 5
    · subst t5
      go_wp2_with fail
      refine Calls.mono (spec_l4Atom g v l 2 41 _ (BV.cur HS4.out.bc) HA.out ⟨by decide, by decide⟩ (by omega)) ?_
      rintro e w6 ⟨U, q, its, rfl, hV, hl, hi, hc, ho⟩
      have HS6 := Lib.hid (HS4.out.next hgl hc ho)
      have HVV := Lib.hid (hV.mono (S' := fun x => Rng (w.heap.size + 1) w6.heap.size x ∧ x ≠ bx) fun x hx => ⟨⟨by have := hx.1; have := HS4.out.rq; have := BV.lo HS4.out.bc; omega, hx.2⟩, by have := hx.1; have := HS4.out.rq; omega⟩)
      have HZ2 := Lib.hid (show szVector (atV 2 its) ≤ 300000 by have := sz_atV (kd := 2) hi; omega)
      clear hc ho hV hi
      have y0 := (BV.bx HS6.out.bc).cell 0 _ rfl
      have y1 := (BV.bx HS6.out.bc).cell 1 _ rfl
      have y2 := (BV.bx HS6.out.bc).cell 2 _ rfl
      have y3 := (BV.bx HS6.out.bc).cell 3 _ rfl
      have y4 := (BV.bx HS6.out.bc).cell 4 _ rfl
      have y5 := (BV.bx HS6.out.bc).cell 5 _ rfl
      have y6 := (BV.bx HS6.out.bc).cell 6 _ rfl
      have y7 := (BV.bx HS6.out.bc).cell 7 _ rfl
      have f0 := (BV.bx HS6.out.bc).frozen 0
      have f1 := (BV.bx HS6.out.bc).frozen 1
      have f2 := (BV.bx HS6.out.bc).frozen 2
      have f3 := (BV.bx HS6.out.bc).frozen 3
      have f4 := (BV.bx HS6.out.bc).frozen 4
      have f5 := (BV.bx HS6.out.bc).frozen 5
      have f6 := (BV.bx HS6.out.bc).frozen 6
      have f7 := (BV.bx HS6.out.bc).frozen 7
      go_wp2_with fail
      go_meet
      case rel => exact anyV_mk (SV.set8 HS6.out.bc rfl hgl HY.out HA.out HVV.out) HZ2.out
    · go_wp2_with fail
      go_meet
      case rel => exact anyV_mk HS4.out (by have := HZ.out; omega)
  case rest =>
  obtain ⟨d9, B1, B2, B3, B4, B5, b1, b2, b3, b4, b5, hS9, hZ9⟩ := hcut.out
  have HS9 := Lib.hid hS9
  have HZ9 := Lib.hid hZ9
  clear hS9 hZ9 hcut HS4 HIK hnl hil
  obtain ⟨w9, hw9⟩ : ∃ w9, w9 = wc := ⟨_, rfl⟩
  rw [← hw9] at HS9 ⊢
  clear hw9
  have y0 := (BV.bx HS9.out.bc).cell 0 _ rfl
  have y1 := (BV.bx HS9.out.bc).cell 1 _ rfl
  have y2 := (BV.bx HS9.out.bc).cell 2 _ rfl
  have y3 := (BV.bx HS9.out.bc).cell 3 _ rfl
  have y4 := (BV.bx HS9.out.bc).cell 4 _ rfl
  have y5 := (BV.bx HS9.out.bc).cell 5 _ rfl
  have y6 := (BV.bx HS9.out.bc).cell 6 _ rfl
  have y7 := (BV.bx HS9.out.bc).cell 7 _ rfl
  have r0 := (BV.res HS9.out.bc).cell 0 _ rfl
  have r1 := (BV.res HS9.out.bc).cell 1 _ rfl
  have r2 := (BV.res HS9.out.bc).cell 2 _ rfl
  have r3 := (BV.res HS9.out.bc).cell 3 _ rfl
  have r4 := (BV.res HS9.out.bc).cell 4 _ rfl
  have r5 := (BV.res HS9.out.bc).cell 5 _ rfl
  have r6 := (BV.res HS9.out.bc).cell 6 _ rfl
  have r7 := (BV.res HS9.out.bc).cell 7 _ rfl
  have z0 := (BV.res HS9.out.bc).frozen 0
  have z1 := (BV.res HS9.out.bc).frozen 1
  have z2 := (BV.res HS9.out.bc).frozen 2
  have z3 := (BV.res HS9.out.bc).frozen 3
  have z4 := (BV.res HS9.out.bc).frozen 4
  have z5 := (BV.res HS9.out.bc).frozen 5
  have z6 := (BV.res HS9.out.bc).frozen 6
  have z7 := (BV.res HS9.out.bc).frozen 7
  go_wp2_with fail
  exact bodyPost_ret (v := .agg #[.int .i64 d9.kind, .slice B1 d9.items.length b1, .slice B2 d9.parts.length b2, .slice B3 d9.names.length b3, .slice B4 d9.cls.length b4, .slice B5 d9.levels.length b5, .int .i64 d9.code, .int .i64 d9.env]) (by simp [results, Try.results37, go_sem, r0, r1, r2, r3, r4, r5, r6, r7]; try rfl) rfl (SV.done HS9.out hgl HY.out HA.out HZ9.out (Keeps.sc (b := w.heap.size) (o := 7) (Keeps.sc (b := w.heap.size) (o := 6) (Keeps.sc (b := w.heap.size) (o := 5) (Keeps.sc (b := w.heap.size) (o := 4) (Keeps.sc (b := w.heap.size) (o := 3) (Keeps.sc (b := w.heap.size) (o := 2) (Keeps.sc (b := w.heap.size) (o := 1) (Keeps.sc (b := w.heap.size) (o := 0) (Keeps.refl (fun b => b ≠ w.heap.size) w9) (by simp) (.int .i64 d9.kind)) (by simp) (.slice B1 d9.items.length b1)) (by simp) (.slice B2 d9.parts.length b2)) (by simp) (.slice B3 d9.names.length b3)) (by simp) (.slice B4 d9.cls.length b4)) (by simp) (.slice B5 d9.levels.length b5)) (by simp) (.int .i64 d9.code)) (by simp) (.int .i64 d9.env)) (below_sc (b := w.heap.size) (o := 7) (below_sc (b := w.heap.size) (o := 6) (below_sc (b := w.heap.size) (o := 5) (below_sc (b := w.heap.size) (o := 4) (below_sc (b := w.heap.size) (o := 3) (below_sc (b := w.heap.size) (o := 2) (below_sc (b := w.heap.size) (o := 1) (below_sc (b := w.heap.size) (o := 0) (Below.refl w.heap.size w9) (Nat.le_refl _) (.int .i64 d9.kind)) (Nat.le_refl _) (.slice B1 d9.items.length b1)) (Nat.le_refl _) (.slice B2 d9.parts.length b2)) (Nat.le_refl _) (.slice B3 d9.names.length b3)) (Nat.le_refl _) (.slice B4 d9.cls.length b4)) (Nat.le_refl _) (.slice B5 d9.levels.length b5)) (Nat.le_refl _) (.int .i64 d9.code)) (Nat.le_refl _) (.int .i64 d9.env)))
end Go.Proofs.Ytjdimlhdkmkmbaa
