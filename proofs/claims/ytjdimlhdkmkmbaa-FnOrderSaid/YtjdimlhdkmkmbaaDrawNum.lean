/-
  Contracts: what the laws of stores draw: numbers.
-/
import Derived.Test.YtjdimlhdkmkmbaaKDraw
import Derived.Test.YtjdimlhdkmkmbaaKOk
import Derived.Test.YtjdimlhdkmkmbaaStCopy
namespace Go.Proofs.Ytjdimlhdkmkmbaa
set_option maxRecDepth 100000
open Go.ChangeShapes Go.WideShapes Go.ChangeAt Go.RowKit Go.Deep
set_option linter.unusedVariables false

/-- what a number's numerator and denominator may be -/
def NB (n : Int) : Prop := -999999999 ≤ n ∧ n ≤ 999999999
theorem NB.i64 {n : Int} (h : NB n) : I64 n := by unfold NB at h; unfold I64; omega
def RetNum (w : World) (e : Ending) (w' : World) : Prop := ∃ n d : Int, e = .returned (Value.agg #[.int .i64 n, .int .i64 d, .string ByteArray.empty]) ∧ NB n ∧ NB d ∧ Below w.heap.size w w'

/-- the reduced fraction, or 0/0 -/
def mkG (n d : Int) : Int := if d < 0 then -(Int.gcd n d : Int) else (Int.gcd n d : Int)
def mkN (n d : Int) : Int × Int :=
  if d ≠ 0 ∧ (-4000000000000000000 ≤ n ∧ n ≤ 4000000000000000000) ∧ (-4000000000000000000 ≤ d ∧ d ≤ 4000000000000000000) then
    if (-999999999 ≤ n.tdiv (mkG n d) ∧ n.tdiv (mkG n d) ≤ 999999999) ∧ d.tdiv (mkG n d) ≤ 999999999 then (n.tdiv (mkG n d), d.tdiv (mkG n d)) else (0, 0)
  else (0, 0)
def RetMk (w : World) (n d : Int) (e : Ending) (w' : World) : Prop := e = .returned (Value.agg #[.int .i64 (mkN n d).1, .int .i64 (mkN n d).2, .string ByteArray.empty]) ∧ Below w.heap.size w w'
theorem RetMk.yes {w w' : World} {n d q r : Int} (h : d ≠ 0 ∧ (-4000000000000000000 ≤ n ∧ n ≤ 4000000000000000000) ∧ (-4000000000000000000 ≤ d ∧ d ≤ 4000000000000000000)) (hq : q = n.tdiv (mkG n d)) (hr : r = d.tdiv (mkG n d)) (h2 : (-999999999 ≤ q ∧ q ≤ 999999999) ∧ ¬ 999999999 < r) (hb : Below w.heap.size w w') :
    RetMk w n d (.returned (Value.agg #[.int .i64 q, .int .i64 r, .string ByteArray.empty])) w' := by
  subst hq hr
  unfold RetMk mkN
  rw [if_pos h, if_pos ⟨h2.1, by omega⟩]
  exact ⟨rfl, hb⟩
theorem RetMk.no {w w' : World} {n d q r : Int} (hq : q = n.tdiv (mkG n d)) (hr : r = d.tdiv (mkG n d)) (h2 : ¬ ((-999999999 ≤ q ∧ q ≤ 999999999) ∧ ¬ 999999999 < r)) (hb : Below w.heap.size w w') :
    RetMk w n d (.returned (Value.agg #[.int .i64 0, .int .i64 0, .string ByteArray.empty])) w' := by
  subst hq hr
  unfold RetMk mkN
  split
  · rw [if_neg (fun h => h2 ⟨h.1, by omega⟩)]
    exact ⟨rfl, hb⟩
  · exact ⟨rfl, hb⟩

set_option maxHeartbeats 1000000 in
theorem spec_MakeNumber_no (n d : Int) (w : World) (hn : I64 n) (hd : I64 d) (h : ¬ (d ≠ 0 ∧ (-4000000000000000000 ≤ n ∧ n ≤ 4000000000000000000) ∧ (-4000000000000000000 ≤ d ∧ d ≤ 4000000000000000000))) :
    Calls Try.prog 62 #[.int .i64 n, .int .i64 d] w (RetMk w n d) := by
  by_cases h0 : d = 0 <;> by_cases h1 : -4000000000000000000 ≤ n ∧ n ≤ 4000000000000000000 <;> by_cases h2 : -4000000000000000000 ≤ d ∧ d ≤ 4000000000000000000
  all_goals try (exfalso; first | exact h ⟨h0, h1, h2⟩ | omega)
  all_goals
    go_enter Try.func62, Try.ntmps62
    go_wp2_with (first | (go_at_call 54; refine (spec_l1In_t _ _ _ _ (by omega) (by omega)).mono ?_; rintro e w' ⟨rfl, rfl⟩) | (go_at_call 54; refine (spec_l1In_f _ _ _ _ (by omega)).mono ?_; rintro e w' ⟨rfl, rfl⟩))
  all_goals
    exact bodyPost_ret (v := .agg #[.int .i64 0, .int .i64 0, .string ByteArray.empty]) (by simp [results, Try.results62, go_sem]; try rfl) rfl (by unfold RetMk mkN; rw [if_neg h]; exact ⟨rfl, (Below.refl _ _).alloc (Nat.le_refl _) _⟩)

/-- what the operations of MakeNumber's region yield -/
def mnR (n d h q r : Int) (B : Nat) : Nat → (Nat → Nat → Prop) → (Nat → Value) → World → Prop
  | 0, _, vs, _ => vs 0 = .int .i64 n
  | 1, _, vs, _ => vs 1 = .int .i64 h
  | 2, _, vs, _ => vs 2 = .int .i64 q
  | 3, _, vs, _ => vs 3 = .int .i64 d
  | 4, _, vs, _ => vs 4 = .int .i64 h
  | 5, _, vs, _ => vs 5 = .int .i64 r
  | 6, _, vs, _ => vs 6 = .agg #[.int .i64 q, .int .i64 r, .string ByteArray.empty]
  | 7, _, vs, W => ∃ b, vs 7 = .pointer (some ⟨b, 0, none⟩) ∧ Blk W b 36 [.int .i64 0, .int .i64 0, .string ByteArray.empty] ∧ B < b
  | _, _, _, _ => True
theorem mnK (n d h q r : Int) (B : Nat) (i : Nat) (T T' : Nat → Nat → Prop) (vs vs' : Nat → Value) (W W' : World) (hv : ∀ j ∈ [i], vs' j = vs j) (_hT : ∀ l b, T l b → T' l b) (hb : Below W.heap.size W W') (h0 : mnR n d h q r B i T vs W) : mnR n d h q r B i T' vs' W' :=
  match i, hv, h0 with
  | 0, hv, h => (hv 0 (List.mem_cons_self)).trans h
  | 1, hv, h => (hv 1 (List.mem_cons_self)).trans h
  | 2, hv, h => (hv 2 (List.mem_cons_self)).trans h
  | 3, hv, h => (hv 3 (List.mem_cons_self)).trans h
  | 4, hv, h => (hv 4 (List.mem_cons_self)).trans h
  | 5, hv, h => (hv 5 (List.mem_cons_self)).trans h
  | 6, hv, h => (hv 6 (List.mem_cons_self)).trans h
  | 7, hv, ⟨b, e, o, l⟩ => ⟨b, (hv 7 List.mem_cons_self).trans e, o.below hb, l⟩
  | _ + 8, _, _ => trivial
theorem I64.quo {n g : Int} (hn : -4000000000000000000 ≤ n ∧ n ≤ 4000000000000000000) : -4000000000000000000 ≤ n.tdiv g ∧ n.tdiv g ≤ 4000000000000000000 := by
  have h : (n.tdiv g).natAbs = n.natAbs / g.natAbs := Int.natAbs_tdiv n g
  have h2 := Nat.div_le_self n.natAbs g.natAbs
  omega

set_option maxHeartbeats 2000000 in
theorem spec_MakeNumber_yes (n d : Int) (w : World) (h0 : d ≠ 0) (hn : -4000000000000000000 ≤ n ∧ n ≤ 4000000000000000000) (hd : -4000000000000000000 ≤ d ∧ d ≤ 4000000000000000000) :
    Calls Try.prog 62 #[.int .i64 n, .int .i64 d] w (RetMk w n d) := by
  have hg : (Int.gcd n d : Int) ≠ 0 := by
    intro h
    have := Int.gcd_eq_zero_iff.1 (Int.ofNat.inj h)
    exact h0 this.2
  have hgl : (Int.gcd n d : Int) ≤ 4000000000000000000 := by
    have h1 : Nat.gcd n.natAbs d.natAbs ≤ d.natAbs := Nat.gcd_le_right _ (by omega)
    have h2 : Int.gcd n d = Nat.gcd n.natAbs d.natAbs := rfl
    omega
  have hG0 : 0 ≤ (Int.gcd n d : Int) := by omega
  have HM := Lib.hid (show mkG n d = if d < 0 then -(Int.gcd n d : Int) else (Int.gcd n d : Int) from rfl)
  generalize hG : (Int.gcd n d : Int) = G at hg hgl hG0 HM
  by_cases hs : d < 0
  · go_enter Try.func62, Try.ntmps62
    go_upto_region 6 with (first | (go_at_call 54; refine (spec_l1In_t _ _ _ _ (by omega) (by omega)).mono ?_; rintro e w' ⟨rfl, rfl⟩) | (go_at_call 104; refine (spec_l2Gcd _ _ _ (by constructor <;> omega) (by constructor <;> omega)).mono ?_; rw [hG]; rintro e w' ⟨rfl, rfl⟩))
    obtain ⟨h, hh⟩ : ∃ h : Int, h = -G := ⟨_, rfl⟩
    rw [← hh]
    have hh0 : h ≠ 0 := by omega
    have HE := Lib.hid (show mkG n d = h from (HM.out.trans (if_pos hs)).trans hh.symm)
    clear hh
    have hq := I64.quo (g := h) hn
    have hr := I64.quo (g := h) hd
    obtain ⟨q, hQ⟩ : ∃ q, q = n.tdiv h := ⟨_, rfl⟩
    obtain ⟨r, hR⟩ : ∃ r, r = d.tdiv h := ⟨_, rfl⟩
    rw [← hQ] at hq
    rw [← hR] at hr
    have HQE := Lib.hid (show q = n.tdiv (mkG n d) from hQ.trans (by rw [HE.out]))
    have HRE := Lib.hid (show r = d.tdiv (mkG n d) from hR.trans (by rw [HE.out]))
    have HQ0 := Lib.hid hQ
    have HR0 := Lib.hid hR
    clear hQ hR
    refine gen_w (G := fun W => Blk W w.heap.size 36 [.int .i64 0, .int .i64 0, .string ByteArray.empty] ∧ Below w.heap.size w W ∧ w.heap.size < W.heap.size) (show Ok _ _ from ⟨Blk.new _ _ _, (Below.refl _ _).alloc (Nat.le_refl _) _, by simp⟩) ?_
    intro W0 g0
    refine wp_region_free (by kernel_rfl) (by kernel_rfl) (fun W => Blk W w.heap.size 36 [.int .i64 0, .int .i64 0, .string ByteArray.empty] ∧ Below w.heap.size w W ∧ w.heap.size < W.heap.size) (fun _ => 0) (fun i => [i]) (mnR n d h q r w.heap.size) (fun vs => ⟨#[.int .i64 n, .int .i64 d, undef, undef, .pointer (some ⟨w.heap.size, 0, none⟩), .int .i64 h, vs 7, .int .i64 d, .bool false, .bool false, .int .i64 n, .bool true, .bool false, .bool false, .bool false, .int .i64 d, .bool true, .bool false, .bool false, undef, .int .i64 n, .int .i64 d, .int .i64 G, .int .i64 d, .bool true, .int .i64 G, .int .i64 h, vs 0, vs 1, vs 2, vs 3, vs 4, vs 5, vs 6, undef, undef, undef, undef, undef, undef, undef, undef, undef, undef, undef], []⟩) (fun vs => by kernel_rfl) (by kernel_rfl) ⟨g0.1, g0.2.1.drew, g0.2.2⟩ (mnK n d h q r w.heap.size) ?_ ?_
    · intro i o ho hi vs T W hS hd'
      have h9 : i + 1 < 9 := by simpa using hi
      have hi' : i = 0 ∨ i = 1 ∨ i = 2 ∨ i = 3 ∨ i = 4 ∨ i = 5 ∨ i = 6 ∨ i = 7 := by omega
      clear h9 hi
      rcases hi' with rfl | rfl | rfl | rfl | rfl | rfl | rfl | rfl
      · obtain rfl := Option.some.inj ho
        exact oper_ok (by go_simp) ⟨_, rfl, Below.refl _ _, hS, upd_same _ _ _⟩
      · obtain rfl := Option.some.inj ho
        exact oper_ok (by go_simp) ⟨_, rfl, Below.refl _ _, hS, upd_same _ _ _⟩
      · obtain rfl := Option.some.inj ho
        have e0 : vs 0 = _ := hd' ⟨0, .data⟩ (by simp) rfl
        have e1 : vs 1 = _ := hd' ⟨1, .data⟩ (by simp) rfl
        exact oper_ok (v := .int .i64 q) (w' := W) (by go_simp; rw [← HQ0.out]; first | rfl | exact IntWalk.i64_in _ (by omega)) ⟨_, rfl, Below.refl _ _, hS, upd_same _ _ _⟩
      · obtain rfl := Option.some.inj ho
        exact oper_ok (by go_simp) ⟨_, rfl, Below.refl _ _, hS, upd_same _ _ _⟩
      · obtain rfl := Option.some.inj ho
        exact oper_ok (by go_simp) ⟨_, rfl, Below.refl _ _, hS, upd_same _ _ _⟩
      · obtain rfl := Option.some.inj ho
        have e0 : vs 3 = _ := hd' ⟨3, .data⟩ (by simp) rfl
        have e1 : vs 4 = _ := hd' ⟨4, .data⟩ (by simp) rfl
        exact oper_ok (v := .int .i64 r) (w' := W) (by go_simp; rw [← HR0.out]; first | rfl | exact IntWalk.i64_in _ (by omega)) ⟨_, rfl, Below.refl _ _, hS, upd_same _ _ _⟩
      · obtain rfl := Option.some.inj ho
        have e0 := (show vs 2 = .int .i64 q from hd' ⟨2, .data⟩ (by simp) rfl)
        have e1 := (show vs 5 = .int .i64 r from hd' ⟨5, .data⟩ (by simp) rfl)
        exact oper_ok (v := .agg #[.int .i64 q, .int .i64 r, .string ByteArray.empty]) (w' := W) (by go_simp; rfl) ⟨_, rfl, Below.refl _ _, hS, upd_same _ _ _⟩
      · obtain rfl := Option.some.inj ho
        exact oper_ok (by go_simp; rfl) ⟨_, rfl, (Below.refl _ _).alloc (Nat.le_refl _) _, ⟨hS.1.alloc _, hS.2.1.alloc (by have := hS.2.2; omega) _, by have := hS.2.2; simp; omega⟩, _, upd_same _ _ _, Blk.new _ _ _, hS.2.2⟩
    · intro o ho vs T W hS hsz hT1 hT2 hR
      obtain ⟨od, oo, ot, opos, oa, og⟩ := o
      obtain ⟨rfl, rfl⟩ : od = none ∧ oo = .store 36 (.tmp 6) (.tmp 33) := ⟨(congrArg Oper.dst (Option.some.inj ho)).symm, (congrArg Oper.op (Option.some.inj ho)).symm⟩
      clear ho hT1 hT2
      have e6 := (show vs 6 = .agg #[.int .i64 q, .int .i64 r, .string ByteArray.empty] from hR 6 (by decide))
      obtain ⟨b, e7, BK, hwb⟩ := (show ∃ b, vs 7 = .pointer (some ⟨b, 0, none⟩) ∧ Blk W b 36 [.int .i64 0, .int .i64 0, .string ByteArray.empty] ∧ w.heap.size < b from hR 7 (by decide))
      rw [e6, e7]
      clear hR e6 e7
      have HZ := Lib.hid (show Blk (((W.setCell ⟨b, 0, none⟩ (.int .i64 q)).setCell ⟨b, 1, none⟩ (.int .i64 r)).setCell ⟨b, 2, none⟩ (.string ByteArray.empty)) w.heap.size 36 [.int .i64 0, .int .i64 0, .string ByteArray.empty] from ((hS.1.far _ (by show _ ≠ b; omega) _).far _ (by show _ ≠ b; omega) _).far _ (by show _ ≠ b; omega) _)
      have HV := Lib.hid (show Blk (((W.setCell ⟨b, 0, none⟩ (.int .i64 q)).setCell ⟨b, 1, none⟩ (.int .i64 r)).setCell ⟨b, 2, none⟩ (.string ByteArray.empty)) b 36 [.int .i64 q, .int .i64 r, .string ByteArray.empty] from ((BK.set_ 0 (.int .i64 q)).set_ 1 (.int .i64 r)).set_ 2 (.string ByteArray.empty))
      have HB := Lib.hid (show Below w.heap.size w (((W.setCell ⟨b, 0, none⟩ (.int .i64 q)).setCell ⟨b, 1, none⟩ (.int .i64 r)).setCell ⟨b, 2, none⟩ (.string ByteArray.empty)) from below_sc (below_sc (below_sc hS.2.1 (by omega) _) (by omega) _) (by omega) _)
      have r0 := BK.cell 0 _ rfl
      have r1 := BK.cell 1 _ rfl
      have r2 := BK.cell 2 _ rfl
      have z0 := BK.frozen 0
      have z1 := BK.frozen 1
      have z2 := BK.frozen 2
      refine oper_gen (fun K hK => ?_)
      go_wp2_with fail
      refine hK.out _ _ ?_
      clear hK K r0 r1 r2 z0 z1 z2 BK
      refine gen_w (G := fun V => Blk V b 36 [.int .i64 q, .int .i64 r, .string ByteArray.empty] ∧ Blk V w.heap.size 36 [.int .i64 0, .int .i64 0, .string ByteArray.empty] ∧ Below w.heap.size w V) (show Ok _ _ from ⟨HV.out, HZ.out, HB.out⟩) ?_
      rintro V ⟨hv, hz, hbv⟩
      have HBV := Lib.hid hbv
      clear HV HZ HB hbv
      have g0 := hv.cell 0 _ rfl
      have g1 := hv.cell 1 _ rfl
      have g2 := hv.cell 2 _ rfl
      have g3 := hz.cell 0 _ rfl
      have g4 := hz.cell 1 _ rfl
      have g5 := hz.cell 2 _ rfl
      have z0 := hz.frozen 0
      have z1 := hz.frozen 1
      have z2 := hz.frozen 2
      clear hv hz
      by_cases k1 : -999999999 ≤ q ∧ q ≤ 999999999 <;> by_cases k2 : 999999999 < r
      all_goals
        go_wp2_with (first | (go_at_call 54; refine (spec_l1In_t _ _ _ _ (by omega) (by omega)).mono ?_; rintro e w' ⟨rfl, rfl⟩) | (go_at_call 54; refine (spec_l1In_f _ _ _ _ (by omega)).mono ?_; rintro e w' ⟨rfl, rfl⟩))
      · exact bodyPost_ret (v := .agg #[.int .i64 0, .int .i64 0, .string ByteArray.empty]) (by simp [results, Try.results62, go_sem, g3, g4, g5]; try rfl) rfl (RetMk.no HQE.out HRE.out (by omega) (below_sc (below_sc (below_sc HBV.out (Nat.le_refl _) _) (Nat.le_refl _) _) (Nat.le_refl _) _))
      · exact bodyPost_ret (v := .agg #[.int .i64 q, .int .i64 r, .string ByteArray.empty]) (by simp [results, Try.results62, go_sem, g3, g4, g5]; try rfl) rfl (RetMk.yes ⟨h0, hn, hd⟩ HQE.out HRE.out (by omega) (below_sc (below_sc (below_sc HBV.out (Nat.le_refl _) _) (Nat.le_refl _) _) (Nat.le_refl _) _))
      · exact bodyPost_ret (v := .agg #[.int .i64 0, .int .i64 0, .string ByteArray.empty]) (by simp [results, Try.results62, go_sem, g3, g4, g5]; try rfl) rfl (RetMk.no HQE.out HRE.out (by omega) (below_sc (below_sc (below_sc HBV.out (Nat.le_refl _) _) (Nat.le_refl _) _) (Nat.le_refl _) _))
      · exact bodyPost_ret (v := .agg #[.int .i64 0, .int .i64 0, .string ByteArray.empty]) (by simp [results, Try.results62, go_sem, g3, g4, g5]; try rfl) rfl (RetMk.no HQE.out HRE.out (by omega) (below_sc (below_sc (below_sc HBV.out (Nat.le_refl _) _) (Nat.le_refl _) _) (Nat.le_refl _) _))
  · go_enter Try.func62, Try.ntmps62
    go_upto_region 6 with (first | (go_at_call 54; refine (spec_l1In_t _ _ _ _ (by omega) (by omega)).mono ?_; rintro e w' ⟨rfl, rfl⟩) | (go_at_call 104; refine (spec_l2Gcd _ _ _ (by constructor <;> omega) (by constructor <;> omega)).mono ?_; rw [hG]; rintro e w' ⟨rfl, rfl⟩))
    obtain ⟨h, hh⟩ : ∃ h : Int, h = G := ⟨_, rfl⟩
    rw [← hh]
    have hh0 : h ≠ 0 := by omega
    have HE := Lib.hid (show mkG n d = h from (HM.out.trans (if_neg (by omega))).trans hh.symm)
    clear hh
    have hq := I64.quo (g := h) hn
    have hr := I64.quo (g := h) hd
    obtain ⟨q, hQ⟩ : ∃ q, q = n.tdiv h := ⟨_, rfl⟩
    obtain ⟨r, hR⟩ : ∃ r, r = d.tdiv h := ⟨_, rfl⟩
    rw [← hQ] at hq
    rw [← hR] at hr
    have HQE := Lib.hid (show q = n.tdiv (mkG n d) from hQ.trans (by rw [HE.out]))
    have HRE := Lib.hid (show r = d.tdiv (mkG n d) from hR.trans (by rw [HE.out]))
    have HQ0 := Lib.hid hQ
    have HR0 := Lib.hid hR
    clear hQ hR
    refine gen_w (G := fun W => Blk W w.heap.size 36 [.int .i64 0, .int .i64 0, .string ByteArray.empty] ∧ Below w.heap.size w W ∧ w.heap.size < W.heap.size) (show Ok _ _ from ⟨Blk.new _ _ _, (Below.refl _ _).alloc (Nat.le_refl _) _, by simp⟩) ?_
    intro W0 g0
    refine wp_region_free (by kernel_rfl) (by kernel_rfl) (fun W => Blk W w.heap.size 36 [.int .i64 0, .int .i64 0, .string ByteArray.empty] ∧ Below w.heap.size w W ∧ w.heap.size < W.heap.size) (fun _ => 0) (fun i => [i]) (mnR n d h q r w.heap.size) (fun vs => ⟨#[.int .i64 n, .int .i64 d, undef, undef, .pointer (some ⟨w.heap.size, 0, none⟩), .int .i64 h, vs 7, .int .i64 d, .bool false, .bool false, .int .i64 n, .bool true, .bool false, .bool false, .bool false, .int .i64 d, .bool true, .bool false, .bool false, undef, .int .i64 n, .int .i64 d, .int .i64 h, .int .i64 d, .bool (decide (d < 0)), undef, undef, vs 0, vs 1, vs 2, vs 3, vs 4, vs 5, vs 6, undef, undef, undef, undef, undef, undef, undef, undef, undef, undef, undef], []⟩) (fun vs => by kernel_rfl) (by kernel_rfl) ⟨g0.1, g0.2.1.drew, g0.2.2⟩ (mnK n d h q r w.heap.size) ?_ ?_
    · intro i o ho hi vs T W hS hd'
      have h9 : i + 1 < 9 := by simpa using hi
      have hi' : i = 0 ∨ i = 1 ∨ i = 2 ∨ i = 3 ∨ i = 4 ∨ i = 5 ∨ i = 6 ∨ i = 7 := by omega
      clear h9 hi
      rcases hi' with rfl | rfl | rfl | rfl | rfl | rfl | rfl | rfl
      · obtain rfl := Option.some.inj ho
        exact oper_ok (by go_simp) ⟨_, rfl, Below.refl _ _, hS, upd_same _ _ _⟩
      · obtain rfl := Option.some.inj ho
        exact oper_ok (by go_simp) ⟨_, rfl, Below.refl _ _, hS, upd_same _ _ _⟩
      · obtain rfl := Option.some.inj ho
        have e0 : vs 0 = _ := hd' ⟨0, .data⟩ (by simp) rfl
        have e1 : vs 1 = _ := hd' ⟨1, .data⟩ (by simp) rfl
        exact oper_ok (v := .int .i64 q) (w' := W) (by go_simp; rw [← HQ0.out]; first | rfl | exact IntWalk.i64_in _ (by omega)) ⟨_, rfl, Below.refl _ _, hS, upd_same _ _ _⟩
      · obtain rfl := Option.some.inj ho
        exact oper_ok (by go_simp) ⟨_, rfl, Below.refl _ _, hS, upd_same _ _ _⟩
      · obtain rfl := Option.some.inj ho
        exact oper_ok (by go_simp) ⟨_, rfl, Below.refl _ _, hS, upd_same _ _ _⟩
      · obtain rfl := Option.some.inj ho
        have e0 : vs 3 = _ := hd' ⟨3, .data⟩ (by simp) rfl
        have e1 : vs 4 = _ := hd' ⟨4, .data⟩ (by simp) rfl
        exact oper_ok (v := .int .i64 r) (w' := W) (by go_simp; rw [← HR0.out]; first | rfl | exact IntWalk.i64_in _ (by omega)) ⟨_, rfl, Below.refl _ _, hS, upd_same _ _ _⟩
      · obtain rfl := Option.some.inj ho
        have e0 := (show vs 2 = .int .i64 q from hd' ⟨2, .data⟩ (by simp) rfl)
        have e1 := (show vs 5 = .int .i64 r from hd' ⟨5, .data⟩ (by simp) rfl)
        exact oper_ok (v := .agg #[.int .i64 q, .int .i64 r, .string ByteArray.empty]) (w' := W) (by go_simp; rfl) ⟨_, rfl, Below.refl _ _, hS, upd_same _ _ _⟩
      · obtain rfl := Option.some.inj ho
        exact oper_ok (by go_simp; rfl) ⟨_, rfl, (Below.refl _ _).alloc (Nat.le_refl _) _, ⟨hS.1.alloc _, hS.2.1.alloc (by have := hS.2.2; omega) _, by have := hS.2.2; simp; omega⟩, _, upd_same _ _ _, Blk.new _ _ _, hS.2.2⟩
    · intro o ho vs T W hS hsz hT1 hT2 hR
      obtain ⟨od, oo, ot, opos, oa, og⟩ := o
      obtain ⟨rfl, rfl⟩ : od = none ∧ oo = .store 36 (.tmp 6) (.tmp 33) := ⟨(congrArg Oper.dst (Option.some.inj ho)).symm, (congrArg Oper.op (Option.some.inj ho)).symm⟩
      clear ho hT1 hT2
      have e6 := (show vs 6 = .agg #[.int .i64 q, .int .i64 r, .string ByteArray.empty] from hR 6 (by decide))
      obtain ⟨b, e7, BK, hwb⟩ := (show ∃ b, vs 7 = .pointer (some ⟨b, 0, none⟩) ∧ Blk W b 36 [.int .i64 0, .int .i64 0, .string ByteArray.empty] ∧ w.heap.size < b from hR 7 (by decide))
      rw [e6, e7]
      clear hR e6 e7
      have HZ := Lib.hid (show Blk (((W.setCell ⟨b, 0, none⟩ (.int .i64 q)).setCell ⟨b, 1, none⟩ (.int .i64 r)).setCell ⟨b, 2, none⟩ (.string ByteArray.empty)) w.heap.size 36 [.int .i64 0, .int .i64 0, .string ByteArray.empty] from ((hS.1.far _ (by show _ ≠ b; omega) _).far _ (by show _ ≠ b; omega) _).far _ (by show _ ≠ b; omega) _)
      have HV := Lib.hid (show Blk (((W.setCell ⟨b, 0, none⟩ (.int .i64 q)).setCell ⟨b, 1, none⟩ (.int .i64 r)).setCell ⟨b, 2, none⟩ (.string ByteArray.empty)) b 36 [.int .i64 q, .int .i64 r, .string ByteArray.empty] from ((BK.set_ 0 (.int .i64 q)).set_ 1 (.int .i64 r)).set_ 2 (.string ByteArray.empty))
      have HB := Lib.hid (show Below w.heap.size w (((W.setCell ⟨b, 0, none⟩ (.int .i64 q)).setCell ⟨b, 1, none⟩ (.int .i64 r)).setCell ⟨b, 2, none⟩ (.string ByteArray.empty)) from below_sc (below_sc (below_sc hS.2.1 (by omega) _) (by omega) _) (by omega) _)
      have r0 := BK.cell 0 _ rfl
      have r1 := BK.cell 1 _ rfl
      have r2 := BK.cell 2 _ rfl
      have z0 := BK.frozen 0
      have z1 := BK.frozen 1
      have z2 := BK.frozen 2
      refine oper_gen (fun K hK => ?_)
      go_wp2_with fail
      refine hK.out _ _ ?_
      clear hK K r0 r1 r2 z0 z1 z2 BK
      refine gen_w (G := fun V => Blk V b 36 [.int .i64 q, .int .i64 r, .string ByteArray.empty] ∧ Blk V w.heap.size 36 [.int .i64 0, .int .i64 0, .string ByteArray.empty] ∧ Below w.heap.size w V) (show Ok _ _ from ⟨HV.out, HZ.out, HB.out⟩) ?_
      rintro V ⟨hv, hz, hbv⟩
      have HBV := Lib.hid hbv
      clear HV HZ HB hbv
      have g0 := hv.cell 0 _ rfl
      have g1 := hv.cell 1 _ rfl
      have g2 := hv.cell 2 _ rfl
      have g3 := hz.cell 0 _ rfl
      have g4 := hz.cell 1 _ rfl
      have g5 := hz.cell 2 _ rfl
      have z0 := hz.frozen 0
      have z1 := hz.frozen 1
      have z2 := hz.frozen 2
      clear hv hz
      by_cases k1 : -999999999 ≤ q ∧ q ≤ 999999999 <;> by_cases k2 : 999999999 < r
      all_goals
        go_wp2_with (first | (go_at_call 54; refine (spec_l1In_t _ _ _ _ (by omega) (by omega)).mono ?_; rintro e w' ⟨rfl, rfl⟩) | (go_at_call 54; refine (spec_l1In_f _ _ _ _ (by omega)).mono ?_; rintro e w' ⟨rfl, rfl⟩))
      · exact bodyPost_ret (v := .agg #[.int .i64 0, .int .i64 0, .string ByteArray.empty]) (by simp [results, Try.results62, go_sem, g3, g4, g5]; try rfl) rfl (RetMk.no HQE.out HRE.out (by omega) (below_sc (below_sc (below_sc HBV.out (Nat.le_refl _) _) (Nat.le_refl _) _) (Nat.le_refl _) _))
      · exact bodyPost_ret (v := .agg #[.int .i64 q, .int .i64 r, .string ByteArray.empty]) (by simp [results, Try.results62, go_sem, g3, g4, g5]; try rfl) rfl (RetMk.yes ⟨h0, hn, hd⟩ HQE.out HRE.out (by omega) (below_sc (below_sc (below_sc HBV.out (Nat.le_refl _) _) (Nat.le_refl _) _) (Nat.le_refl _) _))
      · exact bodyPost_ret (v := .agg #[.int .i64 0, .int .i64 0, .string ByteArray.empty]) (by simp [results, Try.results62, go_sem, g3, g4, g5]; try rfl) rfl (RetMk.no HQE.out HRE.out (by omega) (below_sc (below_sc (below_sc HBV.out (Nat.le_refl _) _) (Nat.le_refl _) _) (Nat.le_refl _) _))
      · exact bodyPost_ret (v := .agg #[.int .i64 0, .int .i64 0, .string ByteArray.empty]) (by simp [results, Try.results62, go_sem, g3, g4, g5]; try rfl) rfl (RetMk.no HQE.out HRE.out (by omega) (below_sc (below_sc (below_sc HBV.out (Nat.le_refl _) _) (Nat.le_refl _) _) (Nat.le_refl _) _))

theorem spec_MakeNumberX (n d : Int) (w : World) (hn : I64 n) (hd : I64 d) : Calls Try.prog 62 #[.int .i64 n, .int .i64 d] w (RetMk w n d) := by
  by_cases h : d ≠ 0 ∧ (-4000000000000000000 ≤ n ∧ n ≤ 4000000000000000000) ∧ (-4000000000000000000 ≤ d ∧ d ≤ 4000000000000000000)
  · exact spec_MakeNumber_yes n d w h.1 h.2.1 h.2.2
  · exact spec_MakeNumber_no n d w hn hd h
theorem mkG_den (n d : Int) : 0 ≤ d.tdiv (mkG n d) := by
  unfold mkG
  split
  · rw [Int.tdiv_neg, ← Int.neg_tdiv]
    exact Int.tdiv_nonneg (by omega) (Int.natCast_nonneg _)
  · exact Int.tdiv_nonneg (by omega) (Int.natCast_nonneg _)
theorem mkN_nb (n d : Int) : NB (mkN n d).1 ∧ NB (mkN n d).2 := by
  unfold mkN
  split
  · split
    · rename_i h2
      have := mkG_den n d
      exact ⟨h2.1, by unfold NB; dsimp only; omega⟩
    · exact ⟨⟨by decide, by decide⟩, ⟨by decide, by decide⟩⟩
  · exact ⟨⟨by decide, by decide⟩, ⟨by decide, by decide⟩⟩
theorem mkN_i64 (n d : Int) : I64 (mkN n d).1 ∧ I64 (mkN n d).2 := ⟨(mkN_nb n d).1.i64, (mkN_nb n d).2.i64⟩
theorem spec_MakeNumber (n d : Int) (w : World) (hn : I64 n) (hd : I64 d) : Calls Try.prog 62 #[.int .i64 n, .int .i64 d] w (RetNum w) :=
  (spec_MakeNumberX n d w hn hd).mono fun e w' ⟨he, hb⟩ => ⟨_, _, he, (mkN_nb n d).1, (mkN_nb n d).2, hb⟩
theorem spec_l2Num (n : Int) (w : World) (hn : NB n) : Calls Try.prog 55 #[.int .i64 n] w (RetNum w) := by
  go_enter Try.func55, Try.ntmps55
  go_wp2_with fail
  exact bodyPost_ret (v := .agg #[.int .i64 n, .int .i64 1, .string ByteArray.empty]) (by simp [results, Try.results55, go_sem]; try rfl) rfl ⟨n, 1, rfl, hn, by unfold NB; omega, (Below.refl _ _).alloc (Nat.le_refl _) _⟩

/-- a draw under way: the cursor, and the box of the result -/
structure LD (g : Nat) (v : Value) (l : List Nat) (w W : World) : Prop where
  cur : Cur W g v l
  box : Blk W w.heap.size 36 [.int .i64 0, .int .i64 0, .string ByteArray.empty]
  only : Only g w W
theorem LD.next {g : Nat} {v : Value} {l : List Nat} {w W W' : World} (h : LD g v l w W) (hg : g < w.heap.size) (hc : Cur W' g v l) (ho : Only g W W') : LD g v l w W' :=
  ⟨hc, (ho.block w.heap.size h.box.lt (fun e => by injection e with e; omega)).trans h.box, h.only.trans ho⟩
theorem LD.below {g : Nat} {v : Value} {l : List Nat} {w W W' : World} (h : LD g v l w W) (hb : Below W.heap.size W W') : LD g v l w W' :=
  ⟨Cur.below_ h.cur hb, h.box.below hb, h.only.trans (Only.of_below hb)⟩
def RetNumC (g : Nat) (v : Value) (l : List Nat) (w : World) (e : Ending) (w' : World) : Prop := ∃ n d : Int, e = .returned (Value.agg #[.int .i64 n, .int .i64 d, .string ByteArray.empty]) ∧ NB n ∧ NB d ∧ Cur w' g v l ∧ Only g w w'

theorem LD.ints {g : Nat} {v : Value} {l : List Nat} {w W : World} (h : LD g v l w W) (ss : List Int) (hs : ∀ x ∈ ss, I64 x) (n : Nat) (hn : ss.length = n) (h1 : n ≤ 256) :
    Ints (W.alloc (.cells (ss.map fun x => Value.int .i64 x).toArray 3)) (.slice (some ⟨W.heap.size, 0, none⟩) n n) ss ∧ Apart ss.length g (.slice (some ⟨W.heap.size, 0, none⟩) n n) ∧ LD g v l w (W.alloc (.cells (ss.map fun x => Value.int .i64 x).toArray 3)) := by
  subst hn
  refine ⟨Ints.of_own (l := ss) (owns_new W 3 1 ss.length (ss.map fun x => Value.int .i64 x).toArray ss.length (ss.map fun x => Value.int .i64 x) (by simp) (Nat.le_refl _) (by unfold maxLen; omega) (by simp) (by simp [List.take_of_length_le])) hs, ?_, h.below ((Below.refl _ _).alloc (Nat.le_refl _) _)⟩
  intro _ a n c hv
  have := Cur.lt_ h.cur
  injection hv with e1
  injection e1 with e1
  subst e1
  show W.heap.size ≠ _
  omega
def five1 : List Int := [999999999, -999999999, 999999998, 65537, 100000]
def five2 : List Int := [1, 1, 999999999, 999999937, 2]
theorem five1_i64 : ∀ x ∈ five1, I64 x := by
  intro x hx
  simp only [five1, List.mem_cons, List.not_mem_nil, or_false] at hx
  rcases hx with rfl | rfl | rfl | rfl | rfl <;> exact ⟨by decide, by decide⟩
theorem five2_i64 : ∀ x ∈ five2, I64 x := by
  intro x hx
  simp only [five2, List.mem_cons, List.not_mem_nil, or_false] at hx
  rcases hx with rfl | rfl | rfl | rfl | rfl <;> exact ⟨by decide, by decide⟩
theorem i64z : NB 0 := by unfold NB; omega
theorem RetNumC.done {g : Nat} {v : Value} {l : List Nat} {w W : World} (h : LD g v l w W) (hg : g < w.heap.size) (hy : Bytes w v l) (ha : Apart l.length g v) {n d : Int} (hn : NB n) (hd : NB d) {u0 u1 u2 : Value} : RetNumC g v l w (.returned (Value.agg #[.int .i64 n, .int .i64 d, .string ByteArray.empty])) (((W.setCell ⟨w.heap.size, 0, none⟩ u0).setCell ⟨w.heap.size, 1, none⟩ u1).setCell ⟨w.heap.size, 2, none⟩ u2) := by
  have hb : Below w.heap.size W (((W.setCell ⟨w.heap.size, 0, none⟩ u0).setCell ⟨w.heap.size, 1, none⟩ u1).setCell ⟨w.heap.size, 2, none⟩ u2) := below_sc (below_sc (below_sc (Below.refl _ _) (Nat.le_refl _) _) (Nat.le_refl _) _) (Nat.le_refl _) _
  have ho := h.only.belowB hb
  exact ⟨n, d, rfl, hn, hd, h.cur.next hb hg (hy.only ha ho), ho⟩

set_option maxHeartbeats 2000000 in
theorem spec_l2Draw (g : Nat) (v : Value) (l : List Nat) (w : World) (hC : Cur w g v l) (ha : Apart l.length g v) :
    Calls Try.prog 88 #[.pointer (some ⟨g, 0, none⟩)] w (RetNumC g v l w) := by
  have hgl := Cur.lt_ hC
  have HA := Lib.hid ha
  have HY := Lib.hid (show Bytes w v l from by obtain ⟨_, _, _, _, _, h⟩ := hC; exact h)
  have HL := Lib.hid (show LD g v l w (w.alloc (.cells #[.int .i64 0, .int .i64 0, .string ByteArray.empty] 36)) from ⟨Cur.below_ hC ((Below.refl _ _).alloc (Nat.le_refl _) _), Blk.new _ _ [.int .i64 0, .int .i64 0, .string ByteArray.empty], Only.of_below ((Below.refl _ _).alloc (Nat.le_refl _) _)⟩)
  clear hC ha
  go_enter Try.func88, Try.ntmps88
  go_wp2_with fail
  refine Calls.mono (spec_l1Below g v l 12 _ HL.out.cur HA.out (by omega) (by omega)) ?_
  rintro e w1 ⟨x, rfl, hx0, hx1, hc, ho⟩
  have HL1 := Lib.hid (HL.out.next hgl hc ho)
  clear hc ho HL
  by_cases c0 : x = 0
  · subst c0
    have r0 := HL1.out.box.cell 0 _ rfl
    have z0 := HL1.out.box.frozen 0
    have r1 := HL1.out.box.cell 1 _ rfl
    have z1 := HL1.out.box.frozen 1
    have r2 := HL1.out.box.cell 2 _ rfl
    have z2 := HL1.out.box.frozen 2
    go_wp2_with fail
    exact bodyPost_ret (v := .agg #[.int .i64 0, .int .i64 0, .string ByteArray.empty]) (by simp [results, Try.results88, go_sem, r0, r1, r2]; try rfl) rfl (RetNumC.done HL1.out hgl HY.out HA.out i64z i64z)
  by_cases c1 : x = 1 ∨ x = 2
  · rcases c1 with rfl | rfl
    all_goals
      go_wp2_with fail
      refine Calls.mono (spec_l1Below g v l 13 _ HL1.out.cur HA.out (by omega) (by omega)) ?_
      rintro e w2 ⟨y, rfl, hy0, hy1, hc, ho⟩
      have HL2 := Lib.hid (HL1.out.next hgl hc ho)
      clear hc ho HL1
      go_wp2_with fail
      refine Calls.mono (spec_l1Below g v l 6 _ HL2.out.cur HA.out (by omega) (by omega)) ?_
      rintro e w3 ⟨z, rfl, hz0, hz1, hc, ho⟩
      have HL3 := Lib.hid (HL2.out.next hgl hc ho)
      clear hc ho HL2
      go_wp2_with fail
      refine Calls.mono (spec_MakeNumber _ _ _ (by unfold I64; omega) (by unfold I64; omega)) ?_
      rintro e w4 ⟨n, d, rfl, hn, hd, hb⟩
      have HL4 := Lib.hid (HL3.out.below hb)
      have HN := Lib.hid hn
      have HD := Lib.hid hd
      clear hb HL3 hn hd
      have r0 := HL4.out.box.cell 0 _ rfl
      have z0 := HL4.out.box.frozen 0
      have r1 := HL4.out.box.cell 1 _ rfl
      have z1 := HL4.out.box.frozen 1
      have r2 := HL4.out.box.cell 2 _ rfl
      have z2 := HL4.out.box.frozen 2
      go_wp2_with fail
      exact bodyPost_ret (v := .agg #[.int .i64 n, .int .i64 d, .string ByteArray.empty]) (by simp [results, Try.results88, go_sem, r0, r1, r2]; try rfl) rfl (RetNumC.done HL4.out hgl HY.out HA.out HN.out HD.out)
  by_cases c3 : x = 3
  · subst c3
    obtain ⟨hi, hap, hl⟩ := HL1.out.ints five1 five1_i64 5 rfl (by omega)
    have HI := Lib.hid hi
    have HAP := Lib.hid hap
    have HL1' := Lib.hid hl
    clear hi hap hl
    go_wp2_with fail
    refine Calls.mono (spec_l1PickInt g v l _ five1 _ (by exact HL1'.out.cur) HA.out (by exact HI.out) (by exact HAP.out) (by decide) (by decide)) ?_
    rintro e w2 ⟨y, rfl, hy, hc, ho⟩
    have HL2 := Lib.hid (HL1'.out.next hgl hc ho)
    clear hc ho HL1 HL1' HI HAP
    obtain ⟨hi, hap, hl⟩ := HL2.out.ints five2 five2_i64 5 rfl (by omega)
    have HI := Lib.hid hi
    have HAP := Lib.hid hap
    have HL2' := Lib.hid hl
    clear hi hap hl
    go_wp2_with fail
    refine Calls.mono (spec_l1PickInt g v l _ five2 _ (by exact HL2'.out.cur) HA.out (by exact HI.out) (by exact HAP.out) (by decide) (by decide)) ?_
    rintro e w3 ⟨z, rfl, hz, hc, ho⟩
    have HL3 := Lib.hid (HL2'.out.next hgl hc ho)
    clear hc ho HL2 HL2' HI HAP
    go_wp2_with fail
    refine Calls.mono (spec_MakeNumber _ _ _ hy hz) ?_
    rintro e w4 ⟨n, d, rfl, hn, hd, hb⟩
    have HL4 := Lib.hid (HL3.out.below hb)
    have HN := Lib.hid hn
    have HD := Lib.hid hd
    clear hb HL3 hn hd
    have r0 := HL4.out.box.cell 0 _ rfl
    have z0 := HL4.out.box.frozen 0
    have r1 := HL4.out.box.cell 1 _ rfl
    have z1 := HL4.out.box.frozen 1
    have r2 := HL4.out.box.cell 2 _ rfl
    have z2 := HL4.out.box.frozen 2
    go_wp2_with fail
    exact bodyPost_ret (v := .agg #[.int .i64 n, .int .i64 d, .string ByteArray.empty]) (by simp [results, Try.results88, go_sem, r0, r1, r2]; try rfl) rfl (RetNumC.done HL4.out hgl HY.out HA.out HN.out HD.out)
  · go_wp2_with fail
    refine Calls.mono (spec_l1Below g v l 12 _ HL1.out.cur HA.out (by omega) (by omega)) ?_
    rintro e w2 ⟨y, rfl, hy0, hy1, hc, ho⟩
    have HL2 := Lib.hid (HL1.out.next hgl hc ho)
    clear hc ho HL1
    go_wp2_with fail
    refine Calls.mono (spec_l2Num _ _ (by unfold NB; omega)) ?_
    rintro e w4 ⟨n, d, rfl, hn, hd, hb⟩
    have HL4 := Lib.hid (HL2.out.below hb)
    have HN := Lib.hid hn
    have HD := Lib.hid hd
    clear hb HL2 hn hd
    have r0 := HL4.out.box.cell 0 _ rfl
    have z0 := HL4.out.box.frozen 0
    have r1 := HL4.out.box.cell 1 _ rfl
    have z1 := HL4.out.box.frozen 1
    have r2 := HL4.out.box.cell 2 _ rfl
    have z2 := HL4.out.box.frozen 2
    go_wp2_with fail
    exact bodyPost_ret (v := .agg #[.int .i64 n, .int .i64 d, .string ByteArray.empty]) (by simp [results, Try.results88, go_sem, r0, r1, r2]; try rfl) rfl (RetNumC.done HL4.out hgl HY.out HA.out HN.out HD.out)

end Go.Proofs.Ytjdimlhdkmkmbaa
