/-
  Contracts: what is left out (impl.leftOut) and what is kept (spec.l34Keep).
-/
import Derived.Test.YtjdfancbmjnjfaaGreatOptB2
import Derived.Test.YtjdfancbmjnjfaaGreatChk6
namespace Go.Proofs.YtjdfancbmjnjfaaGreat
set_option maxRecDepth 100000
open Go.ChangeShapes Go.WideShapes Go.ChangeAt Go.RowKit Go.Deep
set_option linter.unusedVariables false
set_option linter.unusedSimpArgs false

theorem keep0_eq (l : List InstrD) (p : Nat) (h : p < l.length) : keep0 l p = (bAt (rch l p) p && !(l[p].op == 13 && l[p].arg == (p : Int) + 1)) := by
 unfold keep0 nextB
 rw [List.getElem?_eq_getElem h]
theorem pairB_eq (l : List InstrD) (kp : Nat -> Bool) (p : Nat) (h : p + 1 < l.length) : pairB l kp p = (kp p && kp (p + 1) && l[p].op == 0 && l[p + 1].op == 12 && !ledTo l (p + 1)) := by
 unfold pairB
 rw [List.getElem?_eq_getElem (by omega), List.getElem?_eq_getElem h]
def k0N (l : List InstrD) (j p : Nat) : Bool := decide (p < j) && keep0 l p
def o0N (l : List InstrD) (j p : Nat) : Bool := decide (p < j) && !keep0 l p
theorem pairs_no {l : List InstrD} {k : Nat} (h : pairB l (pairs l k) k = false) (p : Nat) : pairs l (k + 1) p = pairs l k p := by
 rw [pairs, if_neg (by rw [h]; simp)]
theorem pairs_yes {l : List InstrD} {k : Nat} (h : pairB l (pairs l k) k = true) (p : Nat) : pairs l (k + 1) p = if p = k \/ p = k + 1 then false else pairs l k p := by
 rw [pairs]
 by_cases e : p = k \/ p = k + 1
 ·rw [if_pos ⟨h, e⟩, if_pos e]
 ·rw [if_neg (fun h2 => e h2.2), if_neg e]
theorem rch_succ (l : List InstrD) (k : Nat) (h : k < l.length) : rch l (k + 1) = if bAt (rch l k) k then (if jmpOp l[k].op then (if endOp l[k].op then rch l k else (rch l k).set (k + 1) true).set l[k].arg.toNat true else (if endOp l[k].op then rch l k else (rch l k).set (k + 1) true)) else rch l k := by
 rw [rch, rchStep, List.getElem?_eq_getElem h]
theorem boolsL_setL (r : List Bool) (n k : Nat) (hr : r.length = n) (hk : k < n) : (boolsL (bAt r) n).set k (.bool true) = boolsL (bAt (r.set k true)) n :=
 boolsL_set fun j hj => by
  rw [bAt_set]
  by_cases e : j = k
  ·subst e; simp [hr, hk]
  ·simp [e]

set_option maxHeartbeats 16000000 in
theorem impl_leftOut (l : List InstrD) (v : Value) (w : World) (h : Instrs w v l) (ha : ArgOk l) (hb : BackOk l) (hop : ∀ x ∈ l, 0 <= x.op /\ x.op <= 33) (hl : l.length <= 1000) :
  Calls Tryz.prog 73 #[v] w (RetBools w (fun p => !keepF l p) l.length) := by
 have HI := Lib.hid h
 obtain ⟨A, c, rfl, hlc, hm, HC⟩ := SlR.open_ h
 clear h
 unfold maxLen at hm
 have HA := Lib.hid ha
 have HRC := Lib.hid (fun (V : World) (hb2 : Below w.heap.size w V) => impl_reachable l _ V (HI.out.below hb2) ha hb hop hl)
 clear ha hb hop
 go_enter Tryz.func73, Tryz.ntmps73
 go_wp2_with fail
 refine Calls.mono (HRC.out w (Below.refl _ _)) ?_
 rintro e w1 ⟨K1, rfl, hB, hlo, hb⟩
 have F1 := Rws.add (Rws.start w) hb hB hlo
 clear hB hlo hb
 have hmk := run_mk (P := Tryz.prog) w1 24 4 (.bool false) 1 1 Tryz.underlying24 (by kernel_rfl) l.length (by omega) (by omega)
 rw [Nat.mul_one] at hmk
 have HF := Lib.hid F1
 clear F1
 go_upto_region 3 with fail
 rw [boolsL_made]
 have F2 := Rws.push HF.out 4 (boolsL (fun _ => false) l.length)
 generalize hK2 : w1.heap.size = K2 at F2 ⊢
 clear hmk HF hK2
 refine gen_w (show Ok (Rws w _) _ from F2) ?_
 clear F2
 intro w2 F2
 have hmk := run_mk (P := Tryz.prog) w2 24 4 (.bool false) 1 1 Tryz.underlying24 (by kernel_rfl) (l.length + 1) (by omega) (by omega)
 rw [Nat.mul_one, show ((l.length + 1 : Nat) : Int) = (l.length : Int) + 1 from by omega] at hmk
 have HF := Lib.hid F2
 clear F2
 go_upto_region 4 with fail
 rw [boolsL_made]
 have F3 := Rws.push HF.out 4 (boolsL (fun _ => false) (l.length + 1))
 generalize hK3 : w2.heap.size = K3 at F3 ⊢
 clear hmk HF hK3
 have e1 : boolsL (fun _ => false) (l.length + 1) = boolsL (ledN l 0) (l.length + 1) := boolsL_congr fun j _ => rfl
 have e2 : boolsL (fun _ => false) l.length = boolsL (o0N l 0) l.length := boolsL_congr fun j _ => by simp [o0N]
 rw [e1, e2] at F3
 rw [e1]
 clear e1 e2
 refine gen_w (G := Rws w [(K3, 4, boolsL (ledN l 0) (l.length + 1)), (K2, 4, boolsL (o0N l 0) l.length), (K1, 4, boolsL (fun p => bAt (rch l p) p) (l.length + 1))]) F3 ?_
 clear F3
 intro W0 F
 go_wp2_with fail
 go_loopw [20] (fun i wr => ∃ j : Nat, j <= l.length /\ i = .int .i64 j /\ Ok (Rws w [(K3, 4, boolsL (ledN l j) (l.length + 1)), (K2, 4, boolsL (o0N l j) l.length), (K1, 4, boolsL (fun p => bAt (rch l p) p) (l.length + 1))]) wr) (fun i _ => l.length - (intOf i).toNat)
 case atStart => exact ⟨0, Nat.zero_le _, rfl, F⟩
 case round =>
  clear F
  obtain ⟨j, hj, rfl, F⟩ := hrel
  by_cases hlt : j < l.length
  ·obtain ⟨b, off, cs, rfl, hbl, _, hat, hr⟩ := HC.out j hlt
   obtain ⟨A4, c4, A1, c1, A2, c2, A3, c3, A5, c5, A6, c6, rfl⟩ := hr.slices
   clear hr
   have HS := Lib.hid (fun t => ledN_succ l j t hlt)
   have HK := Lib.hid (keep0_eq l j hlt)
   have HAJ := Lib.hid (HA.out j hlt)
   obtain ⟨op, hop⟩ : ∃ x, l[j].op = x := ⟨_, rfl⟩
   obtain ⟨arg, harg⟩ : ∃ x, l[j].arg = x := ⟨_, rfl⟩
   rw [hop, harg] at hat HS HAJ HK
   clear hop harg
   obtain ⟨z0, z1, z2, z3, z4, z5, z6, z7, z8, z9, z10, z11, z12⟩ := pk_c13 F.below hbl hat
   clear hat
   go_upto_region 7 with fail
   refine gen_w (show Ok (Rws w ((wr.heap.size, 63, _) :: _)) _ from Rws.push F _ _) ?_
   clear F z0 z1 z2 z3 z4 z5 z6 z7 z8 z9 z10 z11 z12
   intro W2 F
   have y0 := F.cell 0 _ rfl 0 _ rfl
   have y1 := F.cell 0 _ rfl 1 _ rfl
   have r0 := F.cell 3 _ rfl j _ (boolsL_at _ (l.length + 1) j (by omega))
   have s0 := F.cell 2 _ rfl j _ (boolsL_at _ l.length j hlt)
   have s1 := F.frozen 2 _ rfl j
   have HO := Lib.hid (fun (q : Bool) (hq : (!keep0 l j) = q) => show (boolsL (o0N l j) l.length).set j (.bool q) = boolsL (o0N l (j + 1)) l.length from boolsL_set fun p _ => by
    unfold o0N
    by_cases e : p = j
    ·subst e; simp [hq]
    ·have : decide (p < j + 1) = decide (p < j) := decide_eq_decide.2 (by omega)
     simp [e, this])
   have w0 : IntKind.i64.wrap ((j : Int) + 1) = (j : Int) + 1 := IntWalk.i64_in _ (by omega)
   cases b0 : bAt (rch l j) j
   ·have B0 := Lib.hid b0
    simp only [b0] at r0
    clear b0
    have F2 := Rws.set F 2 K2 _ _ rfl j (.bool true)
    rw [HO.out true (by rw [HK.out]; rw [B0.out]; rfl)] at F2
    have HF2 := Lib.hid F2
    clear F2
    go_upto_region 8 with fail
    refine gen_w (show Ok (Rws w _) _ from HF2.out) ?_
    clear F HF2 r0 s0 s1 y0 y1
    intro W3 F
    have y0 := F.cell 0 _ rfl 0 _ rfl
    have y1 := F.cell 0 _ rfl 1 _ rfl
    go_wp2_with fail
    refine Calls.mono (impl_isJumping op _) ?_
    rintro e w3 ⟨rfl, rfl⟩
    rw [isJ_jmp]
    cases J : jmpOp op
    ·have Q := Lib.hid J
     clear J
     have HN := Lib.hid (boolsL_congr (n := l.length + 1) (fun t _ => show ledN l j t = ledN l (j + 1) t by rw [HS.out]; simp [Q.out]))
     go_wp2_with fail
     go_roundw
     case rel => exact ⟨j + 1, by omega, by go_num, show Rws w _ _ by rw [<- HN.out]; exact Rws.tail F⟩
     case measure => simp [intOf]; omega
    ·have Q := Lib.hid J
     have HB := Lib.hid (show 0 <= arg /\ arg <= (l.length : Int) by have := HAJ.out Q.out; omega)
     clear J
     obtain ⟨a, rfl⟩ := Int.eq_ofNat_of_zero_le HB.out.1
     have han : a < l.length + 1 := by have := HB.out.2; omega
     have han2 : (a : Int) < (l.length : Int) + 1 := by omega
     have u0 := F.cell 1 _ rfl a _ (boolsL_at _ _ a han)
     have u1 := F.frozen 1 _ rfl a
     have HN := Lib.hid (boolsL_set (f := ledN l j) (g := ledN l (j + 1)) (n := l.length + 1) (k := a) (b := true) (fun t _ => by
      rw [HS.out]
      have h2 := Q.out
      simp only [h2, Bool.true_and]
      by_cases e : t = a
      ·subst e; simp
      ·have e2 : ¬ ((a : Int) = (t : Int)) := by omega
       simp [e, e2]))
     go_wp2_with fail
     go_roundw
     case rel => exact ⟨j + 1, by omega, by go_num, show Rws w _ _ by rw [<- HN.out]; exact Rws.tail (Rws.set F 1 K3 _ _ rfl a _)⟩
     case measure => simp [intOf]; omega
   ·have B0 := Lib.hid b0
    simp only [b0] at r0
    clear b0
    cases b1 : (op == 13)
    ·have B1 := Lib.hid b1
     have F2 := Rws.set F 2 K2 _ _ rfl j (.bool false)
     rw [HO.out false (by rw [HK.out]; rw [B0.out, B1.out]; rfl)] at F2
     have HF2 := Lib.hid F2
     clear F2
     go_upto_region 8 with fail
     refine gen_w (show Ok (Rws w _) _ from HF2.out) ?_
     clear F HF2 r0 s0 s1 y0 y1
     intro W3 F
     have y0 := F.cell 0 _ rfl 0 _ rfl
     have y1 := F.cell 0 _ rfl 1 _ rfl
     go_wp2_with fail
     refine Calls.mono (impl_isJumping op _) ?_
     rintro e w3 ⟨rfl, rfl⟩
     rw [isJ_jmp]
     cases J : jmpOp op
     ·have Q := Lib.hid J
      clear J
      have HN := Lib.hid (boolsL_congr (n := l.length + 1) (fun t _ => show ledN l j t = ledN l (j + 1) t by rw [HS.out]; simp [Q.out]))
      go_wp2_with fail
      go_roundw
      case rel => exact ⟨j + 1, by omega, by go_num, show Rws w _ _ by rw [<- HN.out]; exact Rws.tail F⟩
      case measure => simp [intOf]; omega
     ·have Q := Lib.hid J
      have HB := Lib.hid (show 0 <= arg /\ arg <= (l.length : Int) by have := HAJ.out Q.out; omega)
      clear J
      obtain ⟨a, rfl⟩ := Int.eq_ofNat_of_zero_le HB.out.1
      have han : a < l.length + 1 := by have := HB.out.2; omega
      have han2 : (a : Int) < (l.length : Int) + 1 := by omega
      have u0 := F.cell 1 _ rfl a _ (boolsL_at _ _ a han)
      have u1 := F.frozen 1 _ rfl a
      have HN := Lib.hid (boolsL_set (f := ledN l j) (g := ledN l (j + 1)) (n := l.length + 1) (k := a) (b := true) (fun t _ => by
       rw [HS.out]
       have h2 := Q.out
       simp only [h2, Bool.true_and]
       by_cases e : t = a
       ·subst e; simp
       ·have e2 : ¬ ((a : Int) = (t : Int)) := by omega
        simp [e, e2]))
      go_wp2_with fail
      go_roundw
      case rel => exact ⟨j + 1, by omega, by go_num, show Rws w _ _ by rw [<- HN.out]; exact Rws.tail (Rws.set F 1 K3 _ _ rfl a _)⟩
      case measure => simp [intOf]; omega
    ·have B1 := Lib.hid b1
     cases b2 : (arg == (j : Int) + 1)
     ·have B2 := Lib.hid b2
      have F2 := Rws.set F 2 K2 _ _ rfl j (.bool false)
      rw [HO.out false (by rw [HK.out]; rw [B0.out, B1.out, B2.out]; rfl)] at F2
      have HF2 := Lib.hid F2
      clear F2
      go_upto_region 8 with fail
      refine gen_w (show Ok (Rws w _) _ from HF2.out) ?_
      clear F HF2 r0 s0 s1 y0 y1
      intro W3 F
      have y0 := F.cell 0 _ rfl 0 _ rfl
      have y1 := F.cell 0 _ rfl 1 _ rfl
      go_wp2_with fail
      refine Calls.mono (impl_isJumping op _) ?_
      rintro e w3 ⟨rfl, rfl⟩
      rw [isJ_jmp]
      cases J : jmpOp op
      ·have Q := Lib.hid J
       clear J
       have HN := Lib.hid (boolsL_congr (n := l.length + 1) (fun t _ => show ledN l j t = ledN l (j + 1) t by rw [HS.out]; simp [Q.out]))
       go_wp2_with fail
       go_roundw
       case rel => exact ⟨j + 1, by omega, by go_num, show Rws w _ _ by rw [<- HN.out]; exact Rws.tail F⟩
       case measure => simp [intOf]; omega
      ·have Q := Lib.hid J
       have HB := Lib.hid (show 0 <= arg /\ arg <= (l.length : Int) by have := HAJ.out Q.out; omega)
       clear J
       obtain ⟨a, rfl⟩ := Int.eq_ofNat_of_zero_le HB.out.1
       have han : a < l.length + 1 := by have := HB.out.2; omega
       have han2 : (a : Int) < (l.length : Int) + 1 := by omega
       have u0 := F.cell 1 _ rfl a _ (boolsL_at _ _ a han)
       have u1 := F.frozen 1 _ rfl a
       have HN := Lib.hid (boolsL_set (f := ledN l j) (g := ledN l (j + 1)) (n := l.length + 1) (k := a) (b := true) (fun t _ => by
        rw [HS.out]
        have h2 := Q.out
        simp only [h2, Bool.true_and]
        by_cases e : t = a
        ·subst e; simp
        ·have e2 : ¬ ((a : Int) = (t : Int)) := by omega
         simp [e, e2]))
       go_wp2_with fail
       go_roundw
       case rel => exact ⟨j + 1, by omega, by go_num, show Rws w _ _ by rw [<- HN.out]; exact Rws.tail (Rws.set F 1 K3 _ _ rfl a _)⟩
       case measure => simp [intOf]; omega
     ·have B2 := Lib.hid b2
      have F2 := Rws.set F 2 K2 _ _ rfl j (.bool true)
      rw [HO.out true (by rw [HK.out]; rw [B0.out, B1.out, B2.out]; rfl)] at F2
      have HF2 := Lib.hid F2
      clear F2
      go_upto_region 8 with fail
      refine gen_w (show Ok (Rws w _) _ from HF2.out) ?_
      clear F HF2 r0 s0 s1 y0 y1
      intro W3 F
      have y0 := F.cell 0 _ rfl 0 _ rfl
      have y1 := F.cell 0 _ rfl 1 _ rfl
      go_wp2_with fail
      refine Calls.mono (impl_isJumping op _) ?_
      rintro e w3 ⟨rfl, rfl⟩
      rw [isJ_jmp]
      cases J : jmpOp op
      ·have Q := Lib.hid J
       clear J
       have HN := Lib.hid (boolsL_congr (n := l.length + 1) (fun t _ => show ledN l j t = ledN l (j + 1) t by rw [HS.out]; simp [Q.out]))
       go_wp2_with fail
       go_roundw
       case rel => exact ⟨j + 1, by omega, by go_num, show Rws w _ _ by rw [<- HN.out]; exact Rws.tail F⟩
       case measure => simp [intOf]; omega
      ·have Q := Lib.hid J
       have HB := Lib.hid (show 0 <= arg /\ arg <= (l.length : Int) by have := HAJ.out Q.out; omega)
       clear J
       obtain ⟨a, rfl⟩ := Int.eq_ofNat_of_zero_le HB.out.1
       have han : a < l.length + 1 := by have := HB.out.2; omega
       have han2 : (a : Int) < (l.length : Int) + 1 := by omega
       have u0 := F.cell 1 _ rfl a _ (boolsL_at _ _ a han)
       have u1 := F.frozen 1 _ rfl a
       have HN := Lib.hid (boolsL_set (f := ledN l j) (g := ledN l (j + 1)) (n := l.length + 1) (k := a) (b := true) (fun t _ => by
        rw [HS.out]
        have h2 := Q.out
        simp only [h2, Bool.true_and]
        by_cases e : t = a
        ·subst e; simp
        ·have e2 : ¬ ((a : Int) = (t : Int)) := by omega
         simp [e, e2]))
       go_wp2_with fail
       go_roundw
       case rel => exact ⟨j + 1, by omega, by go_num, show Rws w _ _ by rw [<- HN.out]; exact Rws.tail (Rws.set F 1 K3 _ _ rfl a _)⟩
       case measure => simp [intOf]; omega
  ·obtain rfl : j = l.length := by omega
   have e1 : boolsL (ledN l l.length) (l.length + 1) = boolsL (ledTo l) (l.length + 1) := boolsL_congr fun t _ => (ledN_all l t).symm
   have e2 : boolsL (o0N l l.length) l.length = boolsL (fun p => !pairs l 0 p) l.length := boolsL_congr fun p hp => by simp [o0N, hp, pairs]
   rw [e1, e2] at F
   clear e1 e2 hj hlt
   go_wp2_with fail
   go_loopw [8] (fun i wr => ∃ k : Nat, k <= l.length - 1 /\ i = .int .i64 k /\ Ok (Rws w [(K3, 4, boolsL (ledTo l) (l.length + 1)), (K2, 4, boolsL (fun p => !pairs l k p) l.length), (K1, 4, boolsL (fun p => bAt (rch l p) p) (l.length + 1))]) wr) (fun i _ => l.length - (intOf i).toNat)
   case atStart => exact ⟨0, Nat.zero_le _, rfl, F⟩
   case round =>
    clear F
    obtain ⟨k, hk, rfl, F⟩ := hrel
    by_cases hlt : k + 1 < l.length
    ·have hk0 : k < l.length := by omega
     have hlt2 : (k : Int) + 1 < (l.length : Int) := by omega
     obtain ⟨b, off, cs, rfl, hbl, _, hat, hr⟩ := HC.out k hk0
     obtain ⟨A4, c4, A1, c1, A2, c2, A3, c3, A5, c5, A6, c6, rfl⟩ := hr.slices
     clear hr
     obtain ⟨b', off', cs', he9, hbl', _, hat', hr⟩ := HC.out (k + 1) hlt
     obtain ⟨B4, d4, B1, d1, B2, d2, B3, d3, B5, d5, B6, d6, rfl⟩ := hr.slices
     clear hr
     injection he9 with he9
     injection he9 with e1 e2 e3
     subst e1 e2
     clear e3
     have HP := Lib.hid (pairB_eq l (pairs l k) k hlt)
     have HNO := Lib.hid (fun h : pairB l (pairs l k) k = false => boolsL_congr (f := (fun p => !pairs l k p)) (g := (fun p => !pairs l (k + 1) p)) (n := l.length) (fun p _ => by simp only [pairs_no h]))
     obtain ⟨op, hop⟩ : ∃ x, l[k].op = x := ⟨_, rfl⟩
     obtain ⟨op2, hop2⟩ : ∃ x, l[k + 1].op = x := ⟨_, rfl⟩
     rw [hop] at hat HP
     rw [hop2] at hat' HP
     clear hop hop2
     have z0 := (F.below.cell (p := ⟨b, off + k * 13, none⟩) hbl).trans (by simpa using hat 0 _ rfl)
     have y0 := (F.below.cell (p := ⟨b, off + (k + 1) * 13, none⟩) hbl).trans (by simpa using hat' 0 _ rfl)
     have o0 := F.cell 1 _ rfl k _ (boolsL_at _ _ k hk0)
     have o1 := F.cell 1 _ rfl (k + 1) _ (boolsL_at _ _ (k + 1) hlt)
     have o0' := F.frozen 1 _ rfl k
     have o1' := F.frozen 1 _ rfl (k + 1)
     have q0 := F.cell 0 _ rfl (k + 1) _ (boolsL_at _ (l.length + 1) (k + 1) (by omega))
     clear hat hat'
     cases t_op : (op == 0)
     ·have HN := Lib.hid (HNO.out (by rw [HP.out, t_op]; simp))
      skip
      go_wp2_with fail
      go_roundw
      case rel => exact ⟨k + 1, by omega, by go_num, show Rws w _ _ by rw [<- HN.out]; exact F⟩
      case measure => simp [intOf]; omega
     have T_op := Lib.hid t_op
     cases t_op2 : (op2 == 12)
     ·have HN := Lib.hid (HNO.out (by rw [HP.out, t_op2]; simp))
      skip
      go_wp2_with fail
      go_roundw
      case rel => exact ⟨k + 1, by omega, by go_num, show Rws w _ _ by rw [<- HN.out]; exact F⟩
      case measure => simp [intOf]; omega
     have T_op2 := Lib.hid t_op2
     cases t_a : pairs l k k
     all_goals simp only [t_a, Bool.not_true, Bool.not_false] at o0
     ·have HN := Lib.hid (HNO.out (by rw [HP.out, t_a]; simp))
      clear t_a
      go_wp2_with fail
      go_roundw
      case rel => exact ⟨k + 1, by omega, by go_num, show Rws w _ _ by rw [<- HN.out]; exact F⟩
      case measure => simp [intOf]; omega
     have T_a := Lib.hid t_a
     clear t_a
     cases t_b : pairs l k (k + 1)
     all_goals simp only [t_b, Bool.not_true, Bool.not_false] at o1
     ·have HN := Lib.hid (HNO.out (by rw [HP.out, t_b]; simp))
      clear t_b
      go_wp2_with fail
      go_roundw
      case rel => exact ⟨k + 1, by omega, by go_num, show Rws w _ _ by rw [<- HN.out]; exact F⟩
      case measure => simp [intOf]; omega
     have T_b := Lib.hid t_b
     clear t_b
     cases t_led : ledTo l (k + 1)
     all_goals simp only [t_led, Bool.not_true, Bool.not_false] at q0
     rotate_left
     ·have HN := Lib.hid (HNO.out (by rw [HP.out, t_led]; simp))
      clear t_led
      go_wp2_with fail
      go_roundw
      case rel => exact ⟨k + 1, by omega, by go_num, show Rws w _ _ by rw [<- HN.out]; exact F⟩
      case measure => simp [intOf]; omega
     have T_led := Lib.hid t_led
     clear t_led
     have HY := Lib.hid (show pairB l (pairs l k) k = true by rw [HP.out, T_a.out, T_b.out, T_op.out, T_op2.out, T_led.out]; rfl)
     have HN := Lib.hid (show ((boolsL (fun p => !pairs l k p) l.length).set k (.bool true)).set (k + 1) (.bool true) = boolsL (fun p => !pairs l (k + 1) p) l.length by
      rw [boolsL_set (g := fun p => if p = k then true else (fun p => !pairs l k p) p) (fun j _ => rfl), boolsL_set (g := (fun p => !pairs l (k + 1) p)) (fun j _ => by
       simp only [pairs_yes HY.out]
       by_cases h1 : j = k
       ·simp [h1]
       ·by_cases h2 : j = k + 1 <;> simp [h1, h2])])
     go_upto_region 16 with fail
     refine gen_w (show Ok (Rws w _) _ from Rws.set F 1 K2 _ _ rfl k _) ?_
     clear F o0 o1 o0' o1' q0
     intro W5 F
     have o1 := F.cell 1 _ rfl (k + 1) _ (show (List.set (boolsL (fun p => !pairs l k p) l.length) k (Value.bool true))[k + 1]? = some (.bool false) from by
      rw [List.getElem?_set_ne (by omega), boolsL_at _ _ _ hlt]
      simp only [T_b.out, Bool.not_true])
     have o1' := F.frozen 1 _ rfl (k + 1)
     go_wp2_with fail
     go_roundw
     case rel => exact ⟨k + 1, by omega, by go_num, show Rws w _ _ by rw [<- HN.out]; exact Rws.set F 1 K2 _ _ rfl (k + 1) _⟩
     case measure => simp [intOf]; omega
    ·have hke : k = l.length - 1 := by omega
     have hlt2 : ¬ ((k : Int) + 1 < (l.length : Int)) := by omega
     have HB := Lib.hid (F.blk 1 _ rfl)
     have HW := Lib.hid F.below
     have HL := Lib.hid (F.lo 1 _ rfl)
     rw [hke] at HB
     have hd : decide ((k : Int) + 1 < (l.length : Int)) = false := by simp; omega
     clear F hke
     go_wp2_with fail
     go_ret
     exact ⟨K2, rfl, HB.out, HL.out, HW.out⟩

set_option maxHeartbeats 16000000 in
theorem spec_l34Keep (l : List InstrD) (v : Value) (w : World) (h : Instrs w v l) (ha : ArgOk l) (hop : ∀ x ∈ l, 0 <= x.op /\ x.op <= 33) (hl : l.length <= 1000) :
  Calls Tryz.prog 104 #[v] w (RetBools w (fun p => keepF l p) l.length) := by
 have HI := Lib.hid h
 obtain ⟨A, c, rfl, hlc, hm, HC⟩ := SlR.open_ h
 clear h
 unfold maxLen at hm
 have HA := Lib.hid ha
 have HOP := Lib.hid hop
 have HTG := Lib.hid (fun (V : World) (hb2 : Below w.heap.size w V) => spec_l34Targets l _ V (HI.out.below hb2) ha hl)
 clear ha hop
 have hmk := run_mk (P := Tryz.prog) w 24 4 (.bool false) 1 1 Tryz.underlying24 (by kernel_rfl) (l.length + 1) (by omega) (by omega)
 rw [Nat.mul_one, show ((l.length + 1 : Nat) : Int) = (l.length : Int) + 1 from by omega] at hmk
 go_enter Tryz.func104, Tryz.ntmps104
 go_upto_region 2 with fail
 rw [boolsL_made]
 have F1 := (Rws.start w).push 4 (boolsL (fun _ => false) (l.length + 1))
 generalize hK1 : w.heap.size = K1 at F1 ⊢
 clear hmk hK1
 refine gen_w (show Ok (Rws w _) _ from F1) ?_
 clear F1
 intro w1 F1
 have hmk := run_mk (P := Tryz.prog) w1 24 4 (.bool false) 1 1 Tryz.underlying24 (by kernel_rfl) l.length (by omega) (by omega)
 rw [Nat.mul_one] at hmk
 have HF := Lib.hid F1
 clear F1
 go_upto_region 3 with fail
 rw [boolsL_made]
 have F2 := Rws.push HF.out 4 (boolsL (fun _ => false) l.length)
 generalize hK2 : w1.heap.size = K2 at F2 ⊢
 clear hmk HF hK2
 refine gen_w (show Ok (Rws w _) _ from F2) ?_
 clear F2
 intro w2 F2
 have HF := Lib.hid F2
 clear F2
 go_wp2_with fail
 refine Calls.mono (HTG.out w2 HF.out.below) ?_
 rintro e w3 ⟨K3, rfl, hB, hlo, hb⟩
 have F3 := Rws.add HF.out hb hB hlo
 clear hB hlo hb HF HTG
 have r0 := F3.cell 2 _ rfl 0 _ (boolsL_at _ (l.length + 1) 0 (by omega))
 have r1 := F3.frozen 2 _ rfl 0
 have F4 := F3.set 2 K1 _ _ rfl 0 (.bool true)
 have e1 : (boolsL (fun _ => false) (l.length + 1)).set 0 (.bool true) = boolsL (bAt (rch l 0)) (l.length + 1) := boolsL_set fun j _ => by
  unfold rch bAt
  cases j with
  | zero => rfl
  | succ j => simp only [List.getElem?_cons_succ, List.getElem?_replicate]; split <;> rfl
 have e2 : boolsL (fun _ => false) l.length = boolsL (k0N l 0) l.length := boolsL_congr fun j _ => by simp [k0N]
 rw [e1, e2] at F4
 have HF := Lib.hid F4
 clear F3 F4 e1 e2
 go_upto_region 5 with fail
 refine gen_w (G := Rws w [(K3, 4, boolsL (ledTo l) (l.length + 1)), (K2, 4, boolsL (k0N l 0) l.length), (K1, 4, boolsL (bAt (rch l 0)) (l.length + 1))]) HF.out ?_
 clear HF r0 r1
 intro W0 F
 go_wp2_with fail
 go_loopw [6] (fun i wr => ∃ j : Nat, j <= l.length /\ i = .int .i64 j /\ Ok (Rws w [(K3, 4, boolsL (ledTo l) (l.length + 1)), (K2, 4, boolsL (k0N l j) l.length), (K1, 4, boolsL (bAt (rch l j)) (l.length + 1))]) wr) (fun i _ => l.length - (intOf i).toNat)
 case atStart => exact ⟨0, Nat.zero_le _, rfl, F⟩
 case round =>
  clear F
  obtain ⟨j, hj, rfl, F⟩ := hrel
  by_cases hlt : j < l.length
  ·obtain ⟨b, off, cs, rfl, hbl, _, hat, hr⟩ := HC.out j hlt
   obtain ⟨A4, c4, A1, c1, A2, c2, A3, c3, A5, c5, A6, c6, rfl⟩ := hr.slices
   clear hr
   have HRS := Lib.hid (rch_succ l j hlt)
   have HK := Lib.hid (keep0_eq l j hlt)
   have HAJ := Lib.hid (HA.out j hlt)
   have HOJ := Lib.hid (HOP.out _ (List.getElem_mem hlt))
   obtain ⟨op, hop⟩ : ∃ x, l[j].op = x := ⟨_, rfl⟩
   obtain ⟨arg, harg⟩ : ∃ x, l[j].arg = x := ⟨_, rfl⟩
   rw [hop] at hat HRS HAJ HK HOJ
   rw [harg] at hat HRS HAJ HK
   clear hop harg
   have HZ0 := Lib.hid (show w.cell? ⟨b, off + j * 13, none⟩ = some (.int .i64 op) by simpa using hat 0 _ rfl)
   have HZ1 := Lib.hid (show w.cell? ⟨b, off + j * 13 + 1, none⟩ = some (.int .i64 arg) from hat 1 _ rfl)
   clear hat
   have z0 := (F.below.cell (p := ⟨b, off + j * 13, none⟩) hbl).trans HZ0.out
   have z1 := (F.below.cell (p := ⟨b, off + j * 13 + 1, none⟩) hbl).trans HZ1.out
   have r0 := F.cell 2 _ rfl j _ (boolsL_at _ (l.length + 1) j (by omega))
   have s0 := F.cell 1 _ rfl j _ (boolsL_at _ l.length j hlt)
   have s1 := F.frozen 1 _ rfl j
   have HO := Lib.hid (fun (q : Bool) (hq : keep0 l j = q) => show (boolsL (k0N l j) l.length).set j (.bool q) = boolsL (k0N l (j + 1)) l.length from boolsL_set fun p _ => by
    unfold k0N
    by_cases e : p = j
    ·subst e; simp [hq]
    ·have : decide (p < j + 1) = decide (p < j) := decide_eq_decide.2 (by omega)
     simp [e, this])
   have w0 : IntKind.i64.wrap ((j : Int) + 1) = (j : Int) + 1 := IntWalk.i64_in _ (by omega)
   cases b0 : bAt (rch l j) j
   ·have HX := Lib.hid (show rch l (j + 1) = rch l j by rw [HRS.out, b0]; rfl)
    have HN := Lib.hid (boolsL_congr (n := l.length) (f := k0N l j) (g := k0N l (j + 1)) (fun p _ => by
     unfold k0N
     by_cases e : p = j
     ·subst e; simp [HK.out, b0]
     ·have : decide (p < j + 1) = decide (p < j) := decide_eq_decide.2 (by omega)
      rw [this]))
    simp only [b0] at r0
    clear b0
    rw [<- HX.out, HN.out] at F
    clear z0 z1 s0 s1
    go_wp2_with fail
    go_roundw
    case rel => exact ⟨j + 1, by omega, by go_num, F⟩
    case measure => simp [intOf]; omega
   ·have B0 := Lib.hid b0
    simp only [b0] at r0
    clear b0
    cases b1 : (op == 13)
    ·have B1 := Lib.hid b1
     have c1 : (op != 13) = true := by simp [bne, b1]
     have F2 := Rws.set F 1 K2 _ _ rfl j (.bool true)
     rw [HO.out true (by rw [HK.out]; rw [B0.out, B1.out]; rfl)] at F2
     have HF2 := Lib.hid F2
     clear F2
     go_upto_region 10 with fail
     refine gen_w (show Ok (Rws w _) _ from HF2.out) ?_
     clear F HF2 r0 s0 s1 z0 z1
     intro W3 F
     have z0 := (F.below.cell (p := ⟨b, off + j * 13, none⟩) hbl).trans HZ0.out
     have z1 := (F.below.cell (p := ⟨b, off + j * 13 + 1, none⟩) hbl).trans HZ1.out
     go_wp2_with fail
     refine Calls.mono (spec_l32Ends op HOJ.out.1 HOJ.out.2 _) ?_
     rintro e w3 ⟨rfl, rfl⟩
     cases E : endOp op
     ·have HE := Lib.hid E
      clear E
      have u0 := F.cell 2 _ rfl (j + 1) _ (boolsL_at _ (l.length + 1) (j + 1) (by omega))
      have u1 := F.frozen 2 _ rfl (j + 1)
      have F8 := Rws.set F 2 K1 _ _ rfl (j + 1) (.bool true)
      rw [boolsL_setL _ _ (j + 1) (rch_len l j) (by omega)] at F8
      have HF8 := Lib.hid F8
      clear F8
      go_upto_region 12 with fail
      refine gen_w (show Ok (Rws w _) _ from HF8.out) ?_
      clear F HF8 u0 u1 z0 z1
      intro W4 F
      have z0 := (F.below.cell (p := ⟨b, off + j * 13, none⟩) hbl).trans HZ0.out
      have z1 := (F.below.cell (p := ⟨b, off + j * 13 + 1, none⟩) hbl).trans HZ1.out
      have y0 := trivial
      have y1 := trivial
      go_wp2_with fail
      refine Calls.mono (spec_l32Jumps op _) ?_
      rintro e w3 ⟨rfl, rfl⟩
      rw [isJ_jmp]
      cases J : jmpOp op
      ·have HX := Lib.hid (show rch l (j + 1) = (rch l j).set (j + 1) true by rw [HRS.out, B0.out, J, HE.out]; rfl)
       clear J
       rw [<- HX.out] at F
       clear y0 y1 z0 z1
       go_wp2_with fail
       go_roundw
       case rel => exact ⟨j + 1, by omega, by go_num, F⟩
       case measure => simp [intOf]; omega
      ·have HB := Lib.hid (HAJ.out J)
       have hx := HRS.out
       rw [B0.out, J, HE.out] at hx
       have HX := Lib.hid hx
       clear J hx
       obtain ⟨a, rfl⟩ := Int.eq_ofNat_of_zero_le HB.out.1
       have han : a < l.length + 1 := by have := HB.out.2.1; omega
       have han2 : (a : Int) < (l.length : Int) + 1 := by omega
       have u0 := F.cell 2 _ rfl a _ (boolsL_at _ _ a han)
       have u1 := F.frozen 2 _ rfl a
       have F9 := Rws.set F 2 K1 _ _ rfl a (.bool true)
       rw [boolsL_setL _ _ a (by first | exact rch_len l j | (rw [List.length_set]; exact rch_len l j)) han] at F9
       have HF9 := Lib.hid F9
       clear F9
       go_wp2_with fail
       go_roundw
       case rel => exact ⟨j + 1, by omega, by go_num, show Rws w _ _ by rw [HX.out]; exact HF9.out⟩
       case measure => simp [intOf]; omega
     ·have HE := Lib.hid E
      clear E
      have y0 := trivial
      have y1 := trivial
      go_wp2_with fail
      refine Calls.mono (spec_l32Jumps op _) ?_
      rintro e w3 ⟨rfl, rfl⟩
      rw [isJ_jmp]
      cases J : jmpOp op
      ·have HX := Lib.hid (show rch l (j + 1) = rch l j by rw [HRS.out, B0.out, J, HE.out]; rfl)
       clear J
       rw [<- HX.out] at F
       clear y0 y1 z0 z1
       go_wp2_with fail
       go_roundw
       case rel => exact ⟨j + 1, by omega, by go_num, F⟩
       case measure => simp [intOf]; omega
      ·have HB := Lib.hid (HAJ.out J)
       have hx := HRS.out
       rw [B0.out, J, HE.out] at hx
       have HX := Lib.hid hx
       clear J hx
       obtain ⟨a, rfl⟩ := Int.eq_ofNat_of_zero_le HB.out.1
       have han : a < l.length + 1 := by have := HB.out.2.1; omega
       have han2 : (a : Int) < (l.length : Int) + 1 := by omega
       have u0 := F.cell 2 _ rfl a _ (boolsL_at _ _ a han)
       have u1 := F.frozen 2 _ rfl a
       have F9 := Rws.set F 2 K1 _ _ rfl a (.bool true)
       rw [boolsL_setL _ _ a (by first | exact rch_len l j | (rw [List.length_set]; exact rch_len l j)) han] at F9
       have HF9 := Lib.hid F9
       clear F9
       go_wp2_with fail
       go_roundw
       case rel => exact ⟨j + 1, by omega, by go_num, show Rws w _ _ by rw [HX.out]; exact HF9.out⟩
       case measure => simp [intOf]; omega
    ·have B1 := Lib.hid b1
     have c1 : (op != 13) = false := by simp [bne, b1]
     cases b2 : (arg == (j : Int) + 1)
     ·have B2 := Lib.hid b2
      have c2 : (arg != (j : Int) + 1) = true := by simp [bne, b2]
      have F2 := Rws.set F 1 K2 _ _ rfl j (.bool true)
      rw [HO.out true (by rw [HK.out]; rw [B0.out, B1.out, B2.out]; rfl)] at F2
      have HF2 := Lib.hid F2
      clear F2
      go_upto_region 10 with fail
      refine gen_w (show Ok (Rws w _) _ from HF2.out) ?_
      clear F HF2 r0 s0 s1 z0 z1
      intro W3 F
      have z0 := (F.below.cell (p := ⟨b, off + j * 13, none⟩) hbl).trans HZ0.out
      have z1 := (F.below.cell (p := ⟨b, off + j * 13 + 1, none⟩) hbl).trans HZ1.out
      go_wp2_with fail
      refine Calls.mono (spec_l32Ends op HOJ.out.1 HOJ.out.2 _) ?_
      rintro e w3 ⟨rfl, rfl⟩
      cases E : endOp op
      ·have HE := Lib.hid E
       clear E
       have u0 := F.cell 2 _ rfl (j + 1) _ (boolsL_at _ (l.length + 1) (j + 1) (by omega))
       have u1 := F.frozen 2 _ rfl (j + 1)
       have F8 := Rws.set F 2 K1 _ _ rfl (j + 1) (.bool true)
       rw [boolsL_setL _ _ (j + 1) (rch_len l j) (by omega)] at F8
       have HF8 := Lib.hid F8
       clear F8
       go_upto_region 12 with fail
       refine gen_w (show Ok (Rws w _) _ from HF8.out) ?_
       clear F HF8 u0 u1 z0 z1
       intro W4 F
       have z0 := (F.below.cell (p := ⟨b, off + j * 13, none⟩) hbl).trans HZ0.out
       have z1 := (F.below.cell (p := ⟨b, off + j * 13 + 1, none⟩) hbl).trans HZ1.out
       have y0 := trivial
       have y1 := trivial
       go_wp2_with fail
       refine Calls.mono (spec_l32Jumps op _) ?_
       rintro e w3 ⟨rfl, rfl⟩
       rw [isJ_jmp]
       cases J : jmpOp op
       ·have HX := Lib.hid (show rch l (j + 1) = (rch l j).set (j + 1) true by rw [HRS.out, B0.out, J, HE.out]; rfl)
        clear J
        rw [<- HX.out] at F
        clear y0 y1 z0 z1
        go_wp2_with fail
        go_roundw
        case rel => exact ⟨j + 1, by omega, by go_num, F⟩
        case measure => simp [intOf]; omega
       ·have HB := Lib.hid (HAJ.out J)
        have hx := HRS.out
        rw [B0.out, J, HE.out] at hx
        have HX := Lib.hid hx
        clear J hx
        obtain ⟨a, rfl⟩ := Int.eq_ofNat_of_zero_le HB.out.1
        have han : a < l.length + 1 := by have := HB.out.2.1; omega
        have han2 : (a : Int) < (l.length : Int) + 1 := by omega
        have u0 := F.cell 2 _ rfl a _ (boolsL_at _ _ a han)
        have u1 := F.frozen 2 _ rfl a
        have F9 := Rws.set F 2 K1 _ _ rfl a (.bool true)
        rw [boolsL_setL _ _ a (by first | exact rch_len l j | (rw [List.length_set]; exact rch_len l j)) han] at F9
        have HF9 := Lib.hid F9
        clear F9
        go_wp2_with fail
        go_roundw
        case rel => exact ⟨j + 1, by omega, by go_num, show Rws w _ _ by rw [HX.out]; exact HF9.out⟩
        case measure => simp [intOf]; omega
      ·have HE := Lib.hid E
       clear E
       have y0 := trivial
       have y1 := trivial
       go_wp2_with fail
       refine Calls.mono (spec_l32Jumps op _) ?_
       rintro e w3 ⟨rfl, rfl⟩
       rw [isJ_jmp]
       cases J : jmpOp op
       ·have HX := Lib.hid (show rch l (j + 1) = rch l j by rw [HRS.out, B0.out, J, HE.out]; rfl)
        clear J
        rw [<- HX.out] at F
        clear y0 y1 z0 z1
        go_wp2_with fail
        go_roundw
        case rel => exact ⟨j + 1, by omega, by go_num, F⟩
        case measure => simp [intOf]; omega
       ·have HB := Lib.hid (HAJ.out J)
        have hx := HRS.out
        rw [B0.out, J, HE.out] at hx
        have HX := Lib.hid hx
        clear J hx
        obtain ⟨a, rfl⟩ := Int.eq_ofNat_of_zero_le HB.out.1
        have han : a < l.length + 1 := by have := HB.out.2.1; omega
        have han2 : (a : Int) < (l.length : Int) + 1 := by omega
        have u0 := F.cell 2 _ rfl a _ (boolsL_at _ _ a han)
        have u1 := F.frozen 2 _ rfl a
        have F9 := Rws.set F 2 K1 _ _ rfl a (.bool true)
        rw [boolsL_setL _ _ a (by first | exact rch_len l j | (rw [List.length_set]; exact rch_len l j)) han] at F9
        have HF9 := Lib.hid F9
        clear F9
        go_wp2_with fail
        go_roundw
        case rel => exact ⟨j + 1, by omega, by go_num, show Rws w _ _ by rw [HX.out]; exact HF9.out⟩
        case measure => simp [intOf]; omega
     ·have B2 := Lib.hid b2
      have c2 : (arg != (j : Int) + 1) = false := by simp [bne, b2]
      have F2 := Rws.set F 1 K2 _ _ rfl j (.bool false)
      rw [HO.out false (by rw [HK.out]; rw [B0.out, B1.out, B2.out]; rfl)] at F2
      have HF2 := Lib.hid F2
      clear F2
      go_upto_region 10 with fail
      refine gen_w (show Ok (Rws w _) _ from HF2.out) ?_
      clear F HF2 r0 s0 s1 z0 z1
      intro W3 F
      have z0 := (F.below.cell (p := ⟨b, off + j * 13, none⟩) hbl).trans HZ0.out
      have z1 := (F.below.cell (p := ⟨b, off + j * 13 + 1, none⟩) hbl).trans HZ1.out
      go_wp2_with fail
      refine Calls.mono (spec_l32Ends op HOJ.out.1 HOJ.out.2 _) ?_
      rintro e w3 ⟨rfl, rfl⟩
      cases E : endOp op
      ·have HE := Lib.hid E
       clear E
       have u0 := F.cell 2 _ rfl (j + 1) _ (boolsL_at _ (l.length + 1) (j + 1) (by omega))
       have u1 := F.frozen 2 _ rfl (j + 1)
       have F8 := Rws.set F 2 K1 _ _ rfl (j + 1) (.bool true)
       rw [boolsL_setL _ _ (j + 1) (rch_len l j) (by omega)] at F8
       have HF8 := Lib.hid F8
       clear F8
       go_upto_region 12 with fail
       refine gen_w (show Ok (Rws w _) _ from HF8.out) ?_
       clear F HF8 u0 u1 z0 z1
       intro W4 F
       have z0 := (F.below.cell (p := ⟨b, off + j * 13, none⟩) hbl).trans HZ0.out
       have z1 := (F.below.cell (p := ⟨b, off + j * 13 + 1, none⟩) hbl).trans HZ1.out
       have y0 := trivial
       have y1 := trivial
       go_wp2_with fail
       refine Calls.mono (spec_l32Jumps op _) ?_
       rintro e w3 ⟨rfl, rfl⟩
       rw [isJ_jmp]
       cases J : jmpOp op
       ·have HX := Lib.hid (show rch l (j + 1) = (rch l j).set (j + 1) true by rw [HRS.out, B0.out, J, HE.out]; rfl)
        clear J
        rw [<- HX.out] at F
        clear y0 y1 z0 z1
        go_wp2_with fail
        go_roundw
        case rel => exact ⟨j + 1, by omega, by go_num, F⟩
        case measure => simp [intOf]; omega
       ·have HB := Lib.hid (HAJ.out J)
        have hx := HRS.out
        rw [B0.out, J, HE.out] at hx
        have HX := Lib.hid hx
        clear J hx
        obtain ⟨a, rfl⟩ := Int.eq_ofNat_of_zero_le HB.out.1
        have han : a < l.length + 1 := by have := HB.out.2.1; omega
        have han2 : (a : Int) < (l.length : Int) + 1 := by omega
        have u0 := F.cell 2 _ rfl a _ (boolsL_at _ _ a han)
        have u1 := F.frozen 2 _ rfl a
        have F9 := Rws.set F 2 K1 _ _ rfl a (.bool true)
        rw [boolsL_setL _ _ a (by first | exact rch_len l j | (rw [List.length_set]; exact rch_len l j)) han] at F9
        have HF9 := Lib.hid F9
        clear F9
        go_wp2_with fail
        go_roundw
        case rel => exact ⟨j + 1, by omega, by go_num, show Rws w _ _ by rw [HX.out]; exact HF9.out⟩
        case measure => simp [intOf]; omega
      ·have HE := Lib.hid E
       clear E
       have y0 := trivial
       have y1 := trivial
       go_wp2_with fail
       refine Calls.mono (spec_l32Jumps op _) ?_
       rintro e w3 ⟨rfl, rfl⟩
       rw [isJ_jmp]
       cases J : jmpOp op
       ·have HX := Lib.hid (show rch l (j + 1) = rch l j by rw [HRS.out, B0.out, J, HE.out]; rfl)
        clear J
        rw [<- HX.out] at F
        clear y0 y1 z0 z1
        go_wp2_with fail
        go_roundw
        case rel => exact ⟨j + 1, by omega, by go_num, F⟩
        case measure => simp [intOf]; omega
       ·have HB := Lib.hid (HAJ.out J)
        have hx := HRS.out
        rw [B0.out, J, HE.out] at hx
        have HX := Lib.hid hx
        clear J hx
        obtain ⟨a, rfl⟩ := Int.eq_ofNat_of_zero_le HB.out.1
        have han : a < l.length + 1 := by have := HB.out.2.1; omega
        have han2 : (a : Int) < (l.length : Int) + 1 := by omega
        have u0 := F.cell 2 _ rfl a _ (boolsL_at _ _ a han)
        have u1 := F.frozen 2 _ rfl a
        have F9 := Rws.set F 2 K1 _ _ rfl a (.bool true)
        rw [boolsL_setL _ _ a (by first | exact rch_len l j | (rw [List.length_set]; exact rch_len l j)) han] at F9
        have HF9 := Lib.hid F9
        clear F9
        go_wp2_with fail
        go_roundw
        case rel => exact ⟨j + 1, by omega, by go_num, show Rws w _ _ by rw [HX.out]; exact HF9.out⟩
        case measure => simp [intOf]; omega
  ·obtain rfl : j = l.length := by omega
   have e2 : boolsL (k0N l l.length) l.length = boolsL (fun p => pairs l 0 p) l.length := boolsL_congr fun p hp => by simp [k0N, hp, pairs]
   rw [e2] at F
   clear e2 hj hlt
   go_wp2_with fail
   go_loopw [7] (fun i wr => ∃ k : Nat, k <= l.length - 1 /\ i = .int .i64 k /\ Ok (Rws w [(K3, 4, boolsL (ledTo l) (l.length + 1)), (K2, 4, boolsL (fun p => pairs l k p) l.length), (K1, 4, boolsL (bAt (rch l l.length)) (l.length + 1))]) wr) (fun i _ => l.length - (intOf i).toNat)
   case atStart => exact ⟨0, Nat.zero_le _, rfl, F⟩
   case round =>
    clear F
    obtain ⟨k, hk, rfl, F⟩ := hrel
    by_cases hlt : k + 1 < l.length
    ·have hk0 : k < l.length := by omega
     have hlt2 : (k : Int) + 1 < (l.length : Int) := by omega
     obtain ⟨b, off, cs, rfl, hbl, _, hat, hr⟩ := HC.out k hk0
     obtain ⟨A4, c4, A1, c1, A2, c2, A3, c3, A5, c5, A6, c6, rfl⟩ := hr.slices
     clear hr
     obtain ⟨b', off', cs', he9, hbl', _, hat', hr⟩ := HC.out (k + 1) hlt
     obtain ⟨B4, d4, B1, d1, B2, d2, B3, d3, B5, d5, B6, d6, rfl⟩ := hr.slices
     clear hr
     injection he9 with he9
     injection he9 with e1 e2 e3
     subst e1 e2
     clear e3
     have HP := Lib.hid (pairB_eq l (pairs l k) k hlt)
     have HNO := Lib.hid (fun h : pairB l (pairs l k) k = false => boolsL_congr (f := (fun p => pairs l k p)) (g := (fun p => pairs l (k + 1) p)) (n := l.length) (fun p _ => by simp only [pairs_no h]))
     obtain ⟨op, hop⟩ : ∃ x, l[k].op = x := ⟨_, rfl⟩
     obtain ⟨op2, hop2⟩ : ∃ x, l[k + 1].op = x := ⟨_, rfl⟩
     rw [hop] at hat HP
     rw [hop2] at hat' HP
     clear hop hop2
     have z0 := (F.below.cell (p := ⟨b, off + k * 13, none⟩) hbl).trans (by simpa using hat 0 _ rfl)
     have y0 := (F.below.cell (p := ⟨b, off + (k + 1) * 13, none⟩) hbl).trans (by simpa using hat' 0 _ rfl)
     have o0 := F.cell 1 _ rfl k _ (boolsL_at _ _ k hk0)
     have o1 := F.cell 1 _ rfl (k + 1) _ (boolsL_at _ _ (k + 1) hlt)
     have o0' := F.frozen 1 _ rfl k
     have o1' := F.frozen 1 _ rfl (k + 1)
     have q0 := F.cell 0 _ rfl (k + 1) _ (boolsL_at _ (l.length + 1) (k + 1) (by omega))
     clear hat hat'
     cases t_a : pairs l k k
     all_goals simp only [t_a, Bool.not_true, Bool.not_false] at o0
     ·have HN := Lib.hid (HNO.out (by rw [HP.out, t_a]; simp))
      clear t_a
      go_wp2_with fail
      go_roundw
      case rel => exact ⟨k + 1, by omega, by go_num, show Rws w _ _ by rw [<- HN.out]; exact F⟩
      case measure => simp [intOf]; omega
     have T_a := Lib.hid t_a
     clear t_a
     cases t_b : pairs l k (k + 1)
     all_goals simp only [t_b, Bool.not_true, Bool.not_false] at o1
     ·have HN := Lib.hid (HNO.out (by rw [HP.out, t_b]; simp))
      clear t_b
      go_wp2_with fail
      go_roundw
      case rel => exact ⟨k + 1, by omega, by go_num, show Rws w _ _ by rw [<- HN.out]; exact F⟩
      case measure => simp [intOf]; omega
     have T_b := Lib.hid t_b
     clear t_b
     cases t_op : (op == 0)
     ·have HN := Lib.hid (HNO.out (by rw [HP.out, t_op]; simp))
      skip
      go_wp2_with fail
      go_roundw
      case rel => exact ⟨k + 1, by omega, by go_num, show Rws w _ _ by rw [<- HN.out]; exact F⟩
      case measure => simp [intOf]; omega
     have T_op := Lib.hid t_op
     cases t_op2 : (op2 == 12)
     ·have HN := Lib.hid (HNO.out (by rw [HP.out, t_op2]; simp))
      skip
      go_wp2_with fail
      go_roundw
      case rel => exact ⟨k + 1, by omega, by go_num, show Rws w _ _ by rw [<- HN.out]; exact F⟩
      case measure => simp [intOf]; omega
     have T_op2 := Lib.hid t_op2
     cases t_led : ledTo l (k + 1)
     all_goals simp only [t_led, Bool.not_true, Bool.not_false] at q0
     rotate_left
     ·have HN := Lib.hid (HNO.out (by rw [HP.out, t_led]; simp))
      clear t_led
      go_wp2_with fail
      go_roundw
      case rel => exact ⟨k + 1, by omega, by go_num, show Rws w _ _ by rw [<- HN.out]; exact F⟩
      case measure => simp [intOf]; omega
     have T_led := Lib.hid t_led
     clear t_led
     have HY := Lib.hid (show pairB l (pairs l k) k = true by rw [HP.out, T_a.out, T_b.out, T_op.out, T_op2.out, T_led.out]; rfl)
     have HN := Lib.hid (show ((boolsL (fun p => pairs l k p) l.length).set k (.bool false)).set (k + 1) (.bool false) = boolsL (fun p => pairs l (k + 1) p) l.length by
      rw [boolsL_set (g := fun p => if p = k then false else (fun p => pairs l k p) p) (fun j _ => rfl), boolsL_set (g := (fun p => pairs l (k + 1) p)) (fun j _ => by
       simp only [pairs_yes HY.out]
       by_cases h1 : j = k
       ·simp [h1]
       ·by_cases h2 : j = k + 1 <;> simp [h1, h2])])
     go_upto_region 19 with fail
     refine gen_w (show Ok (Rws w _) _ from Rws.set F 1 K2 _ _ rfl k _) ?_
     clear F o0 o1 o0' o1' q0
     intro W5 F
     have o1 := F.cell 1 _ rfl (k + 1) _ (show (List.set (boolsL (fun p => pairs l k p) l.length) k (Value.bool false))[k + 1]? = some (.bool true) from by
      rw [List.getElem?_set_ne (by omega), boolsL_at _ _ _ hlt]
      simp only [T_b.out, Bool.not_true])
     have o1' := F.frozen 1 _ rfl (k + 1)
     go_wp2_with fail
     go_roundw
     case rel => exact ⟨k + 1, by omega, by go_num, show Rws w _ _ by rw [<- HN.out]; exact Rws.set F 1 K2 _ _ rfl (k + 1) _⟩
     case measure => simp [intOf]; omega
    ·have hke : k = l.length - 1 := by omega
     have hlt2 : ¬ ((k : Int) + 1 < (l.length : Int)) := by omega
     have HB := Lib.hid (F.blk 1 _ rfl)
     have HW := Lib.hid F.below
     have HL := Lib.hid (F.lo 1 _ rfl)
     rw [hke] at HB
     have hd : decide ((k : Int) + 1 < (l.length : Int)) = false := by simp; omega
     clear F hke
     go_wp2_with fail
     go_ret
     exact ⟨K2, rfl, HB.out, HL.out, HW.out⟩

end Go.Proofs.YtjdfancbmjnjfaaGreat
