/-
  Merged texts: MarkInt, Jumps, Jumps2, OptA, OptB.
-/
import Derived.Test.YtjdfancbmjnjfaaGreatKGood
import Derived.Test.YtjdfancbmjnjfaaGreatKCode
import Derived.Deep.DeepCutAuto
import Derived.Test.YtjdfancbmjnjfaaGreatKOk
import Derived.Test.YtjdfancbmjnjfaaGreatKChkP
import Derived.Deep.Light
import Derived.Deep.LoopGhost
namespace Go.Proofs.YtjdfancbmjnjfaaGreat
set_option maxRecDepth 100000
set_option maxRecDepth 100000
open Go.ChangeShapes Go.WideShapes Go.ChangeAt Go.RowKit Go.Deep
set_option linter.unusedVariables false

def markI (k n : Nat) : List Int := (List.range n).map fun i => ((k + i : Nat) : Int)
theorem markI_length (k n : Nat) : (markI k n).length = n := by simp [markI]
theorem markI_at (k n i : Nat) (h : i < (markI k n).length) : (markI k n)[i] = ((k + i : Nat) : Int) := by simp [markI]
theorem markI_succ (k n : Nat) : markI k (n + 1) = markI k n ++ [((k + n : Nat) : Int)] := by simp [markI, List.range_succ]
theorem markI_small (k n : Nat) (h : k + n ≤ 4611686018427387904) : ∀ x ∈ markI k n, I64 x := by
  intro x hx
  simp only [markI, List.mem_map, List.mem_range] at hx
  obtain ⟨i, hi, rfl⟩ := hx
  exact ⟨by omega, by omega⟩

set_option maxHeartbeats 400000 in
theorem laws_markIntS (xs : List Value) (base n : Nat) (v : Value) (k0 : Int) (e : TypeId) (w : World) (h : w.ownsRow base e 1 v n xs) (h0 : 0 < k0) (h1 : k0 + n ≤ 4611686018427387904) :
    Calls Tryz.prog 43 #[v, .int .i64 k0] w fun e' w' => e' = .returned (.int .i64 (k0 + n)) ∧ w'.ownsRow base e 1 v n ((markI k0.toNat n).map fun n => Value.int .i64 n) ∧ w.grownBy w' v.ownBlock := by
  obtain ⟨k, rfl⟩ := Int.eq_ofNat_of_zero_le (show 0 ≤ k0 by omega)
  rw [Int.toNat_natCast]
  have hl := h.1
  rcases h.2 with ⟨rfl, rfl⟩ | ⟨g, cap, cur, rfl, hb, hg, hnc, hcm, hcs, htake⟩
  · go_enter Tryz.func43, Tryz.ntmps43
    go_wp2_with fail
    go_loop [1, 5] (fun x i => i = .int .i64 0 ∧ x = .int .i64 k) (fun _ i => 0)
    case atStart => exact ⟨rfl, rfl⟩
    case round =>
      obtain ⟨rfl, rfl⟩ := hrel
      go_wp2_with fail
      go_ret
      exact ⟨ret_int (by simp), by simp [markI]; exact World.ownsRow_nil _ _ _ _, World.grownBy.refl _ _⟩
  · unfold maxLen at hcm
    have hown := Lib.hid h
    have HL := Lib.hid hl
    clear h hl htake hg hcs cur
    show Calls Tryz.prog 43 #[Value.slice (some ⟨g, 0, none⟩) n cap, Value.int IntKind.i64 ↑k] w fun e' w' => e' = Ending.returned (Value.int IntKind.i64 (↑k + ↑n)) ∧ w'.ownsRow base e 1 (Value.slice (some ⟨g, 0, none⟩) n cap) n (List.map (fun n => Value.int .i64 n) (markI k n)) ∧ w.grownBy w' (some g)
    go_enter Tryz.func43, Tryz.ntmps43
    go_wp2_with fail
    go_loopw [1, 5] (fun x i wr => ∃ j : Nat, j ≤ n ∧ i = .int .i64 j ∧ x = .int .i64 (k + j : Nat) ∧ w.grownBy wr (some g) ∧ Hid (wr.ownsRow base e 1 (.slice (some ⟨g, 0, none⟩) n cap) n (((markI k j).map fun n => Value.int .i64 n) ++ xs.drop j))) (fun _ i _ => n - (intOf i).toNat)
    case atStart => exact ⟨0, Nat.zero_le _, rfl, rfl, World.grownBy.refl _ _, by have := hown.out; simpa [markI, Hid] using this⟩
    case round =>
      obtain ⟨j, hj, rfl, rfl, hgr, ho⟩ := hrel
      by_cases hlt : j < n
      · have hfr := ho.out.frozenAt j
        have hcl := ho.out.cellAt j (by omega)
        obtain ⟨u, hu⟩ : ∃ u, wr.cell? ⟨g, j, none⟩ = some u := ⟨_, hcl.trans (List.getElem?_eq_getElem (by have := ho.out.1; omega))⟩
        clear hcl
        go_wp2_with fail
        go_roundw
        case rel =>
          obtain ⟨h2, h3⟩ := ho.out.stored j (Value.int .i64 ((k : Int) + j))
          refine ⟨j + 1, by omega, by go_num, by go_num, hgr.trans h3, ?_⟩
          rw [set_mid _ _ _ _ (by simp [markI]) (by have := HL.out; omega)] at h2
          rw [markI_succ, List.map_append]
          exact h2
        case measure => simp [intOf]; omega
      · obtain rfl : j = n := by omega
        go_wp2_with fail
        go_ret
        refine ⟨ret_int (by omega), ?_, hgr⟩
        have := ho.out
        rw [List.drop_eq_nil_of_le (by have := HL.out; omega), List.append_nil] at this
        exact this

set_option maxHeartbeats 400000 in
theorem laws_heldIntS (n : Nat) (v : Value) (k0 : Int) (w : World) (h0 : 0 < k0) (h1 : k0 + n ≤ 4611686018427387904) (h : Ints w v (markI k0.toNat n)) :
    Calls Tryz.prog 46 #[v, .int .i64 k0] w fun e' w' => e' = .returned (.int .i64 (k0 + n)) ∧ w = w' := by
  obtain ⟨k, rfl⟩ := Int.eq_ofNat_of_zero_le (show 0 ≤ k0 by omega)
  rw [Int.toNat_natCast] at h
  obtain ⟨A, c, rfl, hlc, hm, HC⟩ := h.open_
  clear h
  rw [markI_length] at *
  unfold maxLen at hm
  go_enter Tryz.func46, Tryz.ntmps46
  go_wp2_with fail
  go_loop [1, 5] (fun x i => ∃ j : Nat, j ≤ n ∧ i = .int .i64 j ∧ x = .int .i64 (k + j : Nat)) (fun _ i => n - (intOf i).toNat)
  case atStart => exact ⟨0, Nat.zero_le _, rfl, rfl⟩
  case round =>
      obtain ⟨j, hj, rfl, rfl⟩ := hrel
      by_cases hlt : j < n
      · obtain ⟨b, off, rfl, hbl, hcell, _, _⟩ := HC.out j (by rw [markI_length]; exact hlt)
        rw [markI_at] at hcell
        have he : (((k + j : Nat) : Int) != (k : Int) + j) = false := by simp
        go_wp2_with fail
        go_round
        case rel => exact ⟨j + 1, by omega, by go_num, by go_num⟩
        case measure => simp [intOf]; omega
      · obtain rfl : j = n := by omega
        go_wp2_with fail
        go_ret
        exact ⟨ret_int (by omega), rfl⟩

theorem laws_markInts (S : Nat → Prop) (l : List Int) (v : Value) (k : Int) (w : World) (h : IntO S w v l) (h0 : 0 < k) (h1 : k + l.length ≤ 4611686018427387904) :
    Calls Tryz.prog 43 #[v, .int .i64 k] w (RetMark S w (k + l.length) fun w' => IntO S w' v (markI k.toNat l.length)) :=
  (laws_markIntS _ 0 l.length v k 3 w h.1.1 h0 h1).mono fun e w' ⟨he, ho, hg⟩ =>
    ⟨he, ⟨⟨by rw [markI_length]; exact ho, h.1.2⟩, markI_small _ _ (by omega)⟩, Keeps.grown' hg h.1.2, (Below.refl 0 w).grown hg (Nat.zero_le _) (fun _ _ => Nat.zero_le _)⟩
end Go.Proofs.YtjdfancbmjnjfaaGreat
namespace Go.Proofs.YtjdfancbmjnjfaaGreat
set_option maxRecDepth 100000
open Go.ChangeShapes Go.WideShapes Go.ChangeAt Go.RowKit Go.Deep
set_option linter.unusedVariables false

/-- operations that jump -/
def isJ (op : Int) : Bool := op == 13 || op == 14 || op == 15 || op == 16 || op == 19
theorem isJ_iff (op : Int) : isJ op = true ↔ (op = 13 ∨ op = 14 ∨ op = 15 ∨ op = 16 ∨ op = 19) := by
  simp [isJ, or_assoc]
theorem any_succ {α : Type} (p : α → Bool) (l : List α) (k : Nat) (h : k < l.length) : (l.take (k + 1)).any p = ((l.take k).any p || p l[k]) := by
  rw [List.take_succ_eq_append_getElem h, List.any_append]
  simp
set_option maxHeartbeats 1000000 in
theorem spec_l32Jumps (op : Int) (w : World) :
    Calls Tryz.prog 84 #[.int .i64 op] w fun e w' => e = .returned (.bool (isJ op)) ∧ w = w' := by
  have H1 := Lib.hid (fun (a b : Int) (w : World) => show Calls Tryz.prog 21 #[.int .i64 op, .int .i64 a, .int .i64 b] w fun e w' => e = .returned (.bool (decide (a ≤ op) && decide (op ≤ b))) ∧ w = w' by
    by_cases ha : a ≤ op
    · go_enter Tryz.func21, Tryz.ntmps21
      go_wp2
      go_ret
      exact ⟨ret_bool (by simp [ha]), rfl⟩
    · go_enter Tryz.func21, Tryz.ntmps21
      go_wp2
      go_ret
      exact ⟨ret_bool (by simp; omega), rfl⟩)
  go_enter Tryz.func84, Tryz.ntmps84
  go_wp2_with fail
  refine Calls.mono (H1.out _ _ _) ?_
  rintro e w1 ⟨rfl, rfl⟩
  by_cases h : (decide (13 ≤ op) && decide (op ≤ 16)) = true
  · have HR := Lib.hid (show isJ op = true by
      rw [isJ_iff]
      simp only [Bool.and_eq_true, decide_eq_true_eq] at h
      omega)
    rw [h]
    go_wp2_with fail
    go_ret
    exact ⟨ret_bool HR.out.symm, rfl⟩
  · have HR := Lib.hid (show isJ op = (op == 19) by
      simp only [Bool.and_eq_true, decide_eq_true_eq] at h
      rw [Bool.eq_iff_iff, isJ_iff, beq_iff_eq]
      omega)
    rw [Bool.eq_false_iff.2 h]
    clear h
    go_wp2_with fail
    go_ret
    exact ⟨ret_bool HR.out.symm, rfl⟩

set_option maxHeartbeats 1000000 in
theorem impl_isForward (op : Int) (w : World) :
    Calls Tryz.prog 60 #[.int .i64 op] w fun e w' => e = .returned (.bool (op == 14 || op == 15 || op == 16 || op == 19)) ∧ w = w' := by
  by_cases h1 : op = 14
  · subst h1
    go_enter Tryz.func60, Tryz.ntmps60
    go_wp2
    go_ret
    exact ⟨ret_bool (by decide), rfl⟩
  have b1 : (op == 14) = false := by simp [h1]
  by_cases h2 : op = 15
  · subst h2
    go_enter Tryz.func60, Tryz.ntmps60
    go_wp2
    go_ret
    exact ⟨ret_bool (by decide), rfl⟩
  have b2 : (op == 15) = false := by simp [h2]
  by_cases h3 : op = 16
  · subst h3
    go_enter Tryz.func60, Tryz.ntmps60
    go_wp2
    go_ret
    exact ⟨ret_bool (by decide), rfl⟩
  have b3 : (op == 16) = false := by simp [h3]
  go_enter Tryz.func60, Tryz.ntmps60
  go_wp2
  go_ret
  exact ⟨ret_bool (by simp [b1, b2, b3]), rfl⟩

set_option maxHeartbeats 1000000 in
theorem impl_isJumping (op : Int) (w : World) :
    Calls Tryz.prog 72 #[.int .i64 op] w fun e w' => e = .returned (.bool (isJ op)) ∧ w = w' := by
  by_cases h1 : op = 13
  · subst h1
    go_enter Tryz.func72, Tryz.ntmps72
    go_wp2
    go_ret
    exact ⟨ret_bool (by decide), rfl⟩
  have b1 : (op == 13) = false := by simp [h1]
  have HR := Lib.hid (show isJ op = (op == 14 || op == 15 || op == 16 || op == 19) by simp [isJ, b1])
  go_enter Tryz.func72, Tryz.ntmps72
  go_wp2_with fail
  refine Calls.mono (impl_isForward op _) ?_
  rintro e w1 ⟨rfl, rfl⟩
  obtain ⟨x, hx⟩ : ∃ x, x = isJ op := ⟨_, rfl⟩
  have HX := Lib.hid hx
  rw [← HR.out, ← hx]
  clear HR hx
  go_wp2_with fail
  go_ret
  exact ⟨ret_bool HX.out, rfl⟩

end Go.Proofs.YtjdfancbmjnjfaaGreat
namespace Go.Proofs.YtjdfancbmjnjfaaGreat
set_option maxRecDepth 100000
open Go.ChangeShapes Go.WideShapes Go.ChangeAt Go.RowKit Go.Deep
set_option linter.unusedVariables false

theorem InstrR.slices {w : World} {cs : List Value} {d : InstrD} (h : InstrR w cs d) : ∃ (A4 : Option Addr) (c4 : Nat) (A1 : Option Addr) (c1 : Nat) (A2 : Option Addr) (c2 : Nat) (A3 : Option Addr) (c3 : Nat) (A5 : Option Addr) (c5 : Nat) (A6 : Option Addr) (c6 : Nat), cs = [.int .i64 d.op, .int .i64 d.arg, .int .i64 d.count, .string (str d.text), .slice A4 d.labels.length c4, .int .i64 d.value.kind, .slice A1 d.value.items.length c1, .slice A2 d.value.parts.length c2, .slice A3 d.value.names.length c3, .slice A5 d.value.cls.length c5, .slice A6 d.value.levels.length c6, .int .i64 d.value.code, .int .i64 d.value.env] := by
  obtain ⟨v4, v51, v52, v53, v54, v55, rfl, _, _, _, _, t4, t5⟩ := h
  obtain ⟨A4, c4, rfl, _⟩ := Txts.open_ t4
  obtain ⟨n, A1, c1, A2, c2, A3, c3, A5, c5, A6, c6, he, _⟩ := VecR.open_ t5
  simp only [List.cons.injEq, and_true, true_and] at he
  obtain ⟨rfl, rfl, rfl, rfl, rfl⟩ := he
  exact ⟨_, _, _, _, _, _, _, _, _, _, _, _, rfl⟩

end Go.Proofs.YtjdfancbmjnjfaaGreat
namespace Go.Proofs.YtjdfancbmjnjfaaGreat
set_option maxRecDepth 100000
open Go.ChangeShapes Go.WideShapes Go.ChangeAt Go.RowKit Go.Deep
set_option linter.unusedVariables false
set_option linter.unusedSimpArgs false

def backN (l : List InstrD) (k t : Nat) : Bool := (List.range k).any fun i => match l[i]? with | some x => x.op == 13 && decide (x.arg ≤ i) && x.arg == t | none => false
theorem backN_all (l : List InstrD) (t : Nat) : backB l t = backN l l.length t := rfl
theorem backN_succ (l : List InstrD) (k t : Nat) (h : k < l.length) : backN l (k + 1) t = (backN l k t || (l[k].op == 13 && decide (l[k].arg ≤ k) && l[k].arg == t)) := by
  unfold backN
  rw [List.range_succ, List.any_append]
  simp [List.getElem?_eq_getElem h]
def ledN (l : List InstrD) (k t : Nat) : Bool := (l.take k).any fun x => jmpOp x.op && x.arg == (t : Int)
theorem ledN_all (l : List InstrD) (t : Nat) : ledTo l t = ledN l l.length t := by simp [ledTo, ledN]
theorem ledN_succ (l : List InstrD) (k t : Nat) (h : k < l.length) : ledN l (k + 1) t = (ledN l k t || (jmpOp l[k].op && l[k].arg == (t : Int))) := by
  unfold ledN
  rw [List.take_succ_eq_append_getElem h, List.any_append]
  simp
theorem isJ_jmp (op : Int) : isJ op = jmpOp op := rfl

theorem ret_eq {a b : Value} (h : a = b) : Ending.returned a = Ending.returned b := by rw [h]
set_option maxHeartbeats 4000000 in
theorem impl_backTargets (l : List InstrD) (v : Value) (w : World) (h : Instrs w v l) (ha : ArgOk l) (hl : l.length ≤ 1000) :
    Calls Tryz.prog 71 #[v] w (RetBools w (backB l) (l.length + 1)) := by
  obtain ⟨A, c, rfl, hlc, hm, HC⟩ := SlR.open_ h
  clear h
  unfold maxLen at hm
  have HA := Lib.hid ha
  clear ha
  have hmk := run_mk (P := Tryz.prog) w 24 4 (.bool false) 1 1 Tryz.underlying24 (by kernel_rfl) (l.length + 1) (by omega) (by omega)
  rw [Nat.mul_one, show ((l.length + 1 : Nat) : Int) = (l.length : Int) + 1 from by omega] at hmk
  go_enter Tryz.func71, Tryz.ntmps71
  go_upto_region 2 with fail
  refine gen_w (G := Rws w [(w.heap.size, 4, boolsL (backN l 0) (l.length + 1))]) (by
    unfold Ok
    rw [boolsL_made]
    exact (Rws.start w).push _ _) ?_
  clear hmk
  intro W0 F
  generalize w.heap.size = K at F ⊢
  go_wp2_with fail
  go_loopw [12] (fun i wr => ∃ j : Nat, j ≤ l.length ∧ i = .int .i64 j ∧ Ok (Rws w [(K, 4, boolsL (backN l j) (l.length + 1))]) wr) (fun i _ => l.length - (intOf i).toNat)
  case atStart => exact ⟨0, Nat.zero_le _, rfl, F⟩
  case round =>
    clear F
    obtain ⟨j, hj, rfl, F⟩ := hrel
    by_cases hlt : j < l.length
    · obtain ⟨b, off, cs, rfl, hbl, _, hat, hr⟩ := HC.out j hlt
      obtain ⟨A4, c4, A1, c1, A2, c2, A3, c3, A5, c5, A6, c6, rfl⟩ := hr.slices
      clear hr
      have HS := Lib.hid (fun t => backN_succ l j t hlt)
      have HAJ := Lib.hid (HA.out j hlt)
      obtain ⟨op, hop⟩ : ∃ x, l[j].op = x := ⟨_, rfl⟩
      obtain ⟨arg, harg⟩ : ∃ x, l[j].arg = x := ⟨_, rfl⟩
      rw [hop, harg] at hat HS HAJ
      clear hop harg
      obtain ⟨z0, z1, z2, z3, z4, z5, z6, z7, z8, z9, z10, z11, z12⟩ := pk_c13 F.below hbl hat
      clear hat
      go_upto_region 5 with fail
      refine gen_w (show Ok (Rws w ((wr.heap.size, 63, _) :: _)) _ from Rws.push F _ _) ?_
      clear F z0 z1 z2 z3 z4 z5 z6 z7 z8 z9 z10 z11 z12
      intro W2 F
      have y0 := F.cell 0 _ rfl 0 _ rfl
      have y1 := F.cell 0 _ rfl 1 _ rfl
      cases q13 : (op == 13)
      · have Q := Lib.hid q13
        have HN := Lib.hid (boolsL_congr (n := l.length + 1) (fun t _ => show backN l j t = backN l (j + 1) t by rw [HS.out]; simp [Q.out]))
        go_wp2_with fail
        go_roundw
        case rel => exact ⟨j + 1, by omega, by go_num, show Rws w _ _ by rw [← HN.out]; exact F.tail⟩
        case measure => simp [intOf]; omega
      · have Q := Lib.hid q13
        by_cases hle : arg ≤ (j : Int)
        · have b1 : decide (arg ≤ (j : Int)) = true := by simp [hle]
          have HB := Lib.hid (show 0 ≤ arg ∧ arg ≤ (l.length : Int) by have := HAJ.out (by rw [show op = 13 by simpa using Q.out]; decide); omega)
          have HLE := Lib.hid hle
          clear hle
          obtain ⟨a, rfl⟩ := Int.eq_ofNat_of_zero_le HB.out.1
          have han : a < l.length + 1 := by have := HB.out.2; omega
          have han2 : (a : Int) < (l.length : Int) + 1 := by omega
          have b2 : decide (a ≤ j) = true := by have := HLE.out; simp; omega
          have u0 := F.cell 1 _ rfl a _ (boolsL_at _ _ a han)
          have u1 := F.frozen 1 _ rfl a
          have HN := Lib.hid (boolsL_set (f := backN l j) (g := backN l (j + 1)) (n := l.length + 1) (k := a) (b := true) (fun t _ => by
            rw [HS.out]
            have h1 := HLE.out
            have h2 := Q.out
            simp only [h2, decide_eq_true h1, Bool.true_and]
            by_cases e : t = a
            · subst e; simp
            · have e2 : ¬ ((a : Int) = (t : Int)) := by omega
              simp [e, e2]))
          go_wp2_with fail
          go_roundw
          case rel => exact ⟨j + 1, by omega, by go_num, show Rws w _ _ by rw [← HN.out]; exact (Rws.set F 1 K _ _ rfl a _).tail⟩
          case measure => simp [intOf]; omega
        · have b1 : decide (arg ≤ (j : Int)) = false := by simp; omega
          have HLE := Lib.hid b1
          clear hle
          have HN := Lib.hid (boolsL_congr (n := l.length + 1) (fun t _ => show backN l j t = backN l (j + 1) t by rw [HS.out]; simp only [HLE.out, Bool.and_false, Bool.false_and, Bool.or_false]))
          go_wp2_with fail
          go_roundw
          case rel => exact ⟨j + 1, by omega, by go_num, show Rws w _ _ by rw [← HN.out]; exact F.tail⟩
          case measure => simp [intOf]; omega
    · obtain rfl : j = l.length := by omega
      go_wp2_with fail
      go_ret
      exact ⟨K, ret_eq (by push_cast; rfl), by rw [show (backB l) = backN l l.length from funext fun t => backN_all l t];  exact F.blk 0 _ rfl, F.lo 0 _ rfl, F.below⟩

set_option maxHeartbeats 4000000 in
theorem spec_l34Back (l : List InstrD) (v : Value) (w : World) (h : Instrs w v l) (ha : ArgOk l) (hl : l.length ≤ 1000) :
    Calls Tryz.prog 128 #[v] w (RetBools w (backB l) (l.length + 1)) := by
  obtain ⟨A, c, rfl, hlc, hm, HC⟩ := SlR.open_ h
  clear h
  unfold maxLen at hm
  have HA := Lib.hid ha
  clear ha
  have hmk := run_mk (P := Tryz.prog) w 24 4 (.bool false) 1 1 Tryz.underlying24 (by kernel_rfl) (l.length + 1) (by omega) (by omega)
  rw [Nat.mul_one, show ((l.length + 1 : Nat) : Int) = (l.length : Int) + 1 from by omega] at hmk
  go_enter Tryz.func128, Tryz.ntmps128
  go_upto_region 2 with fail
  refine gen_w (G := Rws w [(w.heap.size, 4, boolsL (backN l 0) (l.length + 1))]) (by
    unfold Ok
    rw [boolsL_made]
    exact (Rws.start w).push _ _) ?_
  clear hmk
  intro W0 F
  generalize w.heap.size = K at F ⊢
  go_wp2_with fail
  go_loopw [4] (fun i wr => ∃ j : Nat, j ≤ l.length ∧ i = .int .i64 j ∧ Ok (Rws w [(K, 4, boolsL (backN l j) (l.length + 1))]) wr) (fun i _ => l.length - (intOf i).toNat)
  case atStart => exact ⟨0, Nat.zero_le _, rfl, F⟩
  case round =>
    clear F
    obtain ⟨j, hj, rfl, F⟩ := hrel
    by_cases hlt : j < l.length
    · obtain ⟨b, off, cs, rfl, hbl, _, hat, hr⟩ := HC.out j hlt
      obtain ⟨A4, c4, A1, c1, A2, c2, A3, c3, A5, c5, A6, c6, rfl⟩ := hr.slices
      clear hr
      have HS := Lib.hid (fun t => backN_succ l j t hlt)
      have HAJ := Lib.hid (HA.out j hlt)
      obtain ⟨op, hop⟩ : ∃ x, l[j].op = x := ⟨_, rfl⟩
      obtain ⟨arg, harg⟩ : ∃ x, l[j].arg = x := ⟨_, rfl⟩
      rw [hop, harg] at hat HS HAJ
      clear hop harg
      obtain ⟨z0, z1, z2, z3, z4, z5, z6, z7, z8, z9, z10, z11, z12⟩ := pk_c13 F.below hbl hat
      clear hat
      cases q13 : (op == 13)
      · have Q := Lib.hid q13
        have HN := Lib.hid (boolsL_congr (n := l.length + 1) (fun t _ => show backN l j t = backN l (j + 1) t by rw [HS.out]; simp [Q.out]))
        go_wp2_with fail
        go_roundw
        case rel => exact ⟨j + 1, by omega, by go_num, show Rws w _ _ by rw [← HN.out]; exact F⟩
        case measure => simp [intOf]; omega
      · have Q := Lib.hid q13
        by_cases hle : arg ≤ (j : Int)
        · have b1 : decide (arg ≤ (j : Int)) = true := by simp [hle]
          have HB := Lib.hid (show 0 ≤ arg ∧ arg ≤ (l.length : Int) by have := HAJ.out (by rw [show op = 13 by simpa using Q.out]; decide); omega)
          have HLE := Lib.hid hle
          clear hle
          obtain ⟨a, rfl⟩ := Int.eq_ofNat_of_zero_le HB.out.1
          have han : a < l.length + 1 := by have := HB.out.2; omega
          have han2 : (a : Int) < (l.length : Int) + 1 := by omega
          have b2 : decide (a ≤ j) = true := by have := HLE.out; simp; omega
          have u0 := F.cell 0 _ rfl a _ (boolsL_at _ _ a han)
          have u1 := F.frozen 0 _ rfl a
          have HN := Lib.hid (boolsL_set (f := backN l j) (g := backN l (j + 1)) (n := l.length + 1) (k := a) (b := true) (fun t _ => by
            rw [HS.out]
            have h1 := HLE.out
            have h2 := Q.out
            simp only [h2, decide_eq_true h1, Bool.true_and]
            by_cases e : t = a
            · subst e; simp
            · have e2 : ¬ ((a : Int) = (t : Int)) := by omega
              simp [e, e2]))
          go_wp2_with fail
          go_roundw
          case rel => exact ⟨j + 1, by omega, by go_num, show Rws w _ _ by rw [← HN.out]; exact (Rws.set F 0 K _ _ rfl a _)⟩
          case measure => simp [intOf]; omega
        · have b1 : decide (arg ≤ (j : Int)) = false := by simp; omega
          have HLE := Lib.hid b1
          clear hle
          have HN := Lib.hid (boolsL_congr (n := l.length + 1) (fun t _ => show backN l j t = backN l (j + 1) t by rw [HS.out]; simp only [HLE.out, Bool.and_false, Bool.false_and, Bool.or_false]))
          go_wp2_with fail
          go_roundw
          case rel => exact ⟨j + 1, by omega, by go_num, show Rws w _ _ by rw [← HN.out]; exact F⟩
          case measure => simp [intOf]; omega
    · obtain rfl : j = l.length := by omega
      go_wp2_with fail
      go_ret
      exact ⟨K, ret_eq (by push_cast; rfl), by rw [show (backB l) = backN l l.length from funext fun t => backN_all l t];  exact F.blk 0 _ rfl, F.lo 0 _ rfl, F.below⟩

set_option maxHeartbeats 4000000 in
theorem spec_l34Targets (l : List InstrD) (v : Value) (w : World) (h : Instrs w v l) (ha : ArgOk l) (hl : l.length ≤ 1000) :
    Calls Tryz.prog 129 #[v] w (RetBools w (ledTo l) (l.length + 1)) := by
  obtain ⟨A, c, rfl, hlc, hm, HC⟩ := SlR.open_ h
  clear h
  unfold maxLen at hm
  have HA := Lib.hid ha
  clear ha
  have hmk := run_mk (P := Tryz.prog) w 24 4 (.bool false) 1 1 Tryz.underlying24 (by kernel_rfl) (l.length + 1) (by omega) (by omega)
  rw [Nat.mul_one, show ((l.length + 1 : Nat) : Int) = (l.length : Int) + 1 from by omega] at hmk
  go_enter Tryz.func129, Tryz.ntmps129
  go_upto_region 2 with fail
  refine gen_w (G := Rws w [(w.heap.size, 4, boolsL (ledN l 0) (l.length + 1))]) (by
    unfold Ok
    rw [boolsL_made]
    exact (Rws.start w).push _ _) ?_
  clear hmk
  intro W0 F
  generalize w.heap.size = K at F ⊢
  go_wp2_with fail
  go_loopw [4] (fun i wr => ∃ j : Nat, j ≤ l.length ∧ i = .int .i64 j ∧ Ok (Rws w [(K, 4, boolsL (ledN l j) (l.length + 1))]) wr) (fun i _ => l.length - (intOf i).toNat)
  case atStart => exact ⟨0, Nat.zero_le _, rfl, F⟩
  case round =>
    clear F
    obtain ⟨j, hj, rfl, F⟩ := hrel
    by_cases hlt : j < l.length
    · obtain ⟨b, off, cs, rfl, hbl, _, hat, hr⟩ := HC.out j hlt
      obtain ⟨A4, c4, A1, c1, A2, c2, A3, c3, A5, c5, A6, c6, rfl⟩ := hr.slices
      clear hr
      have HS := Lib.hid (fun t => ledN_succ l j t hlt)
      have HAJ := Lib.hid (HA.out j hlt)
      obtain ⟨op, hop⟩ : ∃ x, l[j].op = x := ⟨_, rfl⟩
      obtain ⟨arg, harg⟩ : ∃ x, l[j].arg = x := ⟨_, rfl⟩
      rw [hop, harg] at hat HS HAJ
      clear hop harg
      obtain ⟨z0, z1, z2, z3, z4, z5, z6, z7, z8, z9, z10, z11, z12⟩ := pk_c13 F.below hbl hat
      clear hat
      go_wp2_with fail
      refine Calls.mono (spec_l32Jumps op _) ?_
      rintro e w3 ⟨rfl, rfl⟩
      rw [isJ_jmp]
      cases q : jmpOp op
      · have Q := Lib.hid q
        clear q
        have HN := Lib.hid (boolsL_congr (n := l.length + 1) (fun t _ => show ledN l j t = ledN l (j + 1) t by rw [HS.out]; simp [Q.out]))
        go_wp2_with fail
        go_roundw
        case rel => exact ⟨j + 1, by omega, by go_num, show Rws w _ _ by rw [← HN.out]; exact F⟩
        case measure => simp [intOf]; omega
      · have Q := Lib.hid q
        have HB := Lib.hid (show 0 ≤ arg ∧ arg ≤ (l.length : Int) by have := HAJ.out Q.out; omega)
        clear q
        obtain ⟨a, rfl⟩ := Int.eq_ofNat_of_zero_le HB.out.1
        have han : a < l.length + 1 := by have := HB.out.2; omega
        have han2 : (a : Int) < (l.length : Int) + 1 := by omega
        skip
        have u0 := F.cell 0 _ rfl a _ (boolsL_at _ _ a han)
        have u1 := F.frozen 0 _ rfl a
        have HN := Lib.hid (boolsL_set (f := ledN l j) (g := ledN l (j + 1)) (n := l.length + 1) (k := a) (b := true) (fun t _ => by
          rw [HS.out]
          have h2 := Q.out
          simp only [h2, Bool.true_and]
          by_cases e : t = a
          · subst e; simp
          · have e2 : ¬ ((a : Int) = (t : Int)) := by omega
            simp [e, e2]))
        go_wp2_with fail
        go_roundw
        case rel => exact ⟨j + 1, by omega, by go_num, show Rws w _ _ by rw [← HN.out]; exact (Rws.set F 0 K _ _ rfl a _)⟩
        case measure => simp [intOf]; omega
    · obtain rfl : j = l.length := by omega
      go_wp2_with fail
      go_ret
      exact ⟨K, ret_eq (by push_cast; rfl), by rw [show (ledTo l) = ledN l l.length from funext fun t => ledN_all l t];  exact F.blk 0 _ rfl, F.lo 0 _ rfl, F.below⟩

end Go.Proofs.YtjdfancbmjnjfaaGreat
namespace Go.Proofs.YtjdfancbmjnjfaaGreat
set_option maxRecDepth 100000
open Go.ChangeShapes Go.WideShapes Go.ChangeAt Go.RowKit Go.Deep
set_option linter.unusedVariables false
set_option linter.unusedSimpArgs false

def ixL (l : List Nat) : List Value := l.map fun i => Value.int .i64 (i : Nat)
theorem own_far {w w' : World} {base n : Nat} {e : TypeId} {size : Nat} {v : Value} {xs : List Value} (h : w.ownsRow base e size v n xs) (hk : ∀ b, v.ownBlock = some b → w'.heap[b]? = w.heap[b]?) : w'.ownsRow base e size v n xs := by
  refine ⟨h.1, ?_⟩
  rcases h.2 with hn | ⟨g, cap, cur, rfl, hb, hg, rest⟩
  · exact .inl hn
  · exact .inr ⟨g, cap, cur, rfl, hb, (hk g rfl).trans hg, rest⟩
theorem own_pop {w : World} {base n c : Nat} {e : TypeId} {A : Option Addr} {l : List Value} {x : Value} (h : w.ownsRow base e 1 (.slice A (n + 1) c) (n + 1) (l ++ [x])) : w.ownsRow base e 1 (.slice A n c) n l := by
  have hl : l.length = n := by have := h.1; simp at this; omega
  refine ⟨by omega, ?_⟩
  rcases h.2 with ⟨_, h0⟩ | ⟨g, cap, cur, he, hb, hg, hn, hc, hs, ht⟩
  · exact absurd h0 (by omega)
  · injection he with e1 e2 e3
    subst e1 e3
    refine .inr ⟨g, c, cur, rfl, hb, hg, by omega, hc, hs, ?_⟩
    have h2 : (cur.toList.take ((n + 1) * 1)).take (n * 1) = l := by rw [ht, List.take_append_of_le_length (by omega), List.take_of_length_le (by omega)]
    rw [List.take_take, Nat.min_eq_left (by omega)] at h2
    exact h2
theorem own_last {w : World} {base n c : Nat} {e : TypeId} {A : Option Addr} {l : List Value} {x : Value} (h : w.ownsRow base e 1 (.slice A (n + 1) c) (n + 1) (l ++ [x])) : ∃ g, A = some ⟨g, 0, none⟩ ∧ g < w.heap.size ∧ n + 1 ≤ c ∧ c ≤ maxLen ∧ w.cell? ⟨g, n, none⟩ = some x := by
  have hl : l.length = n := by have := h.1; simp at this; omega
  rcases h.2 with ⟨_, h0⟩ | ⟨g, cap, cur, he, hb, hg, hn, hc, hs, ht⟩
  · exact absurd h0 (by omega)
  · injection he with e1 e2 e3
    subst e1 e3
    refine ⟨g, rfl, (Array.getElem?_eq_some_iff.1 hg).1, hn, hc, ?_⟩
    have h2 : cur.toList[n]? = some x := by
      have := congrArg (fun q => q[n]?) ht
      simp only [List.getElem?_take] at this
      rw [if_pos (by omega)] at this
      rw [this, List.getElem?_append_right (by omega), hl, Nat.sub_self]
      rfl
    simp only [World.cell?, hg]
    simpa using h2

/-- what the search has in hand: what it has seen, and the places that it has still to look at -/
structure TS (w0 : World) (K bK bT n : Nat) (seen : List Bool) (todo : List Nat) (A : Option Addr) (c : Nat) (W : World) : Prop where
  rows : Rws w0 [(bT, 23, [.slice A todo.length c]), (bK, 24, [.slice (some ⟨K, 0, none⟩) n n]), (K, 4, boolsL (bAt seen) n)] W
  own : W.ownsRow w0.heap.size 3 1 (.slice A todo.length c) todo.length (ixL todo)
  ne : ∀ b, (Value.slice A todo.length c).ownBlock = some b → b ≠ K ∧ b ≠ bK ∧ b ≠ bT
section
variable {w0 : World} {K bK bT n : Nat} {seen : List Bool} {todo : List Nat} {A : Option Addr} {c : Nat} {W W' : World}
theorem TS.mark (h : TS w0 K bK bT n seen todo A c W) (hn : seen.length = n) (k : Nat) : TS w0 K bK bT n (seen.set k true) todo A c (W.setCell ⟨K, k, none⟩ (.bool true)) := by
  have h1 := h.rows.set 2 K _ _ rfl k (.bool true)
  rw [boolsL_set (g := bAt (seen.set k true)) (fun j hj => by
    rw [bAt_set]
    by_cases e : j = k
    · subst e; simp [hn, hj]
    · simp [e])] at h1
  exact ⟨h1, own_far h.own fun b hb => Below.heap_setCell _ _ _ _ (h.ne b hb).1, h.ne⟩
theorem TS.push {A1 : Option Addr} {c1 : Nat} (h : TS w0 K bK bT n seen todo A c W) (k : Nat) (ho : W'.ownsRow w0.heap.size 3 1 (.slice A1 (todo.length + 1) c1) (todo.length + 1) (ixL todo ++ [.int .i64 (k : Nat)]))
    (hg : W.grownBy W' (Value.slice A todo.length c).ownBlock) (hbk : (Value.slice A1 (todo.length + 1) c1).ownBlock = (Value.slice A todo.length c).ownBlock ∨ (Value.slice A1 (todo.length + 1) c1).ownBlock = some (W.heap.size + 1)) (hb : Below w0.heap.size W W') :
    TS w0 K bK bT n seen (todo ++ [k]) A1 c1 (W'.setCell ⟨bT, 0, none⟩ (.slice A1 (todo.length + 1) c1)) := by
  have hk : Keeps (fun b => ∃ p ∈ [(bT, 23, [Value.slice A todo.length c]), (bK, 24, [.slice (some ⟨K, 0, none⟩) n n]), (K, 4, boolsL (bAt seen) n)], p.1 = b) W W' :=
    ⟨hg.size, fun b hb hp => hg.block b hb fun e => by
      obtain ⟨h1, h2, h3⟩ := h.ne b e.symm
      obtain ⟨p, hp, rfl⟩ := hp
      simp only [List.mem_cons, List.not_mem_nil, or_false] at hp
      rcases hp with rfl | rfl | rfl
      · exact h3 rfl
      · exact h2 rfl
      · exact h1 rfl⟩
  have h1 := (h.rows.keep (h.rows.below.trans hb) hk).set 0 bT _ _ rfl 0 (.slice A1 (todo.length + 1) c1)
  have hT := (h.rows.blk 0 _ rfl).lt
  have hK := (h.rows.blk 1 _ rfl).lt
  have hR := (h.rows.blk 2 _ rfl).lt
  dsimp only at hT hK hR
  have hne : ∀ b, (Value.slice A1 (todo.length + 1) c1).ownBlock = some b → b ≠ K ∧ b ≠ bK ∧ b ≠ bT := fun b hb => by
    rcases hbk with e | e
    · exact h.ne b (e ▸ hb)
    · rw [e] at hb
      injection hb with hb
      subst hb
      exact ⟨by omega, by omega, by omega⟩
  have e : (todo ++ [k]).length = todo.length + 1 := by simp
  have e2 : ixL (todo ++ [k]) = ixL todo ++ [.int .i64 (k : Nat)] := by simp [ixL]
  refine ⟨by rw [e]; exact h1, by rw [e, e2]; exact own_far ho fun b hb => Below.heap_setCell _ _ _ _ (hne b hb).2.2, by rw [e]; exact hne⟩
theorem TS.pop {k : Nat} (h : TS w0 K bK bT n seen (todo ++ [k]) A c W) : TS w0 K bK bT n seen todo A c (W.setCell ⟨bT, 0, none⟩ (.slice A todo.length c)) := by
  have e : (todo ++ [k]).length = todo.length + 1 := by simp
  have e2 : ixL (todo ++ [k]) = ixL todo ++ [.int .i64 (k : Nat)] := by simp [ixL]
  have h1 := h.rows.set 0 bT _ _ rfl 0 (.slice A todo.length c)
  have hne := h.ne
  have ho := h.own
  rw [e] at ho hne
  rw [e2] at ho
  have hne' : ∀ b, (Value.slice A todo.length c).ownBlock = some b → b ≠ K ∧ b ≠ bK ∧ b ≠ bT := fun b hb => hne b (by cases A with
    | none => simp [Value.ownBlock] at hb
    | some a => exact hb)
  exact ⟨h1, own_far (own_pop ho) fun b hb => Below.heap_setCell _ _ _ _ (hne' b hb).2.2, hne'⟩
end
theorem own_shp' {w : World} {base n : Nat} {e : TypeId} {size : Nat} {v : Value} {xs : List Value} (h : w.ownsRow base e size v n xs) : ∃ A c, v = .slice A n c := by
  rcases h.2 with ⟨rfl, rfl⟩ | ⟨g, cap, cur, rfl, _⟩
  · exact ⟨none, 0, rfl⟩
  · exact ⟨_, _, rfl⟩
theorem Blk.of_grown {w w' : World} {g t : Nat} {cs : List Value} {r : Option Nat} (hg : w.grownBy w' r) (h : Blk w g t cs) (hne : some g ≠ r) : Blk w' g t cs := (hg.block g h.lt hne).trans h
def RetVis (w0 : World) (K bK bT n : Nat) (seen : List Bool) (todo : List Nat) (e : Ending) (W' : World) : Prop := e = .returned (.tuple #[]) ∧ ∃ A' c', TS w0 K bK bT n seen todo A' c' W'
set_option maxHeartbeats 2000000 in
theorem impl_visit (w0 : World) (K bK bT n : Nat) (seen : List Bool) (todo : List Nat) (A : Option Addr) (c : Nat) (W : World) (h : TS w0 K bK bT n seen todo A c W) (hs : seen.length = n) (k : Nat) (hk : k < n) (hn : n ≤ 1001) (ht : todo.length ≤ 5000) :
    Calls Tryz.prog 131 #[.int .i64 k, .pointer (some ⟨bK, 0, none⟩), .pointer (some ⟨bT, 0, none⟩)] W (RetVis w0 K bK bT n (visS seen k) (visT seen todo k)) := by
  have HS := Lib.hid h
  have b0 := h.rows.cell 1 _ rfl 0 _ rfl
  have k0 := h.rows.cell 2 _ rfl k _ (boolsL_at _ n k hk)
  have k1 := h.rows.frozen 2 _ rfl k
  clear h
  cases hb : bAt seen k
  · have HB := Lib.hid hb
    rw [hb] at k0
    clear hb
    have HN1 := Lib.hid (show visS seen k = seen.set k true by unfold visS; rw [HB.out]; rfl)
    have HN2 := Lib.hid (show visT seen todo k = todo ++ [k] by unfold visT; rw [HB.out]; rfl)
    go_enter Tryz.func131, Tryz.ntmps131
    go_upto_region 2 with fail
    refine gen_w (G := TS w0 K bK bT n (seen.set k true) todo A c) (show Ok _ _ from HS.out.mark hs k) ?_
    clear HS b0 k0 k1
    intro W1 F
    have HF := Lib.hid F
    have t0 := F.rows.cell 0 _ rfl 0 _ rfl
    have hlo : w0.heap.size ≤ W1.heap.size := F.rows.size
    clear F
    go_wp2_with (at_builtin; go_must (refine wpList_push rfl _ _ 23 rfl w0.heap.size 3 (.int .i64 0) 1 8 Tryz.underlying23 info_int rfl (by decide) _ _ _ _ _ rfl rfl (by exact HF.out.own) rfl (by simp [Value.oneCell']) (by omega) (by omega) hlo ?_); intro v1 w3 ho3 hg3 hbk3 hb3; obtain ⟨A1, n1, rfl⟩ := own_shp' ho3; have CR := Lib.hid (TS.push HF.out k (by simpa using ho3) hg3 hbk3 hb3); have t3 := (Blk.of_grown hg3 (HF.out.rows.blk 0 _ rfl) (fun e => (HF.out.ne _ e.symm).2.2 rfl)).cell 0 _ rfl; have t3' := (Blk.of_grown hg3 (HF.out.rows.blk 0 _ rfl) (fun e => (HF.out.ne _ e.symm).2.2 rfl)).frozen 0)
    refine bodyPost_end (v := .tuple #[]) (by kernel_rfl) rfl ?_
    rw [HN1.out, HN2.out]
    exact ⟨rfl, A1, n1, CR.out⟩
  · have HB := Lib.hid hb
    rw [hb] at k0
    clear hb
    have HN1 := Lib.hid (show visS seen k = seen by unfold visS; rw [HB.out]; rfl)
    have HN2 := Lib.hid (show visT seen todo k = todo by unfold visT; rw [HB.out]; rfl)
    go_enter Tryz.func131, Tryz.ntmps131
    go_wp2_with fail
    refine bodyPost_end (v := .tuple #[]) (by kernel_rfl) rfl ?_
    rw [HN1.out, HN2.out]
    exact ⟨rfl, A, c, HS.out⟩
end Go.Proofs.YtjdfancbmjnjfaaGreat
