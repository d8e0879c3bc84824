/-
  Contract: impl.reachable: the places that can be reached.
-/
import Derived.Test.YtjdfancbmjnjfaaGreatKJump
import Derived.Test.YtjdfancbmjnjfaaGreatChk1
namespace Go.Proofs.YtjdfancbmjnjfaaGreat
set_option maxRecDepth 100000
open Go.ChangeShapes Go.WideShapes Go.ChangeAt Go.RowKit Go.Deep
set_option linter.unusedVariables false
set_option linter.unusedSimpArgs false

/-! ### The plain law of the search -/
structure TodoE (l : List InstrD) (seen : List Bool) (todo : List Nat) (ex : Nat → Prop) : Prop where
  len : seen.length = l.length + 1
  zero : bAt seen 0 = true
  fair : ∀ p, bAt seen p = true → RR l p
  mem : ∀ p ∈ todo, bAt seen p = true ∧ p ≤ l.length
  done : ∀ (p : Nat) (hp : p < l.length), ¬ ex p → bAt seen p = true → p ∉ todo → (endOp l[p].op = false → bAt seen (p + 1) = true) ∧ (jmpOp l[p].op = true → bAt seen l[p].arg.toNat = true)
theorem nil_or_snoc {α : Type} (l : List α) : l = [] ∨ ∃ l' x, l = l' ++ [x] := by
  rcases List.eq_nil_or_concat l with h | ⟨a, b, h⟩
  · exact .inl h
  · exact .inr ⟨a, b, by simpa using h⟩
theorem Todo.pop {l : List InstrD} {seen : List Bool} {todo : List Nat} {i : Nat} (h : Todo l seen (todo ++ [i])) : TodoE l seen todo (fun p => p = i) :=
  ⟨h.len, h.zero, h.fair, fun p hp => h.mem p (by simp [hp]), fun p hp hx hb hm => h.done p hp hb (by simp; exact ⟨hm, hx⟩)⟩
theorem bAt_vis (seen : List Bool) (k p : Nat) (hk : k < seen.length) : bAt (visS seen k) p = (bAt seen p || decide (p = k)) := by
  unfold visS
  cases h : bAt seen k
  · simp only [Bool.false_eq_true, if_false, bAt_set]
    by_cases e : p = k
    · subst e; simp [hk]
    · simp [e]
  · simp only [if_true]
    by_cases e : p = k
    · subst e; simp [h]
    · simp [e]
theorem visS_len (seen : List Bool) (k : Nat) : (visS seen k).length = seen.length := by unfold visS; split <;> simp
theorem mem_visT {seen : List Bool} {todo : List Nat} {k p : Nat} : p ∈ visT seen todo k ↔ p ∈ todo ∨ (p = k ∧ bAt seen k = false) := by
  unfold visT
  cases h : bAt seen k <;> simp
theorem TodoE.vis {l : List InstrD} {seen : List Bool} {todo : List Nat} {ex : Nat → Prop} (h : TodoE l seen todo ex) (k : Nat) (hk : k ≤ l.length) (hr : RR l k) : TodoE l (visS seen k) (visT seen todo k) ex := by
  have hkl : k < seen.length := by have := h.len; omega
  refine ⟨by rw [visS_len]; exact h.len, by rw [bAt_vis _ _ _ hkl, h.zero]; rfl, fun p hp => ?_, fun p hp => ?_, fun p hp hx hb hm => ?_⟩
  · rw [bAt_vis _ _ _ hkl] at hp
    simp only [Bool.or_eq_true, decide_eq_true_eq] at hp
    rcases hp with hp | rfl
    · exact h.fair p hp
    · exact hr
  · rw [bAt_vis _ _ _ hkl]
    rcases mem_visT.1 hp with hp | ⟨rfl, _⟩
    · have := h.mem p hp
      exact ⟨by rw [this.1]; rfl, this.2⟩
    · exact ⟨by simp, hk⟩
  · rw [bAt_vis _ _ _ hkl] at hb
    rw [bAt_vis _ _ _ hkl, bAt_vis _ _ _ hkl]
    have hm2 : ¬ (p = k ∧ bAt seen k = false) := fun e => hm (mem_visT.2 (.inr e))
    have hm1 : p ∉ todo := fun e => hm (mem_visT.2 (.inl e))
    have hb2 : bAt seen p = true := by
      simp only [Bool.or_eq_true, decide_eq_true_eq] at hb
      rcases hb with hb | rfl
      · exact hb
      · cases e : bAt seen p
        · exact absurd ⟨rfl, e⟩ hm2
        · rfl
    obtain ⟨d1, d2⟩ := h.done p hp hx hb2 hm1
    exact ⟨fun e => by rw [d1 e]; rfl, fun e => by rw [d2 e]; rfl⟩
theorem TodoE.close {l : List InstrD} {seen : List Bool} {todo : List Nat} {i : Nat} (h : TodoE l seen todo (fun p => p = i)) (h2 : ∀ hi : i < l.length, (endOp l[i].op = false → bAt seen (i + 1) = true) ∧ (jmpOp l[i].op = true → bAt seen l[i].arg.toNat = true)) : Todo l seen todo :=
  ⟨h.len, h.zero, h.fair, h.mem, fun p hp hb hm => by
    by_cases e : p = i
    · subst e; exact h2 hp
    · exact h.done p hp e hb hm⟩
def mu (seen : List Bool) (todo : List Nat) : Nat := 2 * seen.count false + todo.length
theorem count_set_lt {s : List Bool} {k : Nat} (h : k < s.length) (hb : bAt s k = false) : (s.set k true).count false + 1 = s.count false := by
  induction s generalizing k with
  | nil => simp at h
  | cons a s ih =>
    cases k with
    | zero =>
      have : a = false := by simpa [bAt] using hb
      subst this
      simp
    | succ k =>
      have := ih (k := k) (by simpa using h) (by simpa [bAt] using hb)
      rw [List.set_cons_succ, List.count_cons, List.count_cons]
      omega
theorem mu_vis (seen : List Bool) (todo : List Nat) (k : Nat) (hk : k < seen.length) : mu (visS seen k) (visT seen todo k) ≤ mu seen todo := by
  unfold mu visS visT
  cases h : bAt seen k
  · simp only [Bool.false_eq_true, if_false, List.length_append, List.length_cons, List.length_nil]
    have := count_set_lt hk h
    omega
  · simp
theorem bAt_false (n p : Nat) : bAt (List.replicate n false) p = false := by
  unfold bAt
  rw [List.getElem?_replicate]
  split <;> rfl
theorem Todo.start (l : List InstrD) : Todo l ((List.replicate (l.length + 1) false).set 0 true) [0] := by
  have e : ∀ p, bAt ((List.replicate (l.length + 1) false).set 0 true) p = decide (p = 0) := fun p => by
    rw [bAt_set, bAt_false]
    by_cases h : p = 0 <;> simp [h]
  refine ⟨by simp, by rw [e]; rfl, fun p hp => ?_, fun p hp => ?_, fun p hp hb hm => ?_⟩
  · rw [e] at hp
    obtain rfl := of_decide_eq_true hp
    exact .zero
  · obtain rfl : p = 0 := by simpa using hp
    exact ⟨by rw [e]; rfl, by omega⟩
  · rw [e] at hb
    obtain rfl := of_decide_eq_true hb
    exact absurd (by simp) hm
theorem reach_fun {l : List InstrD} (ha : ArgOk l) (hb : BackOk l) {seen : List Bool} (h : Todo l seen []) : ∀ p, bAt seen p = bAt (rch l p) p := fun p => by
  rw [Bool.eq_iff_iff, h.end_, RR_FR hb, rch_iff l ha]
theorem own_one (w : World) (e : TypeId) (u : Value) : (w.alloc (.cells #[u] e)).ownsRow w.heap.size e 1 (.slice (some ⟨w.heap.size, 0, none⟩) 1 1) 1 [u] :=
  ⟨rfl, .inr ⟨w.heap.size, 1, #[u], rfl, Nat.le_refl _, heap_alloc_new w _, Nat.le_refl _, by unfold maxLen; omega, rfl, rfl⟩⟩
theorem TS.first (w : World) (n : Nat) : TS w w.heap.size (w.heap.size + 1) (w.heap.size + 1 + 1 + 1) n (List.replicate n false) [0] (some ⟨w.heap.size + 1 + 1, 0, none⟩) 1
    ((((w.alloc (.cells (madeCells #[Value.bool false] n) 4)).alloc (.cells #[.slice (some ⟨w.heap.size, 0, none⟩) n n] 24)).alloc (.cells #[.int .i64 0] 3)).alloc (.cells #[.slice (some ⟨w.heap.size + 1 + 1, 0, none⟩) 1 1] 23)) := by
  rw [boolsL_made]
  have h1 := ((((Rws.start w).push 4 (boolsL (fun _ => false) n)).push 24 [.slice (some ⟨w.heap.size, 0, none⟩) n n]).push 3 [.int .i64 0]).push 23 [.slice (some ⟨w.heap.size + 1 + 1, 0, none⟩) 1 1]
  have e : boolsL (fun _ => false) n = boolsL (bAt (List.replicate n false)) n := boolsL_congr fun j _ => (bAt_false n j).symm
  rw [e] at h1 ⊢
  have h2 := own_below (own_base (own_one ((w.alloc (.cells (boolsL (bAt (List.replicate n false)) n).toArray 4)).alloc (.cells #[.slice (some ⟨w.heap.size, 0, none⟩) n n] 24)) 3 (.int .i64 0)) (base' := w.heap.size) (by simp; omega)) ((Below.refl _ _).alloc (Nat.le_refl _) (.cells #[.slice (some ⟨w.heap.size + 1 + 1, 0, none⟩) 1 1] 23))
  refine ⟨by simpa using h1.drop1, by simpa [ixL] using h2, fun b hb => ?_⟩
  simp only [Value.ownBlock, Option.some.injEq] at hb
  omega

set_option maxHeartbeats 8000000 in
theorem impl_reachable (l : List InstrD) (v : Value) (w : World) (h : Instrs w v l) (ha : ArgOk l) (hb : BackOk l) (hop : ∀ x ∈ l, 0 ≤ x.op ∧ x.op ≤ 33) (hl : l.length ≤ 1000) :
    Calls Tryz.prog 107 #[v] w (RetBools w (fun p => bAt (rch l p) p) (l.length + 1)) := by
  obtain ⟨A, c, rfl, hlc, hm, HC⟩ := SlR.open_ h
  clear h
  unfold maxLen at hm
  have HA := Lib.hid ha
  have HRF := Lib.hid (fun (seen : List Bool) (h : Todo l seen []) => reach_fun ha hb h)
  have HOP := Lib.hid hop
  clear ha hb hop
  have hmk := run_mk (P := Tryz.prog) w 24 4 (.bool false) 1 1 Tryz.underlying24 (by kernel_rfl) (l.length + 1) (by omega) (by omega)
  rw [Nat.mul_one, show ((l.length + 1 : Nat) : Int) = (l.length : Int) + 1 from by omega] at hmk
  have HF := Lib.hid (TS.first w (l.length + 1))
  have k0 := HF.out.rows.cell 1 _ rfl 0 _ rfl
  have k1 := HF.out.rows.cell 2 _ rfl 0 _ (boolsL_at _ (l.length + 1) 0 (by omega))
  have k2 := HF.out.rows.frozen 2 _ rfl 0
  go_enter Tryz.func107, Tryz.ntmps107
  go_upto_region 3 with fail
  refine gen_w (G := TS w w.heap.size (w.heap.size + 1) (w.heap.size + 1 + 1 + 1) (l.length + 1) (List.replicate (l.length + 1) false) [0] (some ⟨w.heap.size + 1 + 1, 0, none⟩) 1) (show Ok _ _ from HF.out) ?_
  clear hmk k0 k1 k2 HF
  intro W0 F
  have k0 := F.rows.cell 1 _ rfl 0 _ rfl
  have k1 := F.rows.cell 2 _ rfl 0 _ (boolsL_at _ (l.length + 1) 0 (by omega))
  have k2 := F.rows.frozen 2 _ rfl 0
  go_upto_region 4 with fail
  refine gen_w (G := TS w w.heap.size (w.heap.size + 1) (w.heap.size + 1 + 1 + 1) (l.length + 1) ((List.replicate (l.length + 1) false).set 0 true) [0] (some ⟨w.heap.size + 1 + 1, 0, none⟩) 1) (show Ok _ _ from TS.mark F (by simp) 0) ?_
  clear k0 k1 k2 F
  intro W1 F
  have HT0 := Lib.hid (Todo.start l)
  have HM0 := Lib.hid (show mu ((List.replicate (l.length + 1) false).set 0 true) [0] ≤ 3000 by
    have h1 : ((List.replicate (l.length + 1) false).set 0 true).count false ≤ l.length + 1 := by
      have h2 := List.count_le_length (a := false) (l := (List.replicate (l.length + 1) false).set 0 true)
      simpa using h2
    unfold mu
    simp only [List.length_cons, List.length_nil]
    omega)
  generalize (List.replicate (l.length + 1) false).set 0 true = seen0 at F HT0 HM0
  generalize hK : w.heap.size = K at F ⊢
  generalize hbK : K + 1 = bK at F ⊢
  generalize hbT : bK + 1 + 1 = bT at F ⊢
  clear hK hbK hbT
  go_wp2_with fail
  go_loopg [6] (mu seen0 [0]) (fun gk i wr => ∃ (seen : List Bool) (todo : List Nat) (A9 : Option Addr) (c9 : Nat), Hid (Todo l seen todo) ∧ Hid (mu seen todo ≤ gk) ∧ Hid (gk ≤ 3000) ∧ Ok (TS w K bK bT (l.length + 1) seen todo A9 c9) wr)
  case atStart => exact ⟨seen0, [0], _, _, HT0.out, Nat.le_refl _, HM0.out, F⟩
  case round =>
    clear F HT0 HM0
    obtain ⟨seen, todo, A9, c9, HT, HM, HG, F⟩ := hrel
    rcases nil_or_snoc todo with rfl | ⟨todo', i, rfl⟩
    · have t0 := F.rows.cell 0 _ rfl 0 _ rfl
      have t1 := F.rows.cell 1 _ rfl 0 _ rfl
      have HB := Lib.hid (show Blk wr K 4 (boolsL (fun p => bAt (rch l p) p) (l.length + 1)) by
        rw [boolsL_congr fun p _ => (HRF.out seen HT.out p).symm]
        exact F.rows.blk 2 _ rfl)
      have HW := Lib.hid F.rows.below
      have HK := Lib.hid (F.rows.lo 2 _ rfl)
      clear F
      simp only [List.length_nil] at t0
      go_wp2_with fail
      go_ret
      exact ⟨K, ret_eq (by push_cast; rfl), HB.out, HK.out, HW.out⟩
    · have HF := Lib.hid F
      have ho := F.own
      have e : (todo' ++ [i]).length = todo'.length + 1 := by simp
      rw [e, show ixL (todo' ++ [i]) = ixL todo' ++ [.int .i64 (i : Nat)] by simp [ixL]] at ho
      obtain ⟨g, rfl, hg, hc1, hc2, x0⟩ := own_last ho
      have t0 := F.rows.cell 0 _ rfl 0 _ rfl
      have t0' := F.rows.frozen 0 _ rfl 0
      have HP := Lib.hid (TS.pop F)
      rw [e] at t0
      unfold maxLen at hc2
      have hi := Lib.hid (HT.out.mem i (by simp))
      have hti : todo'.length ≤ 3000 := by have h1 := HM.out; have h2 := HG.out; unfold mu at h1; rw [e] at h1; omega
      clear F ho e
      go_upto_region 8 with fail
      refine gen_w (G := TS w K bK bT (l.length + 1) seen todo' (some ⟨g, 0, none⟩) c9) (show Ok _ _ from HP.out) ?_
      clear HP HF t0 t0' x0
      intro W2 F
      have HE := Lib.hid (Todo.pop HT.out)
      have HM2 := Lib.hid (show mu seen todo' + 1 ≤ gk by
        have h1 := HM.out
        unfold mu at h1 ⊢
        simp only [List.length_append, List.length_cons, List.length_nil] at h1
        omega)
      have HSL := Lib.hid HT.out.len
      clear HM
      by_cases hil : i = l.length
      · have b1 : ((i : Int) == (l.length : Int)) = true := by simp [hil]
        have b2 : (i == l.length) = true := by simp [hil]
        have HIL := Lib.hid hil
        clear hil
        go_wp2_with fail
        go_roundg (mu seen todo')
        case measure => have := HM2.out; omega
        case rel => exact ⟨seen, todo', _, _, TodoE.close HE.out (fun h => absurd h (by have := HIL.out; omega)), Nat.le_refl _, by have h1 := HG.out; have h2 := HM2.out; show mu seen todo' ≤ 3000; omega, F⟩
      · have hlt : i < l.length := by have := hi.out.2; omega
        have b1 : ((i : Int) == (l.length : Int)) = false := by simp; omega
        have b2 : (i == l.length) = false := by simp; omega
        clear hil
        obtain ⟨b, off, cs, rfl, hbl, _, hat, hr⟩ := HC.out i hlt
        obtain ⟨A4, c4, A1, c1, A2, c2, A3, c3, A5, c5, A6, c6, rfl⟩ := hr.slices
        clear hr
        have HAJ := Lib.hid (HA.out i hlt)
        have HOJ := Lib.hid (HOP.out _ (List.getElem_mem hlt))
        have HRR := Lib.hid (HT.out.fair i hi.out.1)
        have HRN := Lib.hid (fun he : endOp l[i].op = false => RR.next hlt HRR.out he)
        have HRJ := Lib.hid (fun he : jmpOp l[i].op = true => RR.jump hlt HRR.out he)
        have HCL := Lib.hid (fun (s2 : List Bool) (t2 : List Nat) (h1 : TodoE l s2 t2 (fun p => p = i)) (h2 : endOp l[i].op = false → bAt s2 (i + 1) = true) (h3 : jmpOp l[i].op = true → bAt s2 l[i].arg.toNat = true) => TodoE.close h1 (fun _ => ⟨h2, h3⟩))
        obtain ⟨op, hop⟩ : ∃ x, l[i].op = x := ⟨_, rfl⟩
        obtain ⟨arg, harg⟩ : ∃ x, l[i].arg = x := ⟨_, rfl⟩
        rw [hop] at hat HAJ HOJ HRN HRJ HCL
        rw [harg] at hat HAJ HRJ HCL
        clear hop harg HT
        obtain ⟨z0, z1, z2, z3, z4, z5, z6, z7, z8, z9, z10, z11, z12⟩ := pk_c13 F.rows.below hbl hat
        clear z2 z3 z4 z5 z6 z7 z8 z9 z10 z11 z12
        go_wp2_with fail
        refine Calls.mono (impl_isJumping op _) ?_
        rintro e w3 ⟨rfl, rfl⟩
        rw [isJ_jmp]
        cases J : jmpOp op
        · have HJ := Lib.hid J
          clear J
          go_wp2_with fail
          refine Calls.mono (impl_goesOn op HOJ.out.1 HOJ.out.2 _) ?_
          rintro e w4 ⟨rfl, rfl⟩
          cases Q : endOp op
          · have HQ := Lib.hid Q
            clear Q
            have h11 : i + 1 < l.length + 1 := by omega
            have HV := Lib.hid (fun (A : Option Addr) (c : Nat) (V : World) (h : TS w K bK bT (l.length + 1) seen todo' A c V) => impl_visit w K bK bT (l.length + 1) seen todo' A c V h HSL.out (i + 1) h11 (by omega) (by have h1 := HM2.out; have h2 := HG.out; unfold mu at h1; omega))
            have HU := Lib.hid (TodoE.vis HE.out (i + 1) (by omega) (HRN.out HQ.out))
            have HW := Lib.hid (mu_vis seen todo' (i + 1) (by have := HSL.out; omega))
            have HX := Lib.hid (HCL.out _ _ HU.out (fun _ => by rw [bAt_vis _ _ _ (by have := HSL.out; omega)]; simp) (fun hj => by rw [bAt_vis _ _ _ (by have := HSL.out; omega)]; rw [HJ.out] at hj; cases hj))
            have HF := Lib.hid F
            clear F
            go_wp2_with fail
            refine Calls.mono (by simpa using HV.out _ _ _ HF.out) ?_
            rintro e w5 ⟨rfl, A', c', F⟩
            clear HF z0 z1
            go_wp2_with fail
            go_roundg (mu (visS seen (i + 1)) (visT seen todo' (i + 1)))
            case measure => have h1 := HM2.out; have h2 := HW.out; omega
            case rel => exact ⟨_, _, _, _, HX.out, Nat.le_refl _, by have h1 := HM2.out; have h2 := HW.out; have h3 := HG.out; show mu _ _ ≤ 3000; omega, F⟩
          · have HQ := Lib.hid Q
            clear Q
            have HX := Lib.hid (HCL.out _ _ HE.out (fun hj => by rw [HQ.out] at hj; cases hj) (fun hj => by rw [HJ.out] at hj; cases hj))
            go_wp2_with fail
            go_roundg (mu seen todo')
            case measure => have h1 := HM2.out; omega
            case rel => exact ⟨_, _, _, _, HX.out, Nat.le_refl _, by have h1 := HM2.out; have h3 := HG.out; show mu _ _ ≤ 3000; omega, F⟩
        · have HJ := Lib.hid J
          clear J
          have h0 := HAJ.out HJ.out
          obtain ⟨a, rfl⟩ := Int.eq_ofNat_of_zero_le h0.1
          have han : a < l.length + 1 := by omega
          have HV1 := Lib.hid (fun (A : Option Addr) (c : Nat) (V : World) (h : TS w K bK bT (l.length + 1) seen todo' A c V) => impl_visit w K bK bT (l.length + 1) seen todo' A c V h HSL.out a han (by omega) (by have h1 := HM2.out; have h2 := HG.out; unfold mu at h1; omega))
          have HU1 := Lib.hid (TodoE.vis HE.out a (by omega) (by simpa using HRJ.out HJ.out))
          have HW1 := Lib.hid (mu_vis seen todo' a (by have := HSL.out; omega))
          have HM3 := Lib.hid (show mu (visS seen a) (visT seen todo' a) + 1 ≤ gk by have h1 := HM2.out; have h2 := HW1.out; omega)
          have HSL1 := Lib.hid (show (visS seen a).length = l.length + 1 by rw [visS_len]; exact HSL.out)
          have HBA := Lib.hid (show bAt (visS seen a) a = true by rw [bAt_vis _ _ _ (by have := HSL.out; omega)]; simp)
          clear h0
          have HF := Lib.hid F
          clear F
          go_wp2_with fail
          refine Calls.mono (HV1.out _ _ _ HF.out) ?_
          rintro e w5 ⟨rfl, A', c', F⟩
          clear HF z0 z1
          obtain ⟨z0, z1, z2, z3, z4, z5, z6, z7, z8, z9, z10, z11, z12⟩ := pk_c13 F.rows.below hbl hat
          clear z2 z3 z4 z5 z6 z7 z8 z9 z10 z11 z12
          generalize visS seen a = s1 at *
          generalize visT seen todo' a = t1 at *
          go_wp2_with fail
          refine Calls.mono (impl_goesOn op HOJ.out.1 HOJ.out.2 _) ?_
          rintro e w4 ⟨rfl, rfl⟩
          cases Q : endOp op
          · have HQ := Lib.hid Q
            clear Q
            have h11 : i + 1 < l.length + 1 := by omega
            have HV := Lib.hid (fun (A : Option Addr) (c : Nat) (V : World) (h : TS w K bK bT (l.length + 1) s1 t1 A c V) => impl_visit w K bK bT (l.length + 1) s1 t1 A c V h HSL1.out (i + 1) h11 (by omega) (by have h1 := HM3.out; have h2 := HG.out; unfold mu at h1; omega))
            have HU := Lib.hid (TodoE.vis HU1.out (i + 1) (by omega) (HRN.out HQ.out))
            have HW := Lib.hid (mu_vis s1 t1 (i + 1) (by have := HSL1.out; omega))
            have HX := Lib.hid (HCL.out _ _ HU.out (fun _ => by rw [bAt_vis _ _ _ (by have := HSL1.out; omega)]; simp) (fun hj => by rw [bAt_vis _ _ _ (by have := HSL1.out; omega)]; simp [HBA.out]))
            have HF := Lib.hid F
            clear F
            go_wp2_with fail
            refine Calls.mono (by simpa using HV.out _ _ _ HF.out) ?_
            rintro e w5 ⟨rfl, A', c', F⟩
            clear HF z0 z1
            go_wp2_with fail
            go_roundg (mu (visS s1 (i + 1)) (visT s1 t1 (i + 1)))
            case measure => have h1 := HM3.out; have h2 := HW.out; omega
            case rel => exact ⟨_, _, _, _, HX.out, Nat.le_refl _, by have h1 := HM3.out; have h2 := HW.out; have h3 := HG.out; show mu _ _ ≤ 3000; omega, F⟩
          · have HQ := Lib.hid Q
            clear Q
            have HX := Lib.hid (HCL.out _ _ HU1.out (fun hj => by rw [HQ.out] at hj; cases hj) (fun hj => by simp [HBA.out]))
            go_wp2_with fail
            go_roundg (mu s1 t1)
            case measure => have h1 := HM3.out; omega
            case rel => exact ⟨_, _, _, _, HX.out, Nat.le_refl _, by have h1 := HM3.out; have h3 := HG.out; show mu _ _ ≤ 3000; omega, F⟩
end Go.Proofs.YtjdfancbmjnjfaaGreat
