/-
  The law FnExactAssignOuter returns true for every store, environment, name and value.
-/
import Derived.Test.YtejieacdfjpfnaaGreatRows
import Derived.Test.YtejieacdfjpfnaaGreatJoin
import Derived.Test.YtejieacdfjpfnaaGreatDefAll
import Derived.Test.YtejieacdfjpfnaaGreatStMark
import Derived.Test.YtejieacdfjpfnaaGreatStHeld
namespace Go.Proofs.YtejieacdfjpfnaaGreat
set_option maxRecDepth 100000
open Go.ChangeShapes Go.WideShapes Go.ChangeAt Go.RowKit Go.Deep
open Go.ChangeMaps (open_string shut_string)
set_option linter.unusedVariables false
set_option maxRecDepth 100000

theorem fits_szs {s : StoreD} {d : EnvD} {k : Nat} (hk : k < s.envs.length) : szS szEnv (s.envs.set k d) + szEnv s.envs[k] = szS szEnv s.envs + szEnv d := by
  unfold szS
  have h1 : ∀ (l : List EnvD) (k : Nat) (hk : k < l.length), ((l.set k d).map szEnv).sum + szEnv l[k] = (l.map szEnv).sum + szEnv d := by
    intro l
    induction l with
    | nil => intro k hk; simp at hk
    | cons a l ih =>
      intro k hk
      cases k with
      | zero => simp; omega
      | succ k =>
        have := ih k (by simpa using hk)
        simp at this ⊢
        omega
  have := h1 s.envs k hk
  simp at this ⊢
  omega
theorem szS_setle {α : Type} (f : α → Nat) (l : List α) (k : Nat) (x : α) : szS f (l.set k x) ≤ szS f l + f x := by
  unfold szS
  have : ∀ (l : List α) (k : Nat), ((l.set k x).map f).sum ≤ (l.map f).sum + f x := by
    intro l
    induction l with
    | nil => intro k; simp
    | cons a l ih =>
      intro k
      cases k with
      | zero => simp only [List.set_cons_zero, List.map_cons, List.sum_cons]; omega
      | succ k => have := ih k; simp only [List.set_cons_succ, List.map_cons, List.sum_cons]; omega
  have := this l k
  rw [List.length_set]
  omega
theorem szS_app {α : Type} (f : α → Nat) (l : List α) (x : α) : szS f (l ++ [x]) = szS f l + 1 + f x := by
  unfold szS
  simp
  omega
theorem defAt_sz (s : StoreD) (e : Nat) (nm : List UInt8) (v : VecD) : szStore (defAt s e nm (slotV v)) ≤ 2 * szStore s + nm.length + szVector v + 10 := by
  unfold defAt
  by_cases h : e < s.envs.length
  · rw [dif_pos h]
    have hs : szSlot (slotV v) = szVector v := by unfold szSlot slotV; simp [szL]
    have h1 : szEnv (defE s.envs[e] nm (slotV v)) ≤ szEnv s.envs[e] + nm.length + szVector v + 4 := by
      unfold defE
      split
      · have h2 := szS_app szSlot s.envs[e].slots (slotV v)
        have h3 : szL (s.envs[e].names ++ [nm]) = szL s.envs[e].names + 1 + nm.length := by unfold szL; simp; omega
        unfold szEnv
        dsimp only
        omega
      · have h2 := szS_setle szSlot s.envs[e].slots (findB s.envs[e].names nm).toNat (slotV v)
        unfold szEnv
        dsimp only
        omega
    have h2 := fits_szs (d := defE s.envs[e] nm (slotV v)) h
    unfold defS szStore
    dsimp only
    omega
  · rw [dif_neg h]
    omega
theorem law_c (s : StoreD) (env : Int) (nm : List UInt8) (v : VecD) : cStore (assignOut s env nm v).1 ≤ 16 * szStore s + 8 * nm.length + 8 * szVector v + 1000 := by
  have h1 : szStore (assignOut s env nm v).1 ≤ 2 * szStore s + nm.length + szVector v + 100 := by
    unfold assignOut
    split
    · have := defAt_sz s (outS s env.toNat nm).toNat nm v
      dsimp only
      omega
    · unfold stZ szStore szS
      simp
  have := cStore_le (assignOut s env nm v).1
  omega

/-- what the operations of the region yield that copies the arguments and calls -/
def lawR (x : StoreD × Bool) (s : StoreD) (v : VecD) (env : Int) (nm : List UInt8) (V0 V1 : Value) : Nat → (Nat → Nat → Prop) → (Nat → Value) → World → Prop
  | 0, T, vs, W => vs 0 = V0
  | 1, T, vs, W => ∃ cs, vs 1 = .agg cs.toArray ∧ StoreO (T 1) W cs s
  | 2, T, vs, W => vs 2 = .int .i64 env
  | 3, T, vs, W => vs 3 = .string (str nm)
  | 4, T, vs, W => vs 4 = V1
  | 5, T, vs, W => ∃ cs, vs 5 = .agg cs.toArray ∧ VecO (T 2) W cs v
  | 6, T, vs, W => ∃ cs, vs 6 = .tuple #[.agg cs.toArray, .bool x.2] ∧ StoreO (T 3) W cs x.1
  | 7, T, vs, W => ∃ cs, vs 7 = .tuple #[.agg cs.toArray, .bool x.2] ∧ StoreO (T 3) W cs x.1
  | 8, T, vs, W => ∃ cs, vs 8 = .agg cs.toArray ∧ StoreO (T 3) W cs x.1
  | 9, T, vs, W => vs 9 = .bool x.2
  | 10, T, vs, W => ∃ g, vs 10 = .pointer (some ⟨g, 0, none⟩) ∧ Blk W g 33 zSt ∧ T 4 g
  | _, _, _, _ => True
def lawL : Nat → Nat
  | 1 => 1
  | 5 => 2
  | 6 => 3
  | 10 => 4
  | _ => 0
theorem lawK (x : StoreD × Bool) (s : StoreD) (v : VecD) (env : Int) (nm : List UInt8) (V0 V1 : Value) (i : Nat) (T T' : Nat → Nat → Prop) (vs vs' : Nat → Value) (W W' : World) (hv : ∀ j ∈ [i], vs' j = vs j) (hT : ∀ l b, T l b → T' l b) (hb : Below W.heap.size W W') (h : lawR x s v env nm V0 V1 i T vs W) : lawR x s v env nm V0 V1 i T' vs' W' :=
  match i, hv, h with
  | 0, hv, h => (hv 0 List.mem_cons_self).trans h
  | 1, hv, h => by
    obtain ⟨cs, e, ho⟩ := h
    exact ⟨cs, (hv 1 List.mem_cons_self).trans e, (StoreO.keeps ho (Keeps.of_below _ hb)).mono (hT 1)⟩
  | 2, hv, h => (hv 2 List.mem_cons_self).trans h
  | 3, hv, h => (hv 3 List.mem_cons_self).trans h
  | 4, hv, h => (hv 4 List.mem_cons_self).trans h
  | 5, hv, h => by
    obtain ⟨cs, e, ho⟩ := h
    exact ⟨cs, (hv 5 List.mem_cons_self).trans e, (VecO.keeps ho (Keeps.of_below _ hb)).mono (hT 2)⟩
  | 6, hv, h => by
    obtain ⟨cs, e, ho⟩ := h
    exact ⟨cs, (hv 6 List.mem_cons_self).trans e, (StoreO.keeps ho (Keeps.of_below _ hb)).mono (hT 3)⟩
  | 7, hv, h => by
    obtain ⟨cs, e, ho⟩ := h
    exact ⟨cs, (hv 7 List.mem_cons_self).trans e, (StoreO.keeps ho (Keeps.of_below _ hb)).mono (hT 3)⟩
  | 8, hv, h => by
    obtain ⟨cs, e, ho⟩ := h
    exact ⟨cs, (hv 8 List.mem_cons_self).trans e, (StoreO.keeps ho (Keeps.of_below _ hb)).mono (hT 3)⟩
  | 9, hv, h => (hv 9 List.mem_cons_self).trans h
  | 10, hv, h => by
    obtain ⟨g, e, hb2, ht⟩ := h
    exact ⟨g, (hv 10 List.mem_cons_self).trans e, hb2.below hb, hT _ _ ht⟩
  | _ + 11, _, _ => trivial

namespace fnExactAssignOuter
set_option maxHeartbeats 16000000 in
theorem walk (v0 : Value) (xs0 : List Value × StoreD) {w : World} (h0 : v0 = .agg xs0.1.toArray ∧ StoreR w xs0.1 xs0.2) (env : Int) (henv : I64 env) (nm : List UInt8) (hnm0 : nm.length ≤ maxLen) (v3 : Value) (xs3 : List Value × VecD) (h3 : v3 = .agg xs3.1.toArray ∧ VecR w xs3.1 xs3.2) :
    Calls Tryz.prog 7 #[v0, .int .i64 env, .string (str nm), v3] w fun e w' => e = .returned (.bool true) ∧ Below w.heap.size w w' := by
  obtain ⟨cs, s⟩ := xs0
  obtain ⟨cs3, v⟩ := xs3
  obtain ⟨rfl, h⟩ := h0
  obtain ⟨rfl, h4⟩ := h3
  dsimp only at h h4 ⊢
  have HT := Lib.hid h
  have HV := Lib.hid h4
  obtain ⟨A1, a1, A2, a2, rfl, _⟩ := h.open_
  obtain ⟨_, B1, b1, B2, b2, B3, b3, B4, b4, B5, b5, rfl, _⟩ := h4.open_
  clear h h4
  have hnmM := hnm0
  unfold maxLen at hnm0
  obtain ⟨p1, HL0, lop1, Ep1⟩ := (LS.start w).box 25 [.slice A1 s.envs.length a1, .slice A2 s.promises.length a2]
  obtain ⟨p2, HL1, lop2, Ep2⟩ := HL0.box 57 [.int .i64 v.kind, .slice B1 v.items.length b1, .slice B2 v.parts.length b2, .slice B3 v.names.length b3, .slice B4 v.cls.length b4, .slice B5 v.levels.length b5, .int .i64 v.code, .int .i64 v.env]
  have hz1 : (w.alloc (.cells [.slice A1 s.envs.length a1, .slice A2 s.promises.length a2].toArray 25)).heap.size = w.heap.size + 1 := by simp
  rw [hz1] at Ep2
  have HL := Lib.hid (show LS w [p2, p1] _ from HL1)
  clear HL0 HL1 lop1 lop2 hz1
  by_cases hn : nm.length ≤ 1048576
  rotate_left
  · go_enter Tryz.func7, Tryz.ntmps7
    go_wp2_with fail
    go_ret
    exact ⟨rfl, HL.out.below⟩
  by_cases hz : (szStore s : Int) ≤ 1048576
  rotate_left
  · have HZ := Lib.hid (szR_neg hz)
    go_enter Tryz.func7, Tryz.ntmps7
    go_upto_region 1 with fail
    refine gen_w (G := LS w [p2, p1]) (show Ok _ _ from HL.out) ?_
    clear HL
    intro W0 g
    have HL := Lib.hid (show LS w [p2, p1] W0 from g)
    clear g
    have y0 := (Ep1.out _ (HL.out.at 1 _ rfl)).cell 0 _ rfl
    have y1 := (Ep1.out _ (HL.out.at 1 _ rfl)).cell 1 _ rfl
    go_wp2_with fail
    refine Calls.mono (laws_szStore s _ 1048576 _ (HT.out.below HL.out.below) (by omega) (by omega)) ?_
    rintro e w1 ⟨rfl, hb⟩
    rw [HZ.out]
    replace HL := Lib.hid (HL.out.step hb)
    clear hb y0 y1
    go_wp2_with fail
    go_ret
    exact ⟨rfl, HL.out.below⟩
  have HZ := Lib.hid (szR_pos hz)
  by_cases hzv : (szVector v : Int) ≤ 1048576 - szStore s
  rotate_left
  · have HZ2 := Lib.hid (szR_neg hzv)
    go_enter Tryz.func7, Tryz.ntmps7
    go_upto_region 1 with fail
    refine gen_w (G := LS w [p2, p1]) (show Ok _ _ from HL.out) ?_
    clear HL
    intro W0 g
    have HL := Lib.hid (show LS w [p2, p1] W0 from g)
    clear g
    have y0 := (Ep1.out _ (HL.out.at 1 _ rfl)).cell 0 _ rfl
    have y1 := (Ep1.out _ (HL.out.at 1 _ rfl)).cell 1 _ rfl
    go_wp2_with fail
    refine Calls.mono (laws_szStore s _ 1048576 _ (HT.out.below HL.out.below) (by omega) (by omega)) ?_
    rintro e w1 ⟨rfl, hb⟩
    rw [HZ.out]
    replace HL := Lib.hid (HL.out.step hb)
    clear hb y0 y1
    have z0 := (Ep2.out _ (HL.out.at 0 _ rfl)).cell 0 _ rfl
    have z1 := (Ep2.out _ (HL.out.at 0 _ rfl)).cell 1 _ rfl
    have z2 := (Ep2.out _ (HL.out.at 0 _ rfl)).cell 2 _ rfl
    have z3 := (Ep2.out _ (HL.out.at 0 _ rfl)).cell 3 _ rfl
    have z4 := (Ep2.out _ (HL.out.at 0 _ rfl)).cell 4 _ rfl
    have z5 := (Ep2.out _ (HL.out.at 0 _ rfl)).cell 5 _ rfl
    have z6 := (Ep2.out _ (HL.out.at 0 _ rfl)).cell 6 _ rfl
    have z7 := (Ep2.out _ (HL.out.at 0 _ rfl)).cell 7 _ rfl
    go_wp2_with fail
    refine Calls.mono (laws_szVec v _ (1048576 - szStore s) _ (HV.out.below HL.out.below) (by omega) (by omega)) ?_
    rintro e w2 ⟨rfl, hb⟩
    rw [HZ2.out]
    replace HL := Lib.hid (HL.out.step hb)
    clear hb z0 z1 z2 z3 z4 z5 z6 z7
    go_wp2_with fail
    go_ret
    exact ⟨rfl, HL.out.below⟩
  have HZ2 := Lib.hid (szR_pos hzv)
  have HSP := Lib.hid (fun cs cs3 W h h3 => spec_AssignOuter s env nm v cs cs3 W h h3 hnmM (by omega) (by omega))
  have HIM := Lib.hid (fun cs cs3 W h h3 => impl_AssignOuter s env nm v cs cs3 W h h3 hnmM (by omega) (by omega))
  have hcx := law_c s env nm v
  have hct := cStore_le s
  have hcv := cV1_le v
  generalize hXX : assignOut s env nm v = XD at *
  clear hXX
  obtain ⟨d, bo⟩ := XD
  dsimp only at hcx
  go_enter Tryz.func7, Tryz.ntmps7
  go_upto_region 1 with fail
  refine gen_w (G := LS w [p2, p1]) (show Ok _ _ from HL.out) ?_
  clear HL
  intro W0 g
  have HL := Lib.hid (show LS w [p2, p1] W0 from g)
  clear g
  have y0 := (Ep1.out _ (HL.out.at 1 _ rfl)).cell 0 _ rfl
  have y1 := (Ep1.out _ (HL.out.at 1 _ rfl)).cell 1 _ rfl
  go_wp2_with fail
  refine Calls.mono (laws_szStore s _ 1048576 _ (HT.out.below HL.out.below) (by omega) (by omega)) ?_
  rintro e w1 ⟨rfl, hb⟩
  rw [HZ.out]
  replace HL := Lib.hid (HL.out.step hb)
  clear hb y0 y1
  have z0 := (Ep2.out _ (HL.out.at 0 _ rfl)).cell 0 _ rfl
  have z1 := (Ep2.out _ (HL.out.at 0 _ rfl)).cell 1 _ rfl
  have z2 := (Ep2.out _ (HL.out.at 0 _ rfl)).cell 2 _ rfl
  have z3 := (Ep2.out _ (HL.out.at 0 _ rfl)).cell 3 _ rfl
  have z4 := (Ep2.out _ (HL.out.at 0 _ rfl)).cell 4 _ rfl
  have z5 := (Ep2.out _ (HL.out.at 0 _ rfl)).cell 5 _ rfl
  have z6 := (Ep2.out _ (HL.out.at 0 _ rfl)).cell 6 _ rfl
  have z7 := (Ep2.out _ (HL.out.at 0 _ rfl)).cell 7 _ rfl
  go_wp2_with fail
  refine Calls.mono (laws_szVec v _ (1048576 - szStore s) _ (HV.out.below HL.out.below) (by omega) (by omega)) ?_
  rintro e w2 ⟨rfl, hb⟩
  rw [HZ2.out]
  replace HL := Lib.hid (HL.out.step hb)
  clear hb z0 z1 z2 z3 z4 z5 z6 z7
  have y0 := fun V (h : Ok (fun V => LS w [p2, p1] V ∧ Below w2.heap.size w2 V) V) => (Ep1.out _ ((show LS w [p2, p1] V ∧ _ from h).1.at 1 _ rfl)).cell 0 _ rfl
  have y1 := fun V (h : Ok (fun V => LS w [p2, p1] V ∧ Below w2.heap.size w2 V) V) => (Ep1.out _ ((show LS w [p2, p1] V ∧ _ from h).1.at 1 _ rfl)).cell 1 _ rfl
  have z0 := fun V (h : Ok (fun V => LS w [p2, p1] V ∧ Below w2.heap.size w2 V) V) => (Ep2.out _ ((show LS w [p2, p1] V ∧ _ from h).1.at 0 _ rfl)).cell 0 _ rfl
  have z1 := fun V (h : Ok (fun V => LS w [p2, p1] V ∧ Below w2.heap.size w2 V) V) => (Ep2.out _ ((show LS w [p2, p1] V ∧ _ from h).1.at 0 _ rfl)).cell 1 _ rfl
  have z2 := fun V (h : Ok (fun V => LS w [p2, p1] V ∧ Below w2.heap.size w2 V) V) => (Ep2.out _ ((show LS w [p2, p1] V ∧ _ from h).1.at 0 _ rfl)).cell 2 _ rfl
  have z3 := fun V (h : Ok (fun V => LS w [p2, p1] V ∧ Below w2.heap.size w2 V) V) => (Ep2.out _ ((show LS w [p2, p1] V ∧ _ from h).1.at 0 _ rfl)).cell 3 _ rfl
  have z4 := fun V (h : Ok (fun V => LS w [p2, p1] V ∧ Below w2.heap.size w2 V) V) => (Ep2.out _ ((show LS w [p2, p1] V ∧ _ from h).1.at 0 _ rfl)).cell 4 _ rfl
  have z5 := fun V (h : Ok (fun V => LS w [p2, p1] V ∧ Below w2.heap.size w2 V) V) => (Ep2.out _ ((show LS w [p2, p1] V ∧ _ from h).1.at 0 _ rfl)).cell 5 _ rfl
  have z6 := fun V (h : Ok (fun V => LS w [p2, p1] V ∧ Below w2.heap.size w2 V) V) => (Ep2.out _ ((show LS w [p2, p1] V ∧ _ from h).1.at 0 _ rfl)).cell 6 _ rfl
  have z7 := fun V (h : Ok (fun V => LS w [p2, p1] V ∧ Below w2.heap.size w2 V) V) => (Ep2.out _ ((show LS w [p2, p1] V ∧ _ from h).1.at 0 _ rfl)).cell 7 _ rfl
  have g0 : Ok (fun V => LS w [p2, p1] V ∧ Below w2.heap.size w2 V) w2.drew := ⟨HL.out.drew, Below.drew (Below.refl _ _)⟩
  have BLS := Lib.hid (fun V (h : Ok (fun V => LS w [p2, p1] V ∧ Below w2.heap.size w2 V) V) => (show LS w [p2, p1] V ∧ _ from h).1.below)
  have BLW := Lib.hid (fun V (h : Ok (fun V => LS w [p2, p1] V ∧ Below w2.heap.size w2 V) V) => (show LS w [p2, p1] V ∧ Below w2.heap.size w2 V from h).2)
  have STP := Lib.hid (fun V V2 (h : Ok (fun V => LS w [p2, p1] V ∧ Below w2.heap.size w2 V) V) (hb : Below V.heap.size V V2) => show Ok (fun V => LS w [p2, p1] V ∧ Below w2.heap.size w2 V) V2 from ⟨(show LS w [p2, p1] V ∧ _ from h).1.step hb, (BLW.out _ h).trans (hb.mono (BLW.out _ h).size)⟩)
  go_wp2_with fail
  obtain ⟨Q9, hq9⟩ : ∃ Q9 : Exit → Act → World → Prop, Q9 = (fun e act V => e = .normal ∧ ∃ (vs : Nat → Value) (C1 : Option Addr) (Cc1 : Nat) (C2 : Option Addr) (Cc2 : Nat) (cr ch : Nat), act = ⟨#[Value.agg #[Value.slice A1 s.envs.length a1, Value.slice A2 s.promises.length a2], Value.int IntKind.i64 env, Value.string (str nm), Value.agg #[Value.int IntKind.i64 v.kind, Value.slice B1 v.items.length b1, Value.slice B2 v.parts.length b2, Value.slice B3 v.names.length b3, Value.slice B4 v.cls.length b4, Value.slice B5 v.levels.length b5, Value.int IntKind.i64 v.code, Value.int IntKind.i64 v.env], Value.pointer (some { block := w.heap.size, off := 0 }), undef, undef, Value.pointer (some { block := w.heap.size + 1, off := 0 }), Value.bool false, Value.int IntKind.i64 (1048576 - ↑(szStore s) - ↑(szVector v)), .pointer (some ⟨cr, 0, none⟩), .bool bo, undef, undef, undef, undef, undef, undef, undef, undef, undef, Value.string (str nm), Value.int IntKind.i64 ↑nm.length, Value.bool (decide ((1048576 : Int) < ↑nm.length)), Value.agg #[Value.slice A1 s.envs.length a1, Value.slice A2 s.promises.length a2], Value.int IntKind.i64 1048576, Value.int IntKind.i64 (1048576 - ↑(szStore s)), Value.int IntKind.i64 (1048576 - ↑(szStore s)), Value.bool (decide ((1048576 - ↑(szStore s) : Int) < 0)), Value.agg #[Value.int IntKind.i64 v.kind, Value.slice B1 v.items.length b1, Value.slice B2 v.parts.length b2, Value.slice B3 v.names.length b3, Value.slice B4 v.cls.length b4, Value.slice B5 v.levels.length b5, Value.int IntKind.i64 v.code, Value.int IntKind.i64 v.env], Value.int IntKind.i64 (1048576 - ↑(szStore s)), Value.int IntKind.i64 (1048576 - ↑(szStore s) - ↑(szVector v)), Value.int IntKind.i64 (1048576 - ↑(szStore s) - ↑(szVector v)), Value.bool (decide ((1048576 - ↑(szStore s) - ↑(szVector v) : Int) < 0)), vs 7, vs 0, vs 1, vs 2, vs 3, vs 4, vs 5, vs 6, vs 8, vs 9, undef, undef, undef, undef, undef, undef, undef, undef, undef, undef, undef, undef, undef, undef, undef, undef, undef, undef, undef, undef, undef, undef, undef, undef, undef, undef, undef, undef, undef, undef, undef, undef, undef, undef, undef, undef, undef, undef, undef, undef, undef, undef, undef, undef, undef, undef, undef, undef, undef, undef, undef, undef, undef, undef, undef, undef, undef, undef, undef, undef, undef, undef, undef, undef, undef, undef, undef, undef, undef, undef, undef, undef, undef, undef, undef, undef, undef, undef, undef, undef, undef, undef, undef, undef, undef, undef, undef, undef], []⟩ ∧ Rng w2.heap.size ch cr ∧ ch ≤ V.heap.size ∧ (Blk V cr 33 [.slice C1 d.envs.length Cc1, .slice C2 d.promises.length Cc2] ∧ StoreO (fun b => Rng w2.heap.size ch b ∧ b ≠ cr) V [.slice C1 d.envs.length Cc1, .slice C2 d.promises.length Cc2] d) ∧ Below w2.heap.size w2 V) := ⟨_, rfl⟩
  have HQ9 := Lib.hid (show ∀ e act V, Q9 e act V = (fun e act V => e = .normal ∧ ∃ (vs : Nat → Value) (C1 : Option Addr) (Cc1 : Nat) (C2 : Option Addr) (Cc2 : Nat) (cr ch : Nat), act = ⟨#[Value.agg #[Value.slice A1 s.envs.length a1, Value.slice A2 s.promises.length a2], Value.int IntKind.i64 env, Value.string (str nm), Value.agg #[Value.int IntKind.i64 v.kind, Value.slice B1 v.items.length b1, Value.slice B2 v.parts.length b2, Value.slice B3 v.names.length b3, Value.slice B4 v.cls.length b4, Value.slice B5 v.levels.length b5, Value.int IntKind.i64 v.code, Value.int IntKind.i64 v.env], Value.pointer (some { block := w.heap.size, off := 0 }), undef, undef, Value.pointer (some { block := w.heap.size + 1, off := 0 }), Value.bool false, Value.int IntKind.i64 (1048576 - ↑(szStore s) - ↑(szVector v)), .pointer (some ⟨cr, 0, none⟩), .bool bo, undef, undef, undef, undef, undef, undef, undef, undef, undef, Value.string (str nm), Value.int IntKind.i64 ↑nm.length, Value.bool (decide ((1048576 : Int) < ↑nm.length)), Value.agg #[Value.slice A1 s.envs.length a1, Value.slice A2 s.promises.length a2], Value.int IntKind.i64 1048576, Value.int IntKind.i64 (1048576 - ↑(szStore s)), Value.int IntKind.i64 (1048576 - ↑(szStore s)), Value.bool (decide ((1048576 - ↑(szStore s) : Int) < 0)), Value.agg #[Value.int IntKind.i64 v.kind, Value.slice B1 v.items.length b1, Value.slice B2 v.parts.length b2, Value.slice B3 v.names.length b3, Value.slice B4 v.cls.length b4, Value.slice B5 v.levels.length b5, Value.int IntKind.i64 v.code, Value.int IntKind.i64 v.env], Value.int IntKind.i64 (1048576 - ↑(szStore s)), Value.int IntKind.i64 (1048576 - ↑(szStore s) - ↑(szVector v)), Value.int IntKind.i64 (1048576 - ↑(szStore s) - ↑(szVector v)), Value.bool (decide ((1048576 - ↑(szStore s) - ↑(szVector v) : Int) < 0)), vs 7, vs 0, vs 1, vs 2, vs 3, vs 4, vs 5, vs 6, vs 8, vs 9, undef, undef, undef, undef, undef, undef, undef, undef, undef, undef, undef, undef, undef, undef, undef, undef, undef, undef, undef, undef, undef, undef, undef, undef, undef, undef, undef, undef, undef, undef, undef, undef, undef, undef, undef, undef, undef, undef, undef, undef, undef, undef, undef, undef, undef, undef, undef, undef, undef, undef, undef, undef, undef, undef, undef, undef, undef, undef, undef, undef, undef, undef, undef, undef, undef, undef, undef, undef, undef, undef, undef, undef, undef, undef, undef, undef, undef, undef, undef, undef, undef, undef, undef, undef, undef, undef, undef, undef], []⟩ ∧ Rng w2.heap.size ch cr ∧ ch ≤ V.heap.size ∧ (Blk V cr 33 [.slice C1 d.envs.length Cc1, .slice C2 d.promises.length Cc2] ∧ StoreO (fun b => Rng w2.heap.size ch b ∧ b ≠ cr) V [.slice C1 d.envs.length Cc1, .slice C2 d.promises.length Cc2] d) ∧ Below w2.heap.size w2 V) e act V from fun e act V => by rw [hq9])
  clear hq9
  refine Code.wp_mono (Q := Q9) ?_ ?_
  rotate_left
  refine wp_region_free3 (by kernel_rfl) 11 9 [(false, 11), (true, 12)] (by kernel_rfl) (Ok (fun V => LS w [p2, p1] V ∧ Below w2.heap.size w2 V)) lawL (fun i => [i]) (lawR (d, bo) s v env nm (.agg #[.slice A1 s.envs.length a1, .slice A2 s.promises.length a2]) (.agg #[.int .i64 v.kind, .slice B1 v.items.length b1, .slice B2 v.parts.length b2, .slice B3 v.names.length b3, .slice B4 v.cls.length b4, .slice B5 v.levels.length b5, .int .i64 v.code, .int .i64 v.env])) (fun vs => ⟨#[Value.agg #[Value.slice A1 s.envs.length a1, Value.slice A2 s.promises.length a2], Value.int IntKind.i64 env, Value.string (str nm), Value.agg #[Value.int IntKind.i64 v.kind, Value.slice B1 v.items.length b1, Value.slice B2 v.parts.length b2, Value.slice B3 v.names.length b3, Value.slice B4 v.cls.length b4, Value.slice B5 v.levels.length b5, Value.int IntKind.i64 v.code, Value.int IntKind.i64 v.env], Value.pointer (some { block := w.heap.size, off := 0 }), undef, undef, Value.pointer (some { block := w.heap.size + 1, off := 0 }), Value.bool false, Value.int IntKind.i64 (1048576 - ↑(szStore s) - ↑(szVector v)), vs 10, vs 12, undef, undef, undef, undef, undef, undef, undef, undef, undef, Value.string (str nm), Value.int IntKind.i64 ↑nm.length, Value.bool (decide ((1048576 : Int) < ↑nm.length)), Value.agg #[Value.slice A1 s.envs.length a1, Value.slice A2 s.promises.length a2], Value.int IntKind.i64 1048576, Value.int IntKind.i64 (1048576 - ↑(szStore s)), Value.int IntKind.i64 (1048576 - ↑(szStore s)), Value.bool (decide ((1048576 - ↑(szStore s) : Int) < 0)), Value.agg #[Value.int IntKind.i64 v.kind, Value.slice B1 v.items.length b1, Value.slice B2 v.parts.length b2, Value.slice B3 v.names.length b3, Value.slice B4 v.cls.length b4, Value.slice B5 v.levels.length b5, Value.int IntKind.i64 v.code, Value.int IntKind.i64 v.env], Value.int IntKind.i64 (1048576 - ↑(szStore s)), Value.int IntKind.i64 (1048576 - ↑(szStore s) - ↑(szVector v)), Value.int IntKind.i64 (1048576 - ↑(szStore s) - ↑(szVector v)), Value.bool (decide ((1048576 - ↑(szStore s) - ↑(szVector v) : Int) < 0)), vs 7, vs 0, vs 1, vs 2, vs 3, vs 4, vs 5, vs 6, vs 8, vs 9, undef, undef, undef, undef, undef, undef, undef, undef, undef, undef, undef, undef, undef, undef, undef, undef, undef, undef, undef, undef, undef, undef, undef, undef, undef, undef, undef, undef, undef, undef, undef, undef, undef, undef, undef, undef, undef, undef, undef, undef, undef, undef, undef, undef, undef, undef, undef, undef, undef, undef, undef, undef, undef, undef, undef, undef, undef, undef, undef, undef, undef, undef, undef, undef, undef, undef, undef, undef, undef, undef, undef, undef, undef, undef, undef, undef, undef, undef, undef, undef, undef, undef, undef, undef, undef, undef, undef, undef], []⟩) (fun vs => by kernel_rfl) (by kernel_rfl) g0 (lawK _ _ _ _ _ _ _) ?_ ?_ ?_
  · intro i o ho hi vs T W hS hd
    have hi' : i = 0 ∨ i = 1 ∨ i = 2 ∨ i = 3 ∨ i = 4 ∨ i = 5 ∨ i = 6 ∨ i = 7 ∨ i = 8 ∨ i = 9 ∨ i = 10 := by omega
    clear hi
    rcases hi' with rfl | rfl | rfl | rfl | rfl | rfl | rfl | rfl | rfl | rfl | rfl
    · obtain rfl := Option.some.inj ho
      exact oper_ok (by first | (go_simp; done) | (go_simp; rfl) | (go_simp; exact ⟨rfl, rfl⟩) | (go_simp; exact ⟨rfl, rfl, rfl⟩)) ⟨_, rfl, Below.refl _ _, hS, upd_same _ _ _⟩
    · obtain rfl := Option.some.inj ho
      have d0 : vs 0 = _ := hd ⟨0, .data⟩ (by simp) rfl
      refine oper_call (by first | (go_simp; done) | (go_simp; rfl) | (go_simp; exact ⟨rfl, rfl⟩) | (go_simp; exact ⟨rfl, rfl, rfl⟩)) (laws_toStore s _ W (HT.out.below (BLS.out _ hS)) (by omega)) ?_
      rintro e W' ⟨cs, rfl, hos, hb⟩
      exact ⟨_, rfl, _, rfl, hb, STP.out _ _ hS hb, cs, upd_same _ _ _, hos.mono fun b hb => .inr ⟨rfl, hb.1, hb.2⟩⟩
    · obtain rfl := Option.some.inj ho
      exact oper_ok (by first | (go_simp; done) | (go_simp; rfl) | (go_simp; exact ⟨rfl, rfl⟩) | (go_simp; exact ⟨rfl, rfl, rfl⟩)) ⟨_, rfl, Below.refl _ _, hS, upd_same _ _ _⟩
    · obtain rfl := Option.some.inj ho
      exact oper_ok (by first | (go_simp; done) | (go_simp; rfl) | (go_simp; exact ⟨rfl, rfl⟩) | (go_simp; exact ⟨rfl, rfl, rfl⟩)) ⟨_, rfl, Below.refl _ _, hS, upd_same _ _ _⟩
    · obtain rfl := Option.some.inj ho
      exact oper_ok (by first | (go_simp; done) | (go_simp; rfl) | (go_simp; exact ⟨rfl, rfl⟩) | (go_simp; exact ⟨rfl, rfl, rfl⟩)) ⟨_, rfl, Below.refl _ _, hS, upd_same _ _ _⟩
    · obtain rfl := Option.some.inj ho
      have d4 : vs 4 = _ := hd ⟨4, .data⟩ (by simp) rfl
      refine oper_call (by first | (go_simp; done) | (go_simp; rfl) | (go_simp; exact ⟨rfl, rfl⟩) | (go_simp; exact ⟨rfl, rfl, rfl⟩)) (laws_toVec v _ W (HV.out.below (BLS.out _ hS)) (by omega)) ?_
      rintro e W' ⟨cs, rfl, hos, hb⟩
      exact ⟨_, rfl, _, rfl, hb, STP.out _ _ hS hb, cs, upd_same _ _ _, VecO.mono hos fun b hb => .inr ⟨rfl, hb.1, hb.2⟩⟩
    · obtain rfl := Option.some.inj ho
      obtain ⟨cs1, d1, o1⟩ := (show lawR (d, bo) s v env nm (.agg #[.slice A1 s.envs.length a1, .slice A2 s.promises.length a2]) (.agg #[.int .i64 v.kind, .slice B1 v.items.length b1, .slice B2 v.parts.length b2, .slice B3 v.names.length b3, .slice B4 v.cls.length b4, .slice B5 v.levels.length b5, .int .i64 v.code, .int .i64 v.env]) 1 T vs W from hd ⟨1, .data⟩ (by simp) rfl)
      have d2 : vs 2 = _ := hd ⟨2, .data⟩ (by simp) rfl
      have d3 : vs 3 = _ := hd ⟨3, .data⟩ (by simp) rfl
      obtain ⟨cs5, d5, o5⟩ := (show lawR (d, bo) s v env nm (.agg #[.slice A1 s.envs.length a1, .slice A2 s.promises.length a2]) (.agg #[.int .i64 v.kind, .slice B1 v.items.length b1, .slice B2 v.parts.length b2, .slice B3 v.names.length b3, .slice B4 v.cls.length b4, .slice B5 v.levels.length b5, .int .i64 v.code, .int .i64 v.env]) 5 T vs W from hd ⟨5, .data⟩ (by simp) rfl)
      refine oper_call (by first | (go_simp; done) | (go_simp; rfl) | (go_simp; exact ⟨rfl, rfl⟩) | (go_simp; exact ⟨rfl, rfl, rfl⟩)) (HSP.out _ _ W o1.read o5.read) ?_
      rintro e W' ⟨cs, rfl, hos, hb⟩
      exact ⟨_, rfl, _, rfl, hb, STP.out _ _ hS hb, cs, upd_same _ _ _, hos.mono fun b hb => .inr ⟨rfl, hb.1, hb.2⟩⟩
    · obtain rfl := Option.some.inj ho
      obtain ⟨cs, d6, hos⟩ := (show lawR (d, bo) s v env nm (.agg #[.slice A1 s.envs.length a1, .slice A2 s.promises.length a2]) (.agg #[.int .i64 v.kind, .slice B1 v.items.length b1, .slice B2 v.parts.length b2, .slice B3 v.names.length b3, .slice B4 v.cls.length b4, .slice B5 v.levels.length b5, .int .i64 v.code, .int .i64 v.env]) 6 T vs W from hd ⟨6, .data⟩ (by simp) rfl)
      exact oper_ok (by first | (go_simp; done) | (go_simp; rfl) | (go_simp; exact ⟨rfl, rfl⟩) | (go_simp; exact ⟨rfl, rfl, rfl⟩)) ⟨_, rfl, Below.refl _ _, hS, cs, upd_same _ _ _, hos.mono fun b hb => .inl hb⟩
    · obtain rfl := Option.some.inj ho
      obtain ⟨cs, d7, hos⟩ := (show lawR (d, bo) s v env nm (.agg #[.slice A1 s.envs.length a1, .slice A2 s.promises.length a2]) (.agg #[.int .i64 v.kind, .slice B1 v.items.length b1, .slice B2 v.parts.length b2, .slice B3 v.names.length b3, .slice B4 v.cls.length b4, .slice B5 v.levels.length b5, .int .i64 v.code, .int .i64 v.env]) 7 T vs W from hd ⟨7, .data⟩ (by simp) rfl)
      exact oper_ok (by first | (go_simp; done) | (go_simp; rfl) | (go_simp; exact ⟨rfl, rfl⟩) | (go_simp; exact ⟨rfl, rfl, rfl⟩)) ⟨_, rfl, Below.refl _ _, hS, cs, upd_same _ _ _, hos.mono fun b hb => .inl hb⟩
    · obtain rfl := Option.some.inj ho
      obtain ⟨cs, d7, hos⟩ := (show lawR (d, bo) s v env nm (.agg #[.slice A1 s.envs.length a1, .slice A2 s.promises.length a2]) (.agg #[.int .i64 v.kind, .slice B1 v.items.length b1, .slice B2 v.parts.length b2, .slice B3 v.names.length b3, .slice B4 v.cls.length b4, .slice B5 v.levels.length b5, .int .i64 v.code, .int .i64 v.env]) 7 T vs W from hd ⟨7, .data⟩ (by simp) rfl)
      exact oper_ok (by first | (go_simp; done) | (go_simp; rfl) | (go_simp; exact ⟨rfl, rfl⟩) | (go_simp; exact ⟨rfl, rfl, rfl⟩)) ⟨_, rfl, Below.refl _ _, hS, upd_same _ _ _⟩
    · obtain rfl := Option.some.inj ho
      exact oper_ok (by first | (go_simp; done) | (go_simp; rfl) | (go_simp; exact ⟨rfl, rfl⟩) | (go_simp; exact ⟨rfl, rfl, rfl⟩)) ⟨_, rfl, (Below.refl _ _).alloc (Nat.le_refl _) _, STP.out _ _ hS ((Below.refl _ _).alloc (Nat.le_refl _) _), W.heap.size, upd_same _ _ _, Blk.new _ _ _, .inr ⟨rfl, Nat.le_refl _, by simp⟩⟩
  · intro vs T W hS hsz hT1 hT2 hR
    obtain ⟨cr, d8, hos⟩ := (show lawR (d, bo) s v env nm (.agg #[.slice A1 s.envs.length a1, .slice A2 s.promises.length a2]) (.agg #[.int .i64 v.kind, .slice B1 v.items.length b1, .slice B2 v.parts.length b2, .slice B3 v.names.length b3, .slice B4 v.cls.length b4, .slice B5 v.levels.length b5, .int .i64 v.code, .int .i64 v.env]) 8 T vs W from hR 8 (by decide))
    obtain ⟨r, d10, hbr, t10⟩ := (show lawR (d, bo) s v env nm (.agg #[.slice A1 s.envs.length a1, .slice A2 s.promises.length a2]) (.agg #[.int .i64 v.kind, .slice B1 v.items.length b1, .slice B2 v.parts.length b2, .slice B3 v.names.length b3, .slice B4 v.cls.length b4, .slice B5 v.levels.length b5, .int .i64 v.code, .int .i64 v.env]) 10 T vs W from hR 10 (by decide))
    have d9 : vs 9 = _ := hR 9 (by decide)
    obtain ⟨P1, Pc1, P2, Pc2, rfl⟩ := hos.shape2
    have hr := hT1 _ _ t10
    have hos2 := StoreO.mono (S' := fun b => Rng w2.heap.size W.heap.size b ∧ b ≠ r) hos fun b hb => ⟨hT1 3 b hb, fun e => by have := hT2 3 4 b hb (e ▸ t10); omega⟩
    have hbW := BLW.out _ hS
    clear hT1 hT2 hR hos t10
    refine ⟨Ok (fun _ => True), trivial, ?_⟩
    have q0 := hbr.cell 0 _ rfl
    have q1 := hbr.cell 1 _ rfl
    have f0 := hbr.frozen 0
    have f1 := hbr.frozen 1
    refine dyn_act rfl rfl (fun K hK => ?_)
    go_wp2_with fail
    refine hK.out _ _ trivial ?_
    clear hK q0 q1 f0 f1
    refine dyn_take rfl rfl (fun W g => by go_simp; rfl) ?_
    go_simp
    refine dyn_done ?_
    rw [HQ9.out]
    refine ⟨rfl, vs, P1, Pc1, P2, Pc2, r, W.heap.size, by simp only [d8, d9], hr, by simp [World.setCell], ⟨(hbr.set_ 0 _).set_ 1 _, StoreO.keeps hos2 (((Keeps.refl _ _).sc (b := r) (o := 0) (fun h => h.2 rfl) _).sc (b := r) (o := 1) (fun h => h.2 rfl) _)⟩, below_sc (b := r) (o := 1) (below_sc (b := r) (o := 0) hbW hr.1 _) hr.1 _⟩
  · intro vs T W hS hsz hT1 hT2 hR
    obtain ⟨cr, d8, hos⟩ := (show lawR (d, bo) s v env nm (.agg #[.slice A1 s.envs.length a1, .slice A2 s.promises.length a2]) (.agg #[.int .i64 v.kind, .slice B1 v.items.length b1, .slice B2 v.parts.length b2, .slice B3 v.names.length b3, .slice B4 v.cls.length b4, .slice B5 v.levels.length b5, .int .i64 v.code, .int .i64 v.env]) 8 T vs W from hR 8 (by decide) (by decide))
    obtain ⟨r, d10, hbr, t10⟩ := (show lawR (d, bo) s v env nm (.agg #[.slice A1 s.envs.length a1, .slice A2 s.promises.length a2]) (.agg #[.int .i64 v.kind, .slice B1 v.items.length b1, .slice B2 v.parts.length b2, .slice B3 v.names.length b3, .slice B4 v.cls.length b4, .slice B5 v.levels.length b5, .int .i64 v.code, .int .i64 v.env]) 10 T vs W from hR 10 (by decide) (by decide))
    obtain ⟨cq, d7, _⟩ := (show lawR (d, bo) s v env nm (.agg #[.slice A1 s.envs.length a1, .slice A2 s.promises.length a2]) (.agg #[.int .i64 v.kind, .slice B1 v.items.length b1, .slice B2 v.parts.length b2, .slice B3 v.names.length b3, .slice B4 v.cls.length b4, .slice B5 v.levels.length b5, .int .i64 v.code, .int .i64 v.env]) 7 T vs W from hR 7 (by decide) (by decide))
    obtain ⟨P1, Pc1, P2, Pc2, rfl⟩ := hos.shape2
    have hr := hT1 _ _ t10
    have hos2 := StoreO.mono (S' := fun b => Rng w2.heap.size W.heap.size b ∧ b ≠ r) hos fun b hb => ⟨hT1 3 b hb, fun e => by have := hT2 3 4 b hb (e ▸ t10); omega⟩
    have hbW := BLW.out _ hS
    clear hT1 hT2 hR hos t10
    refine ⟨Ok (fun _ => True), trivial, ?_⟩
    refine dyn_take rfl rfl (fun W g => by go_simp; rfl) ?_
    go_simp
    have q0 := hbr.cell 0 _ rfl
    have q1 := hbr.cell 1 _ rfl
    have f0 := hbr.frozen 0
    have f1 := hbr.frozen 1
    refine dyn_act rfl rfl (fun K hK => ?_)
    go_wp2_with fail
    refine hK.out _ _ trivial ?_
    clear hK q0 q1 f0 f1
    refine dyn_take rfl rfl (fun W g => by go_simp; rfl) ?_
    go_simp
    refine dyn_done ?_
    rw [HQ9.out]
    refine ⟨rfl, upd vs 9 (.bool bo), P1, Pc1, P2, Pc2, r, W.heap.size, by simp [upd, d7, d8], hr, by simp [World.setCell], ⟨(hbr.set_ 0 _).set_ 1 _, StoreO.keeps hos2 (((Keeps.refl _ _).sc (b := r) (o := 0) (fun h => h.2 rfl) _).sc (b := r) (o := 1) (fun h => h.2 rfl) _)⟩, below_sc (b := r) (o := 1) (below_sc (b := r) (o := 0) hbW hr.1 _) hr.1 _⟩
  intro eq9 aq9 w3 hq9
  rw [HQ9.out] at hq9
  clear HQ9
  obtain ⟨rfl, vsC, C1, Cc1, C2, Cc2, cr, ch, rfl, hrC, hhC, hP, hb⟩ := hq9
  clear g0 BLS BLW STP y0 y1 z0 z1 z2 z3 z4 z5 z6 z7
  obtain ⟨p3, HLn, lop3, hip3, Ep3⟩ := HL.out.push hb (fun V => Blk V cr 33 [.slice C1 d.envs.length Cc1, .slice C2 d.promises.length Cc2] ∧ StoreO (fun b => Rng w2.heap.size ch b ∧ b ≠ cr) V [.slice C1 d.envs.length Cc1, .slice C2 d.promises.length Cc2] d) (fun V V2 hk h => ⟨h.1.keeps hk ⟨hrC.1, Nat.lt_of_lt_of_le hrC.2 hhC⟩, h.2.keeps (hk.mono fun b hb => ⟨hb.1.1, Nat.lt_of_lt_of_le hb.1.2 hhC⟩)⟩) hP
  replace HL := Lib.hid HLn
  clear hb HLn
  clear hP
  have y0 := (Ep1.out _ (HL.out.at 2 _ rfl)).cell 0 _ rfl
  have y1 := (Ep1.out _ (HL.out.at 2 _ rfl)).cell 1 _ rfl
  go_wp2_with fail
  clear y0 y1
  refine Calls.mono (laws_toStore s _ _ (HT.out.below HL.out.below) (by omega)) ?_
  rintro e w4 ⟨cx, rfl, ox, hb⟩
  obtain ⟨X1, x1, X2, x2, rfl⟩ := StoreO.shape2 ox
  obtain ⟨p4, HLn, lop4, hip4, Ep4⟩ := HL.out.push hb (fun V => StoreO (Rng w3.heap.size w4.heap.size) V [.slice X1 s.envs.length x1, .slice X2 s.promises.length x2] s) (fun V V2 hk h => h.keeps hk) ox
  replace HL := Lib.hid HLn
  clear hb HLn
  clear ox
  go_upto_region 12 with fail
  obtain ⟨p5, HLn, lop5, Ep5⟩ := HL.out.box 33 [.slice X1 s.envs.length x1, .slice X2 s.promises.length x2]
  refine gen_w (G := LS w [p5, p4, p3, p2, p1]) (show Ok _ _ from HLn) ?_
  clear HL HLn
  intro w5 g
  have HL := Lib.hid (show LS w [p5, p4, p3, p2, p1] w5 from g)
  clear g
  have z0 := (Ep2.out _ (HL.out.at 3 _ rfl)).cell 0 _ rfl
  have z1 := (Ep2.out _ (HL.out.at 3 _ rfl)).cell 1 _ rfl
  have z2 := (Ep2.out _ (HL.out.at 3 _ rfl)).cell 2 _ rfl
  have z3 := (Ep2.out _ (HL.out.at 3 _ rfl)).cell 3 _ rfl
  have z4 := (Ep2.out _ (HL.out.at 3 _ rfl)).cell 4 _ rfl
  have z5 := (Ep2.out _ (HL.out.at 3 _ rfl)).cell 5 _ rfl
  have z6 := (Ep2.out _ (HL.out.at 3 _ rfl)).cell 6 _ rfl
  have z7 := (Ep2.out _ (HL.out.at 3 _ rfl)).cell 7 _ rfl
  go_wp2_with fail
  clear z0 z1 z2 z3 z4 z5 z6 z7
  refine Calls.mono (laws_toVec v _ _ (HV.out.below HL.out.below) (by omega)) ?_
  rintro e w6 ⟨cx, rfl, ox, hb⟩
  obtain ⟨Y1, u1, Y2, u2, Y3, u3, Y4, u4, Y5, u5, rfl⟩ := VecO.shape ox
  obtain ⟨p6, HLn, lop6, hip6, Ep6⟩ := HL.out.push hb (fun V => VecO (Rng w5.heap.size w6.heap.size) V [.int .i64 v.kind, .slice Y1 v.items.length u1, .slice Y2 v.parts.length u2, .slice Y3 v.names.length u3, .slice Y4 v.cls.length u4, .slice Y5 v.levels.length u5, .int .i64 v.code, .int .i64 v.env] v) (fun V V2 hk h => VecO.keeps h hk) ox
  replace HL := Lib.hid HLn
  clear hb HLn
  clear ox
  go_upto_region 13 with fail
  obtain ⟨p7, HLn, lop7, Ep7⟩ := HL.out.box 45 [.int .i64 v.kind, .slice Y1 v.items.length u1, .slice Y2 v.parts.length u2, .slice Y3 v.names.length u3, .slice Y4 v.cls.length u4, .slice Y5 v.levels.length u5, .int .i64 v.code, .int .i64 v.env]
  refine gen_w (G := LS w [p7, p6, p5, p4, p3, p2, p1]) (show Ok _ _ from HLn) ?_
  clear HL HLn
  intro w7 g
  have HL := Lib.hid (show LS w [p7, p6, p5, p4, p3, p2, p1] w7 from g)
  clear g
  have y0 := (Ep5.out _ (HL.out.at 2 _ rfl)).cell 0 _ rfl
  have y1 := (Ep5.out _ (HL.out.at 2 _ rfl)).cell 1 _ rfl
  have z0 := (Ep7.out _ (HL.out.at 0 _ rfl)).cell 0 _ rfl
  have z1 := (Ep7.out _ (HL.out.at 0 _ rfl)).cell 1 _ rfl
  have z2 := (Ep7.out _ (HL.out.at 0 _ rfl)).cell 2 _ rfl
  have z3 := (Ep7.out _ (HL.out.at 0 _ rfl)).cell 3 _ rfl
  have z4 := (Ep7.out _ (HL.out.at 0 _ rfl)).cell 4 _ rfl
  have z5 := (Ep7.out _ (HL.out.at 0 _ rfl)).cell 5 _ rfl
  have z6 := (Ep7.out _ (HL.out.at 0 _ rfl)).cell 6 _ rfl
  have z7 := (Ep7.out _ (HL.out.at 0 _ rfl)).cell 7 _ rfl
  go_wp2_with fail
  clear y0 y1 z0 z1 z2 z3 z4 z5 z6 z7
  refine Calls.mono (HIM.out _ _ _ (Ep4.out _ (HL.out.at 3 _ rfl)).read (Ep6.out _ (HL.out.at 1 _ rfl)).read) ?_
  rintro e w8 ⟨cg, rfl, og, hb⟩
  obtain ⟨G1, gc1, G2, gc2, rfl⟩ := StoreO.shape2 og
  obtain ⟨p8, HLn, lop8, hip8, Ep8⟩ := HL.out.push hb (fun V => StoreO (Rng w7.heap.size w8.heap.size) V [.slice G1 d.envs.length gc1, .slice G2 d.promises.length gc2] d) (fun V V2 hk h => h.keeps hk) og
  replace HL := Lib.hid HLn
  clear hb HLn
  clear og
  go_upto_region 14 with fail
  obtain ⟨p9, HLn, lop9, Ep9⟩ := HL.out.box 33 [.slice G1 d.envs.length gc1, .slice G2 d.promises.length gc2]
  refine gen_w (G := LS w [p9, p8, p7, p6, p5, p4, p3, p2, p1]) (show Ok _ _ from HLn) ?_
  clear HL HLn
  intro w9 g
  have HL := Lib.hid (show LS w [p9, p8, p7, p6, p5, p4, p3, p2, p1] w9 from g)
  clear g
  have y0 := (Ep9.out _ (HL.out.at 0 _ rfl)).cell 0 _ rfl
  have y1 := (Ep9.out _ (HL.out.at 0 _ rfl)).cell 1 _ rfl
  have z0 := (Ep3.out _ (HL.out.at 6 _ rfl)).1.cell 0 _ rfl
  have z1 := (Ep3.out _ (HL.out.at 6 _ rfl)).1.cell 1 _ rfl
  go_wp2_with fail
  clear y0 y1 z0 z1
  refine Calls.mono (laws_eqStore_same d _ _ _ (Ep8.out _ (HL.out.at 1 _ rfl)).read (Ep3.out _ (HL.out.at 6 _ rfl)).2.read) ?_
  rintro e w10 ⟨rfl, hb⟩
  replace HL := Lib.hid (HL.out.step hb)
  clear hb
  have y0 := fun V (h : Ok (LS w [p9, p8, p7, p6, p5, p4, p3, p2, p1]) V) => (Ep5.out _ ((show LS w [p9, p8, p7, p6, p5, p4, p3, p2, p1] V from h).at 4 _ rfl)).cell 0 _ rfl
  have y1 := fun V (h : Ok (LS w [p9, p8, p7, p6, p5, p4, p3, p2, p1]) V) => (Ep5.out _ ((show LS w [p9, p8, p7, p6, p5, p4, p3, p2, p1] V from h).at 4 _ rfl)).cell 1 _ rfl
  have z0 := fun V (h : Ok (LS w [p9, p8, p7, p6, p5, p4, p3, p2, p1]) V) => (Ep1.out _ ((show LS w [p9, p8, p7, p6, p5, p4, p3, p2, p1] V from h).at 8 _ rfl)).cell 0 _ rfl
  have z1 := fun V (h : Ok (LS w [p9, p8, p7, p6, p5, p4, p3, p2, p1]) V) => (Ep1.out _ ((show LS w [p9, p8, p7, p6, p5, p4, p3, p2, p1] V from h).at 8 _ rfl)).cell 1 _ rfl
  have g0 : Ok (LS w [p9, p8, p7, p6, p5, p4, p3, p2, p1]) w10.drew := HL.out.drew
  clear HL
  go_wp2_with fail
  refine wp_region_plan (S := Ok (LS w [p9, p8, p7, p6, p5, p4, p3, p2, p1])) (by kernel_rfl) [(true, 0), (true, 1), (false, 2), (false, 3), (true, 4)] (by kernel_rfl) g0 ?_
  repeat ((first | (refine dyn_take rfl rfl (fun W g => by go_simp; rfl) ?_) | (refine dyn_skip rfl rfl ?_)); go_simp)
  refine dyn_act rfl rfl (fun K hK => ?_)
  go_wp2_with fail
  refine Calls.mono (laws_toStore s _ _ (HT.out.below (show LS w [p9, p8, p7, p6, p5, p4, p3, p2, p1] _ from g0).below) (by omega)) ?_
  rintro e w11 ⟨cy, rfl, oy, hb⟩
  have RY := Lib.hid oy.read
  obtain ⟨t1, tc1, t2, tc2, rfl⟩ := oy.shape2
  have g1 : Ok (LS w [p9, p8, p7, p6, p5, p4, p3, p2, p1]) w11 := (show LS w [p9, p8, p7, p6, p5, p4, p3, p2, p1] _ from g0).step hb
  clear oy hb g0
  simp only []
  refine hK.out _ _ g1 ?_
  clear hK
  repeat ((first | (refine dyn_take rfl rfl (fun W g => by go_simp; rfl) ?_) | (refine dyn_skip rfl rfl ?_)); go_simp)
  refine dyn_act rfl rfl (fun K hK => ?_)
  go_wp2_with fail
  refine Calls.mono (laws_eqStore_same s _ _ _ (Ep4.out _ ((show LS w [p9, p8, p7, p6, p5, p4, p3, p2, p1] _ from g1).at 5 _ rfl)).read RY.out) ?_
  rintro e w12 ⟨rfl, hb⟩
  have g2 : Ok (LS w [p9, p8, p7, p6, p5, p4, p3, p2, p1]) w12 := (show LS w [p9, p8, p7, p6, p5, p4, p3, p2, p1] _ from g1).step hb
  clear hb g1 RY
  simp only []
  refine hK.out _ _ g2 ?_
  clear hK
  repeat ((first | (refine dyn_take rfl rfl (fun W g => by go_simp; rfl) ?_) | (refine dyn_skip rfl rfl ?_)); go_simp)
  refine dyn_done ?_
  have HL := Lib.hid (show LS w [p9, p8, p7, p6, p5, p4, p3, p2, p1] w12 from g2)
  clear g2 y0 y1 z0 z1
  have y0 := fun V (h : Ok (LS w [p9, p8, p7, p6, p5, p4, p3, p2, p1]) V) => (Ep7.out _ ((show LS w [p9, p8, p7, p6, p5, p4, p3, p2, p1] V from h).at 2 _ rfl)).cell 0 _ rfl
  have y1 := fun V (h : Ok (LS w [p9, p8, p7, p6, p5, p4, p3, p2, p1]) V) => (Ep7.out _ ((show LS w [p9, p8, p7, p6, p5, p4, p3, p2, p1] V from h).at 2 _ rfl)).cell 1 _ rfl
  have y2 := fun V (h : Ok (LS w [p9, p8, p7, p6, p5, p4, p3, p2, p1]) V) => (Ep7.out _ ((show LS w [p9, p8, p7, p6, p5, p4, p3, p2, p1] V from h).at 2 _ rfl)).cell 2 _ rfl
  have y3 := fun V (h : Ok (LS w [p9, p8, p7, p6, p5, p4, p3, p2, p1]) V) => (Ep7.out _ ((show LS w [p9, p8, p7, p6, p5, p4, p3, p2, p1] V from h).at 2 _ rfl)).cell 3 _ rfl
  have y4 := fun V (h : Ok (LS w [p9, p8, p7, p6, p5, p4, p3, p2, p1]) V) => (Ep7.out _ ((show LS w [p9, p8, p7, p6, p5, p4, p3, p2, p1] V from h).at 2 _ rfl)).cell 4 _ rfl
  have y5 := fun V (h : Ok (LS w [p9, p8, p7, p6, p5, p4, p3, p2, p1]) V) => (Ep7.out _ ((show LS w [p9, p8, p7, p6, p5, p4, p3, p2, p1] V from h).at 2 _ rfl)).cell 5 _ rfl
  have y6 := fun V (h : Ok (LS w [p9, p8, p7, p6, p5, p4, p3, p2, p1]) V) => (Ep7.out _ ((show LS w [p9, p8, p7, p6, p5, p4, p3, p2, p1] V from h).at 2 _ rfl)).cell 6 _ rfl
  have y7 := fun V (h : Ok (LS w [p9, p8, p7, p6, p5, p4, p3, p2, p1]) V) => (Ep7.out _ ((show LS w [p9, p8, p7, p6, p5, p4, p3, p2, p1] V from h).at 2 _ rfl)).cell 7 _ rfl
  have z0 := fun V (h : Ok (LS w [p9, p8, p7, p6, p5, p4, p3, p2, p1]) V) => (Ep2.out _ ((show LS w [p9, p8, p7, p6, p5, p4, p3, p2, p1] V from h).at 7 _ rfl)).cell 0 _ rfl
  have z1 := fun V (h : Ok (LS w [p9, p8, p7, p6, p5, p4, p3, p2, p1]) V) => (Ep2.out _ ((show LS w [p9, p8, p7, p6, p5, p4, p3, p2, p1] V from h).at 7 _ rfl)).cell 1 _ rfl
  have z2 := fun V (h : Ok (LS w [p9, p8, p7, p6, p5, p4, p3, p2, p1]) V) => (Ep2.out _ ((show LS w [p9, p8, p7, p6, p5, p4, p3, p2, p1] V from h).at 7 _ rfl)).cell 2 _ rfl
  have z3 := fun V (h : Ok (LS w [p9, p8, p7, p6, p5, p4, p3, p2, p1]) V) => (Ep2.out _ ((show LS w [p9, p8, p7, p6, p5, p4, p3, p2, p1] V from h).at 7 _ rfl)).cell 3 _ rfl
  have z4 := fun V (h : Ok (LS w [p9, p8, p7, p6, p5, p4, p3, p2, p1]) V) => (Ep2.out _ ((show LS w [p9, p8, p7, p6, p5, p4, p3, p2, p1] V from h).at 7 _ rfl)).cell 4 _ rfl
  have z5 := fun V (h : Ok (LS w [p9, p8, p7, p6, p5, p4, p3, p2, p1]) V) => (Ep2.out _ ((show LS w [p9, p8, p7, p6, p5, p4, p3, p2, p1] V from h).at 7 _ rfl)).cell 5 _ rfl
  have z6 := fun V (h : Ok (LS w [p9, p8, p7, p6, p5, p4, p3, p2, p1]) V) => (Ep2.out _ ((show LS w [p9, p8, p7, p6, p5, p4, p3, p2, p1] V from h).at 7 _ rfl)).cell 6 _ rfl
  have z7 := fun V (h : Ok (LS w [p9, p8, p7, p6, p5, p4, p3, p2, p1]) V) => (Ep2.out _ ((show LS w [p9, p8, p7, p6, p5, p4, p3, p2, p1] V from h).at 7 _ rfl)).cell 7 _ rfl
  have g0 : Ok (LS w [p9, p8, p7, p6, p5, p4, p3, p2, p1]) w12.drew := HL.out.drew
  clear HL
  go_wp2_with fail
  refine wp_region_plan (S := Ok (LS w [p9, p8, p7, p6, p5, p4, p3, p2, p1])) (by kernel_rfl) [(true, 0), (true, 1), (false, 2), (false, 3), (true, 4)] (by kernel_rfl) g0 ?_
  repeat ((first | (refine dyn_take rfl rfl (fun W g => by go_simp; rfl) ?_) | (refine dyn_skip rfl rfl ?_)); go_simp)
  refine dyn_act rfl rfl (fun K hK => ?_)
  go_wp2_with fail
  refine Calls.mono (laws_toVec v _ _ (HV.out.below (show LS w [p9, p8, p7, p6, p5, p4, p3, p2, p1] _ from g0).below) (by omega)) ?_
  rintro e w13 ⟨cy, rfl, oy, hb⟩
  have RY := Lib.hid oy.read
  obtain ⟨n1, nc1, n2, nc2, n3, nc3, n4, nc4, n5, nc5, rfl⟩ := oy.shape
  have g1 : Ok (LS w [p9, p8, p7, p6, p5, p4, p3, p2, p1]) w13 := (show LS w [p9, p8, p7, p6, p5, p4, p3, p2, p1] _ from g0).step hb
  clear oy hb g0
  simp only []
  refine hK.out _ _ g1 ?_
  clear hK
  repeat ((first | (refine dyn_take rfl rfl (fun W g => by go_simp; rfl) ?_) | (refine dyn_skip rfl rfl ?_)); go_simp)
  refine dyn_act rfl rfl (fun K hK => ?_)
  go_wp2_with fail
  refine Calls.mono (laws_eqVec_same v _ _ _ (Ep6.out _ ((show LS w [p9, p8, p7, p6, p5, p4, p3, p2, p1] _ from g1).at 3 _ rfl)).read RY.out) ?_
  rintro e w14 ⟨rfl, hb⟩
  have g2 : Ok (LS w [p9, p8, p7, p6, p5, p4, p3, p2, p1]) w14 := (show LS w [p9, p8, p7, p6, p5, p4, p3, p2, p1] _ from g1).step hb
  clear hb g1 RY
  simp only []
  refine hK.out _ _ g2 ?_
  clear hK
  repeat ((first | (refine dyn_take rfl rfl (fun W g => by go_simp; rfl) ?_) | (refine dyn_skip rfl rfl ?_)); go_simp)
  refine dyn_done ?_
  have HL := Lib.hid (show LS w [p9, p8, p7, p6, p5, p4, p3, p2, p1] w14 from g2)
  clear g2 y0 y1 y2 y3 y4 y5 y6 y7 z0 z1 z2 z3 z4 z5 z6 z7
  have y0 := (Ep5.out _ (HL.out.at 4 _ rfl)).cell 0 _ rfl
  have y1 := (Ep5.out _ (HL.out.at 4 _ rfl)).cell 1 _ rfl
  go_wp2_with fail
  clear y0 y1
  refine Calls.mono (laws_markStore (Rng w3.heap.size w4.heap.size) s _ 1 _ (Ep4.out _ (HL.out.at 5 _ rfl)) (fun hb => by have h1 := hb.2; have h2 := (HL.out.bnd 5 _ rfl).2.2; rw [hip4] at h2; omega) (by decide) (by omega)) ?_
  rintro e w15 ⟨rfl, ho, hk, hz0⟩
  obtain ⟨p10, HLn, lop10, hip10, Ep10⟩ := HL.out.mod 5 _ rfl (by rw [lop4, hip4]; exact hk) hz0 (fun V => StoreO (Rng w3.heap.size w4.heap.size) V [.slice X1 s.envs.length x1, .slice X2 s.promises.length x2] (markStoreD s 1)) (by rw [lop4, hip4]; exact fun V V2 hk h => h.keeps hk) ho
  rw [lop4] at lop10
  rw [hip4] at hip10
  have HL2 := Lib.hid (show LS w [p9, p8, p7, p6, p5, p10, p3, p2, p1] _ from HLn)
  clear HL HLn hk hz0 ho
  have HL := HL2
  clear HL2
  have z0 := (Ep7.out _ (HL.out.at 2 _ rfl)).cell 0 _ rfl
  have z1 := (Ep7.out _ (HL.out.at 2 _ rfl)).cell 1 _ rfl
  have z2 := (Ep7.out _ (HL.out.at 2 _ rfl)).cell 2 _ rfl
  have z3 := (Ep7.out _ (HL.out.at 2 _ rfl)).cell 3 _ rfl
  have z4 := (Ep7.out _ (HL.out.at 2 _ rfl)).cell 4 _ rfl
  have z5 := (Ep7.out _ (HL.out.at 2 _ rfl)).cell 5 _ rfl
  have z6 := (Ep7.out _ (HL.out.at 2 _ rfl)).cell 6 _ rfl
  have z7 := (Ep7.out _ (HL.out.at 2 _ rfl)).cell 7 _ rfl
  go_wp2_with fail
  clear z0 z1 z2 z3 z4 z5 z6 z7
  refine Calls.mono (laws_markVector (Rng w5.heap.size w6.heap.size) v _ (1 + cStore s) _ (Ep6.out _ (HL.out.at 3 _ rfl)) (fun hb => by have h1 := hb.2; have h2 := (HL.out.bnd 3 _ rfl).2.2; rw [hip6] at h2; omega) (by omega) (by omega)) ?_
  rintro e w16 ⟨rfl, ho, hk, hz0⟩
  obtain ⟨p11, HLn, lop11, hip11, Ep11⟩ := HL.out.mod 3 _ rfl (by rw [lop6, hip6]; exact hk) hz0 (fun V => VecO (Rng w5.heap.size w6.heap.size) V [.int .i64 v.kind, .slice Y1 v.items.length u1, .slice Y2 v.parts.length u2, .slice Y3 v.names.length u3, .slice Y4 v.cls.length u4, .slice Y5 v.levels.length u5, .int .i64 v.code, .int .i64 v.env] (markV v (1 + (cStore s : Int)))) (by rw [lop6, hip6]; exact fun V V2 hk h => VecO.keeps h hk) ho
  rw [lop6] at lop11
  rw [hip6] at hip11
  have HL2 := Lib.hid (show LS w [p9, p8, p7, p11, p5, p10, p3, p2, p1] _ from HLn)
  clear HL HLn hk hz0 ho
  have HL := HL2
  clear HL2
  have hdk : decide ((1 + (cStore s : Int) + (cV1 v : Int)) < 0) = false := decide_eq_false (by omega)
  have y0 := (Ep9.out _ (HL.out.at 0 _ rfl)).cell 0 _ rfl
  have y1 := (Ep9.out _ (HL.out.at 0 _ rfl)).cell 1 _ rfl
  have z0 := (Ep3.out _ (HL.out.at 6 _ rfl)).1.cell 0 _ rfl
  have z1 := (Ep3.out _ (HL.out.at 6 _ rfl)).1.cell 1 _ rfl
  go_wp2_with fail
  clear y0 y1 z0 z1
  refine Calls.mono (laws_eqStore_same d _ _ _ (Ep8.out _ (HL.out.at 1 _ rfl)).read (Ep3.out _ (HL.out.at 6 _ rfl)).2.read) ?_
  rintro e w17 ⟨rfl, hb⟩
  replace HL := Lib.hid (HL.out.step hb)
  clear hb
  have y0 := (Ep9.out _ (HL.out.at 0 _ rfl)).cell 0 _ rfl
  have y1 := (Ep9.out _ (HL.out.at 0 _ rfl)).cell 1 _ rfl
  go_wp2_with fail
  clear y0 y1
  refine Calls.mono (laws_markStore (Rng w7.heap.size w8.heap.size) d _ 1 _ (Ep8.out _ (HL.out.at 1 _ rfl)) (fun hb => by have h1 := hb.2; have h2 := (HL.out.bnd 1 _ rfl).2.2; rw [hip8] at h2; omega) (by decide) (by omega)) ?_
  rintro e w18 ⟨rfl, ho, hk, hz0⟩
  obtain ⟨p12, HLn, lop12, hip12, Ep12⟩ := HL.out.mod 1 _ rfl (by rw [lop8, hip8]; exact hk) hz0 (fun V => StoreO (Rng w7.heap.size w8.heap.size) V [.slice G1 d.envs.length gc1, .slice G2 d.promises.length gc2] (markStoreD d 1)) (by rw [lop8, hip8]; exact fun V V2 hk h => h.keeps hk) ho
  rw [lop8] at lop12
  rw [hip8] at hip12
  have HL2 := Lib.hid (show LS w [p9, p12, p7, p11, p5, p10, p3, p2, p1] _ from HLn)
  clear HL HLn hk hz0 ho
  have HL := HL2
  clear HL2
  have hd0 : decide ((1 + (cStore d : Int)) < 0) = false := decide_eq_false (by omega)
  have y0 := (Ep9.out _ (HL.out.at 0 _ rfl)).cell 0 _ rfl
  have y1 := (Ep9.out _ (HL.out.at 0 _ rfl)).cell 1 _ rfl
  go_wp2_with fail
  clear y0 y1
  refine Calls.mono (laws_heldStore d _ 1 _ (Ep12.out _ (HL.out.at 1 _ rfl)).read (by decide) (by omega)) ?_
  rintro e w19 ⟨rfl, hb⟩
  replace HL := Lib.hid (HL.out.step hb)
  clear hb
  have y0 := fun V (h : Ok (fun V => LS w [p9, p12, p7, p11, p5, p10, p3, p2, p1] V ∧ Below w19.heap.size w19 V) V) => (Ep1.out _ ((show LS w [p9, p12, p7, p11, p5, p10, p3, p2, p1] V ∧ _ from h).1.at 8 _ rfl)).cell 0 _ rfl
  have y1 := fun V (h : Ok (fun V => LS w [p9, p12, p7, p11, p5, p10, p3, p2, p1] V ∧ Below w19.heap.size w19 V) V) => (Ep1.out _ ((show LS w [p9, p12, p7, p11, p5, p10, p3, p2, p1] V ∧ _ from h).1.at 8 _ rfl)).cell 1 _ rfl
  have z0 := fun V (h : Ok (fun V => LS w [p9, p12, p7, p11, p5, p10, p3, p2, p1] V ∧ Below w19.heap.size w19 V) V) => (Ep2.out _ ((show LS w [p9, p12, p7, p11, p5, p10, p3, p2, p1] V ∧ _ from h).1.at 7 _ rfl)).cell 0 _ rfl
  have z1 := fun V (h : Ok (fun V => LS w [p9, p12, p7, p11, p5, p10, p3, p2, p1] V ∧ Below w19.heap.size w19 V) V) => (Ep2.out _ ((show LS w [p9, p12, p7, p11, p5, p10, p3, p2, p1] V ∧ _ from h).1.at 7 _ rfl)).cell 1 _ rfl
  have z2 := fun V (h : Ok (fun V => LS w [p9, p12, p7, p11, p5, p10, p3, p2, p1] V ∧ Below w19.heap.size w19 V) V) => (Ep2.out _ ((show LS w [p9, p12, p7, p11, p5, p10, p3, p2, p1] V ∧ _ from h).1.at 7 _ rfl)).cell 2 _ rfl
  have z3 := fun V (h : Ok (fun V => LS w [p9, p12, p7, p11, p5, p10, p3, p2, p1] V ∧ Below w19.heap.size w19 V) V) => (Ep2.out _ ((show LS w [p9, p12, p7, p11, p5, p10, p3, p2, p1] V ∧ _ from h).1.at 7 _ rfl)).cell 3 _ rfl
  have z4 := fun V (h : Ok (fun V => LS w [p9, p12, p7, p11, p5, p10, p3, p2, p1] V ∧ Below w19.heap.size w19 V) V) => (Ep2.out _ ((show LS w [p9, p12, p7, p11, p5, p10, p3, p2, p1] V ∧ _ from h).1.at 7 _ rfl)).cell 4 _ rfl
  have z5 := fun V (h : Ok (fun V => LS w [p9, p12, p7, p11, p5, p10, p3, p2, p1] V ∧ Below w19.heap.size w19 V) V) => (Ep2.out _ ((show LS w [p9, p12, p7, p11, p5, p10, p3, p2, p1] V ∧ _ from h).1.at 7 _ rfl)).cell 5 _ rfl
  have z6 := fun V (h : Ok (fun V => LS w [p9, p12, p7, p11, p5, p10, p3, p2, p1] V ∧ Below w19.heap.size w19 V) V) => (Ep2.out _ ((show LS w [p9, p12, p7, p11, p5, p10, p3, p2, p1] V ∧ _ from h).1.at 7 _ rfl)).cell 6 _ rfl
  have z7 := fun V (h : Ok (fun V => LS w [p9, p12, p7, p11, p5, p10, p3, p2, p1] V ∧ Below w19.heap.size w19 V) V) => (Ep2.out _ ((show LS w [p9, p12, p7, p11, p5, p10, p3, p2, p1] V ∧ _ from h).1.at 7 _ rfl)).cell 7 _ rfl
  have g0 : Ok (fun V => LS w [p9, p12, p7, p11, p5, p10, p3, p2, p1] V ∧ Below w19.heap.size w19 V) w19.drew := ⟨HL.out.drew, Below.drew (Below.refl _ _)⟩
  have BLS := Lib.hid (fun V (h : Ok (fun V => LS w [p9, p12, p7, p11, p5, p10, p3, p2, p1] V ∧ Below w19.heap.size w19 V) V) => (show LS w [p9, p12, p7, p11, p5, p10, p3, p2, p1] V ∧ _ from h).1.below)
  have BLW := Lib.hid (fun V (h : Ok (fun V => LS w [p9, p12, p7, p11, p5, p10, p3, p2, p1] V ∧ Below w19.heap.size w19 V) V) => (show LS w [p9, p12, p7, p11, p5, p10, p3, p2, p1] V ∧ Below w19.heap.size w19 V from h).2)
  have STP := Lib.hid (fun V V2 (h : Ok (fun V => LS w [p9, p12, p7, p11, p5, p10, p3, p2, p1] V ∧ Below w19.heap.size w19 V) V) (hb : Below V.heap.size V V2) => show Ok (fun V => LS w [p9, p12, p7, p11, p5, p10, p3, p2, p1] V ∧ Below w19.heap.size w19 V) V2 from ⟨(show LS w [p9, p12, p7, p11, p5, p10, p3, p2, p1] V ∧ _ from h).1.step hb, (BLW.out _ h).trans (hb.mono (BLW.out _ h).size)⟩)
  go_wp2_with fail
  obtain ⟨Q9, hq9⟩ : ∃ Q9 : Exit → Act → World → Prop, Q9 = (fun e act V => e = .normal ∧ ∃ (vs : Nat → Value) (H1 : Option Addr) (Hc1 : Nat) (H2 : Option Addr) (Hc2 : Nat) (hr hh : Nat), act = ⟨#[Value.agg #[Value.slice A1 s.envs.length a1, Value.slice A2 s.promises.length a2], Value.int IntKind.i64 env, Value.string (str nm), Value.agg #[Value.int IntKind.i64 v.kind, Value.slice B1 v.items.length b1, Value.slice B2 v.parts.length b2, Value.slice B3 v.names.length b3, Value.slice B4 v.cls.length b4, Value.slice B5 v.levels.length b5, Value.int IntKind.i64 v.code, Value.int IntKind.i64 v.env], Value.pointer (some { block := w.heap.size, off := 0 }), undef, undef, Value.pointer (some { block := w.heap.size + 1, off := 0 }), Value.bool false, Value.int IntKind.i64 (1048576 - ↑(szStore s) - ↑(szVector v)), Value.pointer (some { block := cr, off := 0 }), Value.bool bo, Value.pointer (some { block := w4.heap.size, off := 0 }), Value.pointer (some { block := w6.heap.size, off := 0 }), Value.pointer (some { block := w8.heap.size, off := 0 }), Value.bool bo, Value.int IntKind.i64 (1 + ↑(cStore s) + ↑(cV1 v)), Value.int IntKind.i64 (1 + ↑(cStore d)), Value.int IntKind.i64 (1 + ↑(cStore d)), .pointer (some ⟨hr, 0, none⟩), .bool bo, Value.string (str nm), Value.int IntKind.i64 ↑nm.length, Value.bool (decide ((1048576 : Int) < ↑nm.length)), Value.agg #[Value.slice A1 s.envs.length a1, Value.slice A2 s.promises.length a2], Value.int IntKind.i64 1048576, Value.int IntKind.i64 (1048576 - ↑(szStore s)), Value.int IntKind.i64 (1048576 - ↑(szStore s)), Value.bool (decide ((1048576 - ↑(szStore s) : Int) < 0)), Value.agg #[Value.int IntKind.i64 v.kind, Value.slice B1 v.items.length b1, Value.slice B2 v.parts.length b2, Value.slice B3 v.names.length b3, Value.slice B4 v.cls.length b4, Value.slice B5 v.levels.length b5, Value.int IntKind.i64 v.code, Value.int IntKind.i64 v.env], Value.int IntKind.i64 (1048576 - ↑(szStore s)), Value.int IntKind.i64 (1048576 - ↑(szStore s) - ↑(szVector v)), Value.int IntKind.i64 (1048576 - ↑(szStore s) - ↑(szVector v)), Value.bool (decide ((1048576 - ↑(szStore s) - ↑(szVector v) : Int) < 0)), vsC 7, vsC 0, vsC 1, vsC 2, vsC 3, vsC 4, vsC 5, vsC 6, vsC 8, vsC 9, Value.agg #[Value.slice A1 s.envs.length a1, Value.slice A2 s.promises.length a2], Value.agg #[Value.slice X1 s.envs.length x1, Value.slice X2 s.promises.length x2], Value.agg #[Value.int IntKind.i64 v.kind, Value.slice B1 v.items.length b1, Value.slice B2 v.parts.length b2, Value.slice B3 v.names.length b3, Value.slice B4 v.cls.length b4, Value.slice B5 v.levels.length b5, Value.int IntKind.i64 v.code, Value.int IntKind.i64 v.env], Value.agg #[Value.int IntKind.i64 v.kind, Value.slice Y1 v.items.length u1, Value.slice Y2 v.parts.length u2, Value.slice Y3 v.names.length u3, Value.slice Y4 v.cls.length u4, Value.slice Y5 v.levels.length u5, Value.int IntKind.i64 v.code, Value.int IntKind.i64 v.env], Value.tuple #[Value.agg #[Value.slice G1 d.envs.length gc1, Value.slice G2 d.promises.length gc2], Value.bool bo], Value.agg #[Value.slice X1 s.envs.length x1, Value.slice X2 s.promises.length x2], Value.int IntKind.i64 env, Value.string (str nm), Value.agg #[Value.int IntKind.i64 v.kind, Value.slice Y1 v.items.length u1, Value.slice Y2 v.parts.length u2, Value.slice Y3 v.names.length u3, Value.slice Y4 v.cls.length u4, Value.slice Y5 v.levels.length u5, Value.int IntKind.i64 v.code, Value.int IntKind.i64 v.env], Value.tuple #[Value.agg #[Value.slice G1 d.envs.length gc1, Value.slice G2 d.promises.length gc2], Value.bool bo], Value.agg #[Value.slice G1 d.envs.length gc1, Value.slice G2 d.promises.length gc2], Value.bool bo, Value.agg #[Value.slice G1 d.envs.length gc1, Value.slice G2 d.promises.length gc2], Value.agg #[Value.slice C1 d.envs.length Cc1, Value.slice C2 d.promises.length Cc2], Value.bool true, Value.bool false, Value.bool false, Value.bool bo, Value.bool bo, Value.bool false, Value.bool false, Value.agg #[Value.slice X1 s.envs.length x1, Value.slice X2 s.promises.length x2], Value.agg #[Value.slice A1 s.envs.length a1, Value.slice A2 s.promises.length a2], Value.agg #[Value.slice t1 s.envs.length tc1, Value.slice t2 s.promises.length tc2], Value.bool true, Value.bool false, Value.agg #[Value.int IntKind.i64 v.kind, Value.slice Y1 v.items.length u1, Value.slice Y2 v.parts.length u2, Value.slice Y3 v.names.length u3, Value.slice Y4 v.cls.length u4, Value.slice Y5 v.levels.length u5, Value.int IntKind.i64 v.code, Value.int IntKind.i64 v.env], Value.agg #[Value.int IntKind.i64 v.kind, Value.slice B1 v.items.length b1, Value.slice B2 v.parts.length b2, Value.slice B3 v.names.length b3, Value.slice B4 v.cls.length b4, Value.slice B5 v.levels.length b5, Value.int IntKind.i64 v.code, Value.int IntKind.i64 v.env], Value.agg #[Value.int IntKind.i64 v.kind, Value.slice n1 v.items.length nc1, Value.slice n2 v.parts.length nc2, Value.slice n3 v.names.length nc3, Value.slice n4 v.cls.length nc4, Value.slice n5 v.levels.length nc5, Value.int IntKind.i64 v.code, Value.int IntKind.i64 v.env], Value.bool true, Value.bool false, Value.agg #[Value.slice X1 s.envs.length x1, Value.slice X2 s.promises.length x2], Value.int IntKind.i64 1, Value.int IntKind.i64 (1 + ↑(cStore s)), Value.agg #[Value.int IntKind.i64 v.kind, Value.slice Y1 v.items.length u1, Value.slice Y2 v.parts.length u2, Value.slice Y3 v.names.length u3, Value.slice Y4 v.cls.length u4, Value.slice Y5 v.levels.length u5, Value.int IntKind.i64 v.code, Value.int IntKind.i64 v.env], Value.int IntKind.i64 (1 + ↑(cStore s)), Value.int IntKind.i64 (1 + ↑(cStore s) + ↑(cV1 v)), Value.int IntKind.i64 (1 + ↑(cStore s) + ↑(cV1 v)), Value.bool false, Value.bool false, Value.agg #[Value.slice G1 d.envs.length gc1, Value.slice G2 d.promises.length gc2], Value.agg #[Value.slice C1 d.envs.length Cc1, Value.slice C2 d.promises.length Cc2], Value.bool true, Value.bool false, Value.bool false, Value.bool false, Value.bool bo, Value.bool bo, Value.bool false, Value.bool false, Value.agg #[Value.slice G1 d.envs.length gc1, Value.slice G2 d.promises.length gc2], Value.int IntKind.i64 1, Value.int IntKind.i64 (1 + ↑(cStore d)), Value.agg #[Value.slice G1 d.envs.length gc1, Value.slice G2 d.promises.length gc2], Value.int IntKind.i64 1, Value.int IntKind.i64 (1 + ↑(cStore d)), Value.int IntKind.i64 (1 + ↑(cStore d)), Value.bool false, Value.int IntKind.i64 (1 + ↑(cStore d)), Value.int IntKind.i64 (1 + ↑(cStore d)), Value.bool false, vs 7, vs 0, vs 1, vs 2, vs 3, vs 4, vs 5, vs 6, vs 8, vs 9, undef, undef, undef, undef, undef, undef, undef, undef, undef, undef, undef, undef, undef, undef, undef, undef, undef], []⟩ ∧ Rng w19.heap.size hh hr ∧ hh ≤ V.heap.size ∧ (Blk V hr 33 [.slice H1 d.envs.length Hc1, .slice H2 d.promises.length Hc2] ∧ StoreO (fun b => Rng w19.heap.size hh b ∧ b ≠ hr) V [.slice H1 d.envs.length Hc1, .slice H2 d.promises.length Hc2] d) ∧ Below w19.heap.size w19 V) := ⟨_, rfl⟩
  have HQ9 := Lib.hid (show ∀ e act V, Q9 e act V = (fun e act V => e = .normal ∧ ∃ (vs : Nat → Value) (H1 : Option Addr) (Hc1 : Nat) (H2 : Option Addr) (Hc2 : Nat) (hr hh : Nat), act = ⟨#[Value.agg #[Value.slice A1 s.envs.length a1, Value.slice A2 s.promises.length a2], Value.int IntKind.i64 env, Value.string (str nm), Value.agg #[Value.int IntKind.i64 v.kind, Value.slice B1 v.items.length b1, Value.slice B2 v.parts.length b2, Value.slice B3 v.names.length b3, Value.slice B4 v.cls.length b4, Value.slice B5 v.levels.length b5, Value.int IntKind.i64 v.code, Value.int IntKind.i64 v.env], Value.pointer (some { block := w.heap.size, off := 0 }), undef, undef, Value.pointer (some { block := w.heap.size + 1, off := 0 }), Value.bool false, Value.int IntKind.i64 (1048576 - ↑(szStore s) - ↑(szVector v)), Value.pointer (some { block := cr, off := 0 }), Value.bool bo, Value.pointer (some { block := w4.heap.size, off := 0 }), Value.pointer (some { block := w6.heap.size, off := 0 }), Value.pointer (some { block := w8.heap.size, off := 0 }), Value.bool bo, Value.int IntKind.i64 (1 + ↑(cStore s) + ↑(cV1 v)), Value.int IntKind.i64 (1 + ↑(cStore d)), Value.int IntKind.i64 (1 + ↑(cStore d)), .pointer (some ⟨hr, 0, none⟩), .bool bo, Value.string (str nm), Value.int IntKind.i64 ↑nm.length, Value.bool (decide ((1048576 : Int) < ↑nm.length)), Value.agg #[Value.slice A1 s.envs.length a1, Value.slice A2 s.promises.length a2], Value.int IntKind.i64 1048576, Value.int IntKind.i64 (1048576 - ↑(szStore s)), Value.int IntKind.i64 (1048576 - ↑(szStore s)), Value.bool (decide ((1048576 - ↑(szStore s) : Int) < 0)), Value.agg #[Value.int IntKind.i64 v.kind, Value.slice B1 v.items.length b1, Value.slice B2 v.parts.length b2, Value.slice B3 v.names.length b3, Value.slice B4 v.cls.length b4, Value.slice B5 v.levels.length b5, Value.int IntKind.i64 v.code, Value.int IntKind.i64 v.env], Value.int IntKind.i64 (1048576 - ↑(szStore s)), Value.int IntKind.i64 (1048576 - ↑(szStore s) - ↑(szVector v)), Value.int IntKind.i64 (1048576 - ↑(szStore s) - ↑(szVector v)), Value.bool (decide ((1048576 - ↑(szStore s) - ↑(szVector v) : Int) < 0)), vsC 7, vsC 0, vsC 1, vsC 2, vsC 3, vsC 4, vsC 5, vsC 6, vsC 8, vsC 9, Value.agg #[Value.slice A1 s.envs.length a1, Value.slice A2 s.promises.length a2], Value.agg #[Value.slice X1 s.envs.length x1, Value.slice X2 s.promises.length x2], Value.agg #[Value.int IntKind.i64 v.kind, Value.slice B1 v.items.length b1, Value.slice B2 v.parts.length b2, Value.slice B3 v.names.length b3, Value.slice B4 v.cls.length b4, Value.slice B5 v.levels.length b5, Value.int IntKind.i64 v.code, Value.int IntKind.i64 v.env], Value.agg #[Value.int IntKind.i64 v.kind, Value.slice Y1 v.items.length u1, Value.slice Y2 v.parts.length u2, Value.slice Y3 v.names.length u3, Value.slice Y4 v.cls.length u4, Value.slice Y5 v.levels.length u5, Value.int IntKind.i64 v.code, Value.int IntKind.i64 v.env], Value.tuple #[Value.agg #[Value.slice G1 d.envs.length gc1, Value.slice G2 d.promises.length gc2], Value.bool bo], Value.agg #[Value.slice X1 s.envs.length x1, Value.slice X2 s.promises.length x2], Value.int IntKind.i64 env, Value.string (str nm), Value.agg #[Value.int IntKind.i64 v.kind, Value.slice Y1 v.items.length u1, Value.slice Y2 v.parts.length u2, Value.slice Y3 v.names.length u3, Value.slice Y4 v.cls.length u4, Value.slice Y5 v.levels.length u5, Value.int IntKind.i64 v.code, Value.int IntKind.i64 v.env], Value.tuple #[Value.agg #[Value.slice G1 d.envs.length gc1, Value.slice G2 d.promises.length gc2], Value.bool bo], Value.agg #[Value.slice G1 d.envs.length gc1, Value.slice G2 d.promises.length gc2], Value.bool bo, Value.agg #[Value.slice G1 d.envs.length gc1, Value.slice G2 d.promises.length gc2], Value.agg #[Value.slice C1 d.envs.length Cc1, Value.slice C2 d.promises.length Cc2], Value.bool true, Value.bool false, Value.bool false, Value.bool bo, Value.bool bo, Value.bool false, Value.bool false, Value.agg #[Value.slice X1 s.envs.length x1, Value.slice X2 s.promises.length x2], Value.agg #[Value.slice A1 s.envs.length a1, Value.slice A2 s.promises.length a2], Value.agg #[Value.slice t1 s.envs.length tc1, Value.slice t2 s.promises.length tc2], Value.bool true, Value.bool false, Value.agg #[Value.int IntKind.i64 v.kind, Value.slice Y1 v.items.length u1, Value.slice Y2 v.parts.length u2, Value.slice Y3 v.names.length u3, Value.slice Y4 v.cls.length u4, Value.slice Y5 v.levels.length u5, Value.int IntKind.i64 v.code, Value.int IntKind.i64 v.env], Value.agg #[Value.int IntKind.i64 v.kind, Value.slice B1 v.items.length b1, Value.slice B2 v.parts.length b2, Value.slice B3 v.names.length b3, Value.slice B4 v.cls.length b4, Value.slice B5 v.levels.length b5, Value.int IntKind.i64 v.code, Value.int IntKind.i64 v.env], Value.agg #[Value.int IntKind.i64 v.kind, Value.slice n1 v.items.length nc1, Value.slice n2 v.parts.length nc2, Value.slice n3 v.names.length nc3, Value.slice n4 v.cls.length nc4, Value.slice n5 v.levels.length nc5, Value.int IntKind.i64 v.code, Value.int IntKind.i64 v.env], Value.bool true, Value.bool false, Value.agg #[Value.slice X1 s.envs.length x1, Value.slice X2 s.promises.length x2], Value.int IntKind.i64 1, Value.int IntKind.i64 (1 + ↑(cStore s)), Value.agg #[Value.int IntKind.i64 v.kind, Value.slice Y1 v.items.length u1, Value.slice Y2 v.parts.length u2, Value.slice Y3 v.names.length u3, Value.slice Y4 v.cls.length u4, Value.slice Y5 v.levels.length u5, Value.int IntKind.i64 v.code, Value.int IntKind.i64 v.env], Value.int IntKind.i64 (1 + ↑(cStore s)), Value.int IntKind.i64 (1 + ↑(cStore s) + ↑(cV1 v)), Value.int IntKind.i64 (1 + ↑(cStore s) + ↑(cV1 v)), Value.bool false, Value.bool false, Value.agg #[Value.slice G1 d.envs.length gc1, Value.slice G2 d.promises.length gc2], Value.agg #[Value.slice C1 d.envs.length Cc1, Value.slice C2 d.promises.length Cc2], Value.bool true, Value.bool false, Value.bool false, Value.bool false, Value.bool bo, Value.bool bo, Value.bool false, Value.bool false, Value.agg #[Value.slice G1 d.envs.length gc1, Value.slice G2 d.promises.length gc2], Value.int IntKind.i64 1, Value.int IntKind.i64 (1 + ↑(cStore d)), Value.agg #[Value.slice G1 d.envs.length gc1, Value.slice G2 d.promises.length gc2], Value.int IntKind.i64 1, Value.int IntKind.i64 (1 + ↑(cStore d)), Value.int IntKind.i64 (1 + ↑(cStore d)), Value.bool false, Value.int IntKind.i64 (1 + ↑(cStore d)), Value.int IntKind.i64 (1 + ↑(cStore d)), Value.bool false, vs 7, vs 0, vs 1, vs 2, vs 3, vs 4, vs 5, vs 6, vs 8, vs 9, undef, undef, undef, undef, undef, undef, undef, undef, undef, undef, undef, undef, undef, undef, undef, undef, undef], []⟩ ∧ Rng w19.heap.size hh hr ∧ hh ≤ V.heap.size ∧ (Blk V hr 33 [.slice H1 d.envs.length Hc1, .slice H2 d.promises.length Hc2] ∧ StoreO (fun b => Rng w19.heap.size hh b ∧ b ≠ hr) V [.slice H1 d.envs.length Hc1, .slice H2 d.promises.length Hc2] d) ∧ Below w19.heap.size w19 V) e act V from fun e act V => by rw [hq9])
  clear hq9
  refine Code.wp_mono (Q := Q9) ?_ ?_
  rotate_left
  refine wp_region_free3 (by kernel_rfl) 11 9 [(false, 11), (true, 12)] (by kernel_rfl) (Ok (fun V => LS w [p9, p12, p7, p11, p5, p10, p3, p2, p1] V ∧ Below w19.heap.size w19 V)) lawL (fun i => [i]) (lawR (d, bo) s v env nm (.agg #[.slice A1 s.envs.length a1, .slice A2 s.promises.length a2]) (.agg #[.int .i64 v.kind, .slice B1 v.items.length b1, .slice B2 v.parts.length b2, .slice B3 v.names.length b3, .slice B4 v.cls.length b4, .slice B5 v.levels.length b5, .int .i64 v.code, .int .i64 v.env])) (fun vs => ⟨#[Value.agg #[Value.slice A1 s.envs.length a1, Value.slice A2 s.promises.length a2], Value.int IntKind.i64 env, Value.string (str nm), Value.agg #[Value.int IntKind.i64 v.kind, Value.slice B1 v.items.length b1, Value.slice B2 v.parts.length b2, Value.slice B3 v.names.length b3, Value.slice B4 v.cls.length b4, Value.slice B5 v.levels.length b5, Value.int IntKind.i64 v.code, Value.int IntKind.i64 v.env], Value.pointer (some { block := w.heap.size, off := 0 }), undef, undef, Value.pointer (some { block := w.heap.size + 1, off := 0 }), Value.bool false, Value.int IntKind.i64 (1048576 - ↑(szStore s) - ↑(szVector v)), Value.pointer (some { block := cr, off := 0 }), Value.bool bo, Value.pointer (some { block := w4.heap.size, off := 0 }), Value.pointer (some { block := w6.heap.size, off := 0 }), Value.pointer (some { block := w8.heap.size, off := 0 }), Value.bool bo, Value.int IntKind.i64 (1 + ↑(cStore s) + ↑(cV1 v)), Value.int IntKind.i64 (1 + ↑(cStore d)), Value.int IntKind.i64 (1 + ↑(cStore d)), vs 10, vs 12, Value.string (str nm), Value.int IntKind.i64 ↑nm.length, Value.bool (decide ((1048576 : Int) < ↑nm.length)), Value.agg #[Value.slice A1 s.envs.length a1, Value.slice A2 s.promises.length a2], Value.int IntKind.i64 1048576, Value.int IntKind.i64 (1048576 - ↑(szStore s)), Value.int IntKind.i64 (1048576 - ↑(szStore s)), Value.bool (decide ((1048576 - ↑(szStore s) : Int) < 0)), Value.agg #[Value.int IntKind.i64 v.kind, Value.slice B1 v.items.length b1, Value.slice B2 v.parts.length b2, Value.slice B3 v.names.length b3, Value.slice B4 v.cls.length b4, Value.slice B5 v.levels.length b5, Value.int IntKind.i64 v.code, Value.int IntKind.i64 v.env], Value.int IntKind.i64 (1048576 - ↑(szStore s)), Value.int IntKind.i64 (1048576 - ↑(szStore s) - ↑(szVector v)), Value.int IntKind.i64 (1048576 - ↑(szStore s) - ↑(szVector v)), Value.bool (decide ((1048576 - ↑(szStore s) - ↑(szVector v) : Int) < 0)), vsC 7, vsC 0, vsC 1, vsC 2, vsC 3, vsC 4, vsC 5, vsC 6, vsC 8, vsC 9, Value.agg #[Value.slice A1 s.envs.length a1, Value.slice A2 s.promises.length a2], Value.agg #[Value.slice X1 s.envs.length x1, Value.slice X2 s.promises.length x2], Value.agg #[Value.int IntKind.i64 v.kind, Value.slice B1 v.items.length b1, Value.slice B2 v.parts.length b2, Value.slice B3 v.names.length b3, Value.slice B4 v.cls.length b4, Value.slice B5 v.levels.length b5, Value.int IntKind.i64 v.code, Value.int IntKind.i64 v.env], Value.agg #[Value.int IntKind.i64 v.kind, Value.slice Y1 v.items.length u1, Value.slice Y2 v.parts.length u2, Value.slice Y3 v.names.length u3, Value.slice Y4 v.cls.length u4, Value.slice Y5 v.levels.length u5, Value.int IntKind.i64 v.code, Value.int IntKind.i64 v.env], Value.tuple #[Value.agg #[Value.slice G1 d.envs.length gc1, Value.slice G2 d.promises.length gc2], Value.bool bo], Value.agg #[Value.slice X1 s.envs.length x1, Value.slice X2 s.promises.length x2], Value.int IntKind.i64 env, Value.string (str nm), Value.agg #[Value.int IntKind.i64 v.kind, Value.slice Y1 v.items.length u1, Value.slice Y2 v.parts.length u2, Value.slice Y3 v.names.length u3, Value.slice Y4 v.cls.length u4, Value.slice Y5 v.levels.length u5, Value.int IntKind.i64 v.code, Value.int IntKind.i64 v.env], Value.tuple #[Value.agg #[Value.slice G1 d.envs.length gc1, Value.slice G2 d.promises.length gc2], Value.bool bo], Value.agg #[Value.slice G1 d.envs.length gc1, Value.slice G2 d.promises.length gc2], Value.bool bo, Value.agg #[Value.slice G1 d.envs.length gc1, Value.slice G2 d.promises.length gc2], Value.agg #[Value.slice C1 d.envs.length Cc1, Value.slice C2 d.promises.length Cc2], Value.bool true, Value.bool false, Value.bool false, Value.bool bo, Value.bool bo, Value.bool false, Value.bool false, Value.agg #[Value.slice X1 s.envs.length x1, Value.slice X2 s.promises.length x2], Value.agg #[Value.slice A1 s.envs.length a1, Value.slice A2 s.promises.length a2], Value.agg #[Value.slice t1 s.envs.length tc1, Value.slice t2 s.promises.length tc2], Value.bool true, Value.bool false, Value.agg #[Value.int IntKind.i64 v.kind, Value.slice Y1 v.items.length u1, Value.slice Y2 v.parts.length u2, Value.slice Y3 v.names.length u3, Value.slice Y4 v.cls.length u4, Value.slice Y5 v.levels.length u5, Value.int IntKind.i64 v.code, Value.int IntKind.i64 v.env], Value.agg #[Value.int IntKind.i64 v.kind, Value.slice B1 v.items.length b1, Value.slice B2 v.parts.length b2, Value.slice B3 v.names.length b3, Value.slice B4 v.cls.length b4, Value.slice B5 v.levels.length b5, Value.int IntKind.i64 v.code, Value.int IntKind.i64 v.env], Value.agg #[Value.int IntKind.i64 v.kind, Value.slice n1 v.items.length nc1, Value.slice n2 v.parts.length nc2, Value.slice n3 v.names.length nc3, Value.slice n4 v.cls.length nc4, Value.slice n5 v.levels.length nc5, Value.int IntKind.i64 v.code, Value.int IntKind.i64 v.env], Value.bool true, Value.bool false, Value.agg #[Value.slice X1 s.envs.length x1, Value.slice X2 s.promises.length x2], Value.int IntKind.i64 1, Value.int IntKind.i64 (1 + ↑(cStore s)), Value.agg #[Value.int IntKind.i64 v.kind, Value.slice Y1 v.items.length u1, Value.slice Y2 v.parts.length u2, Value.slice Y3 v.names.length u3, Value.slice Y4 v.cls.length u4, Value.slice Y5 v.levels.length u5, Value.int IntKind.i64 v.code, Value.int IntKind.i64 v.env], Value.int IntKind.i64 (1 + ↑(cStore s)), Value.int IntKind.i64 (1 + ↑(cStore s) + ↑(cV1 v)), Value.int IntKind.i64 (1 + ↑(cStore s) + ↑(cV1 v)), Value.bool false, Value.bool false, Value.agg #[Value.slice G1 d.envs.length gc1, Value.slice G2 d.promises.length gc2], Value.agg #[Value.slice C1 d.envs.length Cc1, Value.slice C2 d.promises.length Cc2], Value.bool true, Value.bool false, Value.bool false, Value.bool false, Value.bool bo, Value.bool bo, Value.bool false, Value.bool false, Value.agg #[Value.slice G1 d.envs.length gc1, Value.slice G2 d.promises.length gc2], Value.int IntKind.i64 1, Value.int IntKind.i64 (1 + ↑(cStore d)), Value.agg #[Value.slice G1 d.envs.length gc1, Value.slice G2 d.promises.length gc2], Value.int IntKind.i64 1, Value.int IntKind.i64 (1 + ↑(cStore d)), Value.int IntKind.i64 (1 + ↑(cStore d)), Value.bool false, Value.int IntKind.i64 (1 + ↑(cStore d)), Value.int IntKind.i64 (1 + ↑(cStore d)), Value.bool false, vs 7, vs 0, vs 1, vs 2, vs 3, vs 4, vs 5, vs 6, vs 8, vs 9, undef, undef, undef, undef, undef, undef, undef, undef, undef, undef, undef, undef, undef, undef, undef, undef, undef], []⟩) (fun vs => by kernel_rfl) (by kernel_rfl) g0 (lawK _ _ _ _ _ _ _) ?_ ?_ ?_
  · intro i o ho hi vs T W hS hd
    have hi' : i = 0 ∨ i = 1 ∨ i = 2 ∨ i = 3 ∨ i = 4 ∨ i = 5 ∨ i = 6 ∨ i = 7 ∨ i = 8 ∨ i = 9 ∨ i = 10 := by omega
    clear hi
    rcases hi' with rfl | rfl | rfl | rfl | rfl | rfl | rfl | rfl | rfl | rfl | rfl
    · obtain rfl := Option.some.inj ho
      exact oper_ok (by first | (go_simp; done) | (go_simp; rfl) | (go_simp; exact ⟨rfl, rfl⟩) | (go_simp; exact ⟨rfl, rfl, rfl⟩)) ⟨_, rfl, Below.refl _ _, hS, upd_same _ _ _⟩
    · obtain rfl := Option.some.inj ho
      have d0 : vs 0 = _ := hd ⟨0, .data⟩ (by simp) rfl
      refine oper_call (by first | (go_simp; done) | (go_simp; rfl) | (go_simp; exact ⟨rfl, rfl⟩) | (go_simp; exact ⟨rfl, rfl, rfl⟩)) (laws_toStore s _ W (HT.out.below (BLS.out _ hS)) (by omega)) ?_
      rintro e W' ⟨cs, rfl, hos, hb⟩
      exact ⟨_, rfl, _, rfl, hb, STP.out _ _ hS hb, cs, upd_same _ _ _, hos.mono fun b hb => .inr ⟨rfl, hb.1, hb.2⟩⟩
    · obtain rfl := Option.some.inj ho
      exact oper_ok (by first | (go_simp; done) | (go_simp; rfl) | (go_simp; exact ⟨rfl, rfl⟩) | (go_simp; exact ⟨rfl, rfl, rfl⟩)) ⟨_, rfl, Below.refl _ _, hS, upd_same _ _ _⟩
    · obtain rfl := Option.some.inj ho
      exact oper_ok (by first | (go_simp; done) | (go_simp; rfl) | (go_simp; exact ⟨rfl, rfl⟩) | (go_simp; exact ⟨rfl, rfl, rfl⟩)) ⟨_, rfl, Below.refl _ _, hS, upd_same _ _ _⟩
    · obtain rfl := Option.some.inj ho
      exact oper_ok (by first | (go_simp; done) | (go_simp; rfl) | (go_simp; exact ⟨rfl, rfl⟩) | (go_simp; exact ⟨rfl, rfl, rfl⟩)) ⟨_, rfl, Below.refl _ _, hS, upd_same _ _ _⟩
    · obtain rfl := Option.some.inj ho
      have d4 : vs 4 = _ := hd ⟨4, .data⟩ (by simp) rfl
      refine oper_call (by first | (go_simp; done) | (go_simp; rfl) | (go_simp; exact ⟨rfl, rfl⟩) | (go_simp; exact ⟨rfl, rfl, rfl⟩)) (laws_toVec v _ W (HV.out.below (BLS.out _ hS)) (by omega)) ?_
      rintro e W' ⟨cs, rfl, hos, hb⟩
      exact ⟨_, rfl, _, rfl, hb, STP.out _ _ hS hb, cs, upd_same _ _ _, VecO.mono hos fun b hb => .inr ⟨rfl, hb.1, hb.2⟩⟩
    · obtain rfl := Option.some.inj ho
      obtain ⟨cs1, d1, o1⟩ := (show lawR (d, bo) s v env nm (.agg #[.slice A1 s.envs.length a1, .slice A2 s.promises.length a2]) (.agg #[.int .i64 v.kind, .slice B1 v.items.length b1, .slice B2 v.parts.length b2, .slice B3 v.names.length b3, .slice B4 v.cls.length b4, .slice B5 v.levels.length b5, .int .i64 v.code, .int .i64 v.env]) 1 T vs W from hd ⟨1, .data⟩ (by simp) rfl)
      have d2 : vs 2 = _ := hd ⟨2, .data⟩ (by simp) rfl
      have d3 : vs 3 = _ := hd ⟨3, .data⟩ (by simp) rfl
      obtain ⟨cs5, d5, o5⟩ := (show lawR (d, bo) s v env nm (.agg #[.slice A1 s.envs.length a1, .slice A2 s.promises.length a2]) (.agg #[.int .i64 v.kind, .slice B1 v.items.length b1, .slice B2 v.parts.length b2, .slice B3 v.names.length b3, .slice B4 v.cls.length b4, .slice B5 v.levels.length b5, .int .i64 v.code, .int .i64 v.env]) 5 T vs W from hd ⟨5, .data⟩ (by simp) rfl)
      refine oper_call (by first | (go_simp; done) | (go_simp; rfl) | (go_simp; exact ⟨rfl, rfl⟩) | (go_simp; exact ⟨rfl, rfl, rfl⟩)) (HIM.out _ _ W o1.read o5.read) ?_
      rintro e W' ⟨cs, rfl, hos, hb⟩
      exact ⟨_, rfl, _, rfl, hb, STP.out _ _ hS hb, cs, upd_same _ _ _, hos.mono fun b hb => .inr ⟨rfl, hb.1, hb.2⟩⟩
    · obtain rfl := Option.some.inj ho
      obtain ⟨cs, d6, hos⟩ := (show lawR (d, bo) s v env nm (.agg #[.slice A1 s.envs.length a1, .slice A2 s.promises.length a2]) (.agg #[.int .i64 v.kind, .slice B1 v.items.length b1, .slice B2 v.parts.length b2, .slice B3 v.names.length b3, .slice B4 v.cls.length b4, .slice B5 v.levels.length b5, .int .i64 v.code, .int .i64 v.env]) 6 T vs W from hd ⟨6, .data⟩ (by simp) rfl)
      exact oper_ok (by first | (go_simp; done) | (go_simp; rfl) | (go_simp; exact ⟨rfl, rfl⟩) | (go_simp; exact ⟨rfl, rfl, rfl⟩)) ⟨_, rfl, Below.refl _ _, hS, cs, upd_same _ _ _, hos.mono fun b hb => .inl hb⟩
    · obtain rfl := Option.some.inj ho
      obtain ⟨cs, d7, hos⟩ := (show lawR (d, bo) s v env nm (.agg #[.slice A1 s.envs.length a1, .slice A2 s.promises.length a2]) (.agg #[.int .i64 v.kind, .slice B1 v.items.length b1, .slice B2 v.parts.length b2, .slice B3 v.names.length b3, .slice B4 v.cls.length b4, .slice B5 v.levels.length b5, .int .i64 v.code, .int .i64 v.env]) 7 T vs W from hd ⟨7, .data⟩ (by simp) rfl)
      exact oper_ok (by first | (go_simp; done) | (go_simp; rfl) | (go_simp; exact ⟨rfl, rfl⟩) | (go_simp; exact ⟨rfl, rfl, rfl⟩)) ⟨_, rfl, Below.refl _ _, hS, cs, upd_same _ _ _, hos.mono fun b hb => .inl hb⟩
    · obtain rfl := Option.some.inj ho
      obtain ⟨cs, d7, hos⟩ := (show lawR (d, bo) s v env nm (.agg #[.slice A1 s.envs.length a1, .slice A2 s.promises.length a2]) (.agg #[.int .i64 v.kind, .slice B1 v.items.length b1, .slice B2 v.parts.length b2, .slice B3 v.names.length b3, .slice B4 v.cls.length b4, .slice B5 v.levels.length b5, .int .i64 v.code, .int .i64 v.env]) 7 T vs W from hd ⟨7, .data⟩ (by simp) rfl)
      exact oper_ok (by first | (go_simp; done) | (go_simp; rfl) | (go_simp; exact ⟨rfl, rfl⟩) | (go_simp; exact ⟨rfl, rfl, rfl⟩)) ⟨_, rfl, Below.refl _ _, hS, upd_same _ _ _⟩
    · obtain rfl := Option.some.inj ho
      exact oper_ok (by first | (go_simp; done) | (go_simp; rfl) | (go_simp; exact ⟨rfl, rfl⟩) | (go_simp; exact ⟨rfl, rfl, rfl⟩)) ⟨_, rfl, (Below.refl _ _).alloc (Nat.le_refl _) _, STP.out _ _ hS ((Below.refl _ _).alloc (Nat.le_refl _) _), W.heap.size, upd_same _ _ _, Blk.new _ _ _, .inr ⟨rfl, Nat.le_refl _, by simp⟩⟩
  · intro vs T W hS hsz hT1 hT2 hR
    obtain ⟨cr, d8, hos⟩ := (show lawR (d, bo) s v env nm (.agg #[.slice A1 s.envs.length a1, .slice A2 s.promises.length a2]) (.agg #[.int .i64 v.kind, .slice B1 v.items.length b1, .slice B2 v.parts.length b2, .slice B3 v.names.length b3, .slice B4 v.cls.length b4, .slice B5 v.levels.length b5, .int .i64 v.code, .int .i64 v.env]) 8 T vs W from hR 8 (by decide))
    obtain ⟨r, d10, hbr, t10⟩ := (show lawR (d, bo) s v env nm (.agg #[.slice A1 s.envs.length a1, .slice A2 s.promises.length a2]) (.agg #[.int .i64 v.kind, .slice B1 v.items.length b1, .slice B2 v.parts.length b2, .slice B3 v.names.length b3, .slice B4 v.cls.length b4, .slice B5 v.levels.length b5, .int .i64 v.code, .int .i64 v.env]) 10 T vs W from hR 10 (by decide))
    have d9 : vs 9 = _ := hR 9 (by decide)
    obtain ⟨P1, Pc1, P2, Pc2, rfl⟩ := hos.shape2
    have hr := hT1 _ _ t10
    have hos2 := StoreO.mono (S' := fun b => Rng w19.heap.size W.heap.size b ∧ b ≠ r) hos fun b hb => ⟨hT1 3 b hb, fun e => by have := hT2 3 4 b hb (e ▸ t10); omega⟩
    have hbW := BLW.out _ hS
    clear hT1 hT2 hR hos t10
    refine ⟨Ok (fun _ => True), trivial, ?_⟩
    have q0 := hbr.cell 0 _ rfl
    have q1 := hbr.cell 1 _ rfl
    have f0 := hbr.frozen 0
    have f1 := hbr.frozen 1
    refine dyn_act rfl rfl (fun K hK => ?_)
    go_wp2_with fail
    refine hK.out _ _ trivial ?_
    clear hK q0 q1 f0 f1
    refine dyn_take rfl rfl (fun W g => by go_simp; rfl) ?_
    go_simp
    refine dyn_done ?_
    rw [HQ9.out]
    refine ⟨rfl, vs, P1, Pc1, P2, Pc2, r, W.heap.size, by simp only [d8, d9], hr, by simp [World.setCell], ⟨(hbr.set_ 0 _).set_ 1 _, StoreO.keeps hos2 (((Keeps.refl _ _).sc (b := r) (o := 0) (fun h => h.2 rfl) _).sc (b := r) (o := 1) (fun h => h.2 rfl) _)⟩, below_sc (b := r) (o := 1) (below_sc (b := r) (o := 0) hbW hr.1 _) hr.1 _⟩
  · intro vs T W hS hsz hT1 hT2 hR
    obtain ⟨cr, d8, hos⟩ := (show lawR (d, bo) s v env nm (.agg #[.slice A1 s.envs.length a1, .slice A2 s.promises.length a2]) (.agg #[.int .i64 v.kind, .slice B1 v.items.length b1, .slice B2 v.parts.length b2, .slice B3 v.names.length b3, .slice B4 v.cls.length b4, .slice B5 v.levels.length b5, .int .i64 v.code, .int .i64 v.env]) 8 T vs W from hR 8 (by decide) (by decide))
    obtain ⟨r, d10, hbr, t10⟩ := (show lawR (d, bo) s v env nm (.agg #[.slice A1 s.envs.length a1, .slice A2 s.promises.length a2]) (.agg #[.int .i64 v.kind, .slice B1 v.items.length b1, .slice B2 v.parts.length b2, .slice B3 v.names.length b3, .slice B4 v.cls.length b4, .slice B5 v.levels.length b5, .int .i64 v.code, .int .i64 v.env]) 10 T vs W from hR 10 (by decide) (by decide))
    obtain ⟨cq, d7, _⟩ := (show lawR (d, bo) s v env nm (.agg #[.slice A1 s.envs.length a1, .slice A2 s.promises.length a2]) (.agg #[.int .i64 v.kind, .slice B1 v.items.length b1, .slice B2 v.parts.length b2, .slice B3 v.names.length b3, .slice B4 v.cls.length b4, .slice B5 v.levels.length b5, .int .i64 v.code, .int .i64 v.env]) 7 T vs W from hR 7 (by decide) (by decide))
    obtain ⟨P1, Pc1, P2, Pc2, rfl⟩ := hos.shape2
    have hr := hT1 _ _ t10
    have hos2 := StoreO.mono (S' := fun b => Rng w19.heap.size W.heap.size b ∧ b ≠ r) hos fun b hb => ⟨hT1 3 b hb, fun e => by have := hT2 3 4 b hb (e ▸ t10); omega⟩
    have hbW := BLW.out _ hS
    clear hT1 hT2 hR hos t10
    refine ⟨Ok (fun _ => True), trivial, ?_⟩
    refine dyn_take rfl rfl (fun W g => by go_simp; rfl) ?_
    go_simp
    have q0 := hbr.cell 0 _ rfl
    have q1 := hbr.cell 1 _ rfl
    have f0 := hbr.frozen 0
    have f1 := hbr.frozen 1
    refine dyn_act rfl rfl (fun K hK => ?_)
    go_wp2_with fail
    refine hK.out _ _ trivial ?_
    clear hK q0 q1 f0 f1
    refine dyn_take rfl rfl (fun W g => by go_simp; rfl) ?_
    go_simp
    refine dyn_done ?_
    rw [HQ9.out]
    refine ⟨rfl, upd vs 9 (.bool bo), P1, Pc1, P2, Pc2, r, W.heap.size, by simp [upd, d7, d8], hr, by simp [World.setCell], ⟨(hbr.set_ 0 _).set_ 1 _, StoreO.keeps hos2 (((Keeps.refl _ _).sc (b := r) (o := 0) (fun h => h.2 rfl) _).sc (b := r) (o := 1) (fun h => h.2 rfl) _)⟩, below_sc (b := r) (o := 1) (below_sc (b := r) (o := 0) hbW hr.1 _) hr.1 _⟩
  intro eq9 aq9 w20 hq9
  rw [HQ9.out] at hq9
  clear HQ9
  obtain ⟨rfl, vsH, H1, Hc1, H2, Hc2, hr, hh, rfl, hrH, hhH, hP, hb⟩ := hq9
  clear g0 BLS BLW STP y0 y1 z0 z1 z2 z3 z4 z5 z6 z7
  obtain ⟨p13, HLn, lop13, hip13, Ep13⟩ := HL.out.push hb (fun V => Blk V hr 33 [.slice H1 d.envs.length Hc1, .slice H2 d.promises.length Hc2] ∧ StoreO (fun b => Rng w19.heap.size hh b ∧ b ≠ hr) V [.slice H1 d.envs.length Hc1, .slice H2 d.promises.length Hc2] d) (fun V V2 hk h => ⟨h.1.keeps hk ⟨hrH.1, Nat.lt_of_lt_of_le hrH.2 hhH⟩, h.2.keeps (hk.mono fun b hb => ⟨hb.1.1, Nat.lt_of_lt_of_le hb.1.2 hhH⟩)⟩) hP
  replace HL := Lib.hid HLn
  clear hb HLn
  clear hP
  have y0 := (Ep13.out _ (HL.out.at 0 _ rfl)).1.cell 0 _ rfl
  have y1 := (Ep13.out _ (HL.out.at 0 _ rfl)).1.cell 1 _ rfl
  have z0 := (Ep3.out _ (HL.out.at 7 _ rfl)).1.cell 0 _ rfl
  have z1 := (Ep3.out _ (HL.out.at 7 _ rfl)).1.cell 1 _ rfl
  go_wp2_with fail
  clear y0 y1 z0 z1
  refine Calls.mono (laws_eqStore_same d _ _ _ (Ep13.out _ (HL.out.at 0 _ rfl)).2.read (Ep3.out _ (HL.out.at 7 _ rfl)).2.read) ?_
  rintro e w21 ⟨rfl, hb⟩
  replace HL := Lib.hid (HL.out.step hb)
  clear hb
  have y0 := (Ep9.out _ (HL.out.at 1 _ rfl)).cell 0 _ rfl
  have y1 := (Ep9.out _ (HL.out.at 1 _ rfl)).cell 1 _ rfl
  go_wp2_with fail
  clear y0 y1
  refine Calls.mono (laws_heldStore d _ 1 _ (Ep12.out _ (HL.out.at 2 _ rfl)).read (by decide) (by omega)) ?_
  rintro e w22 ⟨rfl, hb⟩
  replace HL := Lib.hid (HL.out.step hb)
  clear hb
  go_wp2_with fail
  go_ret
  exact ⟨rfl, HL.out.below⟩
set_option maxRecDepth 100000 in
theorem lifted (os : Os) (started : os.Started) (H : Type) (enc : TypeId × Value → H) :
    ReturnsInHanded {} Tryz.checked os 7 .any (Rows.fnExactAssignOuterSpec.pre6 enc Tryz.prog Tryz.f7 Rows.fnExactAssignOuterRow.domain false) (Rows.fnExactAssignOuterSpec.post enc Tryz.prog Tryz.f7 false true false false) := by
  refine returnsInHanded_of_change (C := Tryz.checked) own started (by kernel_rfl) Tryz.func7
    (ChangeSpec.witness6 (enc := enc) (C := Tryz.checked) false ⟨#[], #[.agg #[.slice none 0 0, .slice none 0 0], .int .i64 0, .string ByteArray.empty, .agg #[.int .i64 0, .slice none 0 0, .slice none 0 0, .slice none 0 0, .slice none 0 0, .slice none 0 0, .int .i64 0, .int .i64 0]], []⟩ 8 (by kernel_rfl) (by kernel_rfl) (by kernel_rfl) (by kernel_rfl)) ?_
  intro W base args ds gs before hval0 hW hcnd _
  have hval : ∀ (j : Nat) t v, Tryz.f7.params[j]? = some t → args[j]? = some v → Value.okWide Tryz.prog W .any base t v := hval0
  have hW' := hW
  obtain ⟨p, q, hA0, hV, rfl, hfz, hnd⟩ := hW
  have hA : DataW.TrodAll enc Tryz.prog W 0 (fun _ => true) true Tryz.f7.params.toList args.toList ds p := hA0
  rw [Tryz.params7] at hA hval
  obtain ⟨v0, vs0, d0, ds0, p0, q0, hargs, rfl, rfl, h0, r0⟩ := trodAll_cons hA
  obtain ⟨v1, vs1, d1, ds1, p1, q1, rfl, rfl, rfl, h1, r1⟩ := trodAll_cons r0
  obtain ⟨v2, vs2, d2, ds2, p2, q2, rfl, rfl, rfl, h2, r2⟩ := trodAll_cons r1
  obtain ⟨v3, vs3, d3, ds3, p3, q3, rfl, rfl, rfl, h3, r3⟩ := trodAll_cons r2
  obtain ⟨rfl, rfl, rfl⟩ := trodAll_nil r3
  obtain rfl : args = #[v0, v1, v2, v3] := by cases args; simp_all
  obtain ⟨rfl, rfl⟩ := trodVars_none hV
  obtain ⟨x0, u0⟩ := open_store (hval 0 25 v0 rfl rfl) h0
  obtain ⟨x1, rfl, rfl, rfl, u1⟩ := open_int Tryz.underlying3 (hval 1 3 v1 rfl rfl) h1
  obtain ⟨s2, rfl, rfl, rfl, u2⟩ := open_string Tryz.underlying9 (hval 2 9 v2 rfl rfl) h2
  obtain ⟨x2, rfl⟩ := exists_str s2
  rw [str_size] at u2
  obtain ⟨x3, u3⟩ := open_vector (hval 3 57 v3 rfl rfl) h3
  clear hA0 hval0
  refine (walk v0 x0 u0 x1 (i64_of_wf u1) x2 u2 v3 x3 u3).mono fun e W' ⟨he, hg⟩ => ?_
  subst he
  exact ⟨_, rfl, law_post laidOut hW' rfl rfl Tryz.underlying4 rfl rfl rfl (by intro t ht; rw [Tryz.params7] at ht; have ht2 : t ∈ [25, 3, 9, 57] := ht; simp only [List.mem_cons, List.not_mem_nil, or_false] at ht2; rcases ht2 with rfl | rfl | rfl | rfl <;> exact ⟨by kernel_rfl, of_decide_eq_true (by kernel_rfl)⟩) hg⟩

theorem fact0 : jf0 Tryz.prog 7 Tryz.f7 Rows.fnExactAssignOuterSpec Rows.fnExactAssignOuterRow = true := by kernel_rfl
theorem fact1 : jf1 Tryz.prog 7 Tryz.f7 Rows.fnExactAssignOuterSpec Rows.fnExactAssignOuterRow = true := by kernel_rfl
theorem fact2 : jf2 Tryz.prog 7 Tryz.f7 Rows.fnExactAssignOuterSpec Rows.fnExactAssignOuterRow = true := by kernel_rfl
theorem fact3 : jf3 Tryz.prog 7 Tryz.f7 Rows.fnExactAssignOuterSpec Rows.fnExactAssignOuterRow = true := by kernel_rfl
theorem fact4 : jf4 Tryz.prog 7 Tryz.f7 Rows.fnExactAssignOuterSpec Rows.fnExactAssignOuterRow = true := by kernel_rfl
theorem fact5 : jf5 Tryz.prog 7 Tryz.f7 Rows.fnExactAssignOuterSpec Rows.fnExactAssignOuterRow = true := by kernel_rfl
theorem fact6 : jf6 Tryz.prog 7 Tryz.f7 Rows.fnExactAssignOuterSpec Rows.fnExactAssignOuterRow = true := by kernel_rfl
theorem fact7 : jf7 Tryz.prog 7 Tryz.f7 Rows.fnExactAssignOuterSpec Rows.fnExactAssignOuterRow = true := by kernel_rfl
theorem fact8 : jf8 Tryz.prog 7 Tryz.f7 Rows.fnExactAssignOuterSpec Rows.fnExactAssignOuterRow = true := by kernel_rfl
theorem fact9 : jf9 Tryz.prog 7 Tryz.f7 Rows.fnExactAssignOuterSpec Rows.fnExactAssignOuterRow = true := by kernel_rfl
theorem fact10 : jf10 Tryz.prog 7 Tryz.f7 Rows.fnExactAssignOuterSpec Rows.fnExactAssignOuterRow = true := by kernel_rfl
theorem fact11 : jf11 Tryz.prog 7 Tryz.f7 Rows.fnExactAssignOuterSpec Rows.fnExactAssignOuterRow = true := by kernel_rfl
theorem fact12 : jf12 Tryz.prog 7 Tryz.f7 Rows.fnExactAssignOuterSpec Rows.fnExactAssignOuterRow = true := by kernel_rfl
theorem fact13 : jf13 Tryz.prog 7 Tryz.f7 Rows.fnExactAssignOuterSpec Rows.fnExactAssignOuterRow = true := by kernel_rfl
theorem fact14 : jf14 Tryz.prog 7 Tryz.f7 Rows.fnExactAssignOuterSpec Rows.fnExactAssignOuterRow = true := by kernel_rfl
theorem fact15 : jf15 Tryz.prog 7 Tryz.f7 Rows.fnExactAssignOuterSpec Rows.fnExactAssignOuterRow = true := by kernel_rfl
theorem fact16 : jf16 Tryz.prog 7 Tryz.f7 Rows.fnExactAssignOuterSpec Rows.fnExactAssignOuterRow = true := by kernel_rfl
theorem fact17 : jf17 Tryz.prog 7 Tryz.f7 Rows.fnExactAssignOuterSpec Rows.fnExactAssignOuterRow = true := by kernel_rfl
theorem fact18 : jf18 Tryz.prog 7 Tryz.f7 Rows.fnExactAssignOuterSpec Rows.fnExactAssignOuterRow = true := by kernel_rfl
theorem fact19 : jf19 Tryz.prog 7 Tryz.f7 Rows.fnExactAssignOuterSpec Rows.fnExactAssignOuterRow = true := by kernel_rfl
theorem fact20 : jf20 Tryz.prog 7 Tryz.f7 Rows.fnExactAssignOuterSpec Rows.fnExactAssignOuterRow = true := by kernel_rfl
theorem fact21 : jf21 Tryz.prog 7 Tryz.f7 Rows.fnExactAssignOuterSpec Rows.fnExactAssignOuterRow = true := by kernel_rfl
theorem fact22 : jf22 Tryz.prog 7 Tryz.f7 Rows.fnExactAssignOuterSpec Rows.fnExactAssignOuterRow = true := by kernel_rfl
theorem fact23 : jf23 Tryz.prog 7 Tryz.f7 Rows.fnExactAssignOuterSpec Rows.fnExactAssignOuterRow = true := by kernel_rfl
theorem fact24 : jf24 Tryz.prog 7 Tryz.f7 Rows.fnExactAssignOuterSpec Rows.fnExactAssignOuterRow = true := by kernel_rfl
theorem fact25 : jf25 Tryz.prog 7 Tryz.f7 Rows.fnExactAssignOuterSpec Rows.fnExactAssignOuterRow = true := by kernel_rfl
theorem fact26 : jf26 Tryz.prog 7 Tryz.f7 Rows.fnExactAssignOuterSpec Rows.fnExactAssignOuterRow = true := by kernel_rfl
theorem fact27 : jf27 Tryz.prog 7 Tryz.f7 Rows.fnExactAssignOuterSpec Rows.fnExactAssignOuterRow = true := by kernel_rfl
theorem fact28 : jf28 Tryz.prog 7 Tryz.f7 Rows.fnExactAssignOuterSpec Rows.fnExactAssignOuterRow = true := by kernel_rfl
theorem fact29 : jf29 Tryz.prog 7 Tryz.f7 Rows.fnExactAssignOuterSpec Rows.fnExactAssignOuterRow = true := by kernel_rfl
theorem fact30 : jf30 Tryz.prog 7 Tryz.f7 Rows.fnExactAssignOuterSpec Rows.fnExactAssignOuterRow = true := by kernel_rfl
theorem fact31 : jf31 Tryz.prog 7 Tryz.f7 Rows.fnExactAssignOuterSpec Rows.fnExactAssignOuterRow = true := by kernel_rfl
theorem over : Rows.fnExactAssignOuterRow.holds Tryz.pinned (OpenSpec.ofChange Rows.fnExactAssignOuterSpec) :=
  OpenClaim.holds_of_wide 7 Tryz.f7 rfl rfl rfl rfl rfl rfl rfl ⟨rfl, rfl, rfl, rfl, rfl⟩ rfl rfl rfl rfl rfl (by kernel_rfl) Tryz.func7 (joined fact0 fact1 fact2 fact3 fact4 fact5 fact6 fact7 fact8 fact9 fact10 fact11 fact12 fact13 fact14 fact15 fact16 fact17 fact18 fact19 fact20 fact21 fact22 fact23 fact24 fact25 fact26 fact27 fact28 fact29 fact30 fact31)
    (of_decide_eq_true (by kernel_rfl)) (by unfold Func.isWrapper; first | (rw [if_pos (by decide +kernel)]; kernel_rfl) | (rw [if_neg (by decide +kernel)]; exact ⟨rfl, rfl⟩))
    (fun os started H enc _ => lifted os started H enc)

/-- THE STATEMENT -/
theorem proved : Rows.FnExactAssignOuterSaid :=
  over
#print axioms proved
end fnExactAssignOuter
end Go.Proofs.YtejieacdfjpfnaaGreat
