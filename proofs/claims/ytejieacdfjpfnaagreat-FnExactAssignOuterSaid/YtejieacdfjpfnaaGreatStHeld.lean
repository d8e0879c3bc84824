/-
  What is held of the marks of a store.
-/
import Derived.Test.YtejieacdfjpfnaaGreatStMark
import Derived.Deep.DeepCutAuto
namespace Go.Proofs.YtejieacdfjpfnaaGreat
set_option maxRecDepth 100000
open Go.ChangeShapes Go.WideShapes Go.ChangeAt Go.RowKit Go.Deep
set_option linter.unusedVariables false
set_option maxRecDepth 100000

theorem laws_heldInts (l : List Int) (v : Value) (k : Int) (w : World) (h : Ints w v (markI k.toNat l.length)) (h0 : 0 < k) (h1 : k + l.length ≤ 4611686018427387904) :
    Calls Tryz.prog 19 #[v, .int .i64 k] w (RetHeld w (k + l.length)) :=
  Calls.mono (laws_heldIntS l.length v k w h0 h1 h) fun e w' ⟨he, hw⟩ => ⟨he, by rw [← hw]; exact Below.refl _ _⟩

set_option maxHeartbeats 8000000 in
theorem laws_heldSlotS (l : List SlotD) (v : Value) (k : Int) (w : World) (h : SlR w 12 (SlotR w) v (mkL mkSlot cSlot l k)) (h0 : 0 < k) (h1 : k + cntL cSlot l ≤ 4611686018427387904) :
    Calls Tryz.prog 116 #[v, .int .i64 k] w (RetHeld w (k + cntL cSlot l)) := by
  obtain ⟨G, g0, HG⟩ := good0 w
  obtain ⟨A, c, rfl, hlc, hm, HC⟩ := SlR.open_ h
  have HL := Lib.hid (mkL_length mkSlot cSlot l k)
  rw [mkL_length] at hlc ⊢
  clear h
  unfold maxLen at hm
  go_enter Tryz.func116, Tryz.ntmps116
  go_wp2_with fail
  go_loopw [1, 5] (fun x i wr => ∃ j : Nat, j ≤ l.length ∧ i = .int .i64 j ∧ x = .int .i64 (k + (cntL cSlot (l.take j) : Int)) ∧ Ok G wr) (fun _ i _ => l.length - (intOf i).toNat)
  case atStart => exact ⟨0, Nat.zero_le _, rfl, by simp [cntL], g0⟩
  case round =>
    clear g0
    obtain ⟨j, hj, rfl, rfl, g0⟩ := hrel
    by_cases hlt : j < l.length
    · have hcn : (cntL cSlot (l.take j) : Int) + cSlot l[j] ≤ cntL cSlot l := by have := cntL_at cSlot l j hlt; omega
      have HKJ := Lib.hid (show k + (cntL cSlot (l.take (j + 1)) : Int) = k + (cntL cSlot (l.take j) : Int) + cSlot l[j] by rw [cntL_take _ _ _ hlt]; omega)
      have HCT := Lib.hid (cSlot_eq l[j])
      have hkj0 : 0 < k + (cntL cSlot (l.take j) : Int) := by omega
      have HK1 := Lib.hid (show k + (cntL cSlot (l.take j) : Int) + cSlot l[j] ≤ 4611686018427387904 by omega)
      obtain ⟨b, off, cs, rfl, hbl, _, hat, hro⟩ := HC.out j (by rw [HL.out]; exact hlt)
      rw [mkL_at _ _ _ _ _ hlt] at hro
      clear hcn
      generalize k + (cntL cSlot (l.take j) : Int) = kj at *
      obtain ⟨v1, v2, v3, v4, v5, v6, v7, rfl, h0, hv, h2, h3, h4⟩ := hro
      obtain ⟨n0, hv⟩ := hv
      obtain ⟨m, rfl⟩ : ∃ m, n0 = m + 1 := by
        cases n0 with
        | zero => exact hv.elim
        | succ m => exact ⟨m, rfl⟩
      simp only [mkSlot] at hat hv h3 h4
      rw [mkVec_eq] at hat hv
      obtain ⟨u1, u2, u3, u4, u5, he, _, g1, g2, g3, g4, g5, _, _⟩ := hv
      simp only [kind_mk, items_mk, parts_mk, names_mk, cls_mk, levels_mk, code_mk, env_mk] at hat he g1 g2 g3 g4 g5
      simp only [List.cons.injEq, and_true, true_and] at he
      obtain ⟨rfl, rfl, rfl, rfl, rfl⟩ := he
      obtain ⟨kq1, hq1⟩ : ∃ x : Int, x = kj + 1 + 1 + ↑(cntL cItem l[j].value.items) := ⟨_, rfl⟩
      try simp only [← hq1] at hat g2 g3 g4 g5 h3 h4
      have HQ1 := Lib.hid hq1
      clear hq1
      obtain ⟨kq2, hq2⟩ : ∃ x : Int, x = kq1 + ↑(cntL cVec l[j].value.parts) := ⟨_, rfl⟩
      try simp only [← hq2] at hat g2 g3 g4 g5 h3 h4
      have HQ2 := Lib.hid hq2
      clear hq2
      obtain ⟨kq3, hq3⟩ : ∃ x : Int, x = kq2 + ↑l[j].value.names.length := ⟨_, rfl⟩
      try simp only [← hq3] at hat g2 g3 g4 g5 h3 h4
      have HQ3 := Lib.hid hq3
      clear hq3
      obtain ⟨kq4, hq4⟩ : ∃ x : Int, x = kq3 + ↑l[j].value.cls.length := ⟨_, rfl⟩
      try simp only [← hq4] at hat g2 g3 g4 g5 h3 h4
      have HQ4 := Lib.hid hq4
      clear hq4
      obtain ⟨kq5, hq5⟩ : ∃ x : Int, x = kq4 + ↑l[j].value.levels.length := ⟨_, rfl⟩
      try simp only [← hq5] at hat g2 g3 g4 g5 h3 h4
      have HQ5 := Lib.hid hq5
      clear hq5
      obtain ⟨kq6, hq6⟩ : ∃ x : Int, x = kq5 + 1 + 1 + 1 + ↑l[j].promises.length := ⟨_, rfl⟩
      try simp only [← hq6] at hat g2 g3 g4 g5 h3 h4
      have HQ6 := Lib.hid hq6
      clear hq6
      obtain ⟨kq7, hq7⟩ : ∃ x : Int, x = kq6 + ↑l[j].labels.length := ⟨_, rfl⟩
      try simp only [← hq7] at hat g2 g3 g4 g5 h3 h4
      have HQ7 := Lib.hid hq7
      clear hq7
      have H1 := Lib.hid g1
      have H2 := Lib.hid (show Vectors m w v2 _ from g2)
      have H3 := Lib.hid g3
      have H4 := Lib.hid g4
      have H5 := Lib.hid g5
      have H6 := Lib.hid h3
      have H7 := Lib.hid h4
      clear h0 h2 h3 h4 g1 g2 g3 g4 g5
      have y0 := fun W (h : Ok G W) => ((HG.out.below h).cell (p := ⟨b, off + j * 12, none⟩) hbl).trans (by simpa using hat 0 _ rfl)
      have y1 := fun W (h : Ok G W) => ((HG.out.below h).cell (p := ⟨b, off + j * 12 + 1, none⟩) hbl).trans (hat 1 _ rfl)
      have y2 := fun W (h : Ok G W) => ((HG.out.below h).cell (p := ⟨b, off + j * 12 + 2, none⟩) hbl).trans (hat 2 _ rfl)
      have y3 := fun W (h : Ok G W) => ((HG.out.below h).cell (p := ⟨b, off + j * 12 + 3, none⟩) hbl).trans (hat 3 _ rfl)
      have y4 := fun W (h : Ok G W) => ((HG.out.below h).cell (p := ⟨b, off + j * 12 + 4, none⟩) hbl).trans (hat 4 _ rfl)
      have y5 := fun W (h : Ok G W) => ((HG.out.below h).cell (p := ⟨b, off + j * 12 + 5, none⟩) hbl).trans (hat 5 _ rfl)
      have y6 := fun W (h : Ok G W) => ((HG.out.below h).cell (p := ⟨b, off + j * 12 + 6, none⟩) hbl).trans (hat 6 _ rfl)
      have y7 := fun W (h : Ok G W) => ((HG.out.below h).cell (p := ⟨b, off + j * 12 + 7, none⟩) hbl).trans (hat 7 _ rfl)
      have y8 := fun W (h : Ok G W) => ((HG.out.below h).cell (p := ⟨b, off + j * 12 + 8, none⟩) hbl).trans (hat 8 _ rfl)
      have y9 := fun W (h : Ok G W) => ((HG.out.below h).cell (p := ⟨b, off + j * 12 + 9, none⟩) hbl).trans (hat 9 _ rfl)
      have y10 := fun W (h : Ok G W) => ((HG.out.below h).cell (p := ⟨b, off + j * 12 + 10, none⟩) hbl).trans (hat 10 _ rfl)
      have y11 := fun W (h : Ok G W) => ((HG.out.below h).cell (p := ⟨b, off + j * 12 + 11, none⟩) hbl).trans (hat 11 _ rfl)
      clear hat
      have hkb : kj + 5 ≤ 4611686018427387904 := by have := HCT.out; have := HK1.out; omega
      have hkc : 0 < kj := by omega
      go_wp2_with fail
      have hh := laws_heldItemS l[j].value.items _ (kj + 1 + 1) _ (Items.below H1.out (HG.out.below g0)) (by omega) (by have := HCT.out; have := HK1.out; omega)
      refine Calls.mono hh ?_
      clear hh hkb hkc
      rintro e w2 ⟨rfl, hb⟩
      replace g0 := HG.out.step g0 hb
      clear hb
      rw [← HQ1.out]
      have hkb : kq1 + 3 ≤ 4611686018427387904 := by have := HQ1.out; have := HCT.out; have := HK1.out; omega
      have hkc : 0 < kq1 := by have := HQ1.out; omega
      go_wp2_with fail
      have hh := heldVec_all m l[j].value.parts _ (kq1) _ (Vectors.below H2.out (HG.out.below g0)) (by have := HQ1.out; omega) (by have := HQ1.out; have := HCT.out; have := HK1.out; omega)
      refine Calls.mono hh ?_
      clear hh hkb hkc
      rintro e w2 ⟨rfl, hb⟩
      replace g0 := HG.out.step g0 hb
      clear hb
      rw [← HQ2.out]
      have hkb : kq2 + 3 ≤ 4611686018427387904 := by have := HQ1.out; have := HQ2.out; have := HCT.out; have := HK1.out; omega
      have hkc : 0 < kq2 := by have := HQ1.out; have := HQ2.out; omega
      go_wp2_with fail
      have hh := laws_heldTxt l[j].value.names _ (kq2) _ (Txts.below H3.out (HG.out.below g0)) (by have := HQ1.out; have := HQ2.out; omega) (by have := HQ1.out; have := HQ2.out; have := HCT.out; have := HK1.out; omega)
      refine Calls.mono hh ?_
      clear hh hkb hkc
      rintro e w2 ⟨rfl, hb⟩
      replace g0 := HG.out.step g0 hb
      clear hb
      rw [← HQ3.out]
      have hkb : kq3 + 3 ≤ 4611686018427387904 := by have := HQ1.out; have := HQ2.out; have := HQ3.out; have := HCT.out; have := HK1.out; omega
      have hkc : 0 < kq3 := by have := HQ1.out; have := HQ2.out; have := HQ3.out; omega
      go_wp2_with fail
      have hh := laws_heldTxt l[j].value.cls _ (kq3) _ (Txts.below H4.out (HG.out.below g0)) (by have := HQ1.out; have := HQ2.out; have := HQ3.out; omega) (by have := HQ1.out; have := HQ2.out; have := HQ3.out; have := HCT.out; have := HK1.out; omega)
      refine Calls.mono hh ?_
      clear hh hkb hkc
      rintro e w2 ⟨rfl, hb⟩
      replace g0 := HG.out.step g0 hb
      clear hb
      rw [← HQ4.out]
      have hkb : kq4 + 3 ≤ 4611686018427387904 := by have := HQ1.out; have := HQ2.out; have := HQ3.out; have := HQ4.out; have := HCT.out; have := HK1.out; omega
      have hkc : 0 < kq4 := by have := HQ1.out; have := HQ2.out; have := HQ3.out; have := HQ4.out; omega
      go_wp2_with fail
      have hh := laws_heldTxt l[j].value.levels _ (kq4) _ (Txts.below H5.out (HG.out.below g0)) (by have := HQ1.out; have := HQ2.out; have := HQ3.out; have := HQ4.out; omega) (by have := HQ1.out; have := HQ2.out; have := HQ3.out; have := HQ4.out; have := HCT.out; have := HK1.out; omega)
      refine Calls.mono hh ?_
      clear hh hkb hkc
      rintro e w2 ⟨rfl, hb⟩
      replace g0 := HG.out.step g0 hb
      clear hb
      rw [← HQ5.out]
      have hkb : kq5 + 3 ≤ 4611686018427387904 := by have := HQ1.out; have := HQ2.out; have := HQ3.out; have := HQ4.out; have := HQ5.out; have := HCT.out; have := HK1.out; omega
      have hkc : 0 < kq5 := by have := HQ1.out; have := HQ2.out; have := HQ3.out; have := HQ4.out; have := HQ5.out; omega
      go_wp2_with fail
      have hh := laws_heldInts l[j].promises _ (kq5 + 1 + 1 + 1) _ (Ints.below H6.out (HG.out.below g0)) (by have := HQ1.out; have := HQ2.out; have := HQ3.out; have := HQ4.out; have := HQ5.out; omega) (by have := HQ1.out; have := HQ2.out; have := HQ3.out; have := HQ4.out; have := HQ5.out; have := HCT.out; have := HK1.out; omega)
      refine Calls.mono hh ?_
      clear hh hkb hkc
      rintro e w2 ⟨rfl, hb⟩
      replace g0 := HG.out.step g0 hb
      clear hb
      rw [← HQ6.out]
      have hkb : kq6 + 0 ≤ 4611686018427387904 := by have := HQ1.out; have := HQ2.out; have := HQ3.out; have := HQ4.out; have := HQ5.out; have := HQ6.out; have := HCT.out; have := HK1.out; omega
      have hkc : 0 < kq6 := by have := HQ1.out; have := HQ2.out; have := HQ3.out; have := HQ4.out; have := HQ5.out; have := HQ6.out; omega
      go_wp2_with fail
      have hh := laws_heldTxt l[j].labels _ (kq6) _ (Txts.below H7.out (HG.out.below g0)) (by have := HQ1.out; have := HQ2.out; have := HQ3.out; have := HQ4.out; have := HQ5.out; have := HQ6.out; omega) (by have := HQ1.out; have := HQ2.out; have := HQ3.out; have := HQ4.out; have := HQ5.out; have := HQ6.out; have := HCT.out; have := HK1.out; omega)
      refine Calls.mono hh ?_
      clear hh hkb hkc
      rintro e w2 ⟨rfl, hb⟩
      replace g0 := HG.out.step g0 hb
      clear hb
      rw [← HQ7.out]
      have hkb : kq7 + 0 ≤ 4611686018427387904 := by have := HQ1.out; have := HQ2.out; have := HQ3.out; have := HQ4.out; have := HQ5.out; have := HQ6.out; have := HQ7.out; have := HCT.out; have := HK1.out; omega
      have hkc : 0 < kq7 := by have := HQ1.out; have := HQ2.out; have := HQ3.out; have := HQ4.out; have := HQ5.out; have := HQ6.out; have := HQ7.out; omega
      go_wp2_with fail
      go_roundw
      case rel => exact ⟨j + 1, by omega, by go_num, by rw [HKJ.out]; congr 1; have := HQ1.out; have := HQ2.out; have := HQ3.out; have := HQ4.out; have := HQ5.out; have := HQ6.out; have := HQ7.out; have := HCT.out; omega, g0⟩
      case measure => simp [intOf]; omega
    · obtain rfl : j = l.length := by omega
      go_wp2_with fail
      go_ret
      exact ⟨ret_int (by rw [List.take_length]), HG.out.below g0⟩
end Go.Proofs.YtejieacdfjpfnaaGreat
namespace Go.Proofs.YtejieacdfjpfnaaGreat
open Go.ChangeShapes Go.WideShapes Go.ChangeAt Go.RowKit Go.Deep
set_option linter.unusedVariables false
set_option maxRecDepth 100000

set_option maxHeartbeats 4000000 in
theorem laws_heldEnvS (l : List EnvD) (v : Value) (k : Int) (w : World) (h : SlR w 4 (EnvR w) v (mkL mkEnv cEnv l k)) (h0 : 0 < k) (h1 : k + cntL cEnv l ≤ 4611686018427387904) :
    Calls Tryz.prog 73 #[v, .int .i64 k] w (RetHeld w (k + cntL cEnv l)) := by
  obtain ⟨G, g0, HG⟩ := good0 w
  obtain ⟨A, c, rfl, hlc, hm, HC⟩ := SlR.open_ h
  have HL := Lib.hid (mkL_length mkEnv cEnv l k)
  rw [mkL_length] at hlc ⊢
  clear h
  unfold maxLen at hm
  go_enter Tryz.func73, Tryz.ntmps73
  go_wp2_with fail
  go_loopw [1, 5] (fun x i wr => ∃ j : Nat, j ≤ l.length ∧ i = .int .i64 j ∧ x = .int .i64 (k + (cntL cEnv (l.take j) : Int)) ∧ Ok G wr) (fun _ i _ => l.length - (intOf i).toNat)
  case atStart => exact ⟨0, Nat.zero_le _, rfl, by simp [cntL], g0⟩
  case round =>
    clear g0
    obtain ⟨j, hj, rfl, rfl, g0⟩ := hrel
    by_cases hlt : j < l.length
    · have hcn : (cntL cEnv (l.take j) : Int) + cEnv l[j] ≤ cntL cEnv l := by have := cntL_at cEnv l j hlt; omega
      have HKJ := Lib.hid (show k + (cntL cEnv (l.take (j + 1)) : Int) = k + (cntL cEnv (l.take j) : Int) + cEnv l[j] by rw [cntL_take _ _ _ hlt]; omega)
      have HCT := Lib.hid (cEnv_eq l[j])
      have hkj0 : 0 < k + (cntL cEnv (l.take j) : Int) := by omega
      have HK1 := Lib.hid (show k + (cntL cEnv (l.take j) : Int) + cEnv l[j] ≤ 4611686018427387904 by omega)
      obtain ⟨b, off, cs, rfl, hbl, _, hat, hro⟩ := HC.out j (by rw [HL.out]; exact hlt)
      rw [mkL_at _ _ _ _ _ hlt] at hro
      clear hcn
      generalize k + (cntL cEnv (l.take j) : Int) = kj at *
      obtain ⟨v1, v2, rfl, _, h1, h2, h3⟩ := hro
      simp only [mkEnv] at hat h2 h3
      have H1 := Lib.hid h2
      have H2 := Lib.hid h3
      clear h1 h2 h3
      have y0 := fun W (h : Ok G W) => ((HG.out.below h).cell (p := ⟨b, off + j * 4, none⟩) hbl).trans (by simpa using hat 0 _ rfl)
      have y1 := fun W (h : Ok G W) => ((HG.out.below h).cell (p := ⟨b, off + j * 4 + 1, none⟩) hbl).trans (hat 1 _ rfl)
      have y2 := fun W (h : Ok G W) => ((HG.out.below h).cell (p := ⟨b, off + j * 4 + 2, none⟩) hbl).trans (hat 2 _ rfl)
      have y3 := fun W (h : Ok G W) => ((HG.out.below h).cell (p := ⟨b, off + j * 4 + 3, none⟩) hbl).trans (hat 3 _ rfl)
      clear hat
      have hkb : kj + 2 ≤ 4611686018427387904 := by have := HCT.out; have := HK1.out; omega
      have hkc : 0 < kj := by omega
      go_wp2_with fail
      have hh := laws_heldTxt l[j].names _ (kj + 1 + 1) _ (Txts.below H1.out (HG.out.below g0)) (by omega) (by have := HCT.out; have := HK1.out; omega)
      refine Calls.mono hh ?_
      clear hh hkb hkc
      rintro e w2 ⟨rfl, hb⟩
      replace g0 := HG.out.step g0 hb
      clear hb
      have hkb : kj + 1 + 1 + ↑l[j].names.length + 0 ≤ 4611686018427387904 := by have := HCT.out; have := HK1.out; omega
      have hkc : 0 < kj + 1 + 1 + ↑l[j].names.length := by omega
      go_wp2_with fail
      have hh := laws_heldSlotS l[j].slots _ (kj + 1 + 1 + ↑l[j].names.length) _ (Slots.below H2.out (HG.out.below g0)) (by omega) (by have := HCT.out; have := HK1.out; omega)
      refine Calls.mono hh ?_
      clear hh hkb hkc
      rintro e w2 ⟨rfl, hb⟩
      replace g0 := HG.out.step g0 hb
      clear hb
      have hkb : kj + 1 + 1 + ↑l[j].names.length + ↑(cntL cSlot l[j].slots) + 0 ≤ 4611686018427387904 := by have := HCT.out; have := HK1.out; omega
      have hkc : 0 < kj + 1 + 1 + ↑l[j].names.length + ↑(cntL cSlot l[j].slots) := by omega
      go_wp2_with fail
      go_roundw
      case rel => exact ⟨j + 1, by omega, by go_num, by rw [HKJ.out]; congr 1; have := HCT.out; omega, g0⟩
      case measure => simp [intOf]; omega
    · obtain rfl : j = l.length := by omega
      go_wp2_with fail
      go_ret
      exact ⟨ret_int (by rw [List.take_length]), HG.out.below g0⟩
end Go.Proofs.YtejieacdfjpfnaaGreat
namespace Go.Proofs.YtejieacdfjpfnaaGreat
open Go.ChangeShapes Go.WideShapes Go.ChangeAt Go.RowKit Go.Deep
set_option linter.unusedVariables false
set_option maxRecDepth 100000

set_option maxHeartbeats 8000000 in
theorem laws_heldPromiseS (l : List PromD) (v : Value) (k : Int) (w : World) (h : SlR w 12 (PromiseR w) v (mkL mkProm cProm l k)) (h0 : 0 < k) (h1 : k + cntL cProm l ≤ 4611686018427387904) :
    Calls Tryz.prog 74 #[v, .int .i64 k] w (RetHeld w (k + cntL cProm l)) := by
  obtain ⟨G, g0, HG⟩ := good0 w
  obtain ⟨A, c, rfl, hlc, hm, HC⟩ := SlR.open_ h
  have HL := Lib.hid (mkL_length mkProm cProm l k)
  rw [mkL_length] at hlc ⊢
  clear h
  unfold maxLen at hm
  go_enter Tryz.func74, Tryz.ntmps74
  go_wp2_with fail
  go_loopw [1, 5] (fun x i wr => ∃ j : Nat, j ≤ l.length ∧ i = .int .i64 j ∧ x = .int .i64 (k + (cntL cProm (l.take j) : Int)) ∧ Ok G wr) (fun _ i _ => l.length - (intOf i).toNat)
  case atStart => exact ⟨0, Nat.zero_le _, rfl, by simp [cntL], g0⟩
  case round =>
    clear g0
    obtain ⟨j, hj, rfl, rfl, g0⟩ := hrel
    by_cases hlt : j < l.length
    · have hcn : (cntL cProm (l.take j) : Int) + cProm l[j] ≤ cntL cProm l := by have := cntL_at cProm l j hlt; omega
      have HKJ := Lib.hid (show k + (cntL cProm (l.take (j + 1)) : Int) = k + (cntL cProm (l.take j) : Int) + cProm l[j] by rw [cntL_take _ _ _ hlt]; omega)
      have HCT := Lib.hid (cProm_eq l[j])
      have hkj0 : 0 < k + (cntL cProm (l.take j) : Int) := by omega
      have HK1 := Lib.hid (show k + (cntL cProm (l.take j) : Int) + cProm l[j] ≤ 4611686018427387904 by omega)
      obtain ⟨b, off, cs, rfl, hbl, _, hat, hro⟩ := HC.out j (by rw [HL.out]; exact hlt)
      rw [mkL_at _ _ _ _ _ hlt] at hro
      clear hcn
      generalize k + (cntL cProm (l.take j) : Int) = kj at *
      obtain ⟨v1, v2, v3, v4, v5, rfl, _, h1, h2, h3, hv⟩ := hro
      obtain ⟨n0, hv⟩ := hv
      obtain ⟨m, rfl⟩ : ∃ m, n0 = m + 1 := by
        cases n0 with
        | zero => exact hv.elim
        | succ m => exact ⟨m, rfl⟩
      simp only [mkProm] at hat hv
      rw [mkVec_eq] at hat hv
      obtain ⟨u1, u2, u3, u4, u5, he, _, g1, g2, g3, g4, g5, _, _⟩ := hv
      simp only [kind_mk, items_mk, parts_mk, names_mk, cls_mk, levels_mk, code_mk, env_mk] at hat he g1 g2 g3 g4 g5
      simp only [List.cons.injEq, and_true, true_and] at he
      obtain ⟨rfl, rfl, rfl, rfl, rfl⟩ := he
      obtain ⟨kq1, hq1⟩ : ∃ x : Int, x = kj + 1 + 1 + 1 + 1 + 1 + ↑(cntL cItem l[j].value.items) := ⟨_, rfl⟩
      try simp only [← hq1] at hat g2 g3 g4 g5
      have HQ1 := Lib.hid hq1
      clear hq1
      obtain ⟨kq2, hq2⟩ : ∃ x : Int, x = kq1 + ↑(cntL cVec l[j].value.parts) := ⟨_, rfl⟩
      try simp only [← hq2] at hat g2 g3 g4 g5
      have HQ2 := Lib.hid hq2
      clear hq2
      obtain ⟨kq3, hq3⟩ : ∃ x : Int, x = kq2 + ↑l[j].value.names.length := ⟨_, rfl⟩
      try simp only [← hq3] at hat g2 g3 g4 g5
      have HQ3 := Lib.hid hq3
      clear hq3
      obtain ⟨kq4, hq4⟩ : ∃ x : Int, x = kq3 + ↑l[j].value.cls.length := ⟨_, rfl⟩
      try simp only [← hq4] at hat g2 g3 g4 g5
      have HQ4 := Lib.hid hq4
      clear hq4
      obtain ⟨kq5, hq5⟩ : ∃ x : Int, x = kq4 + ↑l[j].value.levels.length := ⟨_, rfl⟩
      try simp only [← hq5] at hat g2 g3 g4 g5
      have HQ5 := Lib.hid hq5
      clear hq5
      have H1 := Lib.hid g1
      have H2 := Lib.hid (show Vectors m w v2 _ from g2)
      have H3 := Lib.hid g3
      have H4 := Lib.hid g4
      have H5 := Lib.hid g5
      clear h1 h2 h3 g1 g2 g3 g4 g5
      have y0 := fun W (h : Ok G W) => ((HG.out.below h).cell (p := ⟨b, off + j * 12, none⟩) hbl).trans (by simpa using hat 0 _ rfl)
      have y1 := fun W (h : Ok G W) => ((HG.out.below h).cell (p := ⟨b, off + j * 12 + 1, none⟩) hbl).trans (hat 1 _ rfl)
      have y2 := fun W (h : Ok G W) => ((HG.out.below h).cell (p := ⟨b, off + j * 12 + 2, none⟩) hbl).trans (hat 2 _ rfl)
      have y3 := fun W (h : Ok G W) => ((HG.out.below h).cell (p := ⟨b, off + j * 12 + 3, none⟩) hbl).trans (hat 3 _ rfl)
      have y4 := fun W (h : Ok G W) => ((HG.out.below h).cell (p := ⟨b, off + j * 12 + 4, none⟩) hbl).trans (hat 4 _ rfl)
      have y5 := fun W (h : Ok G W) => ((HG.out.below h).cell (p := ⟨b, off + j * 12 + 5, none⟩) hbl).trans (hat 5 _ rfl)
      have y6 := fun W (h : Ok G W) => ((HG.out.below h).cell (p := ⟨b, off + j * 12 + 6, none⟩) hbl).trans (hat 6 _ rfl)
      have y7 := fun W (h : Ok G W) => ((HG.out.below h).cell (p := ⟨b, off + j * 12 + 7, none⟩) hbl).trans (hat 7 _ rfl)
      have y8 := fun W (h : Ok G W) => ((HG.out.below h).cell (p := ⟨b, off + j * 12 + 8, none⟩) hbl).trans (hat 8 _ rfl)
      have y9 := fun W (h : Ok G W) => ((HG.out.below h).cell (p := ⟨b, off + j * 12 + 9, none⟩) hbl).trans (hat 9 _ rfl)
      have y10 := fun W (h : Ok G W) => ((HG.out.below h).cell (p := ⟨b, off + j * 12 + 10, none⟩) hbl).trans (hat 10 _ rfl)
      have y11 := fun W (h : Ok G W) => ((HG.out.below h).cell (p := ⟨b, off + j * 12 + 11, none⟩) hbl).trans (hat 11 _ rfl)
      clear hat
      have hkb : kj + 7 ≤ 4611686018427387904 := by have := HCT.out; have := HK1.out; omega
      have hkc : 0 < kj := by omega
      go_wp2_with fail
      have hh := laws_heldItemS l[j].value.items _ (kj + 1 + 1 + 1 + 1 + 1) _ (Items.below H1.out (HG.out.below g0)) (by omega) (by have := HCT.out; have := HK1.out; omega)
      refine Calls.mono hh ?_
      clear hh hkb hkc
      rintro e w2 ⟨rfl, hb⟩
      replace g0 := HG.out.step g0 hb
      clear hb
      rw [← HQ1.out]
      have hkb : kq1 + 2 ≤ 4611686018427387904 := by have := HQ1.out; have := HCT.out; have := HK1.out; omega
      have hkc : 0 < kq1 := by have := HQ1.out; omega
      go_wp2_with fail
      have hh := heldVec_all m l[j].value.parts _ (kq1) _ (Vectors.below H2.out (HG.out.below g0)) (by have := HQ1.out; omega) (by have := HQ1.out; have := HCT.out; have := HK1.out; omega)
      refine Calls.mono hh ?_
      clear hh hkb hkc
      rintro e w2 ⟨rfl, hb⟩
      replace g0 := HG.out.step g0 hb
      clear hb
      rw [← HQ2.out]
      have hkb : kq2 + 2 ≤ 4611686018427387904 := by have := HQ1.out; have := HQ2.out; have := HCT.out; have := HK1.out; omega
      have hkc : 0 < kq2 := by have := HQ1.out; have := HQ2.out; omega
      go_wp2_with fail
      have hh := laws_heldTxt l[j].value.names _ (kq2) _ (Txts.below H3.out (HG.out.below g0)) (by have := HQ1.out; have := HQ2.out; omega) (by have := HQ1.out; have := HQ2.out; have := HCT.out; have := HK1.out; omega)
      refine Calls.mono hh ?_
      clear hh hkb hkc
      rintro e w2 ⟨rfl, hb⟩
      replace g0 := HG.out.step g0 hb
      clear hb
      rw [← HQ3.out]
      have hkb : kq3 + 2 ≤ 4611686018427387904 := by have := HQ1.out; have := HQ2.out; have := HQ3.out; have := HCT.out; have := HK1.out; omega
      have hkc : 0 < kq3 := by have := HQ1.out; have := HQ2.out; have := HQ3.out; omega
      go_wp2_with fail
      have hh := laws_heldTxt l[j].value.cls _ (kq3) _ (Txts.below H4.out (HG.out.below g0)) (by have := HQ1.out; have := HQ2.out; have := HQ3.out; omega) (by have := HQ1.out; have := HQ2.out; have := HQ3.out; have := HCT.out; have := HK1.out; omega)
      refine Calls.mono hh ?_
      clear hh hkb hkc
      rintro e w2 ⟨rfl, hb⟩
      replace g0 := HG.out.step g0 hb
      clear hb
      rw [← HQ4.out]
      have hkb : kq4 + 2 ≤ 4611686018427387904 := by have := HQ1.out; have := HQ2.out; have := HQ3.out; have := HQ4.out; have := HCT.out; have := HK1.out; omega
      have hkc : 0 < kq4 := by have := HQ1.out; have := HQ2.out; have := HQ3.out; have := HQ4.out; omega
      go_wp2_with fail
      have hh := laws_heldTxt l[j].value.levels _ (kq4) _ (Txts.below H5.out (HG.out.below g0)) (by have := HQ1.out; have := HQ2.out; have := HQ3.out; have := HQ4.out; omega) (by have := HQ1.out; have := HQ2.out; have := HQ3.out; have := HQ4.out; have := HCT.out; have := HK1.out; omega)
      refine Calls.mono hh ?_
      clear hh hkb hkc
      rintro e w2 ⟨rfl, hb⟩
      replace g0 := HG.out.step g0 hb
      clear hb
      rw [← HQ5.out]
      have hkb : kq5 + 2 ≤ 4611686018427387904 := by have := HQ1.out; have := HQ2.out; have := HQ3.out; have := HQ4.out; have := HQ5.out; have := HCT.out; have := HK1.out; omega
      have hkc : 0 < kq5 := by have := HQ1.out; have := HQ2.out; have := HQ3.out; have := HQ4.out; have := HQ5.out; omega
      go_wp2_with fail
      go_roundw
      case rel => exact ⟨j + 1, by omega, by go_num, by rw [HKJ.out]; congr 1; have := HQ1.out; have := HQ2.out; have := HQ3.out; have := HQ4.out; have := HQ5.out; have := HCT.out; omega, g0⟩
      case measure => simp [intOf]; omega
    · obtain rfl : j = l.length := by omega
      go_wp2_with fail
      go_ret
      exact ⟨ret_int (by rw [List.take_length]), HG.out.below g0⟩
end Go.Proofs.YtejieacdfjpfnaaGreat
namespace Go.Proofs.YtejieacdfjpfnaaGreat
open Go.ChangeShapes Go.WideShapes Go.ChangeAt Go.RowKit Go.Deep
set_option linter.unusedVariables false
set_option maxRecDepth 100000


set_option maxHeartbeats 4000000 in
theorem laws_heldStore (d : StoreD) (cs : List Value) (k : Int) (w : World) (h : StoreR w cs (markStoreD d k)) (h0 : 0 < k) (h1 : k + cStore d ≤ 4611686018427387904) :
    Calls Tryz.prog 27 #[.agg cs.toArray, .int .i64 k] w (RetHeld w (k + cStore d)) := by
  obtain ⟨v1, v2, rfl, h2, h3⟩ := h
  simp only [markStoreD] at h2 h3
  have hk1 : k + ↑(cntL cEnv d.envs) + ↑(cntL cProm d.promises) ≤ 4611686018427387904 := by unfold cStore at h1; omega
  have HKT := Lib.hid (show ((k + (cStore d : Nat) : Int)) = k + ↑(cntL cEnv d.envs) + ↑(cntL cProm d.promises) by unfold cStore; omega)
  obtain ⟨G, g0, HG, B1⟩ := good1 w 33 [v1, v2]
  have H1 := Lib.hid h2
  have H2 := Lib.hid h3
  clear h2 h3 h1
  have x0 := fun W (h : Ok G W) => (B1.out W h).cell 0 _ rfl
  have x1 := fun W (h : Ok G W) => (B1.out W h).cell 1 _ rfl
  go_enter Tryz.func27, Tryz.ntmps27
  go_upto_region 1 with fail
  refine gen_w g0 ?_
  clear g0
  intro W0 g0
  have hkb : k ≤ 4611686018427387904 := by omega
  go_wp2_with fail
  have hh := laws_heldEnvS d.envs _ k _ (Envs.below H1.out (HG.out.below g0)) (by omega) (by omega)
  refine Calls.mono hh ?_
  clear hh hkb
  rintro e w2 ⟨rfl, hb⟩
  replace g0 := HG.out.step g0 hb
  clear hb
  have hkc : 0 < k + ↑(cntL cEnv d.envs) := by omega
  have hkb : k + ↑(cntL cEnv d.envs) ≤ 4611686018427387904 := by omega
  go_wp2_with fail
  have hh := laws_heldPromiseS d.promises _ (k + ↑(cntL cEnv d.envs)) _ (Promises.below H2.out (HG.out.below g0)) (by omega) (by omega)
  refine Calls.mono hh ?_
  clear hh hkc hkb
  rintro e w3 ⟨rfl, hb⟩
  replace g0 := HG.out.step g0 hb
  clear hb
  have hkc : 0 < k + ↑(cntL cEnv d.envs) + ↑(cntL cProm d.promises) := by omega
  go_wp2_with fail
  go_ret
  exact ⟨ret_int HKT.out.symm, HG.out.below g0⟩
end Go.Proofs.YtejieacdfjpfnaaGreat
