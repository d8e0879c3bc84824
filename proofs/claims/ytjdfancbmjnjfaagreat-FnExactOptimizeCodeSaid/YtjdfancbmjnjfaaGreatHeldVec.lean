/-
  What is held of the marks: vectors.
-/
import Derived.Test.YtjdfancbmjnjfaaGreatKMark
namespace Go.Proofs.YtjdfancbmjnjfaaGreat
set_option maxRecDepth 100000
open Go.ChangeShapes Go.WideShapes Go.ChangeAt Go.RowKit Go.Deep
set_option linter.unusedVariables false

theorem kind_mk (kd : Int) (i : List ItemD) (p : List VecD) (n c l : List (List UInt8)) (co en : Int) : (VecD.mk kd i p n c l co en).kind = kd := rfl
theorem items_mk (kd : Int) (i : List ItemD) (p : List VecD) (n c l : List (List UInt8)) (co en : Int) : (VecD.mk kd i p n c l co en).items = i := rfl
theorem parts_mk (kd : Int) (i : List ItemD) (p : List VecD) (n c l : List (List UInt8)) (co en : Int) : (VecD.mk kd i p n c l co en).parts = p := rfl
theorem names_mk (kd : Int) (i : List ItemD) (p : List VecD) (n c l : List (List UInt8)) (co en : Int) : (VecD.mk kd i p n c l co en).names = n := rfl
theorem cls_mk (kd : Int) (i : List ItemD) (p : List VecD) (n c l : List (List UInt8)) (co en : Int) : (VecD.mk kd i p n c l co en).cls = c := rfl
theorem levels_mk (kd : Int) (i : List ItemD) (p : List VecD) (n c l : List (List UInt8)) (co en : Int) : (VecD.mk kd i p n c l co en).levels = l := rfl
theorem code_mk (kd : Int) (i : List ItemD) (p : List VecD) (n c l : List (List UInt8)) (co en : Int) : (VecD.mk kd i p n c l co en).code = co := rfl
theorem env_mk (kd : Int) (i : List ItemD) (p : List VecD) (n c l : List (List UInt8)) (co en : Int) : (VecD.mk kd i p n c l co en).env = en := rfl
theorem laws_heldTxt (l : List (List UInt8)) (v : Value) (k : Int) (w : World) (h : Txts w v (markL k.toNat l.length)) (h0 : 0 < k) (h1 : k + l.length <= 4611686018427387904) :
  Calls Tryz.prog 76 #[v, .int .i64 k] w (RetHeld w (k + l.length)) := laws_heldStringS l.length v k w h0 h1 h
def HeldVecC (n : Nat) : Prop := ∀ (l : List VecD) (v : Value) (k : Int) (w : World), Vectors n w v (mkL mkVec cVec l k) -> 0 < k -> k + cntL cVec l <= 4611686018427387904 ->
 Calls Tryz.prog 112 #[v, .int .i64 k] w (RetHeld w (k + cntL cVec l))

set_option maxHeartbeats 4000000 in
theorem laws_heldVectorS_n (n : Nat) (ih : ∀ m, n = m + 1 -> HeldVecC m) (l : List VecD) (v : Value) (k : Int) (w : World) (h : SlR w 8 (VectorR n w) v (mkL mkVec cVec l k)) (h0 : 0 < k) (h1 : k + cntL cVec l <= 4611686018427387904) :
  Calls Tryz.prog 112 #[v, .int .i64 k] w (RetHeld w (k + cntL cVec l)) := by
 obtain ⟨G, g0, HG⟩ := good0 w
 obtain ⟨A, c, rfl, hlc, hm, HC⟩ := SlR.open_ h
 have HL := Lib.hid (mkL_length mkVec cVec l k)
 rw [mkL_length] at hlc ⊢
 clear h
 unfold maxLen at hm
 go_enter Tryz.func112, Tryz.ntmps112
 go_wp2_with fail
 go_loopw [1, 5] (fun x i wr => ∃ j : Nat, j <= l.length /\ i = .int .i64 j /\ x = .int .i64 (k + (cntL cVec (l.take j) : Int)) /\ Ok G wr) (fun _ i _ => l.length - (intOf i).toNat)
 case atStart => exact ⟨0, Nat.zero_le _, rfl, by simp [cntL], g0⟩
 case round =>
  clear g0
  obtain ⟨j, hj, rfl, rfl, g0⟩ := hrel
  by_cases hlt : j < l.length
  ·have hcn : (cntL cVec (l.take j) : Int) + cVec l[j] <= cntL cVec l := by have := cntL_at cVec l j hlt; omega
   have HKJ := Lib.hid (show k + (cntL cVec (l.take (j + 1)) : Int) = k + (cntL cVec (l.take j) : Int) + cVec l[j] by rw [cntL_take _ _ _ hlt]; omega)
   have HCT := Lib.hid (cVec_eq l[j])
   have hkj0 : 0 < k + (cntL cVec (l.take j) : Int) := by omega
   have HK1 := Lib.hid (show k + (cntL cVec (l.take j) : Int) + cVec l[j] <= 4611686018427387904 by omega)
   obtain ⟨b, off, cs, rfl, hbl, _, hat, hro⟩ := HC.out j (by rw [HL.out]; exact hlt)
   rw [mkL_at _ _ _ _ _ hlt] at hro
   clear hcn
   generalize k + (cntL cVec (l.take j) : Int) = kj at *
   obtain ⟨m, rfl⟩ : ∃ m, n = m + 1 := by
    cases n with
    | zero => exact hro.elim
    | succ m => exact ⟨m, rfl⟩
   have IH := ih m rfl
   rw [mkVec_eq] at hro
   obtain ⟨v1, v2, v3, v4, v5, rfl, h0, h1, h2, h3, h4, h5, h6, h7⟩ := hro
   simp only [kind_mk, items_mk, parts_mk, names_mk, cls_mk, levels_mk, code_mk, env_mk] at hat h1 h2 h3 h4 h5
   have H1 := Lib.hid h1
   have H2 := Lib.hid (show Vectors m w v2 _ from h2)
   have H3 := Lib.hid h3
   have H4 := Lib.hid h4
   have H5 := Lib.hid h5
   clear h0 h1 h2 h3 h4 h5 h6 h7
   obtain ⟨y0, y1, y2, y3, y4, y5, y6, y7⟩ := pk_e8 HG hbl hat
   clear hat
   have hkb : kj + 3 <= 4611686018427387904 := by have := HCT.out; have := HK1.out; omega
   have hkc : 0 < kj := by omega
   go_wp2_with fail
   have hh := laws_heldItemS l[j].items _ (kj + 1) _ (Items.below H1.out (HG.out.below g0)) (by omega) (by have := HCT.out; have := HK1.out; omega)
   refine Calls.mono hh ?_
   clear hh hkb hkc
   rintro e w2 ⟨rfl, hb⟩
   replace g0 := HG.out.step g0 hb
   clear hb
   have hkb : kj + 1 + ↑(cntL cItem l[j].items) + 2 <= 4611686018427387904 := by have := HCT.out; have := HK1.out; omega
   have hkc : 0 < kj + 1 + ↑(cntL cItem l[j].items) := by omega
   go_wp2_with fail
   have hh := IH l[j].parts _ (kj + 1 + ↑(cntL cItem l[j].items)) _ (Vectors.below H2.out (HG.out.below g0)) (by omega) (by have := HCT.out; have := HK1.out; omega)
   refine Calls.mono hh ?_
   clear hh hkb hkc
   rintro e w2 ⟨rfl, hb⟩
   replace g0 := HG.out.step g0 hb
   clear hb
   have hkb : kj + 1 + ↑(cntL cItem l[j].items) + ↑(cntL cVec l[j].parts) + 2 <= 4611686018427387904 := by have := HCT.out; have := HK1.out; omega
   have hkc : 0 < kj + 1 + ↑(cntL cItem l[j].items) + ↑(cntL cVec l[j].parts) := by omega
   go_wp2_with fail
   have hh := laws_heldTxt l[j].names _ (kj + 1 + ↑(cntL cItem l[j].items) + ↑(cntL cVec l[j].parts)) _ (Txts.below H3.out (HG.out.below g0)) (by omega) (by have := HCT.out; have := HK1.out; omega)
   refine Calls.mono hh ?_
   clear hh hkb hkc
   rintro e w2 ⟨rfl, hb⟩
   replace g0 := HG.out.step g0 hb
   clear hb
   have hkb : kj + 1 + ↑(cntL cItem l[j].items) + ↑(cntL cVec l[j].parts) + ↑l[j].names.length + 2 <= 4611686018427387904 := by have := HCT.out; have := HK1.out; omega
   have hkc : 0 < kj + 1 + ↑(cntL cItem l[j].items) + ↑(cntL cVec l[j].parts) + ↑l[j].names.length := by omega
   go_wp2_with fail
   have hh := laws_heldTxt l[j].cls _ (kj + 1 + ↑(cntL cItem l[j].items) + ↑(cntL cVec l[j].parts) + ↑l[j].names.length) _ (Txts.below H4.out (HG.out.below g0)) (by omega) (by have := HCT.out; have := HK1.out; omega)
   refine Calls.mono hh ?_
   clear hh hkb hkc
   rintro e w2 ⟨rfl, hb⟩
   replace g0 := HG.out.step g0 hb
   clear hb
   have hkb : kj + 1 + ↑(cntL cItem l[j].items) + ↑(cntL cVec l[j].parts) + ↑l[j].names.length + ↑l[j].cls.length + 2 <= 4611686018427387904 := by have := HCT.out; have := HK1.out; omega
   have hkc : 0 < kj + 1 + ↑(cntL cItem l[j].items) + ↑(cntL cVec l[j].parts) + ↑l[j].names.length + ↑l[j].cls.length := by omega
   go_wp2_with fail
   have hh := laws_heldTxt l[j].levels _ (kj + 1 + ↑(cntL cItem l[j].items) + ↑(cntL cVec l[j].parts) + ↑l[j].names.length + ↑l[j].cls.length) _ (Txts.below H5.out (HG.out.below g0)) (by omega) (by have := HCT.out; have := HK1.out; omega)
   refine Calls.mono hh ?_
   clear hh hkb hkc
   rintro e w2 ⟨rfl, hb⟩
   replace g0 := HG.out.step g0 hb
   clear hb
   have hkb : kj + 1 + ↑(cntL cItem l[j].items) + ↑(cntL cVec l[j].parts) + ↑l[j].names.length + ↑l[j].cls.length + ↑l[j].levels.length + 2 <= 4611686018427387904 := by have := HCT.out; have := HK1.out; omega
   have hkc : 0 < kj + 1 + ↑(cntL cItem l[j].items) + ↑(cntL cVec l[j].parts) + ↑l[j].names.length + ↑l[j].cls.length + ↑l[j].levels.length := by omega
   go_wp2_with fail
   go_roundw
   case rel => exact ⟨j + 1, by omega, by go_num, by rw [HKJ.out]; congr 1; have := HCT.out; omega, g0⟩
   case measure => simp [intOf]; omega
  ·obtain rfl : j = l.length := by omega
   go_wp2_with fail
   go_ret
   exact ⟨ret_int (by rw [List.take_length]), HG.out.below g0⟩
theorem heldVec_all : ∀ n, HeldVecC n := by
 intro n
 induction n with
 | zero => exact fun l v k w h h0 h1 => laws_heldVectorS_n 0 (fun m h => by omega) l v k w h h0 h1
 | succ n ih => exact fun l v k w h h0 h1 => laws_heldVectorS_n (n + 1) (fun m h => (Nat.succ.inj h) ▸ ih) l v k w h h0 h1
end Go.Proofs.YtjdfancbmjnjfaaGreat
