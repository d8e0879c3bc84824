/-
  The machine's operations against the model's: operators, conversions, parts of values.
-/
import Derived.Test.YtkdlekonfjeidaaGreatEngOps1
namespace Go.Proofs.YtkdlekonfjeidaaGreat.Eng
open Go.RowKit
set_option linter.unusedVariables false

theorem toNat_inj (l m : List UInt8) : l.map UInt8.toNat = m.map UInt8.toNat ↔ l = m := by
  constructor
  · intro h
    induction l generalizing m with
    | nil => cases m with
      | nil => rfl
      | cons b m => simp at h
    | cons a l ih => cases m with
      | nil => simp at h
      | cons b m =>
        simp only [List.map_cons, List.cons.injEq] at h
        rw [UInt8.toNat_inj.1 h.1, ih m h.2]
  · rintro rfl; rfl
theorem lltN_eq (l m : List UInt8) : lltN (l.map UInt8.toNat) (m.map UInt8.toNat) = Op.bytesLess l m := by
  induction l generalizing m with
  | nil => cases m <;> rfl
  | cons a l ih =>
    cases m with
    | nil => rfl
    | cons b m =>
      show bc (Nat.ble (a.toNat + 1) b.toNat) true (bc (Nat.beq a.toNat b.toNat) (lltN (l.map UInt8.toNat) (m.map UInt8.toNat)) false) = (decide (a < b) || (a == b && Op.bytesLess l m))
      rw [ih]
      have h1 : Nat.ble (a.toNat + 1) b.toNat = decide (a < b) := by
        rw [Bool.eq_iff_iff]
        simp [UInt8.lt_iff_toNat_lt]
        omega
      have h2 : Nat.beq a.toNat b.toNat = (a == b) := by
        rw [Bool.eq_iff_iff]
        simp [UInt8.toNat_inj]
      rw [h1, h2]
      cases decide (a < b) <;> cases (a == b) <;> rfl
theorem bytesLess_or (l m : List UInt8) : (Op.bytesLess l m || l == m) = !Op.bytesLess m l := by
  induction l generalizing m with
  | nil => cases m <;> rfl
  | cons a l ih =>
    cases m with
    | nil => rfl
    | cons b m =>
      have h1 : Op.bytesLess (a :: l) (b :: m) = (decide (a < b) || (a == b && Op.bytesLess l m)) := rfl
      have h2 : Op.bytesLess (b :: m) (a :: l) = (decide (b < a) || (b == a && Op.bytesLess m l)) := rfl
      have h3 : ((a :: l) == (b :: m)) = (a == b && l == m) := rfl
      have ih' := ih m
      rw [h1, h2, h3]
      by_cases hab : a = b
      · subst hab
        have hirr : decide (a < a) = false := decide_eq_false (by rw [UInt8.lt_iff_toNat_lt]; omega)
        rw [hirr]
        simpa using ih'
      · have e1 : (a == b) = false := by simpa using hab
        have e2 : (b == a) = false := by simpa using Ne.symm hab
        have hne : a.toNat ≠ b.toNat := fun h => hab (UInt8.toNat_inj.1 h)
        rw [e1, e2]
        by_cases hlt : a < b
        · have : ¬ b < a := by rw [UInt8.lt_iff_toNat_lt] at hlt ⊢; omega
          simp [hlt, this]
        · have : b < a := by rw [UInt8.lt_iff_toNat_lt] at hlt ⊢; omega
          simp [hlt, this]

section
variable {P : Program} {dst : Option Tmp} {ty : TypeId} {pos : String} {after : Array Edge} {guard : Option (Nat × Bool)}

theorem boolO_rel {ρ : Rn} {b : Bool} {c : CV} (h : boolO b = some c) : VRel ρ c (.bool b) := by
  cases b <;> (injection h with h; subst h; exact .bool _)
theorem relB {ρ : Rn} {b b' : Bool} {c : CV} (h : VRel ρ c (.bool b)) (e : b = b') : VRel ρ c (.bool b') := e ▸ h
theorem intO_rel {ρ : Rn} {k : IntKind} {n : Int} {c : CV} (h : intO k n = some c) : VRel ρ c (.int k n) := by
  unfold intO at h
  rw [forceI_eq] at h
  injection h with h; subst h; exact .int _ _
/-- the operator on values -/
def BinOk (P : Program) (op : BinOp) (t : TypeId) (x y : Value) (ρ : Rn) (c : CV) : Prop := ∀ (xo yo : Operand) (w : World), ∃ v, (do eqGuard op t xo yo x y; binOp op t x y : Sem Value).run P w = .ok v w ∧ VRel ρ c v

theorem binInt_ok (op : BinOp) (t : TypeId) (k : IntKind) (a b : Int) (ρ : Rn) {c : CV} (h : BW.rec (motive := fun _ => Option CV) (fun f => f a b) (binInt op k) = some c) : BinOk P op t (.int k a) (.int k b) ρ c := by
  intro xo yo w
  cases op <;> first | (cases h; done) | skip
  case add => exact ⟨_, by simp [eqGuard, binOp, Op.intArith]; rfl, by have := intO_rel (ρ := ρ) h; rw [wrapF_eq, iadd_eq] at this; exact this⟩
  case sub => exact ⟨_, by simp [eqGuard, binOp, Op.intArith]; rfl, by have := intO_rel (ρ := ρ) h; rw [wrapF_eq] at this; exact this⟩
  case mul => exact ⟨_, by simp [eqGuard, binOp, Op.intArith]; rfl, by have := intO_rel (ρ := ρ) h; rw [wrapF_eq] at this; exact this⟩
  case quo =>
    have h' : bc (ieq b 0) none (intO k (wrapF k (Int.tdiv a b))) = some c := h
    rw [ieq_eq] at h'
    by_cases hb : b = 0
    · rw [decide_eq_true hb] at h'; cases h'
    · rw [decide_eq_false hb, bc_false] at h'
      exact ⟨_, by simp [eqGuard, binOp, Op.intDiv, hb]; rfl, by have := intO_rel (ρ := ρ) h'; rw [wrapF_eq] at this; exact this⟩
  case rem =>
    have h' : bc (ieq b 0) none (intO k (Int.tmod a b)) = some c := h
    rw [ieq_eq] at h'
    by_cases hb : b = 0
    · rw [decide_eq_true hb] at h'; cases h'
    · rw [decide_eq_false hb, bc_false] at h'
      exact ⟨.int k (a.tmod b), by simp [eqGuard, binOp, Op.intDiv, hb], intO_rel (ρ := ρ) h'⟩
  case eql => exact ⟨.bool (a == b), by simp [eqGuard, binOp, Op.intCmp], relB (boolO_rel h) (by rw [ieq_eq]; rfl)⟩
  case neq => exact ⟨.bool (a != b), by simp [eqGuard, binOp, Op.intCmp], relB (boolO_rel h) (by rw [ieq_eq]; rfl)⟩
  case lss => exact ⟨.bool (decide (a < b)), by simp [eqGuard, binOp, Op.intCmp], relB (boolO_rel h) (ilt_eq a b)⟩
  case leq => exact ⟨.bool (decide (a ≤ b)), by simp [eqGuard, binOp, Op.intCmp], relB (boolO_rel h) (by rw [ilt_eq, Bool.eq_iff_iff]; simp)⟩
  case gtr => exact ⟨.bool (decide (b < a)), by simp [eqGuard, binOp, Op.intCmp], relB (boolO_rel h) (ilt_eq b a)⟩
  case geq => exact ⟨.bool (decide (b ≤ a)), by simp [eqGuard, binOp, Op.intCmp], relB (boolO_rel h) (by rw [ilt_eq, Bool.eq_iff_iff]; simp)⟩
  case shr =>
    have h' : bc (ilt b 0) none (intO k (Int.fdiv a (2 ^ min b.toNat k.bits))) = some c := h
    rw [ilt_eq] at h'
    by_cases hb : b < 0
    · rw [decide_eq_true hb] at h'; cases h'
    · rw [decide_eq_false hb, bc_false] at h'
      exact ⟨.int k (a.fdiv (2 ^ min b.toNat k.bits)), by simp [eqGuard, binOp, Op.shift, hb], intO_rel (ρ := ρ) h'⟩
  case and =>
    have h' : andC k a b = some c := h
    unfold andC at h'
    split at h'
    · rename_i m n
      obtain ⟨h1, h2⟩ := bc_inv h'
      simp only [Bool.and_eq_true] at h1
      have hm := Nat.le_of_ble_eq_true h1.1
      have hn := Nat.le_of_ble_eq_true h1.2
      injection h2 with h2
      subst h2
      refine ⟨.int .i64 (IntKind.i64.wrap ((BitVec.ofInt 64 (Int.ofNat m) &&& BitVec.ofInt 64 (Int.ofNat n)).toNat : Int)), rfl, ?_⟩
      have e1 : (BitVec.ofInt 64 (Int.ofNat m)).toNat = m := by
        show (BitVec.ofInt 64 (m : Int)).toNat = m
        rw [BitVec.ofInt_natCast, BitVec.toNat_ofNat]
        exact Nat.mod_eq_of_lt (by omega)
      have e2 : (BitVec.ofInt 64 (Int.ofNat n)).toNat = n := by
        show (BitVec.ofInt 64 (n : Int)).toNat = n
        rw [BitVec.ofInt_natCast, BitVec.toNat_ofNat]
        exact Nat.mod_eq_of_lt (by omega)
      have hle : Nat.land m n ≤ m := Nat.and_le_left
      have e3 : IntKind.i64.wrap ((BitVec.ofInt 64 (Int.ofNat m) &&& BitVec.ofInt 64 (Int.ofNat n)).toNat : Int) = Int.ofNat (Nat.land m n) := by
        rw [BitVec.toNat_and, e1, e2]
        exact (wrap_small (Int.ofNat (Nat.land m n)) (Int.le_trans (by decide) (Int.natCast_nonneg _)) (by show ((Nat.land m n : Nat) : Int) ≤ _; omega)).symm
      rw [e3]
      exact .int _ _
    · cases h'

theorem binStr_ok (op : BinOp) (t : TypeId) (l m : List Nat) (x y : ByteArray) (hx : x.data.toList.map UInt8.toNat = l) (hy : y.data.toList.map UInt8.toNat = m) (ρ : Rn) {c : CV} (h : binStr op l m = some c) : BinOk P op t (.string x) (.string y) ρ c := by
  intro xo yo w
  subst hx hy
  unfold binStr at h
  cases op <;> first | (cases h; done) | skip
  case add =>
    obtain ⟨h1, h2⟩ := bc_inv h
    injection h2 with h2; subst h2
    rw [llen_eq, llen_eq] at h1
    simp only [Bool.and_eq_true] at h1
    have a1 := Nat.le_of_ble_eq_true h1.1
    have a2 := Nat.le_of_ble_eq_true h1.2
    have hx : x.size ≤ 1048576 := by simpa using a1
    have hy : y.size ≤ 1048576 := by simpa using a2
    refine ⟨.string (x ++ y), ?_, ?_⟩
    · have : ¬ (9223372036854775807 < (x.size : Int) + (y.size : Int)) := by omega
      simp [eqGuard, binOp, Op.stringOp, this]
    · refine .str _ _ ?_
      rw [lapp_eq, ← List.map_append]
      simp
  all_goals
    simp only [leqN_eq, lltN_eq, toNat_inj] at h
  case eql => exact ⟨.bool (x.data.toList == y.data.toList), by simp only [eqGuard, binOp, Op.stringOp, ByteArray.toList_eq]; simp, relB (boolO_rel h) (by rw [Bool.eq_iff_iff]; simp)⟩
  case neq => exact ⟨.bool !(x.data.toList == y.data.toList), by simp only [eqGuard, binOp, Op.stringOp, ByteArray.toList_eq]; simp, relB (boolO_rel h) (by rw [Bool.eq_iff_iff]; simp)⟩
  case lss => exact ⟨.bool (Op.bytesLess x.data.toList y.data.toList), by simp only [eqGuard, binOp, Op.stringOp, ByteArray.toList_eq]; simp, boolO_rel h⟩
  case leq => exact ⟨.bool !Op.bytesLess y.data.toList x.data.toList, by simp only [eqGuard, binOp, Op.stringOp, ByteArray.toList_eq, bytesLess_or]; simp, boolO_rel h⟩
  case gtr => exact ⟨.bool (Op.bytesLess y.data.toList x.data.toList), by simp only [eqGuard, binOp, Op.stringOp, ByteArray.toList_eq, bytesLess_or]; simp, boolO_rel h⟩
  case geq => exact ⟨.bool !Op.bytesLess x.data.toList y.data.toList, by simp only [eqGuard, binOp, Op.stringOp, ByteArray.toList_eq]; simp, boolO_rel h⟩
end
end Go.Proofs.YtkdlekonfjeidaaGreat.Eng
