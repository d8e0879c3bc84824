/-
  What it means that the machine goes on: inversions.
-/
import Derived.Test.YtkdlekonfjeidaaGreatEngHp3
import Derived.Deep.AppendSrc
import Derived.ChangeKeysEq
import Derived.IntWalk
namespace Go.Proofs.YtkdlekonfjeidaaGreat.Eng
open Go.RowKit
set_option linter.unusedVariables false

theorem oc_inv {α β : Type} {x : Option α} {k : α → Option β} {r : β} (h : oc x none k = some r) : ∃ a, x = some a ∧ k a = some r := by
  cases x with
  | none => cases h
  | some a => exact ⟨a, rfl, h⟩
theorem bc_inv {β : Type} {b : Bool} {t : Option β} {r : β} (h : bc b t none = some r) : b = true ∧ t = some r := by
  cases b with
  | false => cases h
  | true => exact ⟨rfl, h⟩
theorem asPtr_some {β : Type} {v : CV} {k : Nat → Nat → Option β} {r : β} (h : asPtr v k = some r) : ∃ id off, v = .ptr id off ∧ k id off = some r := by
  cases v <;> first | exact ⟨_, _, rfl, h⟩ | cases h
theorem asSl_some {β : Type} {v : CV} {k : Nat → Nat → Nat → Nat → Option β} {r : β} (h : asSl v k = some r) : ∃ id off len s, v = .sl id off len s ∧ k id off len s = some r := by
  cases v <;> first | exact ⟨_, _, _, _, rfl, h⟩ | cases h
theorem asStr_some {β : Type} {v : CV} {k : List Nat → Option β} {r : β} (h : asStr v k = some r) : ∃ l, v = .str l ∧ k l = some r := by
  cases v <;> first | exact ⟨_, rfl, h⟩ | cases h
theorem asInt_some {β : Type} {v : CV} {k : IntKind → Int → Option β} {r : β} (h : asInt v k = some r) : ∃ j n, v = .int j n ∧ k j n = some r := by
  cases v <;> first | exact ⟨_, _, rfl, h⟩ | cases h
theorem asNat_some {β : Type} {v : CV} {k : Nat → Option β} {r : β} (h : asNat v k = some r) : ∃ j n, v = .int j (.ofNat n) ∧ k n = some r := by
  obtain ⟨j, n, rfl, h⟩ := asInt_some h
  cases n with
  | ofNat n => exact ⟨j, n, rfl, h⟩
  | negSucc n => cases h
theorem asAgg_some {β : Type} {v : CV} {k : List CV → Option β} {r : β} (h : asAgg v k = some r) : ∃ l, v = .agg l ∧ k l = some r := by
  cases v <;> first | exact ⟨_, rfl, h⟩ | cases h
theorem asTup_some {β : Type} {v : CV} {k : List CV → Option β} {r : β} (h : asTup v k = some r) : ∃ l, v = .tup l ∧ k l = some r := by
  cases v <;> first | exact ⟨_, rfl, h⟩ | cases h
theorem asBool_some {β : Type} {v : CV} {t f : Option β} {r : β} (h : asBool v t f = some r) : ∃ b, v = .bool b ∧ (if b then t else f) = some r := by
  cases v with
  | bool b => cases b <;> exact ⟨_, rfl, h⟩
  | _ => cases h
theorem asFn_some {β : Type} {v : CV} {k : FuncId → List CV → List CV → Option β} {r : β} (h : asFn v k = some r) : ∃ f l m, v = .fn f l m ∧ k f l m = some r := by
  cases v <;> first | exact ⟨_, _, _, rfl, h⟩ | cases h

section
variable {ρ : Rn} {v : Value}
theorem VRel.boolI {b : Bool} (h : VRel ρ (.bool b) v) : v = .bool b := by cases h; rfl
theorem VRel.intI {k : IntKind} {n : Int} (h : VRel ρ (.int k n) v) : v = .int k n := by cases h; rfl
theorem VRel.strI {l : List Nat} (h : VRel ρ (.str l) v) : ∃ s : ByteArray, v = .string s ∧ s.data.toList.map UInt8.toNat = l := by cases h with | str _ s h => exact ⟨s, rfl, h⟩
theorem VRel.nilpI (h : VRel ρ .nilp v) : v = .pointer none := by cases h; rfl
theorem VRel.ptrI {id off : Nat} (h : VRel ρ (.ptr id off) v) : ∃ ri, ρ id = some ri ∧ v = .pointer (some ⟨ri.b, off, none⟩) := by cases h with | ptr _ _ ri h => exact ⟨ri, h, rfl⟩
theorem VRel.nilsI (h : VRel ρ .nils v) : v = .slice none 0 0 := by cases h; rfl
theorem VRel.slI {id off len s : Nat} (h : VRel ρ (.sl id off len s) v) : ∃ ri a cap, ρ id = some ri ∧ v = .slice (some a) len cap ∧ len ≤ cap ∧ ((a = ⟨ri.b, off, none⟩ ∧ off + cap * s ≤ ri.tot) ∨ cap = 0) := by
  cases h with | sl _ _ _ _ ri a cap h hc ha => exact ⟨ri, a, cap, h, rfl, hc, ha⟩
theorem VRel.nilmI (h : VRel ρ .nilm v) : v = .map none := by cases h; rfl
theorem VRel.mapI {id : Nat} (h : VRel ρ (.map id) v) : ∃ ri, ρ id = some ri ∧ v = .map (some ri.b) := by cases h with | map _ ri h => exact ⟨ri, h, rfl⟩
theorem VRel.nilfnI (h : VRel ρ .nilfn v) : v = .nilFunc := by cases h; rfl
theorem VRel.fnI {f : FuncId} {l m : List CV} (h : VRel ρ (.fn f l m) v) : ∃ x y, v = .func (.func f) x y ∧ VRels ρ l x.toList ∧ VRels ρ m y.toList := by
  cases h with | fn _ _ _ x y h1 h2 h3 h4 => exact ⟨x, y, rfl, ⟨by simpa using h1, fun i c v h5 h6 => h2 i c v h5 (by simpa using h6)⟩, ⟨by simpa using h3, fun i c v h5 h6 => h4 i c v h5 (by simpa using h6)⟩⟩
theorem VRel.aggI {cs : List CV} (h : VRel ρ (.agg cs) v) : ∃ x, v = .agg x ∧ VRels ρ cs x.toList ∧ ∀ c ∈ cs, c.one = true := by
  cases h with | agg _ x h1 h2 h3 => exact ⟨x, rfl, ⟨by simpa using h1, fun i c v h5 h6 => h2 i c v h5 (by simpa using h6)⟩, h3⟩
theorem VRel.tupI {cs : List CV} (h : VRel ρ (.tup cs) v) : ∃ x, v = .tuple x ∧ VRels ρ cs x.toList := by
  cases h with | tup _ x h1 h2 => exact ⟨x, rfl, ⟨by simpa using h1, fun i c v h5 h6 => h2 i c v h5 (by simpa using h6)⟩⟩
end
theorem VRel.mkFn {ρ : Rn} {f : FuncId} {l m : List CV} {x y : List Value} (h : VRels ρ l x) (k : VRels ρ m y) : VRel ρ (.fn f l m) (.func (.func f) x.toArray y.toArray) :=
  .fn f l m _ _ (by simpa using h.1) (fun i c v h5 h6 => h.2 i c v h5 (by simpa using h6)) (by simpa using k.1) (fun i c v h5 h6 => k.2 i c v h5 (by simpa using h6))
/-- the cells of a value that may lie in memory -/
theorem cellsK_some {β : Type} {v : CV} {k : List CV → Option β} {r : β} (h : cellsK v k = some r) : ∃ l, k l = some r ∧ ∀ (ρ : Rn) (u : Value), VRel ρ v u → VRels ρ l u.cells.toList ∧ (∀ c ∈ l, c.one = true) := by
  have one : ∀ v : CV, v.one = true → k [v] = some r → ∃ l, k l = some r ∧ ∀ (ρ : Rn) (u : Value), VRel ρ v u → VRels ρ l u.cells.toList ∧ (∀ c ∈ l, c.one = true) := fun v h1 h => by
    refine ⟨[v], h, fun ρ u hu => ?_⟩
    have : u.cells.toList = [u] := by cases hu <;> first | rfl | (simp [CV.one] at h1)
    rw [this]
    exact ⟨.cons hu (.nil ρ), fun c hc => by simp at hc; subst hc; exact h1⟩
  cases v with
  | agg cs =>
    refine ⟨cs, h, fun ρ u hu => ?_⟩
    obtain ⟨x, rfl, h1, h2⟩ := hu.aggI
    exact ⟨h1, h2⟩
  | tup cs => cases h
  | any => cases h
  | _ => exact one _ rfl h

theorem lnth_some {α : Type} {l : List α} {i : Nat} {a : α} (h : lnth l i = some a) : l[i]? = some a := by
  unfold lnth at h
  rw [ldrop_eq] at h
  cases hd : l.drop i with
  | nil => rw [hd] at h; cases h
  | cons b t =>
    rw [hd] at h
    injection h with h
    have : (l.drop i)[0]? = some b := by rw [hd]; rfl
    rw [List.getElem?_drop] at this
    rw [← h]
    simpa using this
theorem lnth_get {α : Type} (l : List α) (i : Nat) : lnth l i = l[i]? := by
  unfold lnth
  rw [ldrop_eq]
  have h1 : (l.drop i)[0]? = l[i]? := by rw [List.getElem?_drop]; rfl
  cases hd : l.drop i with
  | nil => rw [hd] at h1; exact h1
  | cons b t => rw [hd] at h1; exact h1
theorem lnth_arr {α : Type} (a : Array α) (i : Nat) : lnth a.toList i = a[i]? := by rw [lnth_get, Array.getElem?_toList]
theorem szT_some {P : Program} {t : TypeId} {n : Nat} (h : szT P t = some n) : ∃ i, P.info? t = some i ∧ i.size = n := by
  unfold szT at h
  split at h
  · rename_i i hi; injection h with h; exact ⟨i, hi, h⟩
  · cases h
theorem run_info {P : Program} {t : TypeId} {i : TypeInfo} (h : P.info? t = some i) (w : World) : (typeInfo t).run P w = .ok i w := run_typeInfo w h
theorem run_size {P : Program} {t : TypeId} {n : Nat} (h : szT P t = some n) (w : World) : (sizeOf t).run P w = .ok n w := by
  obtain ⟨i, h1, rfl⟩ := szT_some h
  simp [sizeOf, run_info h1]
theorem zeroT_some {P : Program} {t : TypeId} {c : CV} (h : zeroT P t = some c) : ∃ i z, P.info? t = some i ∧ i.zero = some z ∧ cvOf z = some c := by
  unfold zeroT at h
  split at h
  · rename_i i hi
    split at h
    · rename_i z hz; exact ⟨i, z, hi, hz, h⟩
    · cases h
  · cases h
theorem run_zero {P : Program} {t : TypeId} {c : CV} (h : zeroT P t = some c) : ∃ z, cvOf z = some c ∧ ∀ w : World, (zeroValue t).run P w = .ok z w := by
  obtain ⟨i, z, h1, h2, h3⟩ := zeroT_some h
  exact ⟨z, h3, fun w => by simp [zeroValue, run_info h1, h2]⟩
theorem elemT_some {P : Program} {t e : TypeId} (h : elemT P t = some e) : P.underlying t = some (.slice e) := by
  unfold elemT at h
  split at h
  · rename_i e' he; injection h with h; subst h; exact he
  · cases h
theorem isAggT_some {P : Program} {t : TypeId} {b : Bool} (h : isAggT P t = some b) (w : World) : (isAgg t).run P w = .ok b w := by
  unfold isAggT at h
  split at h
  · rename_i fs he; injection h with h; subst h; simp [isAgg, run_underlying he]
  · rename_i n e he; injection h with h; subst h; simp [isAgg, run_underlying he]
  · rename_i d hd1 hd2 he; injection h with h; subst h; simp [isAgg, run_underlying he]
  · cases h
/-! ### Numbers -/
theorem ieq_eq (a b : Int) : ieq a b = decide (a = b) := by
  cases a with
  | ofNat a => cases b with
    | ofNat b => show Nat.beq a b = _; rw [Bool.eq_iff_iff]; simp; omega
    | negSucc b => show false = _; simp
  | negSucc a => cases b with
    | ofNat b => show false = _; simp
    | negSucc b => show Nat.beq a b = _; rw [Bool.eq_iff_iff]; simp
theorem ilt_eq (a b : Int) : ilt a b = decide (a < b) := by
  cases a with
  | ofNat a => cases b with
    | ofNat b => show Nat.ble (a + 1) b = _; rw [Bool.eq_iff_iff]; simp; omega
    | negSucc b => show false = _; simp; omega
  | negSucc a => cases b with
    | ofNat b => show true = _; simp; omega
    | negSucc b => show Nat.ble (b + 1) a = _; rw [Bool.eq_iff_iff]; simp; omega
theorem iadd_eq (a b : Int) : iadd a b = a + b := by
  cases a <;> cases b <;> rfl
theorem wrap_small (n : Int) (h : -9223372036854775808 ≤ n) (h' : n ≤ 9223372036854775807) : n = IntKind.wrap .i64 n := (IntWalk.i64_in n ⟨h, h'⟩).symm
theorem wrapF_eq (k : IntKind) (n : Int) : wrapF k n = k.wrap n := by
  unfold wrapF
  split
  · rename_i m
    generalize hc : Nat.ble m 9223372036854775807 = b
    cases b with
    | false => rw [cond_false]
    | true =>
      rw [cond_true]
      have h := Nat.le_of_ble_eq_true hc
      refine wrap_small (Int.ofNat m) ?_ ?_
      · exact Int.le_trans (by decide) (Int.natCast_nonneg m)
      · exact Int.ofNat_le.2 h
  · rename_i m
    generalize hc : Nat.ble m 9223372036854775807 = b
    cases b with
    | false => rw [cond_false]
    | true =>
      rw [cond_true]
      have h := Nat.le_of_ble_eq_true hc
      refine wrap_small (Int.negSucc m) ?_ ?_
      · have h2 : (m : Int) ≤ 9223372036854775807 := Int.ofNat_le.2 h
        rw [Int.negSucc_eq]
        omega
      · rw [Int.negSucc_eq]
        omega
  · rename_i m
    show Int.ofNat (m % 256) = _
    simp [IntKind.wrap, IntKind.bits, IntKind.signed]
  · rfl
end Go.Proofs.YtkdlekonfjeidaaGreat.Eng
