/-
  A machine on values that read as trees: parts of slices and strings, any operation on two values.
-/
import Derived.Test.YtconhpilbndpkaaVmD
import Derived.Laws.Slices
import Derived.Laws.Strings2
namespace Go.Proofs.Ytconhpilbndpkaa.Vm
open Go.RowKit
set_option linter.unusedVariables false

section
variable {ti : TI} {X : Ctx} {z : ZO}
/-! ### any operation on two values; strings put together -/
def bopQ (a : Slots) (o : Oper) : Option (BinOp × TypeId × Operand × Operand) := match o.op with
  | .binOp op t x y _ => some (op, t, x, y)
  | _ => none
theorem Val_binop {a : Slots} {m : Mem} {o : Oper} {op : BinOp} {t : TypeId} {xo yo : Operand} {r : T} (hq : bopQ a o = some (op, t, xo, yo))
    (h : ∀ (Z : Kn) (ρ : Rho) (u v : Value), RdT Z ρ (evT a xo) u → RdT Z ρ (evT a yo) v → ∃ k, (∀ w, (do eqGuard op t xo yo u v; binOp op t u v : Sem Value).run X.P w = .ok k w) ∧ RdT Z ρ r k) : Val X a m o r := by
  intro Z ρ nx act w H hS
  unfold bopQ at hq
  split at hq
  · rename_i op' t' x y t2 ho
    injection hq with hq
    injection hq with e1 hq
    injection hq with e2 hq
    injection hq with e3 e4
    subst e1 e2 e3 e4
    obtain ⟨k, h1, h2⟩ := h Z ρ _ _ (evT_rel hS x) (evT_rel hS y)
    refine ⟨k, fun W => ?_, h2⟩
    obtain ⟨dst, op2, ty, pos, after, guard⟩ := o
    simp only at ho
    subst ho
    have e : execOp act.eval ⟨dst, .binOp op' t' x y t2, ty, pos, after, guard⟩ = (do pure (.value (← (do eqGuard op' t' x y (act.eval x) (act.eval y); binOp op' t' (act.eval x) (act.eval y) : Sem Value)))) := rfl
    rw [e, Sem.run_bind, h1]
    rfl
  · cases hq
theorem bs_append (l m : List UInt8) : bs l ++ bs m = bs (l ++ m) := by
  apply ByteArray.ext
  simp [bs, ByteArray.data_append]
theorem Val_cat {a : Slots} {m : Mem} {o : Oper} {t : TypeId} {xo yo : Operand} {l k : List UInt8} (hq : bopQ a o = some (.add, t, xo, yo)) (hx : evT a xo = .c (.s l)) (hy : evT a yo = .c (.s k)) (hn : l.length + k.length ≤ 9223372036854775807) : Val X a m o (.c (.s (l ++ k))) :=
  Val_binop hq fun Z ρ u v h1 h2 => by
    rw [hx] at h1
    rw [hy] at h2
    obtain rfl := h1.cI.strI
    obtain rfl := h2.cI.strI
    refine ⟨.string (bs (l ++ k)), fun w => ?_, .c _ _ (.s _)⟩
    have e1 : (bs l).size = l.length := by simp [bs, ByteArray.size]
    have e2 : (bs k).size = k.length := by simp [bs, ByteArray.size]
    simp only [eqGuard, binOp, Op.stringOp]
    simp [bs_append]
    rw [e1, e2]
    omega
/-! ### parts of slices -/
def optI (a : Slots) : Option Operand → Option (Option Int)
  | none => some none
  | some x => match evT a x with | .c (.i .i64 n) => some (some n) | _ => none
def partQ (ti : TI) (a : Slots) (o : Oper) : Option (List (List C) × Option Int × Option Int × Nat) := match o.op with
  | .slice t x lo hi none => (match tget ti t with
    | some ty => (match ty.kind, tget ti ty.elem, elsOf (evT a x), optI a lo, optI a hi with
      | .sl, some e, some els, some l, some h => some (els, l, h, e.size)
      | _, _, _, _, _ => none)
    | none => none)
  | _ => none
theorem Val_part (hti : TIok X.P ti) {o : Oper} {a : Slots} {m : Mem} {els : List (List C)} {lo hi : Option Int} {sz0 : Nat} (hq : partQ ti a o = some (els, lo, hi, sz0)) (hsz0 : ∀ cs ∈ els, cs.length = sz0) (l h : Nat) (h1 : (lo = none ∧ l = 0) ∨ lo = some (l : Int)) (h2 : (hi = none ∧ h = els.length) ∨ hi = some (h : Int)) (hlh : l ≤ h) (hhe : h ≤ els.length) : Val X a m o (.c (.sl ((els.take h).drop l))) := by
  unfold partQ at hq
  split at hq
  · rename_i t x lo' hi' ho
    split at hq
    · rename_i ty hty
      split at hq
      · rename_i e els' l' h' hkd hel hels hlo hhi
        injection hq with hq
        injection hq with q1 q2
        injection q2 with q2 q3
        injection q3 with q3 q4
        subst q1 q2 q3 q4
        intro Z ρ nx act w H hS
        have hx := elsOf_rel (evT_rel hS x) hels
        have hu := (hti t ty hty).sl hkd
        have hel' : X.P.elem t = ty.elem := by simp [Program.elem, hu]
        have hu' : X.P.underlying t = some (.slice (X.P.elem t)) := by rw [hel']; exact hu
        have hs := (hti _ e hel).sz
        obtain ⟨A, cap, hv, hn1, hn2, hx⟩ := hx.slI
        have optV : ∀ (q : Option Operand) (r : Option Int), optI a q = some r → q.map act.eval = r.map fun n => Value.int .i64 n := fun q r hqr => by
          unfold optI at hqr
          split at hqr
          · injection hqr with hqr; subst hqr; rfl
          · rename_i x
            split at hqr
            · rename_i n he
              injection hqr with hqr; subst hqr
              have := evT_rel hS x
              rw [he] at this
              simp [this.cI.intI]
            · cases hqr
        have hl := optV lo' l' hlo
        have hh := optV hi' h' hhi
        have hsl : ∃ mx, h ≤ mx ∧ mx ≤ maxLen ∧ ∀ w, (Instr.sliceAt t (act.eval x) (lo'.map act.eval) (hi'.map act.eval) none).run X.P w = .ok (sliced A l h mx e.size) w := by
          refine ⟨cap, by omega, hn2, fun w => ?_⟩
          rw [hl, hh, hv, run_sliceAt_slice (w := w) t _ _ _ _ hu']
          rcases h1 with ⟨rfl, rfl⟩ | rfl <;> rcases h2 with ⟨rfl, rfl⟩ | rfl <;> (try simp only [Option.map_some, Option.map_none])
          · rw [run_slice_all (w := w) t A _ _ hu', hel', hs]; rfl
          · rw [run_slice_h (w := w) t A _ _ hu' _ _ (Int.natCast_nonneg _) (by omega), hel', hs]; simp [Result.andThen]
          · rw [run_slice_l (w := w) t A _ _ hu' _ _ (Int.natCast_nonneg _) (by omega), hel', hs]; simp [Result.andThen]
          · rw [run_slice_lh (w := w) t A _ _ hu' _ _ _ _ (Int.natCast_nonneg _) (by omega) (by omega), hel', hs]; simp [Result.andThen]
        obtain ⟨mx, m1, m2, hrun⟩ := hsl
        refine ⟨sliced A l h mx e.size, fun W => ?_, .c _ _ ?_⟩
        · obtain ⟨dst, op2, ty2, pos, after, guard⟩ := o
          simp only at ho
          subst ho
          have := hrun W
          simp only [execOp, Option.map_none, Sem.run_bind, this]
          rfl
        · have hlen : ((els'.take h).drop l).length = h - l := by rw [List.length_drop, List.length_take]; omega
          have hge : ∀ (k : Nat) (cs : List C), ((els'.take h).drop l)[k]? = some cs → els'[l + k]? = some cs := fun k cs e => by
            rw [List.getElem?_drop] at e
            have hlt : l + k < h := by have := (List.getElem?_eq_some_iff.1 e).1; rw [List.length_take] at this; omega
            rw [List.getElem?_take_of_lt hlt] at e
            exact e
          rcases Nat.eq_or_lt_of_le hlh with heq | hlt
          · subst heq
            have e0 : (els'.take l).drop l = [] := List.eq_nil_of_length_eq_zero (by rw [hlen]; omega)
            rw [e0]
            unfold sliced
            rw [Nat.sub_self]
            exact .nl _ _ (by omega)
          · rcases hx with rfl | ⟨b, off, sz, u, rfl, hx1, hx2⟩
            · simp at hhe; omega
            · have hne : ¬ mx = l := by omega
              have hsz : sz = e.size := by
                have e0 := List.getElem?_eq_getElem (show 0 < els'.length by omega)
                rw [← hx1 0 _ e0, hsz0 _ (List.mem_of_getElem? e0)]
              subst hsz
              have := RdC.sl (Z := Z) ((els'.take h).drop l) b (off + l * e.size) e.size (mx - l) (fun k j => u (l + k) j) (by rw [hlen]; omega) (by omega)
                (fun k cs e => hx1 _ _ (hge k cs e))
                (fun k cs j c e ej => by rw [← (hx2 _ _ _ _ (hge k cs e) ej).1, Nat.add_mul]; congr 1; omega)
                (fun k cs j c e ej => (hx2 _ _ _ _ (hge k cs e) ej).2)
              rw [hlen] at this
              unfold sliced
              rw [if_neg hne, Option.map_some, Addr.add_mid]
              exact this
      · cases hq
    · cases hq
  · cases hq
end
end Go.Proofs.Ytconhpilbndpkaa.Vm
namespace Go.Proofs.Ytconhpilbndpkaa.Vm
open Go.RowKit
set_option linter.unusedVariables false

section
variable {ti : TI} {X : Ctx} {z : ZO}
def subsQ (ti : TI) (a : Slots) (o : Oper) : Option (List UInt8 × Option Int × Option Int) := match o.op with
  | .slice t x lo hi none => (match tget ti t with
    | some ty => (match ty.kind, evT a x, optI a lo, optI a hi with
      | .str, .c (.s s), some l, some h => some (s, l, h)
      | _, _, _, _ => none)
    | none => none)
  | _ => none
theorem bs_extract (s : List UInt8) (l h : Nat) : (bs s).extract l h = bs ((s.take h).drop l) := by
  have : bs s = ByteArray.mk s.toArray := rfl
  rw [this, ByteArray.extract_mk, List.drop_take]
  rfl
theorem Val_substr (hti : TIok X.P ti) {o : Oper} {a : Slots} {m : Mem} {s : List UInt8} {lo hi : Option Int} (hq : subsQ ti a o = some (s, lo, hi)) (l h : Nat) (h1 : (lo = none ∧ l = 0) ∨ lo = some (l : Int)) (h2 : (hi = none ∧ h = s.length) ∨ hi = some (h : Int)) (hlh : l ≤ h) (hhe : h ≤ s.length) : Val X a m o (.c (.s ((s.take h).drop l))) := by
  unfold subsQ at hq
  split at hq
  · rename_i t x lo' hi' ho
    split at hq
    · rename_i ty hty
      split at hq
      · rename_i s' l' h' hkd hxe hlo hhi
        injection hq with hq
        injection hq with q1 q2
        injection q2 with q2 q3
        subst q1 q2 q3
        intro Z ρ nx act w H hS
        have hx := evT_rel hS x
        rw [hxe] at hx
        have hv := hx.cI.strI
        have hu := (hti t ty hty).str hkd
        have optV : ∀ (q : Option Operand) (r : Option Int), optI a q = some r → q.map act.eval = r.map fun n => Value.int .i64 n := fun q r hqr => by
          unfold optI at hqr
          split at hqr
          · injection hqr with hqr; subst hqr; rfl
          · rename_i x
            split at hqr
            · rename_i n he
              injection hqr with hqr; subst hqr
              have := evT_rel hS x
              rw [he] at this
              simp [this.cI.intI]
            · cases hqr
        have hl := optV lo' l' hlo
        have hh := optV hi' h' hhi
        have hsize : (bs s').size = s'.length := by simp [bs, ByteArray.size]
        have hrun : ∀ w, (Instr.sliceAt t (act.eval x) (lo'.map act.eval) (hi'.map act.eval) none).run X.P w = .ok (.string ((bs s').extract l h)) w := fun w => by
          rw [hl, hh, hv, run_sliceAt_string (w := w) t _ _ _ _ hu]
          rcases h1 with ⟨rfl, rfl⟩ | rfl <;> rcases h2 with ⟨rfl, rfl⟩ | rfl <;> (try simp only [Option.map_some, Option.map_none])
          · rw [Go.run_slice_string_all (w := w) t _ hu, hsize]
          · rw [run_slice_string_h (w := w) t _ hu _ _ (Int.natCast_nonneg _) (by omega)]; simp
          · rw [run_slice_string_l (w := w) t _ hu _ _ (Int.natCast_nonneg _) (by omega), hsize]; simp
          · rw [run_slice_string (w := w) t _ _ _ _ _ hu (Int.natCast_nonneg _) (by omega) (by omega)]; simp
        refine ⟨.string ((bs s').extract l h), fun W => ?_, .c _ _ (by rw [bs_extract] ; exact .s _)⟩
        obtain ⟨dst, op2, ty2, pos, after, guard⟩ := o
        simp only at ho
        subst ho
        have := hrun W
        simp only [execOp, Option.map_none, Sem.run_bind, this]
        rfl
      · cases hq
    · cases hq
  · cases hq
end
end Go.Proofs.Ytconhpilbndpkaa.Vm
