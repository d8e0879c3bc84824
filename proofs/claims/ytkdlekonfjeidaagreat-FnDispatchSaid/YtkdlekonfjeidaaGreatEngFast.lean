/-
  Operations that are worked out ahead of the run do what the operations do.
-/
import Derived.Test.YtkdlekonfjeidaaGreatEngReg8
namespace Go.Proofs.YtkdlekonfjeidaaGreat.Eng
open Go.RowKit
set_option linter.unusedVariables false

section
variable (P : Program) {call : FuncId → List CV → Hp → Option (CV × Hp)}
theorem ev_gF {β : Type} (x : Operand) (a : Tm) (k : CV → Option β) : ev a x k = match gF x with | .mk g => k (g a) | .bad => none := by
  unfold ev gF
  cases gE x <;> rfl
theorem ev_mk {β : Type} {x : Operand} {g : Tm → CV} (h : gF x = .mk g) (a : Tm) (k : CV → Option β) : ev a x k = k (g a) := by rw [ev_gF, h]
theorem ev_bad {β : Type} {x : Operand} (h : gF x = .bad) (a : Tm) (k : CV → Option β) : ev a x k = none := by rw [ev_gF, h]
theorem bin2_eq (op : BinOp) (t : TypeId) {f : Int → Int → Option CV} (h : binI op = .mk f) (x y : CV) : bin2 f (fun x y => binC0 P op t x y) x y = binC P op t x y := by
  cases x with
  | int k a =>
    cases k <;> first | rfl | skip
    cases y with
    | int k' b =>
      cases k' <;> first | rfl | skip
      show f a b = (BW.rec (motive := fun _ => Int → Int → Option CV) (fun f a b => f a b) (binI op) a b : Option CV)
      rw [h]
    | _ => rfl
  | _ => rfl
theorem opX_eq (o : Op) : opX P o = opW P o := by
  unfold opX
  split
  · rename_i x
    split
    · rename_i g hg
      show OW.pure _ = OW.pure _
      congr 1; funext a; rw [ev_mk hg]
    · rfl
  · rename_i x
    split
    · rename_i g hg
      show OW.pure _ = OW.pure _
      congr 1; funext a; rw [ev_mk hg]
    · rfl
  · rename_i c x y
    split
    · rename_i gc gx gy hc hx hy
      show OW.pure _ = OW.pure _
      congr 1; funext a; rw [ev_mk hc, ev_mk hx, ev_mk hy]
    · rfl
  · rename_i t x
    split
    · rename_i g hg
      show OW.read _ = OW.read _
      congr 1; funext a h; rw [ev_mk hg]
    · rfl
  · rename_i x
    split
    · rename_i g hg
      show OW.pure _ = OW.pure _
      congr 1; funext a; rw [ev_mk hg]
    · rfl
  · rename_i op t x y u
    split
    · rename_i gx gy f hx hy hf
      show OW.pure _ = OW.pure _
      congr 1; funext a; rw [ev_mk hx, ev_mk hy, bin2_eq P op t hf]
    · rfl
  · rename_i op t x
    split
    · rename_i g hg
      show OW.pure _ = OW.pure _
      congr 1; funext a; rw [ev_mk hg]
    · rfl
  · rename_i s x f
    split
    · rename_i g hg
      show OW.pure _ = OW.pure _
      congr 1; funext a; rw [ev_mk hg]
    · rfl
  · rename_i t x i
    split
    · rename_i gx gi hx hi
      show OW.pure _ = OW.pure _
      congr 1; funext a; rw [ev_mk hx, ev_mk hi]
    · rfl
  · rename_i t x i
    split
    · rename_i gx gi hx hi
      show OW.pure _ = OW.pure _
      congr 1; funext a; rw [ev_mk hx, ev_mk hi]
    · rfl
  · rfl
theorem stW_eq {dst : Option Tmp} {st : CV → Tm → Hp → KTH → Option (Tm × Hp)} (h : stW dst = .mk st) (v : CV) (a : Tm) (hh : Hp) (k : KTH) : st v a hh k = putK dst a v fun a => k a hh := by
  cases dst with
  | none => injection h with h; subst h; rfl
  | some d =>
    rw [putK_eq, putC_some]
    have h1 := TM.setM_eq a d v fun a => k a hh
    rw [← h1]
    unfold stW at h
    simp only at h
    unfold TM.setM
    cases hv : TMV.at d with
    | mk s =>
      rw [hv] at h
      injection h with h
      subst h
      rfl
theorem bodyW_eq {o : Oper} {f : Call1 → Tm → Hp → KTH → Option (Tm × Hp)} (h : bodyW P o = .mk f) (a : Tm) (hh : Hp) (k : KTH) : f call a hh k = opRun P call o.op a hh fun v h => putK o.dst a v fun a => k a h := by
  unfold bodyW at h
  cases hs : stW o.dst with
  | mk st =>
    have hst := fun v a hh k => stW_eq hs v a hh k
    rw [hs] at h
    simp only at h
    unfold opRun
    split at h
    · rename_i x hx
      rw [hx]
      show f call a hh k = oc (ev a x some) none fun v => putK o.dst a v fun a => k a hh
      split at h
      · rename_i g hg
        injection h with h; subst h
        rw [ev_mk hg]; exact hst _ _ _ _
      · rename_i hg
        injection h with h; subst h
        rw [ev_bad hg]; rfl
    · rename_i x hx
      rw [hx]
      show f call a hh k = oc (ev a x some) none fun v => putK o.dst a v fun a => k a hh
      split at h
      · rename_i g hg
        injection h with h; subst h
        rw [ev_mk hg]; exact hst _ _ _ _
      · rename_i hg
        injection h with h; subst h
        rw [ev_bad hg]; rfl
    · rw [opX_eq] at h
      split at h
      · rename_i g hg
        rw [hg]
        injection h with h; subst h
        show oc (g a) none (fun v => st v a hh k) = oc (g a) none fun v => putK o.dst a v fun a => k a hh
        simp only [hst]
      · rename_i g hg
        rw [hg]
        injection h with h; subst h
        show oc (g a hh) none (fun v => st v a hh k) = oc (g a hh) none fun v => putK o.dst a v fun a => k a hh
        simp only [hst]
      · rename_i g hg
        rw [hg]
        injection h with h; subst h
        show oc (g a) none (fun n => newN hh n fun v h => st v a h k) = oc (g a) none fun n => newN hh n fun v h => putK o.dst a v fun a => k a h
        simp only [hst]
      · rename_i g hg
        rw [hg]
        injection h with h; subst h
        show oc (g a hh) none (fun p => pc p fun v h => st v a h k) = oc (g a hh) none fun p => pc p fun v h => putK o.dst a v fun a => k a h
        simp only [hst]
      · rename_i g hg
        rw [hg]
        injection h with h; subst h
        show oc (g a) none (fun p => oc (call p.1 p.2 hh) none fun p => pc p fun v h => st v a h k) = oc (g a) none fun p => oc (call p.1 p.2 hh) none fun p => pc p fun v h => putK o.dst a v fun a => k a h
        simp only [hst]
theorem isBM_eq (want : Bool) (v : CV) (t f : RTH) : isBM want v t f = isBK want v t f := rfl
theorem stepW_eq {ops : Array Oper} {o : Oper} {f : Call1 → Tm → Hp → KTH → Option (Tm × Hp)} (h : stepW P ops o = .mk f) (a : Tm) (hh : Hp) (k : KTH) : f call a hh k = stepO P call ops o a hh k := by
  unfold stepW at h
  unfold stepO wantK
  cases hg : guardW ops o.guard with
  | none =>
    rw [hg] at h
    exact bodyW_eq P h a hh k
  | some d want =>
    rw [hg] at h
    simp only at h
    obtain ⟨g, s, e, _, _⟩ := TMW_at d
    have e2 : TM.get a d = g a := by unfold TM.get; rw [e]
    cases hb : bodyW P o with
    | mk fb =>
      cases hs : stW o.dst with
      | mk st =>
        rw [e, hb, hs] at h
        injection h with h
        subst h
        show isBM want (g a) (fb call a hh k) (st undefC a hh k) = isBK want (TM.get a d) _ _
        rw [isBM_eq, e2, bodyW_eq P hb, stW_eq hs]
  | never =>
    rw [hg] at h
    simp only at h
    cases hs : stW o.dst with
    | mk st =>
      rw [hs] at h
      injection h with h
      subst h
      exact stW_eq hs undefC a hh k
theorem runW_eq (ops : Array Oper) : ∀ (l : List Oper) (a : Tm) (h : Hp), runW (stepsW P ops l) call a h = opsR P call ops l a h := by
  intro l
  induction l with
  | nil => intro a h; rfl
  | cons o l ih =>
    intro a h
    cases hw : stepW P ops o with
    | mk f =>
      have h1 : runW (stepsW P ops (o :: l)) call a h = f call a h (runW (stepsW P ops l) call) := by
        show PF.rec (motive := fun _ => Call1 → Tm → Hp → KTH → Option (Tm × Hp)) (fun f call a h k => f call a h k) (stepW P ops o) call a h (runW (stepsW P ops l) call) = _
        rw [hw]
      rw [h1, stepW_eq P hw]
      show stepO P call ops o a h (runW (stepsW P ops l) call) = stepO P call ops o a h (opsR P call ops l)
      have : runW (stepsW P ops l) call = opsR P call ops l := by funext a h; exact ih a h
      rw [this]
theorem opsF_eq (ops : Array Oper) (a : Tm) (h : Hp) : opsF P call ops a h = opsR P call ops ops.toList a h := runW_eq P ops ops.toList a h
end
end Go.Proofs.YtkdlekonfjeidaaGreat.Eng
