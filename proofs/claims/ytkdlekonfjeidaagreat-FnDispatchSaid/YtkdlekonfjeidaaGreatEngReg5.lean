/-
  The machine's run of a region that draws its order, step by step.
-/
import Derived.Test.YtkdlekonfjeidaaGreatEngReg4
namespace Go.Proofs.YtkdlekonfjeidaaGreat.Eng
open Go.RowKit
set_option linter.unusedVariables false

theorem same1_eq {a b : CV} (h : same1 a b = true) : a = b := by
  unfold same1 at h
  split at h <;> (try simp only [Bool.and_eq_true, beq_iff_eq, decide_eq_true_eq] at h)
  · rw [h]
  · rw [ieq_eq] at h; rw [h.1, of_decide_eq_true h.2]
  · rw [leqN_iff] at h; rw [h]
  · rfl
  · rw [Nat.eq_of_beq_eq_true h.1, Nat.eq_of_beq_eq_true h.2]
  · rfl
  · obtain ⟨⟨⟨h1, h2⟩, h3⟩, h4⟩ := h
    rw [Nat.eq_of_beq_eq_true h1, Nat.eq_of_beq_eq_true h2, Nat.eq_of_beq_eq_true h3, Nat.eq_of_beq_eq_true h4]
  · rfl
  · rw [Nat.eq_of_beq_eq_true h]
  · rfl
  · cases h
theorem allSame_eq : ∀ (l m : List CV), allSame l m = true → l = m := by
  intro l
  induction l with
  | nil => intro m h; cases m with
    | nil => rfl
    | cons b m => cases h
  | cons a l ih =>
    intro m h
    cases m with
    | nil => cases h
    | cons b m =>
      have h' : bc (same1 a b) (allSame l m) false = true := h
      cases hs : same1 a b with
      | false => rw [hs] at h'; cases h'
      | true => rw [hs, bc_true] at h'; rw [same1_eq hs, ih m h']
theorem sameV_eq {a b : CV} (h : sameV a b = true) : a = b := by
  unfold sameV at h
  split at h
  · rw [allSame_eq _ _ h]
  · rw [allSame_eq _ _ h]
  · exact same1_eq h
theorem valIs_some {v : CV} {r : Option CV} (h : valIs v r = true) : r = some v := by
  cases r with
  | none => cases h
  | some u => rw [sameV_eq (show sameV v u = true from h)]

inductive Rec where
  | val (v : CV)
  | rd (f : Tm → Hp → Option CV) (v : CV)
  | nw (id : Nat) (n : NW)
  | ef (v : CV) (hin hout : Hp)
noncomputable def Rec.v : Rec → CV
  | .val v => v
  | .rd _ v => v
  | .nw id n => n.val id
  | .ef v _ _ => v
noncomputable def wantB (ops : Array Oper) (a : Tm) (o : Oper) : Option Bool := wantK ops a o (some true) (some false)
theorem wantK_B {β : Type} {ops : Array Oper} {a : Tm} {o : Oper} {t f : Option β} {r : β} (h : wantK ops a o t f = some r) : (wantB ops a o = some true ∧ t = some r) ∨ (wantB ops a o = some false ∧ f = some r) := by
  unfold wantB
  unfold wantK at h ⊢
  cases hgw : guardW ops o.guard with
  | none => rw [hgw] at h; exact .inl ⟨rfl, h⟩
  | never => rw [hgw] at h; exact .inr ⟨rfl, h⟩
  | some d want =>
    rw [hgw] at h
    have h' : isBK want (TM.get a d) t f = some r := h
    show (isBK want (TM.get a d) (some true) (some false) = some true ∧ _) ∨ (isBK want (TM.get a d) (some true) (some false) = some false ∧ _)
    generalize TM.get a d = c at h' ⊢
    cases c with
    | any => cases h'
    | bool b => cases b <;> cases want <;> first | exact .inl ⟨rfl, h'⟩ | exact .inr ⟨rfl, h'⟩
    | _ => exact .inr ⟨rfl, h'⟩

section
variable (P : Program) (call : FuncId → List CV → Hp → Option (CV × Hp))
def DStp (ops : Array Oper) (o : Oper) (b j : Nat) (a : Tm) (s : DS) (a' : Tm) (s' : DS) (T : Rec) : Prop := a' = putC a o.dst T.v ∧ match T with
  | .val v => s' = s ∧ ((wantB ops a o = some false ∧ v = undefC) ∨ (wantB ops a o = some true ∧ ∃ f, opW P o.op = .pure f ∧ f a = some v))
  | .rd f v => wantB ops a o = some true ∧ opW P o.op = .read f ∧ f a (mergeB b s.pend s.h) = some v ∧ okSnaps b (f a) v s.pend s.snaps = true ∧ s' = ⟨s.h, s.pend, s.snaps, (j, b, f a, v) :: s.lds⟩
  | .nw id n => wantB ops a o = some true ∧ (∃ f, opW P o.op = .new f ∧ f a = some n) ∧ id = s.h.next ∧ id < 32768 ∧ s' = ⟨s.h.setN (id + 1), (j, id, n) :: s.pend, s.snaps, s.lds⟩
  | .ef v hin hout => wantB ops a o = some true ∧ okEffs b s.snaps = true ∧ hin = mergeB b s.pend s.h ∧ effRun call (opW P o.op) a hin = some (v, hout) ∧ okLds b hout (leave b s.pend) s.lds = true ∧ s' = ⟨hout, leave b s.pend, (j, s.h, s.pend) :: s.snaps, s.lds⟩
end
section
variable {P : Program} {call : FuncId → List CV → Hp → Option (CV × Hp)}
theorem forceH_eq {β : Type} (h : Hp) (k : Hp → β) : forceH h k = k h := by cases h; rfl
theorem drawAct_inv {β : Type} {b j : Nat} {s : DS} {f : Hp → Option (CV × Hp)} {k : CV → DS → Option β} {r : β} (h : drawAct b j s f k = some r) : okEffs b s.snaps = true ∧ ∃ v hout, f (mergeB b s.pend s.h) = some (v, hout) ∧ okLds b hout (leave b s.pend) s.lds = true ∧ k v ⟨hout, leave b s.pend, (j, s.h, s.pend) :: s.snaps, s.lds⟩ = some r := by
  obtain ⟨h1, h2⟩ := bc_inv h
  rw [forceH_eq] at h2
  obtain ⟨p, h3, h4⟩ := oc_inv h2
  obtain ⟨h5, h6⟩ := bc_inv (show bc (okLds b p.2 (leave b s.pend) s.lds) (k p.1 ⟨p.2, leave b s.pend, (j, s.h, s.pend) :: s.snaps, s.lds⟩) none = some r from h4)
  exact ⟨h1, p.1, p.2, h3, h5, h6⟩
theorem drawStep_inv {β : Type} {ops : Array Oper} {o : Oper} {b j : Nat} {a : Tm} {s : DS} {k : Tm → DS → Option β} {r : β} (h : drawStep P call ops o b j a s k = some r) : ∃ a' s' T, DStp P call ops o b j a s a' s' T ∧ k a' s' = some r := by
  rcases wantK_B h with ⟨hw, h1⟩ | ⟨hw, h1⟩
  · unfold drawOp at h1
    cases ho : opW P o.op with
    | pure f =>
      rw [ho] at h1
      obtain ⟨v, h2, h3⟩ := oc_inv (show oc (f a) none (fun v => putK o.dst a v fun a => k a s) = some r from h1)
      rw [putK_eq] at h3
      exact ⟨_, s, .val v, ⟨rfl, rfl, .inr ⟨hw, f, ho, h2⟩⟩, h3⟩
    | read f =>
      rw [ho] at h1
      obtain ⟨v, h2, h3⟩ := oc_inv (show oc (f a (mergeB b s.pend s.h)) none (fun v => bc (okSnaps b (f a) v s.pend s.snaps) (putK o.dst a v fun a' => k a' ⟨s.h, s.pend, s.snaps, (j, b, f a, v) :: s.lds⟩) none) = some r from h1)
      obtain ⟨h4, h5⟩ := bc_inv h3
      rw [putK_eq] at h5
      exact ⟨_, _, .rd f v, ⟨rfl, hw, ho, h2, h4, rfl⟩, h5⟩
    | new f =>
      rw [ho] at h1
      obtain ⟨n, h2, h3⟩ := oc_inv (show oc (f a) none (fun n => drawNew j s n fun v s => putK o.dst a v fun a => k a s) = some r from h1)
      unfold drawNew at h3
      rw [force_eq] at h3
      obtain ⟨h4, h5⟩ := bc_inv h3
      simp only [putK_eq] at h5
      exact ⟨_, _, .nw s.h.next n, ⟨rfl, hw, ⟨f, ho, h2⟩, rfl, Nat.lt_succ_of_le (Nat.le_of_ble_eq_true h4), rfl⟩, h5⟩
    | act f =>
      rw [ho] at h1
      obtain ⟨h2, v, hout, h3, h4, h5⟩ := drawAct_inv (show drawAct b j s (f a) (fun v s => putK o.dst a v fun a => k a s) = some r from h1)
      rw [putK_eq] at h5
      exact ⟨_, _, .ef v _ hout, ⟨rfl, hw, h2, rfl, by rw [ho]; exact h3, h4, rfl⟩, h5⟩
    | call f =>
      rw [ho] at h1
      obtain ⟨p, h2, h3⟩ := oc_inv (show oc (f a) none (fun p => drawAct b j s (call p.1 p.2) fun v s => putK o.dst a v fun a => k a s) = some r from h1)
      obtain ⟨h4, v, hout, h5, h6, h7⟩ := drawAct_inv h3
      rw [putK_eq] at h7
      refine ⟨_, _, .ef v _ hout, ⟨rfl, hw, h4, rfl, ?_, h6, rfl⟩, h7⟩
      rw [ho]
      show (match f a with | some p => call p.1 p.2 (mergeB b s.pend s.h) | none => none) = _
      rw [h2]
      exact h5
  · rw [putK_eq] at h1
    exact ⟨_, s, .val undefC, ⟨rfl, rfl, .inl ⟨hw, rfl⟩⟩, h1⟩
theorem drawR_chain (ops : Array Oper) : ∀ (l : List Oper) (bl : List Nat) (j : Nat) (a : Tm) (s : DS) (r : Tm × Hp), drawR P call ops l bl j a s = some r →
    ∃ (A : Nat → Tm) (D : Nat → DS) (T : Nat → Rec), A 0 = a ∧ D 0 = s ∧ (∀ i o, l[i]? = some o → ∃ b, bl[i]? = some b ∧ DStp P call ops o b (j + i) (A i) (D i) (A (i + 1)) (D (i + 1)) (T i)) ∧ r = (A l.length, mergeA (D l.length).pend (D l.length).h) := by
  intro l
  induction l with
  | nil =>
    intro bl j a s r h
    injection h with h
    exact ⟨fun _ => a, fun _ => s, fun _ => .val undefC, rfl, rfl, fun i o hi => by simp at hi, h.symm⟩
  | cons o l ih =>
    intro bl j a s r h
    cases bl with
    | nil => cases h
    | cons b bl =>
      obtain ⟨a', s', T0, h1, h2⟩ := drawStep_inv (show drawStep P call ops o b j a s (fun a s => drawR P call ops l bl (Nat.succ j) a s) = some r from h)
      obtain ⟨A, D, T, k1, k2, k3, k4⟩ := ih bl (j + 1) a' s' r h2
      refine ⟨fun i => match i with | 0 => a | i + 1 => A i, fun i => match i with | 0 => s | i + 1 => D i, fun i => match i with | 0 => T0 | i + 1 => T i, rfl, rfl, fun i o' hi => ?_, k4⟩
      cases i with
      | zero =>
        simp at hi
        subst hi
        refine ⟨b, rfl, ?_⟩
        show DStp P call ops o b j a s (A 0) (D 0) T0
        rw [k1, k2]
        exact h1
      | succ i =>
        obtain ⟨b', g1, g2⟩ := k3 i o' (by simpa using hi)
        refine ⟨b', by simpa using g1, ?_⟩
        rw [show j + (i + 1) = j + 1 + i by omega]
        exact g2
end

/-! ### The whole run -/
structure Trace (P : Program) (call : FuncId → List CV → Hp → Option (CV × Hp)) (ops : Array Oper) (A : Nat → Tm) (D : Nat → DS) (T : Nat → Rec) (h0 : Hp) : Prop where
  ok : RegOk ops
  g1 : lall (guard1 ops) ops.toList = true
  init : D 0 = ⟨h0, [], [], []⟩
  step : ∀ j o, ops[j]? = some o → DStp P call ops o (bm ops j) j (A j) (D j) (A (j + 1)) (D (j + 1)) (T j)
section
variable {P : Program} {call : FuncId → List CV → Hp → Option (CV × Hp)} {ops : Array Oper} {A : Nat → Tm} {D : Nat → DS} {T : Nat → Rec} {h0 : Hp}
def isEf (ops : Array Oper) (T : Nat → Rec) (j : Nat) : Prop := j < ops.size ∧ ∃ v hin hout, T j = .ef v hin hout
/-- merged by an effect before j -/
def mu (ops : Array Oper) (T : Nat → Rec) (j i : Nat) : Prop := ∃ k, k < j ∧ isEf ops T k ∧ bit ops k i
theorem op_at {j : Nat} (hj : j < ops.size) : ∃ o, ops[j]? = some o := ⟨_, Array.getElem?_eq_getElem hj⟩

theorem Trace.stepAt (t : Trace P call ops A D T h0) {j : Nat} (hj : j < ops.size) : ∃ o, ops[j]? = some o ∧ DStp P call ops o (bm ops j) j (A j) (D j) (A (j + 1)) (D (j + 1)) (T j) := by
  obtain ⟨o, ho⟩ := op_at hj
  exact ⟨o, ho, t.step j o ho⟩
theorem mem_leave (b : Nat) (l : Pend) (p : Nat × Nat × NW) : p ∈ leave b l ↔ p ∈ l ∧ Nat.testBit b p.1 = false := by
  induction l with
  | nil => simp [leave]
  | cons q l ih =>
    have hc : leave b (q :: l) = bc (Nat.testBit b q.1) (leave b l) (consS q (leave b l)) := rfl
    rw [hc]
    cases hb : Nat.testBit b q.1 with
    | true =>
      rw [bc_true, ih]
      constructor
      · rintro ⟨h1, h2⟩; exact ⟨by simp [h1], h2⟩
      · rintro ⟨h1, h2⟩
        rcases List.mem_cons.1 h1 with rfl | h1
        · rw [hb] at h2; cases h2
        · exact ⟨h1, h2⟩
    | false =>
      rw [bc_false, consS_eq, List.mem_cons, ih, List.mem_cons]
      constructor
      · rintro (rfl | ⟨h1, h2⟩)
        · exact ⟨.inl rfl, hb⟩
        · exact ⟨.inr h1, h2⟩
      · rintro ⟨rfl | h1, h2⟩
        · exact .inl rfl
        · exact .inr ⟨h1, h2⟩
theorem mu_succ {j i : Nat} : mu ops T (j + 1) i ↔ mu ops T j i ∨ (isEf ops T j ∧ bit ops j i) := by
  constructor
  · rintro ⟨k, h1, h2, h3⟩
    by_cases e : k = j
    · subst e; exact .inr ⟨h2, h3⟩
    · exact .inl ⟨k, by omega, h2, h3⟩
  · rintro (⟨k, h1, h2, h3⟩ | ⟨h1, h2⟩)
    · exact ⟨k, by omega, h2, h3⟩
    · exact ⟨j, by omega, h1, h2⟩
theorem Trace.pend (t : Trace P call ops A D T h0) : ∀ j, j ≤ ops.size → ∀ i id n, (i, id, n) ∈ (D j).pend ↔ i < j ∧ T i = .nw id n ∧ ¬ mu ops T j i := by
  intro j
  induction j with
  | zero => intro _ i id n; rw [t.init]; simp
  | succ j ih =>
    intro hj i id n
    have ih' := ih (by omega)
    obtain ⟨o, ho, hs⟩ := t.stepAt (show j < ops.size by omega)
    have notEf : ∀ {x : Rec}, T j = x → (∀ v a b, x ≠ .ef v a b) → ¬ isEf ops T j := fun hx hne ⟨_, v, a, b, h⟩ => hne v a b (by rw [← hx, h])
    cases hT : T j with
    | val v =>
      rw [hT] at hs
      rw [hs.2.1, ih' i id n, mu_succ]
      have := notEf hT (fun _ _ _ h => by cases h)
      constructor
      · rintro ⟨h1, h2, h3⟩; exact ⟨by omega, h2, fun h => h.elim h3 (fun h => this h.1)⟩
      · rintro ⟨h1, h2, h3⟩
        have : i ≠ j := fun e => by subst e; rw [hT] at h2; cases h2
        exact ⟨by omega, h2, fun h => h3 (.inl h)⟩
    | rd f v =>
      rw [hT] at hs
      rw [hs.2.2.2.2.2]
      rw [ih' i id n, mu_succ]
      have := notEf hT (fun _ _ _ h => by cases h)
      constructor
      · rintro ⟨h1, h2, h3⟩; exact ⟨by omega, h2, fun h => h.elim h3 (fun h => this h.1)⟩
      · rintro ⟨h1, h2, h3⟩
        have : i ≠ j := fun e => by subst e; rw [hT] at h2; cases h2
        exact ⟨by omega, h2, fun h => h3 (.inl h)⟩
    | nw id' n' =>
      rw [hT] at hs
      rw [hs.2.2.2.2.2]
      rw [List.mem_cons, ih' i id n, mu_succ]
      have hne := notEf hT (fun _ _ _ h => by cases h)
      constructor
      · rintro (h | ⟨h1, h2, h3⟩)
        · injection h with e1 e2
          injection e2 with e2 e3
          subst e1 e2 e3
          refine ⟨by omega, hT, fun h => ?_⟩
          rcases h with ⟨k, k1, k2, k3⟩ | ⟨h, _⟩
          · have := t.ok.lt k i k3; omega
          · exact hne h
        · exact ⟨by omega, h2, fun h => h.elim h3 (fun h => hne h.1)⟩
      · rintro ⟨h1, h2, h3⟩
        by_cases e : i = j
        · subst e
          rw [hT] at h2
          injection h2 with e1 e2
          subst e1 e2
          exact .inl rfl
        · exact .inr ⟨by omega, h2, fun h => h3 (.inl h)⟩
    | ef v hin hout =>
      rw [hT] at hs
      rw [hs.2.2.2.2.2.2]
      show (i, id, n) ∈ leave (bm ops j) (D j).pend ↔ _
      rw [mem_leave, ih' i id n, mu_succ]
      have hE : isEf ops T j := ⟨by omega, v, hin, hout, hT⟩
      constructor
      · rintro ⟨⟨h1, h2, h3⟩, h4⟩
        refine ⟨by omega, h2, fun h => h.elim h3 (fun h => ?_)⟩
        have := h.2
        unfold bit at this
        rw [this] at h4
        cases h4
      · rintro ⟨h1, h2, h3⟩
        have : i ≠ j := fun e => by subst e; rw [hT] at h2; cases h2
        refine ⟨⟨by omega, h2, fun h => h3 (.inl h)⟩, ?_⟩
        cases hb : Nat.testBit (bm ops j) i with
        | false => rfl
        | true => exact absurd (.inr ⟨hE, hb⟩) h3
theorem lt_of {k j : Nat} (hE : isEf ops T k) (hk : k < j + 1) {x : Rec} (hT : T j = x) (hx : ∀ v a b, x ≠ .ef v a b) : k < j := by
  rcases Nat.lt_or_ge k j with h | h
  · exact h
  · have e : k = j := by omega
    subst e
    obtain ⟨_, v, a, b, h2⟩ := hE
    exact absurd (by rw [← hT, h2]) (hx v a b)
theorem Trace.snaps (t : Trace P call ops A D T h0) : ∀ j, j ≤ ops.size → ∀ k, k < j → isEf ops T k → (k, (D k).h, (D k).pend) ∈ (D j).snaps := by
  intro j
  induction j with
  | zero => intro _ k hk; omega
  | succ j ih =>
    intro hj k hk hE
    obtain ⟨o, ho, hs⟩ := t.stepAt (show j < ops.size by omega)
    have old : k < j → (k, (D k).h, (D k).pend) ∈ (D j).snaps := fun h => ih (by omega) k h hE
    cases hT : T j with
    | val v => rw [hT] at hs; rw [hs.2.1]; exact old (lt_of hE hk hT (fun _ _ _ h => by cases h))
    | rd f v => rw [hT] at hs; rw [hs.2.2.2.2.2]; exact old (lt_of hE hk hT (fun _ _ _ h => by cases h))
    | nw id n => rw [hT] at hs; rw [hs.2.2.2.2.2]; exact old (lt_of hE hk hT (fun _ _ _ h => by cases h))
    | ef v hin hout =>
      rw [hT] at hs
      rw [hs.2.2.2.2.2.2]
      by_cases e : k = j
      · subst e; exact List.mem_cons_self ..
      · exact List.mem_cons_of_mem _ (old (by omega))
theorem Trace.lds (t : Trace P call ops A D T h0) : ∀ j, j ≤ ops.size → ∀ k f v, k < j → T k = .rd f v → (k, bm ops k, f (A k), v) ∈ (D j).lds := by
  intro j
  induction j with
  | zero => intro _ k f v hk; omega
  | succ j ih =>
    intro hj k f v hk hR
    obtain ⟨o, ho, hs⟩ := t.stepAt (show j < ops.size by omega)
    have old : k ≠ j → (k, bm ops k, f (A k), v) ∈ (D j).lds := fun h => ih (by omega) k f v (by omega) hR
    cases hT : T j with
    | val v' => rw [hT] at hs; rw [hs.2.1]; exact old (fun e => by subst e; rw [hT] at hR; cases hR)
    | nw id n => rw [hT] at hs; rw [hs.2.2.2.2.2]; exact old (fun e => by subst e; rw [hT] at hR; cases hR)
    | ef v' hin hout => rw [hT] at hs; rw [hs.2.2.2.2.2.2]; exact old (fun e => by subst e; rw [hT] at hR; cases hR)
    | rd f' v' =>
      rw [hT] at hs
      rw [hs.2.2.2.2.2]
      by_cases e : k = j
      · subst e
        rw [hT] at hR
        injection hR with e1 e2
        subst e1 e2
        exact List.mem_cons_self ..
      · exact List.mem_cons_of_mem _ (old e)
/-- no effect: the memory is the same -/
theorem Trace.same (t : Trace P call ops A D T h0) : ∀ j i, i ≤ j → j ≤ ops.size → (∀ k, i ≤ k → k < j → ¬ isEf ops T k) → HEq2 (D i).h (D j).h := by
  intro j
  induction j with
  | zero => intro i hi _ _; have : i = 0 := by omega
            subst this; exact HEq2.refl _
  | succ j ih =>
    intro i hi hj hno
    by_cases e : i = j + 1
    · subst e; exact HEq2.refl _
    · refine (ih i (by omega) (by omega) (fun k h1 h2 => hno k h1 (by omega))).trans ?_
      obtain ⟨o, ho, hs⟩ := t.stepAt (show j < ops.size by omega)
      cases hT : T j with
      | val v => rw [hT] at hs; rw [hs.2.1]; exact HEq2.refl _
      | rd f v => rw [hT] at hs; rw [hs.2.2.2.2.2]; exact HEq2.refl _
      | nw id n => rw [hT] at hs; rw [hs.2.2.2.2.2]; exact ⟨fun _ _ => rfl, fun _ _ => rfl⟩
      | ef v hin hout => exact absurd ⟨by omega, v, hin, hout, hT⟩ (hno j (by omega) (by omega))
theorem mergeB_next (b : Nat) (l : Pend) (h : Hp) : (mergeB b l h).next = h.next := by
  induction l with
  | nil => rfl
  | cons p l ih =>
    have hc : mergeB b (p :: l) h = bc (Nat.testBit b p.1) (addN (mergeB b l h) p.2.1 p.2.2) (mergeB b l h) := rfl
    rw [hc]
    cases Nat.testBit b p.1 with
    | true => rw [bc_true, addN_next, ih]
    | false => exact ih
/-- numbers of blocks -/
theorem Trace.next (t : Trace P call ops A D T h0) (hC : CallOk P call) {j : Nat} (hj : j < ops.size) : (D j).h.next ≤ (D (j + 1)).h.next ∧ (∀ id n, T j = .nw id n → id = (D j).h.next ∧ id < 32768 ∧ (D (j + 1)).h.next = id + 1) ∧ (∀ v hin hout, T j = .ef v hin hout → hin.next = (D j).h.next ∧ hout = (D (j + 1)).h) := by
  obtain ⟨o, ho, hs⟩ := t.stepAt hj
  cases hT : T j with
  | val v => rw [hT] at hs; rw [hs.2.1]; exact ⟨Nat.le_refl _, (fun _ _ h => by cases h), (fun _ _ _ h => by cases h)⟩
  | rd f v => rw [hT] at hs; rw [hs.2.2.2.2.2]; exact ⟨Nat.le_refl _, (fun _ _ h => by cases h), (fun _ _ _ h => by cases h)⟩
  | nw id n =>
    rw [hT] at hs
    obtain ⟨_, _, _, h1, h2, h3⟩ := hs
    rw [h3]
    have hx : ((D j).h.setN (id + 1)).next = id + 1 := rfl
    refine ⟨by show _ ≤ ((D j).h.setN (id + 1)).next; rw [hx]; omega, fun id' n' h => ?_, (fun _ _ _ h => by cases h)⟩
    injection h with e1 e2
    subst e1
    exact ⟨h1, h2, hx⟩
  | ef v hin hout =>
    rw [hT] at hs
    obtain ⟨_, _, _, h1, h2, h3, h4⟩ := hs
    rw [h4]
    have := eff_grows hC o h2
    rw [h1, mergeB_next] at this
    refine ⟨this, (fun _ _ h => by cases h), fun v' a b h => ?_⟩
    injection h with e1 e2 e3
    subst e2 e3
    exact ⟨by rw [h1, mergeB_next], rfl⟩
theorem Trace.mono (t : Trace P call ops A D T h0) (hC : CallOk P call) : ∀ j i, i ≤ j → j ≤ ops.size → (D i).h.next ≤ (D j).h.next := by
  intro j
  induction j with
  | zero => intro i hi _; have : i = 0 := by omega
            subst this; exact Nat.le_refl _
  | succ j ih =>
    intro i hi hj
    by_cases e : i = j + 1
    · subst e; exact Nat.le_refl _
    · exact Nat.le_trans (ih i (by omega) (by omega)) (t.next hC (show j < ops.size by omega)).1
end
end Go.Proofs.YtkdlekonfjeidaaGreat.Eng
