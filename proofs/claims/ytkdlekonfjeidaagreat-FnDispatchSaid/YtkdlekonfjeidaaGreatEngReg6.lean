/-
  A region that draws its order: what holds in between.
-/
import Derived.Test.YtkdlekonfjeidaaGreatEngReg5
namespace Go.Proofs.YtkdlekonfjeidaaGreat.Eng
open Go.RowKit
set_option linter.unusedVariables false

theorem exists_least {p : Nat → Prop} : ∀ k, p k → ∃ m, m ≤ k ∧ p m ∧ ∀ i, i < m → ¬ p i := by
  intro k
  induction k using Nat.strongRecOn with
  | _ k ih =>
    intro hk
    by_cases h : ∃ i, i < k ∧ p i
    · obtain ⟨i, h1, h2⟩ := h
      obtain ⟨m, h3, h4, h5⟩ := ih i h1 h2
      exact ⟨m, by omega, h4, h5⟩
    · exact ⟨k, Nat.le_refl _, hk, fun i h1 h2 => h ⟨i, h1, h2⟩⟩
theorem exists_last {p : Nat → Prop} : ∀ n k, k < n → p k → ∃ m, m < n ∧ k ≤ m ∧ p m ∧ ∀ i, m < i → i < n → ¬ p i := by
  intro n
  induction n with
  | zero => intro k h; omega
  | succ n ih =>
    intro k hk hp
    by_cases h : p n
    · exact ⟨n, by omega, by omega, h, fun i h1 h2 => by omega⟩
    · have hkn : k < n := by
        rcases Nat.lt_or_ge k n with h' | h'
        · exact h'
        · have : k = n := by omega
          subst this; exact absurd hp h
      obtain ⟨m, h1, h2, h3, h4⟩ := ih k hkn hp
      refine ⟨m, by omega, h2, h3, fun i h5 h6 => ?_⟩
      by_cases e : i = n
      · subst e; exact h
      · exact h4 i h5 (by omega)

/-- what a mask selects -/
noncomputable def sel (b : Nat) (l : Pend) : List (Nat × NW) := (l.filter fun p => Nat.testBit b p.1).map (·.2)
theorem mergeB_lay (b : Nat) (l : Pend) (h : Hp) : mergeB b l h = lay (sel b l) h := by
  induction l with
  | nil => rfl
  | cons p l ih =>
    have hc : mergeB b (p :: l) h = bc (Nat.testBit b p.1) (addN (mergeB b l h) p.2.1 p.2.2) (mergeB b l h) := rfl
    rw [hc]
    unfold sel
    rw [List.filter_cons]
    cases hb : Nat.testBit b p.1 with
    | true => rw [bc_true, if_pos rfl, List.map_cons, lay_cons, ih]; rfl
    | false => rw [bc_false, if_neg (by simp)]; exact ih
theorem mergeA_lay (l : Pend) (h : Hp) : mergeA l h = lay (l.map (·.2)) h := by
  induction l with
  | nil => rfl
  | cons p l ih =>
    have hc : mergeA (p :: l) h = addN (mergeA l h) p.2.1 p.2.2 := rfl
    rw [hc, ih]
    rfl
theorem mem_sel {b : Nat} {l : Pend} {p : Nat × NW} (h : p ∈ sel b l) : ∃ i, (i, p.1, p.2) ∈ l ∧ Nat.testBit b i = true := by
  obtain ⟨q, h1, rfl⟩ := List.mem_map.1 h
  obtain ⟨h2, h3⟩ := List.mem_filter.1 h1
  exact ⟨q.1, h2, h3⟩
theorem lay_append (X Y : List (Nat × NW)) (h : Hp) : lay (X ++ Y) h = lay X (lay Y h) := by
  unfold lay
  rw [List.foldr_append]

section
variable {P : Program} {call : FuncId → List CV → Hp → Option (CV × Hp)} {ops : Array Oper} {A : Nat → Tm} {D : Nat → DS} {T : Nat → Rec} {h0 : Hp}
/-- the blocks made by what has run, and not yet merged -/
def UU (ops : Array Oper) (T : Nat → Rec) (S : Nat → Prop) (τ : Nat) (p : Nat × NW) : Prop := ∃ i, S i ∧ i < ops.size ∧ T i = .nw p.1 p.2 ∧ ¬ mu ops T τ i
theorem Trace.nw_inj (t : Trace P call ops A D T h0) (hC : CallOk P call) {i j id : Nat} {n m : NW} (hi : i < ops.size) (hj : j < ops.size) (h1 : T i = .nw id n) (h2 : T j = .nw id m) : i = j := by
  have a1 := (t.next hC hi).2.1 id n h1
  have a2 := (t.next hC hj).2.1 id m h2
  rcases Nat.lt_trichotomy i j with h | h | h
  · have := t.mono hC j (i + 1) (by omega) (by omega); omega
  · exact h
  · have := t.mono hC i (j + 1) (by omega) (by omega); omega
theorem Trace.uu_fun (t : Trace P call ops A D T h0) (hC : CallOk P call) (S : Nat → Prop) (τ : Nat) : Fun (UU ops T S τ) := by
  refine ⟨fun p ⟨i, _, h1, h2, _⟩ => ((t.next hC h1).2.1 _ _ h2).2.1, fun p q ⟨i, _, h1, h2, _⟩ ⟨j, _, h3, h4, _⟩ e => ?_⟩
  obtain ⟨p1, p2⟩ := p
  obtain ⟨q1, q2⟩ := q
  simp only at e h2 h4
  subst e
  have := t.nw_inj hC h1 h3 h2 h4
  subst this
  rw [h2] at h4
  injection h4 with _ e2
  rw [e2]
theorem mu_mono {i j k : Nat} (h : i ≤ j) (hm : mu ops T i k) : mu ops T j k := by
  obtain ⟨l, h1, h2, h3⟩ := hm
  exact ⟨l, by omega, h2, h3⟩
/-- effects are a chain -/
theorem Trace.chain (t : Trace P call ops A D T h0) {i j : Nat} (hij : i < j) (hi : isEf ops T i) (hj : isEf ops T j) : bit ops j i := by
  obtain ⟨hj1, v, hin, hout, hT⟩ := hj
  obtain ⟨o, ho, hs⟩ := t.stepAt hj1
  rw [hT] at hs
  have h1 := hs.2.2.1
  unfold okEffs at h1
  rw [lall_eq, List.all_eq_true] at h1
  exact h1 _ (t.snaps j (by omega) i hij hi)

/-- a slot of the frame, when some of the operations have run -/
def SlotR (ops : Array Oper) (A : Nat → Tm) (T : Nat → Rec) (ρ : Rn) (S : Nat → Prop) (t : Nat) (v : Value) : Prop :=
  (∃ j o, S j ∧ ops[j]? = some o ∧ o.dst = some t ∧ (∀ i oi, S i → ops[i]? = some oi → oi.dst = some t → i ≤ j) ∧ VRel ρ (T j).v v) ∨ ((∀ i oi, S i → ops[i]? = some oi → oi.dst ≠ some t) ∧ VRel ρ (TM.get (A 0) t) v)
theorem SlotR.mono {ρ ρ' : Rn} (H : Sub ρ ρ') {S : Nat → Prop} {t : Nat} {v : Value} (h : SlotR ops A T ρ S t v) : SlotR ops A T ρ' S t v := by
  rcases h with ⟨j, o, h1, h2, h3, h4, h5⟩ | ⟨h1, h2⟩
  · exact .inl ⟨j, o, h1, h2, h3, h4, h5.mono H⟩
  · exact .inr ⟨h1, h2.mono H⟩
theorem Trace.frameAt (t : Trace P call ops A D T h0) (hd : ∀ (i : Nat) (o : Oper) (d : Nat), ops[i]? = some o → o.dst = some d → d < 512) : ∀ j, j ≤ ops.size → ∀ s, s < 512 →
    (∃ i o, i < j ∧ ops[i]? = some o ∧ o.dst = some s ∧ (∀ k ok, k < j → ops[k]? = some ok → ok.dst = some s → k ≤ i) ∧ TM.get (A j) s = (T i).v) ∨ ((∀ i oi, i < j → ops[i]? = some oi → oi.dst ≠ some s) ∧ TM.get (A j) s = TM.get (A 0) s) := by
  intro j
  induction j with
  | zero => intro _ s _; exact .inr ⟨fun i oi h => by omega, rfl⟩
  | succ j ih =>
    intro hj s hs
    obtain ⟨o, ho, hst⟩ := t.stepAt (show j < ops.size by omega)
    have hA := hst.1
    cases hdst : o.dst with
    | none =>
      rw [hdst, putC_none] at hA
      rw [hA]
      have hno : ∀ {k : Nat} {ok : Oper}, k < j + 1 → ops[k]? = some ok → ok.dst = some s → k < j := fun {k ok} h1 h2 h3 => by
        rcases Nat.lt_or_ge k j with h | h
        · exact h
        · have : k = j := by omega
          subst this; rw [ho] at h2; injection h2 with h2; subst h2; rw [hdst] at h3; cases h3
      rcases ih (by omega) s hs with ⟨i, oi, h1, h2, h3, h4, h5⟩ | ⟨h1, h2⟩
      · exact .inl ⟨i, oi, by omega, h2, h3, fun k ok k1 k2 k3 => h4 k ok (hno k1 k2 k3) k2 k3, h5⟩
      · exact .inr ⟨fun k ok k1 k2 k3 => h1 k ok (hno k1 k2 k3) k2 k3, h2⟩
    | some d =>
      rw [hdst, putC_some] at hA
      have hd' := hd j o d ho hdst
      rw [hA, TM.get_set _ _ _ _ hd' hs]
      by_cases e : d = s
      · subst e
        rw [if_pos rfl]
        exact .inl ⟨j, o, by omega, ho, hdst, fun k ok k1 _ _ => by omega, rfl⟩
      · rw [if_neg e]
        have hno : ∀ {k : Nat} {ok : Oper}, k < j + 1 → ops[k]? = some ok → ok.dst = some s → k < j := fun {k ok} h1 h2 h3 => by
          rcases Nat.lt_or_ge k j with h | h
          · exact h
          · have : k = j := by omega
            subst this; rw [ho] at h2; injection h2 with h2; subst h2; rw [hdst] at h3; injection h3 with h3; exact absurd h3 e
        rcases ih (by omega) s hs with ⟨i, oi, h1, h2, h3, h4, h5⟩ | ⟨h1, h2⟩
        · exact .inl ⟨i, oi, by omega, h2, h3, fun k ok k1 k2 k3 => h4 k ok (hno k1 k2 k3) k2 k3, h5⟩
        · exact .inr ⟨fun k ok k1 k2 k3 => h1 k ok (hno k1 k2 k3) k2 k3, h2⟩
theorem Trace.slotAt (t : Trace P call ops A D T h0) (hd : ∀ (i : Nat) (o : Oper) (d : Nat), ops[i]? = some o → o.dst = some d → d < 512) {j s : Nat} (hj : j ≤ ops.size) (hs : s < 512) {ρ : Rn} {S : Nat → Prop} {v : Value} (h : SlotR ops A T ρ S s v) (hiff : ∀ i oi, ops[i]? = some oi → oi.dst = some s → (S i ↔ i < j)) : VRel ρ (TM.get (A j) s) v := by
  rcases t.frameAt hd j hj s hs with ⟨i, oi, h1, h2, h3, h4, h5⟩ | ⟨h1, h2⟩
  · rcases h with ⟨k, ok, g1, g2, g3, g4, g5⟩ | ⟨g1, g2⟩
    · have a1 := g4 i oi ((hiff i oi h2 h3).2 h1) h2 h3
      have a2 := h4 k ok ((hiff k ok g2 g3).1 g1) g2 g3
      have : i = k := by omega
      subst this
      rw [h5]; exact g5
    · exact absurd h3 (g1 i oi ((hiff i oi h2 h3).2 h1) h2)
  · rcases h with ⟨k, ok, g1, g2, g3, g4, g5⟩ | ⟨g1, g2⟩
    · exact absurd g3 (h1 k ok ((hiff k ok g2 g3).1 g1) g2)
    · rw [h2]; exact g2

/-- WHAT HOLDS IN BETWEEN -/
structure Inv (ops : Array Oper) (A : Nat → Tm) (D : Nat → DS) (T : Nat → Rec) (h0 : Hp) (ρ0 : Rn) (B : Nat) (w0 : World) (n : Nat) (df : List Deferred) (S : Nat → Prop) (τ : Nat) (ρ : Rn) (act : Act) (w : World) : Prop where
  dom : ∀ j, S j → j < ops.size
  clo : ∀ j i, S j → bit ops j i → S i
  tau : τ ≤ ops.size
  eff : ∀ k, isEf ops T k → (S k ↔ k < τ)
  rel : ∀ X, In X (UU ops T S τ) → HRel ρ (lay X (D τ).h) B w ∧ Step h0.next (D ops.size).h.next ρ0 h0 w0 ρ (lay X (D τ).h) w
  non : ∀ p, UU ops T S τ p → (D τ).h.get p.1 = none
  frN : ∀ j id m, j < ops.size → ¬ S j → T j = .nw id m → ρ id = none
  frE : ∀ j v hin hout, j < ops.size → ¬ S j → T j = .ef v hin hout → Fresh ρ hin.next hout.next
  sz : act.tmps.size = n
  df : act.defers = df
  hB : B ≤ w.heap.size
  tmp : ∀ t, t < 512 → SlotR ops A T ρ S t (act.tmps.getD t undef)

variable {ρ0 : Rn} {B : Nat} {w0 : World} {n : Nat} {df : List Deferred} {S : Nat → Prop} {τ : Nat} {ρ : Rn} {act : Act} {w : World}
/-- the operands of an operation whose turn may come -/
theorem Inv.operand (I : Inv ops A D T h0 ρ0 B w0 n df S τ ρ act w) (t : Trace P call ops A D T h0) (hd : ∀ (i : Nat) (o : Oper) (d : Nat), ops[i]? = some o → o.dst = some d → d < 512) {j : Nat} {o : Oper} (ho : ops[j]? = some o) (hS : ¬ S j) (hb : ∀ i, bit ops j i → S i) (s : Nat) (hs : s < 512) (hm : s ∈ opSlots o.op) : VRel ρ (TM.get (A j) s) (act.tmps.getD s undef) := by
  have hj := (Array.getElem?_eq_some_iff.1 ho).1
  refine t.slotAt hd (by omega) hs (I.tmp s hs) (fun i oi hi hdi => ?_)
  rcases Nat.lt_trichotomy i j with h | h | h
  · exact ⟨fun _ => h, fun _ => hb i (t.ok.tmp i j oi o s h hi ho (.inl ⟨hdi, .inr hm⟩))⟩
  · subst h; exact ⟨fun h => absurd h hS, fun h => by omega⟩
  · exact ⟨fun h' => absurd (I.clo i j h' (t.ok.tmp j i o oi s h ho hi (.inr ⟨hdi, hm⟩))) hS, fun h' => by omega⟩
theorem Inv.guard (I : Inv ops A D T h0 ρ0 B w0 n df S τ ρ act w) (t : Trace P call ops A D T h0) (hd : ∀ (i : Nat) (o : Oper) (d : Nat), ops[i]? = some o → o.dst = some d → d < 512) (hn : n ≤ 512) {j : Nat} {o : Oper} (ho : ops[j]? = some o) (hS : ¬ S j) (hb : ∀ i, bit ops j i → S i) {b : Bool} (hw : wantB ops (A j) o = some b) : Region.wanted o (yielded ops act.tmps) = b := by
  have hj := (Array.getElem?_eq_some_iff.1 ho).1
  have := wantK_some hw (ρ := ρ) (x := act.tmps) (by rw [I.sz]; exact hn) (fun g want og d hg hog hdg hlt => by
    obtain ⟨og', d', k1, k2, k3⟩ := guard_one t.g1 ho hg
    rw [hog] at k1
    injection k1 with k1
    subst k1
    rw [hdg] at k2
    injection k2 with k2
    subst k2
    refine t.slotAt hd (by omega) hlt (I.tmp d hlt) (fun i oi hi hdi => ?_)
    have e := k3 i oi hi hdi
    subst e
    have hbit := t.ok.guard j o i want ho hg
    exact ⟨fun _ => t.ok.lt j i hbit, fun _ => hb i hbit⟩)
  rcases this with ⟨h1, h2⟩ | ⟨h1, h2⟩
  · injection h2 with h2; rw [h1, h2]
  · injection h2 with h2; rw [h1, h2]
theorem getD_put (act : Act) (d : Nat) (u : Value) (t : Nat) (hd : d < act.tmps.size) : (act.put (some d) u).tmps.getD t undef = if d = t then u else act.tmps.getD t undef := by
  show (act.tmps.setIfInBounds d u).getD t undef = _
  by_cases e : d = t
  · subst e
    rw [if_pos rfl]
    simp [Array.getD, hd]
  · rw [if_neg e]
    simp [Array.getElem?_setIfInBounds_ne e]
/-- the slots behind one more operation -/
theorem Inv.slots (I : Inv ops A D T h0 ρ0 B w0 n df S τ ρ act w) (t : Trace P call ops A D T h0) (hdn : ∀ (i : Nat) (o : Oper) (d : Nat), ops[i]? = some o → o.dst = some d → d < n) {j : Nat} {o : Oper} (ho : ops[j]? = some o) (hS : ¬ S j) {ρ' : Rn} (hρ : Sub ρ ρ') {u : Value} (hu : VRel ρ' (T j).v u) :
    ∀ s, s < 512 → SlotR ops A T ρ' (fun i => S i ∨ i = j) s ((act.put o.dst u).tmps.getD s undef) := by
  intro s hs
  have old := (I.tmp s hs).mono hρ
  have other : o.dst ≠ some s → SlotR ops A T ρ' (fun i => S i ∨ i = j) s (act.tmps.getD s undef) := fun hne => by
    rcases old with ⟨k, ok, h1, h2, h3, h4, h5⟩ | ⟨h1, h2⟩
    · refine .inl ⟨k, ok, .inl h1, h2, h3, fun i oi hi hoi hdi => ?_, h5⟩
      rcases hi with hi | rfl
      · exact h4 i oi hi hoi hdi
      · rw [ho] at hoi; injection hoi with hoi; subst hoi; exact absurd hdi hne
    · refine .inr ⟨fun i oi hi hoi => ?_, h2⟩
      rcases hi with hi | rfl
      · exact h1 i oi hi hoi
      · rw [ho] at hoi; injection hoi with hoi; subst hoi; exact hne
  cases hdst : o.dst with
  | none => exact other (by rw [hdst]; simp)
  | some d =>
    rw [getD_put act d u s (by rw [I.sz]; exact hdn j o d ho hdst)]
    by_cases e : d = s
    · subst e
      rw [if_pos rfl]
      refine .inl ⟨j, o, .inr rfl, ho, hdst, fun i oi hi hoi hdi => ?_, hu⟩
      rcases hi with hi | rfl
      · rcases Nat.lt_or_ge j i with h | h
        · exact absurd (I.clo i j hi (t.ok.tmp j i o oi d h ho hoi (.inl ⟨hdst, .inl hdi⟩))) hS
        · exact h
      · exact Nat.le_refl _
    · rw [if_neg e]
      exact other (by rw [hdst]; intro h; injection h with h; exact e h)
/-- where a read finds its memory -/
theorem Inv.readAt (I : Inv ops A D T h0 ρ0 B w0 n df S τ ρ act w) (t : Trace P call ops A D T h0) (hC : CallOk P call) {j : Nat} {o : Oper} (ho : ops[j]? = some o) (hS : ¬ S j) (hb : ∀ i, bit ops j i → S i) {f : Tm → Hp → Option CV} {v : CV} (hT : T j = .rd f v) : ∃ hh, f (A j) hh = some v ∧ HRel ρ hh B w := by
  have hj := (Array.getElem?_eq_some_iff.1 ho).1
  have hs := t.step j o ho
  rw [hT] at hs
  obtain ⟨_, _, _, hrun, hsn, _⟩ := hs
  have hne : ¬ isEf ops T j := fun ⟨_, v', a, b, h⟩ => by rw [hT] at h; cases h
  have inU : ∀ (m : Nat), m ≤ ops.size → (∀ i, mu ops T τ i → mu ops T m i) → In (sel (bm ops j) (D m).pend) (UU ops T S τ) := fun m hm hmu p hp => by
    obtain ⟨i, h1, h2⟩ := mem_sel hp
    obtain ⟨k1, k2, k3⟩ := (t.pend m hm i p.1 p.2).1 h1
    exact ⟨i, hb i h2, by omega, k2, fun h => k3 (hmu i h)⟩
  have hF := t.uu_fun hC S τ
  by_cases c1 : ∃ k, isEf ops T k ∧ τ ≤ k ∧ k < j
  · obtain ⟨k0, e1, e2, e3⟩ := c1
    obtain ⟨k, _, ⟨e4, e5⟩, e6⟩ := exists_least (p := fun k => isEf ops T k ∧ τ ≤ k) k0 ⟨e1, e2⟩
    have hkj : k < j := by omega
    have hkS : ¬ S k := fun h => by have := (I.eff k e4).1 h; omega
    have hnb : Nat.testBit (bm ops j) k = false := by
      cases h : Nat.testBit (bm ops j) k with
      | false => rfl
      | true => exact absurd (hb k h) hkS
    unfold okSnaps at hsn
    rw [lall_eq, List.all_eq_true] at hsn
    have h1 := hsn _ (t.snaps j (by omega) k hkj e4)
    have h2 : valIs v (f (A j) (mergeB (bm ops j) (D j).pend (mergeB (bm ops j) (D k).pend (D k).h))) = true := by
      have : (Nat.testBit (bm ops j) k || valIs v (f (A j) (mergeB (bm ops j) (D j).pend (mergeB (bm ops j) (D k).pend (D k).h)))) = true := h1
      rw [hnb] at this
      exact this
    refine ⟨_, valIs_some h2, ?_⟩
    rw [mergeB_lay, mergeB_lay, ← lay_append]
    have hX : In (sel (bm ops j) (D j).pend ++ sel (bm ops j) (D k).pend) (UU ops T S τ) := fun p hp => by
      rcases List.mem_append.1 hp with hp | hp
      · exact inU j (by omega) (fun i h => mu_mono (by omega) h) p hp
      · exact inU k (by omega) (fun i h => mu_mono e5 h) p hp
    refine (I.rel _ hX).1.heq (lay_same hF hX hX (fun _ => Iff.rfl) (t.same k τ e5 (by omega) (fun i i1 i2 => fun h => e6 i i2 ⟨h, i1⟩)))
  · by_cases c2 : ∃ k, k < τ ∧ (isEf ops T k ∧ j ≤ k)
    · obtain ⟨k0, e1, e2⟩ := c2
      obtain ⟨k, e3, _, ⟨e4, e5⟩, e6⟩ := exists_last (p := fun k => isEf ops T k ∧ j ≤ k) τ k0 e1 e2
      have hjk : j < k := by
        rcases Nat.lt_or_ge j k with h | h
        · exact h
        · have : k = j := by omega
          subst this; exact absurd e4 hne
      have hkN := e4.1
      have hkS : S k := (I.eff k e4).2 e3
      have hnb : Nat.testBit (bm ops k) j = false := by
        cases h : Nat.testBit (bm ops k) j with
        | false => rfl
        | true => exact absurd (I.clo k j hkS h) hS
      obtain ⟨ok, hok, hsk⟩ := t.stepAt hkN
      obtain ⟨_, v', hin, hout, hTk⟩ := e4
      rw [hTk] at hsk
      obtain ⟨_, _, _, _, _, hld, hD⟩ := hsk
      unfold okLds at hld
      rw [lall_eq, List.all_eq_true] at hld
      have h1 := hld _ (t.lds k (by omega) j f v hjk hT)
      have h2 : valIs v (f (A j) (mergeB (bm ops j) (leave (bm ops k) (D k).pend) hout)) = true := by
        have : (Nat.testBit (bm ops k) j || valIs v (f (A j) (mergeB (bm ops j) (leave (bm ops k) (D k).pend) hout))) = true := h1
        rw [hnb] at this
        exact this
      have hh1 : hout = (D (k + 1)).h := by rw [hD]
      have hh2 : leave (bm ops k) (D k).pend = (D (k + 1)).pend := by rw [hD]
      rw [hh1, hh2] at h2
      refine ⟨_, valIs_some h2, ?_⟩
      rw [mergeB_lay]
      have hX : In (sel (bm ops j) (D (k + 1)).pend) (UU ops T S τ) := inU (k + 1) (by omega) (fun i ⟨l, l1, l2, l3⟩ => ⟨l, by
        rcases Nat.lt_or_ge k l with h | h
        · exact absurd ⟨l2, by omega⟩ (e6 l h l1)
        · omega, l2, l3⟩)
      exact (I.rel _ hX).1.heq (lay_same hF hX hX (fun _ => Iff.rfl) (t.same τ (k + 1) (by omega) I.tau (fun i i1 i2 h => e6 i (by omega) i2 ⟨h, by omega⟩)).symm)
    · refine ⟨_, hrun, ?_⟩
      rw [mergeB_lay]
      have hX : In (sel (bm ops j) (D j).pend) (UU ops T S τ) := inU j (by omega) (fun i ⟨l, l1, l2, l3⟩ => ⟨l, by
        rcases Nat.lt_or_ge l j with h | h
        · exact h
        · exact absurd ⟨l, l1, l2, h⟩ c2, l2, l3⟩)
      have hsame : HEq2 (D τ).h (D j).h := by
        rcases Nat.le_total τ j with h | h
        · exact t.same j τ h (by omega) (fun k k1 k2 hk => c1 ⟨k, hk, k1, k2⟩)
        · exact (t.same τ j h I.tau (fun k k1 k2 hk => c2 ⟨k, k2, hk, k1⟩)).symm
      exact (I.rel _ hX).1.heq (lay_same hF hX hX (fun _ => Iff.rfl) hsame)
end
end Go.Proofs.YtkdlekonfjeidaaGreat.Eng
