/-
  Regions that draw their order.
-/
import Derived.Test.YtkdlekonfjeidaaGreatEngReg7
namespace Go.Proofs.YtkdlekonfjeidaaGreat.Eng
open Go.RowKit
set_option linter.unusedVariables false

section
variable {P : Program} {call : FuncId → List CV → Hp → Option (CV × Hp)}

def cntF (l : List Bool) : Nat := l.count false
theorem cntF_set : ∀ (l : List Bool) (i : Nat), l[i]? = some false → cntF (l.set i true) + 1 = cntF l := by
  intro l
  induction l with
  | nil => intro i h; simp at h
  | cons b l ih =>
    intro i h
    cases i with
    | zero => simp at h; subst h; simp [cntF]
    | succ i =>
      have := ih i (by simpa using h)
      unfold cntF at this ⊢
      rw [List.set_cons_succ, List.count_cons, List.count_cons]
      omega
theorem chain_of {ops : Array Oper} {a : Tm} {h : Hp} {r : Tm × Hp} (hok : RegOk ops) (hg : lall (guard1 ops) ops.toList = true) (e : drawR P call ops ops.toList (CheckFast.beforeF ops).toList 0 a ⟨h, [], [], []⟩ = some r) :
    ∃ A D T, Trace P call ops A D T h ∧ A 0 = a ∧ r = (A ops.size, mergeA (D ops.size).pend (D ops.size).h) := by
  obtain ⟨A, D, T, k1, k2, k3, k4⟩ := drawR_chain ops _ _ _ _ _ _ e
  refine ⟨A, D, T, ⟨hok, hg, k2, fun j o ho => ?_⟩, k1, by simpa using k4⟩
  obtain ⟨b, h1, h2⟩ := k3 j o (by simpa using ho)
  rw [CheckFast.beforeF_eq] at h1
  have hb : b = bm ops j := by
    unfold bm
    rw [Array.getD_eq_getD_getElem?, ← Array.getElem?_toList, h1]
    rfl
  subst hb
  rw [Nat.zero_add] at h2
  exact h2
/-- EVERY ORDER -/
theorem draw_sound (hC : CallOk P call) {ops : Array Oper} (hok : RegOk ops) (hg : lall (guard1 ops) ops.toList = true) {n : Nat} (hn : n ≤ 512) (hdn : ∀ (i : Nat) (o : Oper) (d : Nat), ops[i]? = some o → o.dst = some d → d < n)
    {a a' : Tm} {h h' : Hp} (e : drawR P call ops ops.toList (CheckFast.beforeF ops).toList 0 a ⟨h, [], [], []⟩ = some (a', h')) : h.next ≤ h'.next ∧
    ∀ (ρ : Rn) (B : Nat) (w : World) (act : Act), TRel ρ a act.tmps → act.tmps.size = n → HRel ρ h B w → B ≤ w.heap.size → Fresh ρ h.next h'.next →
      ∀ (Q : Exit → Act → World → Prop), (∀ act' w' ρ', TRel ρ' a' act'.tmps → act'.tmps.size = n → act'.defers = act.defers → HRel ρ' h' B w' → Step h.next h'.next ρ h w ρ' h' w' → Q .normal act' w') → wpAny P .any ops Q ops.size (Array.replicate ops.size false) act w := by
  obtain ⟨A, D, T, t, hA, hr⟩ := chain_of hok hg e
  injection hr with hr1 hr2
  have hnx : h'.next = (D ops.size).h.next := by rw [hr2, mergeA_lay, lay_next]
  have hgrow : h.next ≤ (D ops.size).h.next := by
    have := t.mono hC ops.size 0 (by omega) (Nat.le_refl _)
    rw [t.init] at this
    exact this
  rw [hnx]
  refine ⟨hgrow, fun ρ0 B w0 act0 hT hsz H hB hF Q hQ => ?_⟩
  have hd : ∀ (i : Nat) (o : Oper) (d : Nat), ops[i]? = some o → o.dst = some d → d < 512 := fun i o d h1 h2 => Nat.lt_of_lt_of_le (hdn i o d h1 h2) hn
  have key : ∀ (fuel : Nat) (listed : Array Bool) (τ : Nat) (ρ : Rn) (act : Act) (w : World), listed.size = ops.size → cntF listed.toList ≤ fuel → Inv ops A D T h ρ0 B w0 n act0.defers (fun i => listed.getD i false = true) τ ρ act w → wpAny P .any ops Q fuel listed act w := by
    intro fuel
    have fin : ∀ (listed : Array Bool) (τ : Nat) (ρ : Rn) (act : Act) (w : World), listed.size = ops.size → Region.ready .any ops listed = [] → Inv ops A D T h ρ0 B w0 n act0.defers (fun i => listed.getD i false = true) τ ρ act w → Q .normal act w := by
      intro listed τ ρ act w hl hre I
      have hall : ∀ i, i < ops.size → listed.getD i false = true := by
        intro i hi
        refine Classical.byContradiction fun hc => ?_
        obtain ⟨m, m1, ⟨m2, m3⟩, m4⟩ := exists_least (p := fun i => i < ops.size ∧ ¬ listed.getD i false = true) i ⟨hi, hc⟩
        obtain ⟨o, ho⟩ := op_at m2
        have : m ∈ Region.ready .any ops listed := by
          rw [mem_ready]
          refine ⟨?_, o, ho, fun ed he hb => ?_⟩
          · have hlt : m < listed.size := by omega
            rw [Array.getD_eq_getD_getElem?, Array.getElem?_eq_getElem hlt] at m3 ⊢
            simpa using m3
          · have hlt := hok.edge m o ed ho he hb
            refine Classical.byContradiction fun hc' => m4 ed.on hlt ⟨by omega, hc'⟩
        rw [hre] at this
        cases this
      have hiff : ∀ (i : Nat) (oi : Oper), ops[i]? = some oi → (listed.getD i false = true ↔ i < ops.size) := fun i oi hi => ⟨fun _ => (Array.getElem?_eq_some_iff.1 hi).1, hall i⟩
      have hno : ∀ k, τ ≤ k → k < ops.size → ¬ isEf ops T k := fun k k1 k2 hk => by
        have := (I.eff k hk).1 (hall k k2); omega
      have hX : In ((D ops.size).pend.map (·.2)) (UU ops T (fun i => listed.getD i false = true) τ) := fun p hp => by
        obtain ⟨q, h1, rfl⟩ := List.mem_map.1 hp
        obtain ⟨k1, k2, k3⟩ := (t.pend ops.size (Nat.le_refl _) q.1 q.2.1 q.2.2).1 h1
        exact ⟨q.1, hall q.1 k1, k1, k2, fun h => k3 (mu_mono I.tau h)⟩
      have hF' := t.uu_fun hC (fun i => listed.getD i false = true) τ
      have he : HEq2 (lay ((D ops.size).pend.map (·.2)) (D τ).h) h' := by
        rw [hr2, mergeA_lay]
        exact lay_same hF' hX hX (fun _ => Iff.rfl) (t.same ops.size τ I.tau (Nat.le_refl _) hno)
      obtain ⟨r1, r2⟩ := I.rel _ hX
      refine hQ act w ρ ⟨by rw [I.sz]; exact hn, fun s hs => ?_⟩ I.sz I.df (r1.heq he) (r2.heq (HEq2.refl _) he)
      rw [hr1]
      exact t.slotAt hd (Nat.le_refl _) hs (I.tmp s hs) (fun i oi hi _ => hiff i oi hi)
    induction fuel with
    | zero =>
      intro listed τ ρ act w hl hc I
      have hre : Region.ready .any ops listed = [] := by
        cases hr : Region.ready .any ops listed with
        | nil => rfl
        | cons x xs =>
          have hx : x ∈ Region.ready .any ops listed := by rw [hr]; simp
          rw [mem_ready] at hx
          obtain ⟨h1, o, ho, _⟩ := hx
          have hlt : x < listed.size := by rw [hl]; exact (Array.getElem?_eq_some_iff.1 ho).1
          have : false ∈ listed.toList := by
            rw [Array.getD_eq_getD_getElem?, Array.getElem?_eq_getElem hlt] at h1
            have h1' : listed[x] = false := by simpa using h1
            rw [← h1']
            simp
          have := List.count_pos_iff.2 this
          unfold cntF at hc
          omega
      exact ⟨hre, fin listed τ ρ act w hl hre I⟩
    | succ fuel ih =>
      intro listed τ ρ act w hl hc I
      refine ⟨fun hre => fin listed τ ρ act w hl hre I, fun j hj => ?_⟩
      rw [mem_ready] at hj
      obtain ⟨h1, o, ho, h2⟩ := hj
      have hjN := (Array.getElem?_eq_some_iff.1 ho).1
      have hlt : j < listed.size := by omega
      have hlj : listed[j]? = some false := by
        rw [Array.getD_eq_getD_getElem?, Array.getElem?_eq_getElem hlt] at h1
        rw [Array.getElem?_eq_getElem hlt]
        simpa using h1
      have hS : ¬ listed.getD j false = true := by
        rw [Array.getD_eq_getD_getElem?, hlj]; simp
      have hb : ∀ i, bit ops j i → listed.getD i false = true := fun i hbit => by
        obtain ⟨o', ed, k1, k2, k3, k4⟩ := bit_inv hbit
        rw [ho] at k1
        injection k1 with k1
        subst k1
        have := h2 ed k2 k3
        rcases k4 with rfl | ⟨_, k5⟩
        · exact this
        · exact I.clo ed.on i this k5
      refine I.go t hC hn hdn ho hS hb fun τ' ρ' act' w' I' => ?_
      have hset : (fun i => (listed.setIfInBounds j true).getD i false = true) = (fun i => listed.getD i false = true ∨ i = j) := by
        funext i
        apply propext
        by_cases ei : j = i
        · subst ei
          have : (listed.setIfInBounds j true).getD j false = true := by simp [hlt]
          simp only [this, or_true]
        · rw [getD_set_ne false ei]
          constructor
          · exact .inl
          · rintro (h | h)
            · exact h
            · exact absurd h.symm ei
      refine ih (listed.setIfInBounds j true) τ' ρ' act' w' (by simp [hl]) ?_ (by rw [hset]; exact I')
      have := cntF_set listed.toList j (by simpa using hlj)
      have hl2 : (listed.setIfInBounds j true).toList = listed.toList.set j true := by simp
      rw [hl2]
      omega
  refine key ops.size _ 0 ρ0 act0 w0 (by simp) (by simp [cntF]) ?_
  have hS0 : ∀ i, ¬ (Array.replicate ops.size false).getD i false = true := fun i hi => by
    rw [Array.getD_eq_getD_getElem?] at hi
    cases hx : (Array.replicate ops.size false)[i]? with
    | none => rw [hx] at hi; simp at hi
    | some b =>
      rw [hx] at hi
      have := Array.getElem?_eq_some_iff.1 hx
      obtain ⟨_, h2⟩ := this
      simp at h2
      subst h2
      simp at hi
  have hrng : ∀ (id : Nat), h.next ≤ id → id < (D ops.size).h.next → ρ0 id = none := fun id h1 h2 => hF id h1 h2
  have hlo : ∀ j, j ≤ ops.size → h.next ≤ (D j).h.next := fun j hj => by
    have := t.mono hC j 0 (by omega) hj
    rw [t.init] at this
    exact this
  refine ⟨fun j hj => absurd hj (hS0 j), fun j i hj => absurd hj (hS0 j), by omega, fun k hk => ⟨fun h => absurd h (hS0 k), fun h => by omega⟩, fun X hX => ?_, fun p ⟨i, hi, _⟩ => absurd hi (hS0 i), fun j id m hj _ hT' => ?_, fun j v hin hout hj _ hT' => ?_, hsz, rfl, hB, fun s hs => ?_⟩
  · have : X = [] := by
      cases X with
      | nil => rfl
      | cons p X => obtain ⟨i, hi, _⟩ := hX p (by simp); exact absurd hi (hS0 i)
    subst this
    show HRel ρ0 (D 0).h B w0 ∧ Step _ _ ρ0 h w0 ρ0 (D 0).h w0
    rw [t.init]
    exact ⟨H, Step.refl _ _ _ _ _⟩
  · obtain ⟨e1, e2, e3⟩ := (t.next hC hj).2.1 id m hT'
    have h1 := hlo j (by omega)
    have h2 := t.mono hC ops.size (j + 1) (by omega) (Nat.le_refl _)
    exact hrng id (by omega) (by omega)
  · obtain ⟨e1, e2⟩ := (t.next hC hj).2.2 v hin hout hT'
    intro k k1 k2
    have h1 := hlo j (by omega)
    have h2 := t.mono hC ops.size (j + 1) (by omega) (Nat.le_refl _)
    rw [e1] at k1
    rw [e2] at k2
    exact hrng k (by omega) (by omega)
  · refine .inr ⟨fun i oi hi => absurd hi (hS0 i), ?_⟩
    rw [hA]
    exact hT.2 s hs

/-! ### Regions that only compute and read -/
theorem plain_draw (ops : Array Oper) : ∀ (l : List Oper) (bl : List Nat) (j : Nat) (a : Tm) (h : Hp) (lds : List (Nat × Nat × (Hp → Option CV) × CV)) (r : Tm × Hp), lall (fun o => plainO P o.op) l = true → l.length ≤ bl.length → opsR P call ops l a h = some r → drawR P call ops l bl j a ⟨h, [], [], lds⟩ = some r := by
  intro l
  induction l with
  | nil =>
    intro bl j a h lds r _ _ e
    injection e with e
    subst e
    rfl
  | cons o l ih =>
    intro bl j a h lds r hp hl e
    rw [lall_eq] at hp
    simp only [List.all_cons, Bool.and_eq_true] at hp
    obtain ⟨hp1, hp2⟩ := hp
    cases bl with
    | nil => simp at hl
    | cons b bl =>
      have hl' : l.length ≤ bl.length := by simpa using hl
      show drawStep P call ops o b j a ⟨h, [], [], lds⟩ (fun a s => drawR P call ops l bl (Nat.succ j) a s) = some r
      have e' : wantK ops a o (opRun P call o.op a h fun v h => putK o.dst a v fun a => opsR P call ops l a h) (putK o.dst a undefC fun a => opsR P call ops l a h) = some r := e
      have wk : ∀ (t f t' f' : Option (Tm × Hp)), (t = some r → t' = some r) → (f = some r → f' = some r) → wantK ops a o t f = some r → wantK ops a o t' f' = some r := by
        intro t f t' f' h1 h2 hw
        unfold wantK at hw ⊢
        cases hgw : guardW ops o.guard with
        | none => rw [hgw] at hw; exact h1 hw
        | never => rw [hgw] at hw; exact h2 hw
        | some d want =>
          rw [hgw] at hw
          have hw' : isBK want (TM.get a d) t f = some r := hw
          show isBK want (TM.get a d) t' f' = some r
          generalize TM.get a d = c at hw' ⊢
          cases c with
          | any => cases hw'
          | bool b => cases b <;> cases want <;> first | exact h1 hw' | exact h2 hw'
          | _ => exact h2 hw'
      refine wk _ _ _ _ (fun h1 => ?_) (fun h1 => ?_) e'
      · unfold opRun at h1
        unfold drawOp
        unfold plainO at hp1
        cases ho : opW P o.op with
        | pure f =>
          rw [ho] at h1
          obtain ⟨v, h2, h3⟩ := oc_inv (show oc (f a) none (fun v => putK o.dst a v fun a => opsR P call ops l a h) = some r from h1)
          rw [putK_eq] at h3
          show oc (f a) none (fun v => putK o.dst a v fun a => drawR P call ops l bl (Nat.succ j) a ⟨h, [], [], lds⟩) = some r
          rw [h2, oc_some, putK_eq]
          exact ih bl _ _ h lds r (by rw [lall_eq]; exact hp2) hl' h3
        | read f =>
          rw [ho] at h1
          obtain ⟨v, h2, h3⟩ := oc_inv (show oc (f a h) none (fun v => putK o.dst a v fun a => opsR P call ops l a h) = some r from h1)
          rw [putK_eq] at h3
          show oc (f a h) none (fun v => putK o.dst a v fun a' => drawR P call ops l bl (Nat.succ j) a' ⟨h, [], [], (j, b, f a, v) :: lds⟩) = some r
          rw [h2, oc_some, putK_eq]
          exact ih bl _ _ h _ r (by rw [lall_eq]; exact hp2) hl' h3
        | new f => rw [ho] at hp1; cases hp1
        | act f => rw [ho] at hp1; cases hp1
        | call f => rw [ho] at hp1; cases hp1
      · rw [putK_eq] at h1 ⊢
        exact ih bl _ _ h lds r (by rw [lall_eq]; exact hp2) hl' h1
end
end Go.Proofs.YtkdlekonfjeidaaGreat.Eng
