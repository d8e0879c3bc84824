/-
  What can be reached in a store, by plain words: the way of the program and the way of the reference mark the same.
-/
import Derived.Test.YtejieacdfjpfnaaGreatStoreOk6
namespace Go.Proofs.YtejieacdfjpfnaaGreat
set_option maxRecDepth 100000
open Go.RowKit
set_option linter.unusedVariables false

/-! ### Reaching, by plain words -/
mutual
def funs : VecD → List Int
  | .mk k _ p _ _ _ _ en => (if k = 5 then [en] else []) ++ funss p
def funss : List VecD → List Int
  | [] => []
  | d :: l => funs d ++ funss l
end
theorem funss_eq (l : List VecD) : funss l = l.flatMap funs := by
  induction l with
  | nil => rfl
  | cons d l ih => rw [funss, ih]; rfl
theorem funs_eq (d : VecD) : funs d = (if d.kind = 5 then [d.env] else []) ++ d.parts.flatMap funs := by
  cases d with
  | mk k i p n c l co en => rw [funs, funss_eq]; rfl

def gB (l : List Bool) (i : Nat) : Bool := l.getD i false
theorem gB_set (l : List Bool) (i j : Nat) : gB (l.set i true) j = (if i = j ∧ i < l.length then true else gB l j) := by
  unfold gB
  simp only [List.getD_eq_getElem?_getD, List.getElem?_set]
  by_cases h : i = j
  · subst h
    by_cases h2 : i < l.length
    · simp [h2]
    · simp [h2]
  · simp [h]
theorem gB_lt {l : List Bool} {i : Nat} (h : gB l i = true) : i < l.length := by
  unfold gB at h
  rw [List.getD_eq_getElem?_getD] at h
  by_cases h2 : i < l.length
  · exact h2
  · rw [List.getElem?_eq_none (by omega)] at h; cases h
def LeB (a b : List Bool) : Prop := a.length = b.length ∧ ∀ i, gB a i = true → gB b i = true
theorem LeB.refl (a : List Bool) : LeB a a := ⟨rfl, fun _ h => h⟩
theorem LeB.trans {a b c : List Bool} (h : LeB a b) (k : LeB b c) : LeB a c := ⟨h.1.trans k.1, fun i hi => k.2 i (h.2 i hi)⟩
theorem LeB.set (a : List Bool) (i : Nat) : LeB a (a.set i true) := ⟨by simp, fun j h => by rw [gB_set]; split <;> simp [h]⟩

structure RSt where
  E : List Bool
  P : List Bool
  T : List Int

inductive RN (s : StoreD) (roots : List Int) : Bool → Nat → Prop where
  | zero : RN s roots false 0
  | root (e : Int) (h : e ∈ roots) : RN s roots false e.toNat
  | parent (i : Nat) (x : EnvD) (h : RN s roots false i) (hx : s.envs[i]? = some x) (h0 : 0 ≤ x.parent) : RN s roots false x.parent.toNat
  | func (i : Nat) (x : EnvD) (y : SlotD) (f : Int) (h : RN s roots false i) (hx : s.envs[i]? = some x) (hy : y ∈ x.slots) (hf : f ∈ funs y.value) : RN s roots false f.toNat
  | prom (i : Nat) (x : EnvD) (y : SlotD) (h : RN s roots false i) (hx : s.envs[i]? = some x) (hy : y ∈ x.slots) (hk : y.kind = 2) : RN s roots true y.promise.toNat
  | proms (i : Nat) (x : EnvD) (y : SlotD) (p : Int) (h : RN s roots false i) (hx : s.envs[i]? = some x) (hy : y ∈ x.slots) (hp : p ∈ y.promises) : RN s roots true p.toNat
  | penv (k : Nat) (p : PromD) (h : RN s roots true k) (hp : s.promises[k]? = some p) (hs : p.state ≠ 2) : RN s roots false p.env.toNat
  | pfunc (k : Nat) (p : PromD) (f : Int) (h : RN s roots true k) (hp : s.promises[k]? = some p) (hf : f ∈ funs p.value) : RN s roots false f.toNat

/-- all that a store names is there -/
structure WF (s : StoreD) : Prop where
  parent : ∀ (i : Nat) (x : EnvD), s.envs[i]? = some x → x.parent < s.envs.length
  func : ∀ (i : Nat) (x : EnvD) (y : SlotD) (f : Int), s.envs[i]? = some x → y ∈ x.slots → f ∈ funs y.value → 0 ≤ f ∧ f < s.envs.length
  prom : ∀ (i : Nat) (x : EnvD) (y : SlotD), s.envs[i]? = some x → y ∈ x.slots → y.kind = 2 → 0 ≤ y.promise ∧ y.promise < s.promises.length
  proms : ∀ (i : Nat) (x : EnvD) (y : SlotD) (p : Int), s.envs[i]? = some x → y ∈ x.slots → p ∈ y.promises → 0 ≤ p ∧ p < s.promises.length
  penv : ∀ (k : Nat) (p : PromD), s.promises[k]? = some p → p.state ≠ 2 → 0 ≤ p.env ∧ p.env < s.envs.length
  pfunc : ∀ (k : Nat) (p : PromD) (f : Int), s.promises[k]? = some p → f ∈ funs p.value → 0 ≤ f ∧ f < s.envs.length

def ClP (s : StoreD) (k : Nat) (E : List Bool) : Prop := ∀ p, s.promises[k]? = some p → (p.state ≠ 2 → gB E p.env.toNat = true) ∧ ∀ f ∈ funs p.value, gB E f.toNat = true
def ClS (y : SlotD) (E P : List Bool) : Prop := (∀ f ∈ funs y.value, gB E f.toNat = true) ∧ (y.kind = 2 → gB P y.promise.toNat = true) ∧ ∀ p ∈ y.promises, gB P p.toNat = true
def ClE (s : StoreD) (i : Nat) (E P : List Bool) : Prop := ∀ x, s.envs[i]? = some x → (0 ≤ x.parent → gB E x.parent.toNat = true) ∧ ∀ y ∈ x.slots, ClS y E P
theorem ClP.mono {s : StoreD} {k : Nat} {E E' : List Bool} (h : ClP s k E) (hE : LeB E E') : ClP s k E' := fun p hp => ⟨fun hs => hE.2 _ ((h p hp).1 hs), fun f hf => hE.2 _ ((h p hp).2 f hf)⟩
theorem ClS.mono {y : SlotD} {E E' P P' : List Bool} (h : ClS y E P) (hE : LeB E E') (hP : LeB P P') : ClS y E' P' := ⟨fun f hf => hE.2 _ (h.1 f hf), fun hk => hP.2 _ (h.2.1 hk), fun p hp => hP.2 _ (h.2.2 p hp)⟩
theorem ClE.mono {s : StoreD} {i : Nat} {E E' P P' : List Bool} (h : ClE s i E P) (hE : LeB E E') (hP : LeB P P') : ClE s i E' P' := fun x hx => ⟨fun h0 => hE.2 _ ((h x hx).1 h0), fun y hy => ((h x hx).2 y hy).mono hE hP⟩

/-- marks that are right, and closed -/
structure Marked (s : StoreD) (roots : List Int) (E P : List Bool) : Prop where
  lenE : E.length = s.envs.length
  lenP : P.length = s.promises.length
  snd : ∀ i, gB E i = true → RN s roots false i
  sndP : ∀ k, gB P k = true → RN s roots true k
  clE : ∀ i, gB E i = true → ClE s i E P
  clP : ∀ k, gB P k = true → ClP s k E
  zero : gB E 0 = true
  root : ∀ e ∈ roots, gB E e.toNat = true
theorem Marked.all {s : StoreD} {roots : List Int} {E P : List Bool} (h : Marked s roots E P) {b : Bool} {i : Nat} (hr : RN s roots b i) : if b then gB P i = true else gB E i = true := by
  induction hr with
  | zero => exact h.zero
  | root e he => exact h.root e he
  | parent i x _ hx h0 ih => exact (h.clE i ih x hx).1 h0
  | func i x y f _ hx hy hf ih => exact ((h.clE i ih x hx).2 y hy).1 f hf
  | prom i x y _ hx hy hk ih => exact ((h.clE i ih x hx).2 y hy).2.1 hk
  | proms i x y p _ hx hy hp ih => exact ((h.clE i ih x hx).2 y hy).2.2 p hp
  | penv k p _ hp hs ih => exact (h.clP k ih p hp).1 hs
  | pfunc k p f _ hp hf ih => exact (h.clP k ih p hp).2 f hf
theorem gB_ext {a b : List Bool} (hl : a.length = b.length) (h : ∀ i, gB a i = true ↔ gB b i = true) : a = b := by
  apply List.ext_getElem hl
  intro i h1 h2
  have := h i
  unfold gB at this
  rw [List.getD_eq_getElem?_getD, List.getD_eq_getElem?_getD, List.getElem?_eq_getElem h1, List.getElem?_eq_getElem h2] at this
  simp only [Option.getD_some] at this
  exact Bool.eq_iff_iff.2 this
theorem Marked.unique {s : StoreD} {roots : List Int} {E P E' P' : List Bool} (h : Marked s roots E P) (h' : Marked s roots E' P') : E = E' ∧ P = P' :=
  ⟨gB_ext (h.lenE.trans h'.lenE.symm) fun i => ⟨fun hi => by simpa using h'.all (h.snd i hi), fun hi => by simpa using h.all (h'.snd i hi)⟩,
   gB_ext (h.lenP.trans h'.lenP.symm) fun i => ⟨fun hi => by simpa using h'.all (h.sndP i hi), fun hi => by simpa using h.all (h'.sndP i hi)⟩⟩

/-! ### The program's way -/
def envS (e : Int) (st : RSt) : RSt := if decide (0 ≤ e) && !(gB st.E e.toNat) then ⟨st.E.set e.toNat true, st.P, st.T ++ [e]⟩ else st
mutual
def valS : VecD → RSt → RSt
  | .mk k _ p _ _ _ _ en, st => valSs p (if k = 5 then envS en st else st)
def valSs : List VecD → RSt → RSt
  | [], st => st
  | d :: l, st => valSs l (valS d st)
end
theorem valSs_eq (l : List VecD) : ∀ st, valSs l st = l.foldl (fun st d => valS d st) st := by
  induction l with
  | nil => intro st; rfl
  | cons d l ih => intro st; rw [valSs, ih]; rfl
theorem valS_eq (d : VecD) (st : RSt) : valS d st = d.parts.foldl (fun st d => valS d st) (if d.kind = 5 then envS d.env st else st) := by
  cases d with
  | mk k i p n c l co en => rw [valS, valSs_eq]; rfl
mutual
theorem valS_funs : ∀ (d : VecD) (st : RSt), valS d st = (funs d).foldl (fun st e => envS e st) st
  | .mk k _ p _ _ _ _ en, st => by
    rw [valS, valSs_funs, funs, List.foldl_append]
    split <;> rfl
theorem valSs_funs : ∀ (l : List VecD) (st : RSt), valSs l st = (funss l).foldl (fun st e => envS e st) st
  | [], st => rfl
  | d :: l, st => by rw [valSs, funss, List.foldl_append, valS_funs d, valSs_funs l]
end
def promS (s : StoreD) (k : Int) (st : RSt) : RSt := match s.promises[k.toNat]? with
  | none => st
  | some p => if gB st.P k.toNat then st else valS p.value (if p.state = 2 then ⟨st.E, st.P.set k.toNat true, st.T⟩ else envS p.env ⟨st.E, st.P.set k.toNat true, st.T⟩)
def slotS (s : StoreD) (x : SlotD) (st : RSt) : RSt := x.promises.foldl (fun st p => promS s p st) (if x.kind = 2 then promS s x.promise (valS x.value st) else valS x.value st)
def stepS (s : StoreD) (x : EnvD) (st : RSt) : RSt := x.slots.foldl (fun st y => slotS s y st) (envS x.parent st)

/-- what a step may do -/
structure Ext (s : StoreD) (a b : RSt) : Prop where
  le : LeB a.E b.E
  leP : LeB a.P b.P
  mem : ∀ e ∈ a.T, e ∈ b.T
  new : ∀ i, gB b.E i = true → gB a.E i = true ∨ (i : Int) ∈ b.T
  newP : ∀ k, gB b.P k = true → gB a.P k = true ∨ ClP s k b.E
  tm : ∀ e ∈ b.T, e ∈ a.T ∨ (0 ≤ e ∧ gB b.E e.toNat = true)
  mu : b.E.count false + b.T.length ≤ a.E.count false + a.T.length
theorem Ext.refl (s : StoreD) (a : RSt) : Ext s a a := ⟨LeB.refl _, LeB.refl _, fun _ h => h, fun _ h => .inl h, fun _ h => .inl h, fun _ h => .inl h, Nat.le_refl _⟩
theorem Ext.trans {s : StoreD} {a b c : RSt} (h : Ext s a b) (k : Ext s b c) : Ext s a c where
  le := h.le.trans k.le
  leP := h.leP.trans k.leP
  mem e he := k.mem e (h.mem e he)
  new i hi := by
    rcases k.new i hi with h1 | h1
    · rcases h.new i h1 with h2 | h2
      · exact .inl h2
      · exact .inr (k.mem _ h2)
    · exact .inr h1
  newP i hi := by
    rcases k.newP i hi with h1 | h1
    · rcases h.newP i h1 with h2 | h2
      · exact .inl h2
      · exact .inr (h2.mono k.le)
    · exact .inr h1
  tm e he := by
    rcases k.tm e he with h1 | h1
    · rcases h.tm e h1 with h2 | h2
      · exact .inl h2
      · exact .inr ⟨h2.1, k.le.2 _ h2.2⟩
    · exact .inr h1
  mu := Nat.le_trans k.mu h.mu
theorem count_set (l : List Bool) (i : Nat) (h : i < l.length) (hf : gB l i = false) : (l.set i true).count false + 1 = l.count false := by
  induction l generalizing i with
  | nil => simp at h
  | cons a l ih =>
    cases i with
    | zero =>
      have : a = false := by simpa [gB] using hf
      subst this
      simp
    | succ i =>
      have := ih i (by simpa using h) (by simpa [gB] using hf)
      simp only [List.set_cons_succ, List.count_cons]
      omega
theorem envS_ext (s : StoreD) (e : Int) (st : RSt) (hlt : e < st.E.length) : Ext s st (envS e st) ∧ (0 ≤ e → gB (envS e st).E e.toNat = true) ∧ (envS e st).P = st.P := by
  unfold envS
  by_cases h0 : 0 ≤ e
  · cases hg : gB st.E e.toNat
    · simp only [h0, decide_true, Bool.not_false, Bool.and_self, if_true]
      have hl : e.toNat < st.E.length := by omega
      refine ⟨⟨LeB.set _ _, LeB.refl _, fun x hx => List.mem_append_left _ hx, fun i hi => ?_, fun _ h => .inl h, fun x hx => ?_, ?_⟩, fun _ => by rw [gB_set, if_pos ⟨rfl, hl⟩], by first | rfl | trivial⟩
      · rw [gB_set] at hi
        split at hi
        · rename_i h1
          right
          rw [show (i : Int) = e by omega]
          simp
        · exact .inl hi
      · rcases List.mem_append.1 hx with h1 | h1
        · exact .inl h1
        · rw [List.mem_singleton.1 h1]
          exact .inr ⟨h0, by rw [gB_set, if_pos ⟨rfl, hl⟩]⟩
      · have := count_set st.E e.toNat hl hg
        simp only [List.length_append, List.length_singleton]
        omega
    · simp only [h0, Bool.not_true, Bool.and_false, Bool.false_eq_true, if_false]
      exact ⟨Ext.refl _ _, fun _ => hg, by first | rfl | trivial⟩
  · simp only [h0, decide_false, Bool.false_and, Bool.false_eq_true, if_false]
    exact ⟨Ext.refl _ _, fun h => absurd h (by simp), by trivial⟩
theorem envs_ext (s : StoreD) : ∀ (l : List Int) (st : RSt), (∀ e ∈ l, e < st.E.length) → Ext s st (l.foldl (fun st e => envS e st) st) ∧ (∀ e ∈ l, 0 ≤ e → gB (l.foldl (fun st e => envS e st) st).E e.toNat = true) ∧ (l.foldl (fun st e => envS e st) st).P = st.P := by
  intro l
  induction l with
  | nil => intro st _; exact ⟨Ext.refl _ _, fun e h => by simp at h, rfl⟩
  | cons a l ih =>
    intro st h
    obtain ⟨h1, h2, h3⟩ := envS_ext s a st (h a (by simp))
    obtain ⟨k1, k2, k3⟩ := ih (envS a st) (fun e he => by rw [← h1.le.1]; exact h e (by simp [he]))
    rw [List.foldl_cons]
    refine ⟨h1.trans k1, fun e he h0 => ?_, k3.trans h3⟩
    rcases List.mem_cons.1 he with rfl | he
    · exact k1.le.2 _ (h2 h0)
    · exact k2 e he h0
theorem valS_ext (s : StoreD) (d : VecD) (st : RSt) (h : ∀ f ∈ funs d, 0 ≤ f ∧ f < st.E.length) : Ext s st (valS d st) ∧ (∀ f ∈ funs d, gB (valS d st).E f.toNat = true) ∧ (valS d st).P = st.P := by
  rw [valS_funs]
  obtain ⟨h1, h2, h3⟩ := envs_ext s (funs d) st (fun e he => (h e he).2)
  exact ⟨h1, fun f hf => h2 f hf (h f hf).1, h3⟩
theorem promS_ext {s : StoreD} (hw : WF s) (k : Int) (st : RSt) (h0 : 0 ≤ k) (hk : k < s.promises.length) (hE : st.E.length = s.envs.length) (hP : st.P.length = s.promises.length) :
    Ext s st (promS s k st) ∧ gB (promS s k st).P k.toNat = true := by
  have hk' : k.toNat < s.promises.length := by omega
  have hp := List.getElem?_eq_getElem hk'
  unfold promS
  rw [hp]
  dsimp only
  generalize s.promises[k.toNat] = p at hp
  cases hg : gB st.P k.toNat
  · simp only [Bool.false_eq_true, if_false]
    have h1 : Ext s st (if p.state = 2 then ⟨st.E, st.P.set k.toNat true, st.T⟩ else envS p.env ⟨st.E, st.P.set k.toNat true, st.T⟩) → True := fun _ => trivial
    have hq : gB (st.P.set k.toNat true) k.toNat = true := by rw [gB_set, if_pos ⟨rfl, by omega⟩]
    obtain ⟨st1, hst1⟩ : ∃ st1, st1 = (if p.state = 2 then (⟨st.E, st.P.set k.toNat true, st.T⟩ : RSt) else envS p.env ⟨st.E, st.P.set k.toNat true, st.T⟩) := ⟨_, rfl⟩
    rw [← hst1]
    have hx : Ext s ⟨st.E, st.P.set k.toNat true, st.T⟩ st1 ∧ (p.state ≠ 2 → gB st1.E p.env.toNat = true) ∧ st1.P = st.P.set k.toNat true := by
      rw [hst1]
      by_cases h2 : p.state = 2
      · rw [if_pos h2]
        exact ⟨Ext.refl _ _, fun h => absurd h2 h, rfl⟩
      · rw [if_neg h2]
        have hr := hw.penv _ p hp h2
        obtain ⟨a1, a2, a3⟩ := envS_ext s p.env ⟨st.E, st.P.set k.toNat true, st.T⟩ (by show p.env < (st.E.length : Int); omega)
        exact ⟨a1, fun _ => a2 hr.1, a3⟩
    obtain ⟨x1, x2, x3⟩ := hx
    obtain ⟨y1, y2, y3⟩ := valS_ext s p.value st1 (fun f hf => by
      have := hw.pfunc _ p f hp hf
      have hl : st1.E.length = st.E.length := x1.le.1.symm
      omega)
    have z := x1.trans y1
    refine ⟨⟨z.le, ⟨by rw [y3, x3]; simp, fun i hi => by rw [y3, x3]; exact (LeB.set st.P _).2 i hi⟩, z.mem, z.new, fun i hi => ?_, z.tm, z.mu⟩, by rw [y3, x3]; exact hq⟩
    rw [y3, x3, gB_set] at hi
    split at hi
    · rename_i h2
      right
      intro p' hp'
      rw [← h2.1, hp] at hp'
      injection hp' with hp'
      subst hp'
      exact ⟨fun hs => y1.le.2 _ (x2 hs), y2⟩
    · exact .inl hi
  · simp only [if_true]
    exact ⟨Ext.refl _ _, hg⟩
theorem proms_ext {s : StoreD} (hw : WF s) : ∀ (l : List Int) (st : RSt), (∀ p ∈ l, 0 ≤ p ∧ p < s.promises.length) → st.E.length = s.envs.length → st.P.length = s.promises.length →
    Ext s st (l.foldl (fun st p => promS s p st) st) ∧ ∀ p ∈ l, gB (l.foldl (fun st p => promS s p st) st).P p.toNat = true := by
  intro l
  induction l with
  | nil => intro st _ _ _; exact ⟨Ext.refl _ _, fun e h => by simp at h⟩
  | cons a l ih =>
    intro st h hE hP
    obtain ⟨h1, h2⟩ := promS_ext hw a st (h a (by simp)).1 (h a (by simp)).2 hE hP
    obtain ⟨k1, k2⟩ := ih (promS s a st) (fun e he => h e (by simp [he])) (by rw [← h1.le.1]; exact hE) (by rw [← h1.leP.1]; exact hP)
    rw [List.foldl_cons]
    refine ⟨h1.trans k1, fun e he => ?_⟩
    rcases List.mem_cons.1 he with rfl | he
    · exact k1.leP.2 _ h2
    · exact k2 e he
theorem slotS_ext {s : StoreD} (hw : WF s) (i : Nat) (x : EnvD) (y : SlotD) (hx : s.envs[i]? = some x) (hy : y ∈ x.slots) (st : RSt) (hE : st.E.length = s.envs.length) (hP : st.P.length = s.promises.length) :
    Ext s st (slotS s y st) ∧ ClS y (slotS s y st).E (slotS s y st).P := by
  obtain ⟨a1, a2, a3⟩ := valS_ext s y.value st (fun f hf => by have := hw.func i x y f hx hy hf; omega)
  have hb : ∃ st1, st1 = (if y.kind = 2 then promS s y.promise (valS y.value st) else valS y.value st) ∧ Ext s (valS y.value st) st1 ∧ (y.kind = 2 → gB st1.P y.promise.toNat = true) := by
    by_cases h2 : y.kind = 2
    · have hr := hw.prom i x y hx hy h2
      obtain ⟨b1, b2⟩ := promS_ext hw y.promise (valS y.value st) hr.1 hr.2 (by rw [← a1.le.1]; exact hE) (by rw [← a1.leP.1]; exact hP)
      exact ⟨_, by rw [if_pos h2], b1, fun _ => b2⟩
    · exact ⟨_, by rw [if_neg h2], Ext.refl _ _, fun h => absurd h h2⟩
  obtain ⟨st1, e1, b1, b2⟩ := hb
  have ab := a1.trans b1
  obtain ⟨c1, c2⟩ := proms_ext hw y.promises st1 (fun p hp => hw.proms i x y p hx hy hp) (by rw [← ab.le.1]; exact hE) (by rw [← ab.leP.1]; exact hP)
  unfold slotS
  rw [← e1]
  exact ⟨ab.trans c1, fun f hf => (b1.trans c1).le.2 _ (a2 f hf), fun h2 => c1.leP.2 _ (b2 h2), c2⟩
theorem slots_ext {s : StoreD} (hw : WF s) (i : Nat) (x : EnvD) (hx : s.envs[i]? = some x) : ∀ (l : List SlotD) (st : RSt), (∀ y ∈ l, y ∈ x.slots) → st.E.length = s.envs.length → st.P.length = s.promises.length →
    Ext s st (l.foldl (fun st y => slotS s y st) st) ∧ ∀ y ∈ l, ClS y (l.foldl (fun st y => slotS s y st) st).E (l.foldl (fun st y => slotS s y st) st).P := by
  intro l
  induction l with
  | nil => intro st _ _ _; exact ⟨Ext.refl _ _, fun e h => by simp at h⟩
  | cons a l ih =>
    intro st h hE hP
    obtain ⟨h1, h2⟩ := slotS_ext hw i x a hx (h a (by simp)) st hE hP
    obtain ⟨k1, k2⟩ := ih (slotS s a st) (fun e he => h e (by simp [he])) (by rw [← h1.le.1]; exact hE) (by rw [← h1.leP.1]; exact hP)
    rw [List.foldl_cons]
    refine ⟨h1.trans k1, fun e he => ?_⟩
    rcases List.mem_cons.1 he with rfl | he
    · exact h2.mono k1.le k1.leP
    · exact k2 e he
theorem stepS_ext {s : StoreD} (hw : WF s) (i : Nat) (x : EnvD) (hx : s.envs[i]? = some x) (st : RSt) (hE : st.E.length = s.envs.length) (hP : st.P.length = s.promises.length) :
    Ext s st (stepS s x st) ∧ ClE s i (stepS s x st).E (stepS s x st).P := by
  obtain ⟨a1, a2, a3⟩ := envS_ext s x.parent st (by have := hw.parent i x hx; omega)
  obtain ⟨b1, b2⟩ := slots_ext hw i x hx x.slots (envS x.parent st) (fun _ h => h) (by rw [← a1.le.1]; exact hE) (by rw [← a1.leP.1]; exact hP)
  refine ⟨a1.trans b1, fun x' hx' => ?_⟩
  rw [hx] at hx'
  injection hx' with hx'
  subst hx'
  exact ⟨fun h0 => b1.le.2 _ (a2 h0), b2⟩

/-! ### what is marked is reached -/
def Snd (s : StoreD) (roots : List Int) (E P : List Bool) : Prop := (∀ i, gB E i = true → RN s roots false i) ∧ ∀ k, gB P k = true → RN s roots true k
theorem envS_snd {s : StoreD} {roots : List Int} (e : Int) (st : RSt) (h : Snd s roots st.E st.P) (he : 0 ≤ e → RN s roots false e.toNat) : Snd s roots (envS e st).E (envS e st).P := by
  unfold envS
  split
  · rename_i hc
    rw [Bool.and_eq_true, decide_eq_true_eq] at hc
    refine ⟨fun i hi => ?_, h.2⟩
    rw [gB_set] at hi
    split at hi
    · rename_i h1
      rw [← h1.1]
      exact he hc.1
    · exact h.1 i hi
  · exact h
theorem fold_snd {α : Type} {s : StoreD} {roots : List Int} (f : α → RSt → RSt) : ∀ (l : List α) (st : RSt), Snd s roots st.E st.P → (∀ x ∈ l, ∀ st, Snd s roots st.E st.P → Snd s roots (f x st).E (f x st).P) → Snd s roots (l.foldl (fun st x => f x st) st).E (l.foldl (fun st x => f x st) st).P := by
  intro l
  induction l with
  | nil => intro st h _; exact h
  | cons a l ih => intro st h hf; exact ih _ (hf a (by simp) st h) (fun x hx => hf x (by simp [hx]))
theorem valS_snd {s : StoreD} {roots : List Int} (d : VecD) (st : RSt) (h : Snd s roots st.E st.P) (hf : ∀ f ∈ funs d, RN s roots false f.toNat) : Snd s roots (valS d st).E (valS d st).P := by
  rw [valS_funs]
  exact fold_snd envS _ _ h (fun x hx st h => envS_snd x st h (fun _ => hf x hx))
theorem promS_snd {s : StoreD} {roots : List Int} (k : Int) (st : RSt) (h : Snd s roots st.E st.P) (hk : RN s roots true k.toNat) : Snd s roots (promS s k st).E (promS s k st).P := by
  unfold promS
  split
  · exact h
  · rename_i p hp
    split
    · exact h
    · have h1 : Snd s roots st.E (st.P.set k.toNat true) := ⟨h.1, fun i hi => by
        rw [gB_set] at hi
        split at hi
        · rename_i h1
          rw [← h1.1]
          exact hk
        · exact h.2 i hi⟩
      refine valS_snd _ _ ?_ (fun f hf => .pfunc _ p f hk hp hf)
      split
      · exact h1
      · rename_i hs
        exact envS_snd _ _ h1 (fun _ => .penv _ p hk hp hs)
theorem slotS_snd {s : StoreD} {roots : List Int} (i : Nat) (x : EnvD) (y : SlotD) (hr : RN s roots false i) (hx : s.envs[i]? = some x) (hy : y ∈ x.slots) (st : RSt) (h : Snd s roots st.E st.P) : Snd s roots (slotS s y st).E (slotS s y st).P := by
  unfold slotS
  have h1 := valS_snd y.value st h (fun f hf => .func i x y f hr hx hy hf)
  refine fold_snd (promS s) _ _ ?_ (fun p hp st h => promS_snd p st h (.proms i x y p hr hx hy hp))
  split
  · rename_i hk
    exact promS_snd _ _ h1 (.prom i x y hr hx hy hk)
  · exact h1
theorem stepS_snd {s : StoreD} {roots : List Int} (i : Nat) (x : EnvD) (hr : RN s roots false i) (hx : s.envs[i]? = some x) (st : RSt) (h : Snd s roots st.E st.P) : Snd s roots (stepS s x st).E (stepS s x st).P := by
  unfold stepS
  exact fold_snd (slotS s) _ _ (envS_snd _ _ h (fun h0 => .parent i x hr hx h0)) (fun y hy st h => slotS_snd i x y hr hx hy st h)

/-- what holds at the head of each round -/
structure RInv (s : StoreD) (roots : List Int) (st : RSt) : Prop where
  lenE : st.E.length = s.envs.length
  lenP : st.P.length = s.promises.length
  snd : Snd s roots st.E st.P
  clE : ∀ i, gB st.E i = true → (i : Int) ∈ st.T ∨ ClE s i st.E st.P
  clP : ∀ k, gB st.P k = true → ClP s k st.E
  tm : ∀ e ∈ st.T, 0 ≤ e ∧ gB st.E e.toNat = true
  zero : gB st.E 0 = true
  root : ∀ e ∈ roots, gB st.E e.toNat = true
theorem RInv.marked {s : StoreD} {roots : List Int} {st : RSt} (h : RInv s roots st) (h0 : st.T = []) : Marked s roots st.E st.P :=
  ⟨h.lenE, h.lenP, h.snd.1, h.snd.2, fun i hi => (h.clE i hi).resolve_left (by rw [h0]; simp), h.clP, h.zero, h.root⟩
theorem RInv.step {s : StoreD} (hw : WF s) {roots : List Int} {E P : List Bool} {T : List Int} {e : Int} (h : RInv s roots ⟨E, P, T ++ [e]⟩) (x : EnvD) (hx : s.envs[e.toNat]? = some x) :
    RInv s roots (stepS s x ⟨E, P, T⟩) ∧ (stepS s x ⟨E, P, T⟩).E.count false + (stepS s x ⟨E, P, T⟩).T.length < E.count false + (T ++ [e]).length := by
  have ht := h.tm e (by simp)
  obtain ⟨a1, a2⟩ := stepS_ext hw e.toNat x hx ⟨E, P, T⟩ h.lenE h.lenP
  have hs := stepS_snd (roots := roots) e.toNat x (h.snd.1 _ ht.2) hx ⟨E, P, T⟩ h.snd
  refine ⟨⟨a1.le.1.symm.trans h.lenE, a1.leP.1.symm.trans h.lenP, hs, fun i hi => ?_, fun k hk => ?_, fun e' he' => ?_, a1.le.2 _ h.zero, fun e' he' => a1.le.2 _ (h.root e' he')⟩, ?_⟩
  · rcases a1.new i hi with h1 | h1
    · rcases h.clE i h1 with h2 | h2
      · rcases List.mem_append.1 h2 with h3 | h3
        · exact .inl (a1.mem _ h3)
        · have : (i : Int) = e := List.mem_singleton.1 h3
          have : i = e.toNat := by omega
          subst this
          exact .inr a2
      · exact .inr (h2.mono a1.le a1.leP)
    · exact .inl h1
  · rcases a1.newP k hk with h1 | h1
    · exact (h.clP k h1).mono a1.le
    · exact h1
  · rcases a1.tm e' he' with h1 | h1
    · have := h.tm e' (List.mem_append_left _ h1)
      exact ⟨this.1, a1.le.2 _ this.2⟩
    · exact h1
  · have := a1.mu
    simp only [List.length_append, List.length_singleton]
    have h2 : (⟨E, P, T⟩ : RSt).E = E := rfl
    have h3 : (⟨E, P, T⟩ : RSt).T = T := rfl
    rw [h2, h3] at this
    omega
/-- the start: the global environment and the roots -/
theorem gB_rep (n i : Nat) : gB (List.replicate n false) i = false := by
  unfold gB
  rw [List.getD_eq_getElem?_getD, List.getElem?_replicate]
  split <;> rfl
theorem RInv.start {s : StoreD} (roots : List Int) (hr : ∀ e ∈ roots, 0 ≤ e ∧ e < s.envs.length) (h0 : 0 < s.envs.length) :
    RInv s roots (roots.foldl (fun st e => envS e st) (envS 0 ⟨List.replicate s.envs.length false, List.replicate s.promises.length false, []⟩)) := by
  have S0 : Snd s roots (List.replicate s.envs.length false) (List.replicate s.promises.length false) := ⟨fun i hi => (by rw [gB_rep] at hi; cases hi), fun i hi => (by rw [gB_rep] at hi; cases hi)⟩
  obtain ⟨a1, a2, a3⟩ := envS_ext s 0 ⟨List.replicate s.envs.length false, List.replicate s.promises.length false, []⟩ (by simpa using h0)
  obtain ⟨b1, b2, b3⟩ := envs_ext s roots (envS 0 ⟨List.replicate s.envs.length false, List.replicate s.promises.length false, []⟩) (fun e he => by
    rw [← a1.le.1]
    have := (hr e he).2
    simpa using this)
  have ab := a1.trans b1
  have S1 := envS_snd (roots := roots) 0 ⟨List.replicate s.envs.length false, List.replicate s.promises.length false, []⟩ S0 (fun _ => .zero)
  have S2 := fold_snd (roots := roots) envS roots _ S1 (fun x hx st h => envS_snd x st h (fun _ => .root x hx))
  refine ⟨by rw [← ab.le.1]; simp, by rw [← ab.leP.1]; simp, S2, fun i hi => ?_, fun k hk => ?_, fun e he => ?_, b1.le.2 _ (a2 (Int.le_refl _)), fun e he => b2 e he (hr e he).1⟩
  · rcases ab.new i hi with h | h
    · rw [gB_rep] at h; cases h
    · exact .inl h
  · rcases ab.newP k hk with h | h
    · rw [gB_rep] at h; cases h
    · exact h
  · rcases ab.tm e he with h | h
    · simp at h
    · exact h

/-! ### The reference's way -/
structure MSt where
  E : List Bool
  P : List Bool
def setE (e : Int) (st : MSt) : MSt := ⟨st.E.set e.toNat true, st.P⟩
def setP (k : Int) (st : MSt) : MSt := ⟨st.E, st.P.set k.toNat true⟩
def valM (d : VecD) (E : List Bool) : List Bool := (funs d).foldl (fun E e => E.set e.toNat true) E
theorem valM_eq (d : VecD) (E : List Bool) : valM d E = d.parts.foldl (fun E d => valM d E) (if d.kind = 5 then E.set d.env.toNat true else E) := by
  unfold valM
  rw [funs_eq, List.foldl_append]
  have : ∀ (l : List VecD) (E : List Bool), (l.flatMap funs).foldl (fun E e => E.set e.toNat true) E = l.foldl (fun E d => (funs d).foldl (fun E e => E.set e.toNat true) E) E := by
    intro l
    induction l with
    | nil => intro E; rfl
    | cons d l ih => intro E; rw [List.flatMap_cons, List.foldl_append, ih]; rfl
  rw [this]
  split <;> rfl
def slotM (y : SlotD) (st : MSt) : MSt := y.promises.foldl (fun st p => setP p st) (if y.kind = 2 then setP y.promise ⟨valM y.value st.E, st.P⟩ else ⟨valM y.value st.E, st.P⟩)
def envM (i : Nat) (x : EnvD) (st : MSt) : MSt :=
  let st1 := if gB st.E i = true ∧ 0 < i then setE x.parent st else st
  if gB st1.E i = true then x.slots.foldl (fun st y => slotM y st) st1 else st1
def promM (k : Nat) (p : PromD) (st : MSt) : MSt :=
  let st1 := if gB st.P k = true then ⟨valM p.value st.E, st.P⟩ else st
  if gB st1.P k = true ∧ p.state ≠ 2 then setE p.env st1 else st1
def envsM (s : StoreD) (st : MSt) : Nat → MSt
  | 0 => st
  | n + 1 => match s.envs[n]? with | some x => envM n x (envsM s st n) | none => envsM s st n
def promsM (s : StoreD) (st : MSt) : Nat → MSt
  | 0 => st
  | n + 1 => match s.promises[n]? with | some x => promM n x (promsM s st n) | none => promsM s st n
def roundM (s : StoreD) (st : MSt) : MSt := promsM s (envsM s st s.envs.length) s.promises.length

def LeM (a b : MSt) : Prop := LeB a.E b.E ∧ LeB a.P b.P
theorem LeM.refl (a : MSt) : LeM a a := ⟨LeB.refl _, LeB.refl _⟩
theorem LeM.trans {a b c : MSt} (h : LeM a b) (k : LeM b c) : LeM a c := ⟨h.1.trans k.1, h.2.trans k.2⟩
theorem setE_le (e : Int) (st : MSt) : LeM st (setE e st) := ⟨LeB.set _ _, LeB.refl _⟩
theorem setP_le (e : Int) (st : MSt) : LeM st (setP e st) := ⟨LeB.refl _, LeB.set _ _⟩
theorem sets_le : ∀ (l : List Int) (E : List Bool), LeB E (l.foldl (fun E e => E.set e.toNat true) E) ∧ ∀ e ∈ l, e.toNat < E.length → gB (l.foldl (fun E e => E.set e.toNat true) E) e.toNat = true := by
  intro l
  induction l with
  | nil => intro E; exact ⟨LeB.refl _, fun e h => by simp at h⟩
  | cons a l ih =>
    intro E
    obtain ⟨h1, h2⟩ := ih (E.set a.toNat true)
    rw [List.foldl_cons]
    refine ⟨(LeB.set _ _).trans h1, fun e he hl => ?_⟩
    rcases List.mem_cons.1 he with rfl | he
    · exact h1.2 _ (by rw [gB_set, if_pos ⟨rfl, hl⟩])
    · exact h2 e he (by simpa using hl)
theorem setPs_le : ∀ (l : List Int) (st : MSt), LeM st (l.foldl (fun st p => setP p st) st) ∧ ∀ e ∈ l, e.toNat < st.P.length → gB (l.foldl (fun st p => setP p st) st).P e.toNat = true := by
  intro l
  induction l with
  | nil => intro E; exact ⟨LeM.refl _, fun e h => by simp at h⟩
  | cons a l ih =>
    intro st
    obtain ⟨h1, h2⟩ := ih (setP a st)
    rw [List.foldl_cons]
    refine ⟨(setP_le _ _).trans h1, fun e he hl => ?_⟩
    rcases List.mem_cons.1 he with rfl | he
    · exact h1.2.2 _ (by show gB (st.P.set e.toNat true) e.toNat = true; rw [gB_set, if_pos ⟨rfl, hl⟩])
    · exact h2 e he (by show _ < (st.P.set a.toNat true).length; simpa using hl)
theorem slotM_le {s : StoreD} (hw : WF s) (i : Nat) (x : EnvD) (y : SlotD) (hx : s.envs[i]? = some x) (hy : y ∈ x.slots) (st : MSt) (hE : st.E.length = s.envs.length) (hP : st.P.length = s.promises.length) :
    LeM st (slotM y st) ∧ ClS y (slotM y st).E (slotM y st).P := by
  obtain ⟨a1, a2⟩ := sets_le (funs y.value) st.E
  obtain ⟨st1, e1⟩ : ∃ st1, st1 = (if y.kind = 2 then setP y.promise ⟨valM y.value st.E, st.P⟩ else ⟨valM y.value st.E, st.P⟩) := ⟨_, rfl⟩
  have h0 : LeM st ⟨valM y.value st.E, st.P⟩ := ⟨a1, LeB.refl _⟩
  have h1 : LeM ⟨valM y.value st.E, st.P⟩ st1 ∧ (y.kind = 2 → gB st1.P y.promise.toNat = true) := by
    by_cases hk : y.kind = 2
    · rw [e1, if_pos hk]
      have := hw.prom i x y hx hy hk
      exact ⟨setP_le _ _, fun _ => by show gB (st.P.set _ true) _ = true; rw [gB_set, if_pos ⟨rfl, by omega⟩]⟩
    · rw [e1, if_neg hk]
      exact ⟨LeM.refl _, fun h => absurd h hk⟩
  obtain ⟨b1, b2⟩ := setPs_le y.promises st1
  unfold slotM
  rw [← e1]
  refine ⟨h0.trans (h1.1.trans b1), fun f hf => ?_, fun hk => b1.2.2 _ (h1.2 hk), fun p hp => b2 p hp ?_⟩
  · have := hw.func i x y f hx hy hf
    exact (h1.1.trans b1).1.2 _ (a2 f hf (by omega))
  · have := hw.proms i x y p hx hy hp
    have h3 := h1.1.2.1
    have h4 : (⟨valM y.value st.E, st.P⟩ : MSt).P = st.P := rfl
    rw [h4] at h3
    omega
theorem slotsM_le {s : StoreD} (hw : WF s) (i : Nat) (x : EnvD) (hx : s.envs[i]? = some x) : ∀ (l : List SlotD) (st : MSt), (∀ y ∈ l, y ∈ x.slots) → st.E.length = s.envs.length → st.P.length = s.promises.length →
    LeM st (l.foldl (fun st y => slotM y st) st) ∧ ∀ y ∈ l, ClS y (l.foldl (fun st y => slotM y st) st).E (l.foldl (fun st y => slotM y st) st).P := by
  intro l
  induction l with
  | nil => intro st _ _ _; exact ⟨LeM.refl _, fun e h => by simp at h⟩
  | cons a l ih =>
    intro st h hE hP
    obtain ⟨h1, h2⟩ := slotM_le hw i x a hx (h a (by simp)) st hE hP
    obtain ⟨k1, k2⟩ := ih (slotM a st) (fun e he => h e (by simp [he])) (by rw [← h1.1.1]; exact hE) (by rw [← h1.2.1]; exact hP)
    rw [List.foldl_cons]
    refine ⟨h1.trans k1, fun e he => ?_⟩
    rcases List.mem_cons.1 he with rfl | he
    · exact h2.mono k1.1 k1.2
    · exact k2 e he
/-- parents stand before, but for the global one, which has none -/
def P0 (s : StoreD) : Prop := ∀ (i : Nat) (x : EnvD), s.envs[i]? = some x → (i = 0 → x.parent < 0)
theorem envM_le {s : StoreD} (hw : WF s) (h0 : P0 s) (i : Nat) (x : EnvD) (hx : s.envs[i]? = some x) (st : MSt) (hE : st.E.length = s.envs.length) (hP : st.P.length = s.promises.length) :
    LeM st (envM i x st) ∧ (gB st.E i = true → ClE s i (envM i x st).E (envM i x st).P) := by
  obtain ⟨st1, e1⟩ : ∃ st1, st1 = (if gB st.E i = true ∧ 0 < i then setE x.parent st else st) := ⟨_, rfl⟩
  have h1 : LeM st st1 ∧ (gB st.E i = true → 0 ≤ x.parent → gB st1.E x.parent.toNat = true) := by
    by_cases hc : gB st.E i = true ∧ 0 < i
    · rw [e1, if_pos hc]
      refine ⟨setE_le _ _, fun _ hp => ?_⟩
      have := hw.parent i x hx
      show gB (st.E.set _ true) _ = true
      rw [gB_set, if_pos ⟨rfl, by omega⟩]
    · rw [e1, if_neg hc]
      refine ⟨LeM.refl _, fun hg hp => ?_⟩
      have : i = 0 := by
        by_cases h : i = 0
        · exact h
        · exact absurd ⟨hg, by omega⟩ hc
      have := h0 i x hx this
      omega
  unfold envM
  rw [← e1]
  dsimp only
  by_cases hg : gB st1.E i = true
  · rw [if_pos hg]
    obtain ⟨b1, b2⟩ := slotsM_le hw i x hx x.slots st1 (fun _ h => h) (by rw [← h1.1.1.1]; exact hE) (by rw [← h1.1.2.1]; exact hP)
    refine ⟨h1.1.trans b1, fun hg' x' hx' => ?_⟩
    rw [hx] at hx'
    injection hx' with hx'
    subst hx'
    exact ⟨fun hp => b1.1.2 _ (h1.2 hg' hp), b2⟩
  · rw [if_neg hg]
    exact ⟨h1.1, fun hg' => absurd (h1.1.1.2 _ hg') hg⟩
theorem promM_le {s : StoreD} (hw : WF s) (k : Nat) (p : PromD) (hp : s.promises[k]? = some p) (st : MSt) (hE : st.E.length = s.envs.length) :
    LeM st (promM k p st) ∧ (gB st.P k = true → ClP s k (promM k p st).E) := by
  obtain ⟨st1, e1⟩ : ∃ st1, st1 = (if gB st.P k = true then (⟨valM p.value st.E, st.P⟩ : MSt) else st) := ⟨_, rfl⟩
  obtain ⟨a1, a2⟩ := sets_le (funs p.value) st.E
  have h1 : LeM st st1 ∧ st1.P = st.P ∧ (gB st.P k = true → ∀ f ∈ funs p.value, gB st1.E f.toNat = true) := by
    by_cases hc : gB st.P k = true
    · rw [e1, if_pos hc]
      exact ⟨⟨a1, LeB.refl _⟩, rfl, fun _ f hf => a2 f hf (by have := hw.pfunc k p f hp hf; omega)⟩
    · rw [e1, if_neg hc]
      exact ⟨LeM.refl _, rfl, fun h => absurd h hc⟩
  unfold promM
  rw [← e1]
  dsimp only
  by_cases hg : gB st1.P k = true ∧ p.state ≠ 2
  · rw [if_pos hg]
    refine ⟨h1.1.trans (setE_le _ _), fun hg' p' hp' => ?_⟩
    rw [hp] at hp'
    injection hp' with hp'
    subst hp'
    have := hw.penv k p hp hg.2
    have h3 := h1.1.1.1
    exact ⟨fun _ => by show gB (st1.E.set _ true) _ = true; rw [gB_set, if_pos ⟨rfl, by omega⟩], fun f hf => (setE_le p.env st1).1.2 _ (h1.2.2 hg' f hf)⟩
  · rw [if_neg hg]
    refine ⟨h1.1, fun hg' p' hp' => ?_⟩
    rw [hp] at hp'
    injection hp' with hp'
    subst hp'
    exact ⟨fun hs => absurd ⟨by rw [h1.2.1]; exact hg', hs⟩ hg, h1.2.2 hg'⟩
theorem envsM_le {s : StoreD} (hw : WF s) (h0 : P0 s) (st : MSt) (hE : st.E.length = s.envs.length) (hP : st.P.length = s.promises.length) : ∀ n, n ≤ s.envs.length →
    LeM st (envsM s st n) ∧ ∀ i, i < n → gB st.E i = true → ClE s i (envsM s st n).E (envsM s st n).P := by
  intro n
  induction n with
  | zero => intro _; exact ⟨LeM.refl _, fun i h => by omega⟩
  | succ n ih =>
    intro hn
    obtain ⟨h1, h2⟩ := ih (by omega)
    have hx := List.getElem?_eq_getElem (show n < s.envs.length by omega)
    rw [envsM, hx]
    obtain ⟨k1, k2⟩ := envM_le hw h0 n _ hx (envsM s st n) (by rw [← h1.1.1]; exact hE) (by rw [← h1.2.1]; exact hP)
    refine ⟨h1.trans k1, fun i hi hg => ?_⟩
    by_cases h : i = n
    · subst h; exact k2 (h1.1.2 _ hg)
    · exact (h2 i (by omega) hg).mono k1.1 k1.2
theorem promsM_le {s : StoreD} (hw : WF s) (st : MSt) (hE : st.E.length = s.envs.length) : ∀ n, n ≤ s.promises.length →
    LeM st (promsM s st n) ∧ ∀ i, i < n → gB st.P i = true → ClP s i (promsM s st n).E := by
  intro n
  induction n with
  | zero => intro _; exact ⟨LeM.refl _, fun i h => by omega⟩
  | succ n ih =>
    intro hn
    obtain ⟨h1, h2⟩ := ih (by omega)
    have hx := List.getElem?_eq_getElem (show n < s.promises.length by omega)
    rw [promsM, hx]
    obtain ⟨k1, k2⟩ := promM_le hw n _ hx (promsM s st n) (by rw [← h1.1.1]; exact hE)
    refine ⟨h1.trans k1, fun i hi hg => ?_⟩
    by_cases h : i = n
    · subst h; exact k2 (h1.2.2 _ hg)
    · exact (h2 i (by omega) hg).mono k1.1
theorem roundM_le {s : StoreD} (hw : WF s) (h0 : P0 s) (st : MSt) (hE : st.E.length = s.envs.length) (hP : st.P.length = s.promises.length) :
    LeM st (roundM s st) ∧ (∀ i, gB st.E i = true → ClE s i (roundM s st).E (roundM s st).P) ∧ ∀ i, gB st.P i = true → ClP s i (roundM s st).E := by
  obtain ⟨a1, a2⟩ := envsM_le hw h0 st hE hP s.envs.length (Nat.le_refl _)
  obtain ⟨b1, b2⟩ := promsM_le hw (envsM s st s.envs.length) (by rw [← a1.1.1]; exact hE) s.promises.length (Nat.le_refl _)
  refine ⟨a1.trans b1, fun i hg => (a2 i (by rw [← hE]; exact gB_lt hg) hg).mono b1.1 b1.2, fun i hg => b2 i (by rw [← hP]; exact gB_lt hg) (a1.2.2 _ hg)⟩
theorem sets_snd {s : StoreD} {roots : List Int} : ∀ (l : List Int) (E P : List Bool), Snd s roots E P → (∀ e ∈ l, RN s roots false e.toNat) → Snd s roots (l.foldl (fun E e => E.set e.toNat true) E) P := by
  intro l
  induction l with
  | nil => intro E P h _; exact h
  | cons a l ih =>
    intro E P h hl
    refine ih _ _ ⟨fun i hi => ?_, h.2⟩ (fun e he => hl e (by simp [he]))
    rw [gB_set] at hi
    split at hi
    · rename_i h1
      rw [← h1.1]
      exact hl a (by simp)
    · exact h.1 i hi
theorem setP_snd {s : StoreD} {roots : List Int} (k : Int) (st : MSt) (h : Snd s roots st.E st.P) (hk : RN s roots true k.toNat) : Snd s roots (setP k st).E (setP k st).P := ⟨h.1, fun i hi => by
  have hi : gB (st.P.set k.toNat true) i = true := hi
  rw [gB_set] at hi
  split at hi
  · rename_i h1
    rw [← h1.1]
    exact hk
  · exact h.2 i hi⟩
theorem setE_snd {s : StoreD} {roots : List Int} (k : Int) (st : MSt) (h : Snd s roots st.E st.P) (hk : RN s roots false k.toNat) : Snd s roots (setE k st).E (setE k st).P := ⟨fun i hi => by
  have hi : gB (st.E.set k.toNat true) i = true := hi
  rw [gB_set] at hi
  split at hi
  · rename_i h1
    rw [← h1.1]
    exact hk
  · exact h.1 i hi, h.2⟩
theorem foldM_snd {α : Type} {s : StoreD} {roots : List Int} (f : α → MSt → MSt) : ∀ (l : List α) (st : MSt), Snd s roots st.E st.P → (∀ x ∈ l, ∀ st, Snd s roots st.E st.P → Snd s roots (f x st).E (f x st).P) → Snd s roots (l.foldl (fun st x => f x st) st).E (l.foldl (fun st x => f x st) st).P := by
  intro l
  induction l with
  | nil => intro st h _; exact h
  | cons a l ih => intro st h hf; exact ih _ (hf a (by simp) st h) (fun x hx => hf x (by simp [hx]))
theorem slotM_snd {s : StoreD} {roots : List Int} (i : Nat) (x : EnvD) (y : SlotD) (hr : RN s roots false i) (hx : s.envs[i]? = some x) (hy : y ∈ x.slots) (st : MSt) (h : Snd s roots st.E st.P) : Snd s roots (slotM y st).E (slotM y st).P := by
  unfold slotM
  have h1 : Snd s roots (valM y.value st.E) st.P := sets_snd _ _ _ h (fun f hf => .func i x y f hr hx hy hf)
  refine foldM_snd setP _ _ ?_ (fun p hp st h => setP_snd p st h (.proms i x y p hr hx hy hp))
  split
  · rename_i hk
    exact setP_snd _ _ h1 (.prom i x y hr hx hy hk)
  · exact h1
theorem envM_snd {s : StoreD} {roots : List Int} (h0 : ∀ (i : Nat) (x : EnvD), s.envs[i]? = some x → 0 < i → 0 ≤ x.parent) (i : Nat) (x : EnvD) (hx : s.envs[i]? = some x) (st : MSt) (h : Snd s roots st.E st.P) : Snd s roots (envM i x st).E (envM i x st).P := by
  obtain ⟨st1, e1⟩ : ∃ st1, st1 = (if gB st.E i = true ∧ 0 < i then setE x.parent st else st) := ⟨_, rfl⟩
  have h1 : Snd s roots st1.E st1.P := by
    rw [e1]
    split
    · rename_i hc
      have hr := h.1 _ hc.1
      exact setE_snd _ _ h (.parent i x hr hx (h0 i x hx hc.2))
    · exact h
  unfold envM
  rw [← e1]
  dsimp only
  split
  · rename_i hg
    exact foldM_snd slotM _ _ h1 (fun y hy st h => slotM_snd i x y (h1.1 _ hg) hx hy st h)
  · exact h1
theorem promM_snd {s : StoreD} {roots : List Int} (k : Nat) (p : PromD) (hp : s.promises[k]? = some p) (st : MSt) (h : Snd s roots st.E st.P) : Snd s roots (promM k p st).E (promM k p st).P := by
  obtain ⟨st1, e1⟩ : ∃ st1, st1 = (if gB st.P k = true then (⟨valM p.value st.E, st.P⟩ : MSt) else st) := ⟨_, rfl⟩
  have h1 : Snd s roots st1.E st1.P := by
    rw [e1]
    split
    · rename_i hc
      exact sets_snd _ _ _ h (fun f hf => .pfunc k p f (h.2 _ hc) hp hf)
    · exact h
  unfold promM
  rw [← e1]
  dsimp only
  split
  · rename_i hg
    exact setE_snd _ _ h1 (.penv k p (h1.2 _ hg.1) hp hg.2)
  · exact h1
theorem envsM_snd {s : StoreD} {roots : List Int} (h0 : ∀ (i : Nat) (x : EnvD), s.envs[i]? = some x → 0 < i → 0 ≤ x.parent) (st : MSt) (h : Snd s roots st.E st.P) : ∀ n, Snd s roots (envsM s st n).E (envsM s st n).P := by
  intro n
  induction n with
  | zero => exact h
  | succ n ih =>
    rw [envsM]
    split
    · rename_i x hx
      exact envM_snd h0 n x hx _ ih
    · exact ih
theorem promsM_snd {s : StoreD} {roots : List Int} (st : MSt) (h : Snd s roots st.E st.P) : ∀ n, Snd s roots (promsM s st n).E (promsM s st n).P := by
  intro n
  induction n with
  | zero => exact h
  | succ n ih =>
    rw [promsM]
    split
    · rename_i x hx
      exact promM_snd n x hx _ ih
    · exact ih
theorem roundM_snd {s : StoreD} {roots : List Int} (h0 : ∀ (i : Nat) (x : EnvD), s.envs[i]? = some x → 0 < i → 0 ≤ x.parent) (st : MSt) (h : Snd s roots st.E st.P) : Snd s roots (roundM s st).E (roundM s st).P := promsM_snd _ (envsM_snd h0 st h _) _
def cntB (l : List Bool) : Nat := l.count true
theorem cnt_le {a b : List Bool} (h : LeB a b) : cntB a ≤ cntB b ∧ (cntB a = cntB b → a = b) := by
  obtain ⟨hl, hi⟩ := h
  unfold cntB
  induction a generalizing b with
  | nil => cases b with
    | nil => exact ⟨Nat.le_refl _, fun _ => rfl⟩
    | cons x b => simp at hl
  | cons x a ih => cases b with
    | nil => simp at hl
    | cons y b =>
      obtain ⟨h1, h2⟩ := ih (b := b) (by simpa using hl) (fun i h => by have := hi (i + 1); simpa [gB] using this (by simpa [gB] using h))
      have h0 := hi 0
      simp only [gB, List.getD_cons_zero] at h0
      simp only [List.count_cons]
      cases x <;> cases y <;> simp at h0 ⊢
      · exact ⟨h1, fun h => h2 h⟩
      · exact ⟨by omega, by omega⟩
      · exact ⟨h1, fun h => h2 h⟩
/-- what holds at the head of each round of the reference -/
structure MInv (s : StoreD) (roots : List Int) (st : MSt) : Prop where
  lenE : st.E.length = s.envs.length
  lenP : st.P.length = s.promises.length
  snd : Snd s roots st.E st.P
  zero : gB st.E 0 = true
  root : ∀ e ∈ roots, gB st.E e.toNat = true
theorem MInv.step {s : StoreD} (hw : WF s) (hp0 : P0 s) (h0 : ∀ (i : Nat) (x : EnvD), s.envs[i]? = some x → 0 < i → 0 ≤ x.parent) {roots : List Int} {st : MSt} (h : MInv s roots st) :
    MInv s roots (roundM s st) ∧ cntB st.E + cntB st.P ≤ cntB (roundM s st).E + cntB (roundM s st).P ∧ (cntB st.E + cntB st.P = cntB (roundM s st).E + cntB (roundM s st).P → Marked s roots (roundM s st).E (roundM s st).P) := by
  obtain ⟨a1, a2, a3⟩ := roundM_le hw hp0 st h.lenE h.lenP
  have hs := roundM_snd h0 st h.snd
  obtain ⟨c1, c2⟩ := cnt_le a1.1
  obtain ⟨d1, d2⟩ := cnt_le a1.2
  refine ⟨⟨a1.1.1.symm.trans h.lenE, a1.2.1.symm.trans h.lenP, hs, a1.1.2 _ h.zero, fun e he => a1.1.2 _ (h.root e he)⟩, by omega, fun he => ?_⟩
  have e1 := c2 (by omega)
  have e2 := d2 (by omega)
  exact ⟨a1.1.1.symm.trans h.lenE, a1.2.1.symm.trans h.lenP, hs.1, hs.2, fun i hi => a2 i (by rw [e1]; exact hi), fun k hk => a3 k (by rw [e2]; exact hk), a1.1.2 _ h.zero, fun e he => a1.1.2 _ (h.root e he)⟩
end Go.Proofs.YtejieacdfjpfnaaGreat
