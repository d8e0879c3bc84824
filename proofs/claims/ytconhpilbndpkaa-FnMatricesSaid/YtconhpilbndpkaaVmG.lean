/-
  A machine on values that read as trees: calls with pointers, calls that look at rows, elements of rows, names.
-/
import Derived.Test.YtconhpilbndpkaaVmF
namespace Go.Proofs.Ytconhpilbndpkaa.Vm
open Go.RowKit
set_option linter.unusedVariables false

/-! ### things of memory under other names -/
structure Ch where
  p : Nat → Nat → Option T
  s : Nat → List (List C) → Option T
  r : Nat → Nat → Nat → Option T
mutual
def mapT (h : Ch) : T → Option T
  | .pt id off => h.p id off
  | .sk id els => h.s id els
  | .rw id n cap => h.r id n cap
  | .ag ts => (match mapTs h ts with | some l => some (.ag l) | none => none)
  | .tu ts => (match mapTs h ts with | some l => some (.tu l) | none => none)
  | t => pureT t
def mapTs (h : Ch) : List T → Option (List T)
  | [] => some []
  | t :: ts => match mapT h t, mapTs h ts with | some x, some l => some (x :: l) | _, _ => none
end
mutual
/-- the rows that are named, with the lengths -/
def rwsT : T → List (Nat × Nat)
  | .rw id n _ => [(id, n)]
  | .ag ts => rwsTs ts
  | .tu ts => rwsTs ts
  | _ => []
def rwsTs : List T → List (Nat × Nat)
  | [] => []
  | t :: ts => rwsT t ++ rwsTs ts
end
theorem rwsTs_mem {t : T} {p : Nat × Nat} : ∀ {ts : List T}, t ∈ ts → p ∈ rwsT t → p ∈ rwsTs ts
  | x :: ts, h, e => by
    simp only [rwsTs, List.mem_append]
    rcases List.mem_cons.1 h with rfl | h
    · exact .inl e
    · exact .inr (rwsTs_mem h e)
structure ChOk (A : Nat × Nat → Prop) (h : Ch) (Z : Kn) (ρ : Rho) (Z2 : Kn) (ρ2 : Rho) : Prop where
  kle : KLe Z Z2
  p : ∀ id off t' v, h.p id off = some t' → RdT Z ρ (.pt id off) v → RdT Z2 ρ2 t' v ∧ t'.one = true
  s : ∀ id els t' v, h.s id els = some t' → RdT Z ρ (.sk id els) v → RdT Z2 ρ2 t' v ∧ t'.one = true
  r : ∀ id n cap t' v, A (id, n) → h.r id n cap = some t' → RdT Z ρ (.rw id n cap) v → RdT Z2 ρ2 t' v ∧ t'.one = true
theorem mapT_relA {A : Nat × Nat → Prop} {h : Ch} {Z Z2 : Kn} {ρ ρ2 : Rho} (hh : ChOk A h Z ρ Z2 ρ2) {t : T} {v : Value} (k : RdT Z ρ t v) : (∀ p ∈ rwsT t, A p) → ∀ t', mapT h t = some t' → RdT Z2 ρ2 t' v ∧ (t.one = true → t'.one = true) := by
  have lists : ∀ (ts : List T) (vs : List Value) (ts' : List T), ts.length = vs.length → (∀ (i : Nat) (t : T) (v : Value), ts[i]? = some t → vs[i]? = some v → (∀ p ∈ rwsT t, A p) → ∀ t', mapT h t = some t' → RdT Z2 ρ2 t' v ∧ (t.one = true → t'.one = true)) → (∀ p ∈ rwsTs ts, A p) → mapTs h ts = some ts' →
      RdTs Z2 ρ2 ts' vs ∧ ((∀ t ∈ ts, t.one = true) → ∀ t ∈ ts', t.one = true) := by
    intro ts
    induction ts with
    | nil =>
      intro vs ts' hl _ _ e
      injection e with e; subst e
      obtain rfl := List.eq_nil_of_length_eq_zero (by simpa using hl.symm)
      exact ⟨.nil _ _, fun _ t ht => by simp at ht⟩
    | cons t ts ih =>
      intro vs ts' hl hp hA e
      cases vs with
      | nil => simp at hl
      | cons v vs =>
        unfold mapTs at e
        split at e
        · rename_i x l hx hl'
          injection e with e; subst e
          obtain ⟨k1, k2⟩ := hp 0 t v rfl rfl (fun p h => hA p (rwsTs_mem List.mem_cons_self h)) x hx
          obtain ⟨k3, k4⟩ := ih vs l (by simpa using hl) (fun i t v h1 h2 => hp (i + 1) t v (by simpa using h1) (by simpa using h2)) (fun p h => hA p (by simp only [rwsTs, List.mem_append]; exact .inr h)) hl'
          refine ⟨.cons k1 k3, fun ho t' ht' => ?_⟩
          rcases List.mem_cons.1 ht' with rfl | ht'
          · exact k2 (ho _ List.mem_cons_self)
          · exact k4 (fun t ht => ho t (List.mem_cons_of_mem _ ht)) t' ht'
        · cases e
  have other : ∀ t v, RdT Z ρ t v → ∀ t', pureT t = some t' → RdT Z2 ρ2 t' v ∧ (t.one = true → t'.one = true) := fun t v h t' e => ⟨(pure_rel h t' e).1.mono hh.kle (RLe.zero _), (pure_rel h t' e).2⟩
  induction k with
  | c x v h => intro hA t' e; exact other _ _ (.c x v h) t' e
  | q x => intro hA t' e; exact other _ _ (.q x) t' e
  | nil => intro hA t' e; exact other _ _ .nil t' e
  | sk id els v u n h hi hn he => intro hA t' e; have := hh.s id els t' v e (.sk id els v u n h hi hn he); exact ⟨this.1, fun _ => this.2⟩
  | rw id n b cap hi hc hm => intro hA t' e; have := hh.r id n cap t' _ (hA _ List.mem_cons_self) e (.rw id n b cap hi hc hm); exact ⟨this.1, fun _ => this.2⟩
  | rn id => intro hA t' e; have := hh.r id 0 0 t' _ (hA _ List.mem_cons_self) e (.rn id); exact ⟨this.1, fun _ => this.2⟩
  | pt id off b hi => intro hA t' e; have := hh.p id off t' _ e (.pt id off b hi); exact ⟨this.1, fun _ => this.2⟩
  | pf cs b off v hz hr => intro hA t' e; exact other _ _ (.pf cs b off v hz hr) t' e
  | pe id i off sz b hi => intro hA t' e; cases e
  | rp id off n cap b hi => intro hA t' e; cases e
  | np => intro hA t' e; exact other _ _ .np t' e
  | ag ts vs h1 h2 h3 ih =>
    intro hA t' e
    unfold mapT at e
    split at e
    · rename_i l hl
      injection e with e; subst e
      obtain ⟨k1, k2⟩ := lists ts vs l h1 ih hA hl
      exact ⟨RdT.mkAg k1 (k2 h3), fun h => by cases h⟩
    · cases e
  | tu ts vs h1 h2 ih =>
    intro hA t' e
    unfold mapT at e
    split at e
    · rename_i l hl
      injection e with e; subst e
      exact ⟨RdT.mkTu (lists ts vs l h1 ih hA hl).1, fun h => by cases h⟩
    · cases e
  | fn f xs ys us vs h1 h2 h3 h4 ih1 ih2 => intro hA t' e; exact other _ _ (.fn f xs ys us vs h1 h2 h3 h4) t' e
  | nf => intro hA t' e; exact other _ _ .nf t' e
  | any v => intro hA t' e; cases e
theorem mapTs_relA {A : Nat × Nat → Prop} {h : Ch} {Z Z2 : Kn} {ρ ρ2 : Rho} (hh : ChOk A h Z ρ Z2 ρ2) : ∀ {ts : List T} {vs : List Value} {ts' : List T}, RdTs Z ρ ts vs → (∀ p ∈ rwsTs ts, A p) → mapTs h ts = some ts' → RdTs Z2 ρ2 ts' vs ∧ ((∀ t ∈ ts, t.one = true) → ∀ t ∈ ts', t.one = true)
  | [], vs, ts', h, _, e => by
    injection e with e; subst e
    obtain rfl := h.unnil
    exact ⟨.nil _ _, fun _ t ht => by cases ht⟩
  | t :: ts, vs, ts', h, hA, e => by
    obtain ⟨v, vs', rfl, h1, h2⟩ := h.uncons
    unfold mapTs at e
    split at e
    · rename_i x l hx hl
      injection e with e; subst e
      obtain ⟨k1, k2⟩ := mapT_relA hh h1 (fun p h => hA p (rwsTs_mem List.mem_cons_self h)) x hx
      obtain ⟨k3, k4⟩ := mapTs_relA hh h2 (fun p h => hA p (by simp only [rwsTs, List.mem_append]; exact .inr h)) hl
      refine ⟨.cons k1 k3, fun ho t' ht' => ?_⟩
      rcases List.mem_cons.1 ht' with rfl | ht'
      · exact k2 (ho _ List.mem_cons_self)
      · exact k4 (fun t ht => ho t (List.mem_cons_of_mem _ ht)) t' ht'
    · cases e
theorem mapT_rel {h : Ch} {Z Z2 : Kn} {ρ ρ2 : Rho} (hh : ChOk (fun _ => True) h Z ρ Z2 ρ2) {t : T} {v : Value} (k : RdT Z ρ t v) (t' : T) (e : mapT h t = some t') : RdT Z2 ρ2 t' v ∧ (t.one = true → t'.one = true) := mapT_relA hh k (fun _ _ => trivial) t' e
theorem mapTs_rel {h : Ch} {Z Z2 : Kn} {ρ ρ2 : Rho} (hh : ChOk (fun _ => True) h Z ρ Z2 ρ2) {ts : List T} {vs : List Value} {ts' : List T} (k : RdTs Z ρ ts vs) (e : mapTs h ts = some ts') : RdTs Z2 ρ2 ts' vs ∧ ((∀ t ∈ ts, t.one = true) → ∀ t ∈ ts', t.one = true) := mapTs_relA hh k (fun _ _ => trivial) e
/-- names are changed by g -/
def chg (g : Nat → Option Nat) : Ch :=
  ⟨fun id off => match g id with | some j => some (.pt j off) | none => none, fun id els => match g id with | some j => some (.sk j els) | none => some (.c (.sl els)), fun id n cap => match g id with | some j => some (.rw j n cap) | none => none⟩
theorem chg_ok {Z : Kn} {ρ ρ2 : Rho} {g : Nat → Option Nat} (hg : ∀ i j, g i = some j → ρ2 j = ρ i) : ChOk (fun _ => True) (chg g) Z ρ Z ρ2 := by
  refine ⟨KLe.refl _, fun id off t' v e h => ?_, fun id els t' v e h => ?_, fun id n cap t' v _ e h => ?_⟩
  · simp only [chg] at e
    split at e
    · rename_i j hj
      injection e with e; subst e
      cases h with
      | pt _ _ b hi => exact ⟨.pt j off b ((hg id j hj).trans hi), rfl⟩
    · cases e
  · simp only [chg] at e
    cases h with
    | sk _ _ _ u n h hi hn he =>
      split at e
      · rename_i j hj
        injection e with e; subst e
        exact ⟨.sk j els v u n h ((hg id j hj).trans hi) hn he, rfl⟩
      · injection e with e; subst e
        exact ⟨.c _ v h, rfl⟩
  · simp only [chg] at e
    split at e
    · rename_i j hj
      injection e with e; subst e
      cases h with
      | rw _ _ b _ hi hc hm => exact ⟨.rw j n b cap ((hg id j hj).trans hi) hc hm, rfl⟩
      | rn => exact ⟨.rn j, rfl⟩
    · cases e
def chO (g : Nat → Option Nat) : Obj → Option Obj
  | .box ts => (match mapTs (chg g) ts with | some l => some (.box l) | none => none)
  | .tok sz els => some (.tok sz els)
  | .row els cap => some (.row els cap)
theorem chO_rel {Z : Kn} {ρ ρ2 : Rho} {B B' : Nat → Prop} {w : World} {g : Nat → Option Nat} (hg : ∀ i j, g i = some j → ρ2 j = ρ i) {id k : Nat} {o o' : Obj} (h : ObjR Z ρ B w id o) (e : chO g o = some o') (hi : ρ2 k = ρ id) (hB : ∀ b, BlkOf ρ id b → B' b) : ObjR Z ρ2 B' w k o' := by
  cases o with
  | box ts =>
    obtain ⟨b, vs, k1, k2, k3, k4, k5, k6⟩ := h
    simp only [chO] at e
    split at e
    · rename_i l hl
      injection e with e; subst e
      obtain ⟨q1, q2⟩ := mapTs_rel (chg_ok hg) k4 hl
      exact ⟨b, vs, hi.trans k1, hB b ⟨_, k1, rfl⟩, k3, q1, q2 k5, k6⟩
    · cases e
  | tok sz els =>
    injection e with e; subst e
    obtain ⟨v, k1, k2, k3⟩ := h
    refine ⟨v, hi.trans k1, k2, ?_⟩
    rcases k3 with rfl | ⟨b, cap, cells, rfl, k4, k5⟩
    · exact .inl rfl
    · exact .inr ⟨b, cap, cells, rfl, hB b ⟨_, k1, rfl⟩, k5⟩
  | row els cap =>
    injection e with e; subst e
    rcases h with ⟨e1, e2, k1⟩ | ⟨b, cells, sz, k1, k2, k3⟩
    · exact .inl ⟨e1, e2, hi.trans k1⟩
    · exact .inr ⟨b, cells, sz, hi.trans k1, hB b ⟨_, k1, rfl⟩, k3⟩

/-! ### functions that get pointers: some of the caller's things are lent -/
/-- what is lent, and what is new -/
def ownOf (ρ : Rho) (m : Mem) (w : World) (b : Nat) : Prop := w.heap.size ≤ b ∨ ∃ id o, mget m id = some o ∧ BlkOf ρ id b
structure MemOk (Z : Kn) (ρ : Rho) (own : Nat → Prop) (m : Mem) (nx : Nat) (w : World) : Prop where
  obj : ∀ id o, mget m id = some o → id < nx ∧ ObjR Z ρ own w id o
  apart : ∀ i j oi oj b, mget m i = some oi → mget m j = some oj → BlkOf ρ i b → BlkOf ρ j b → i = j
  fresh : ∀ id, nx ≤ id → ρ id = none
/-- what a lent call gives back -/
def LentR (R : T → Mem → Prop) (m0 : Mem) (nx0 nx1 : Nat) (w w' : World) (Z : Kn) (ρ : Rho) (v : Value) : Prop :=
  ∃ t m1 Z' ρ', R t m1 ∧ Bel (ownOf ρ m0 w) w w' ∧ KnOk Z' w' ∧ (∀ b o, ¬ ownOf ρ m0 w b → Z' b o = Z b o) ∧ KLe Z Z' ∧
    (∀ id o, mget m1 id = some o → id < nx1 ∧ ObjR Z' ρ' (ownOf ρ m0 w) w' id o) ∧ (∀ i j oi oj b, mget m1 i = some oi → mget m1 j = some oj → BlkOf ρ' i b → BlkOf ρ' j b → i = j) ∧
    (∀ id, id < nx0 → LLe (ρ id) (ρ' id)) ∧ RdT Z' ρ' t v
/-- a contract with pointers: m0 are the things lent, by their names from 0 on; from nx0 on: what is new -/
def CtP (P : Program) (f : FuncId) (args : List T) (m0 : Mem) (nx0 nx1 : Nat) (R : T → Mem → Prop) : Prop := ∀ (w : World) (Z : Kn) (ρ : Rho) (vs : List Value), KnOk Z w → MemOk Z ρ (ownOf ρ m0 w) m0 nx0 w → RdTs Z ρ args vs →
  Calls P f vs.toArray w fun e w' => ∃ v, e = .returned v ∧ LentR R m0 nx0 nx1 w w' Z ρ v
def finP (P : Program) (fn : Func) (w0 : World) (Z0 : Kn) (ρ0 : Rho) (m0 : Mem) (nx0 nx1 : Nat) (R : T → Mem → Prop) : Exit → Act → World → Prop :=
  bodyPost P fn fun e w' => ∃ v, e = .returned v ∧ LentR R m0 nx0 nx1 w0 w' Z0 ρ0 v
def ctxP (P : Program) (fn : Func) (w0 : World) (Z0 : Kn) (ρ0 : Rho) (m0 : Mem) (nx0 nx1 : Nat) (R : T → Mem → Prop) : Ctx := ⟨P, w0, Z0, fn.ntmps, finP P fn w0 Z0 ρ0 m0 nx0 nx1 R, ownOf ρ0 m0 w0, fun _ h => .inl h, nx0, ρ0⟩
theorem CtP_of_W {P : Program} {f : FuncId} {fn : Func} {c : Code} {args : List T} {m0 : Mem} {nx0 nx1 : Nat} {R : T → Mem → Prop} (hf : P.funcs[f]? = some fn) (hb : fn.body = some c) (hl : args.length ≤ fn.ntmps)
    (h : ∀ w0 Z0 ρ0, W (ctxP P fn w0 Z0 ρ0 m0 nx0 nx1 R) ⟨[.code c], argS 0 args, m0, nx0⟩) : CtP P f args m0 nx0 nx1 R := by
  intro w Z ρ vs hk hm hv
  refine calls_of_wp hf hb ?_
  have hsz : (vs.toArray ++ Array.replicate (fn.ntmps - vs.toArray.size) undef).size = fn.ntmps := by
    have := hv.1
    simp; omega
  have := h w Z ρ Z ρ { tmps := vs.toArray ++ Array.replicate (fn.ntmps - vs.toArray.size) undef, defers := [] } w
    ⟨Bel.refl _ _, hk, fun _ _ _ => rfl, KLe.refl _, hm.obj, hm.apart, hm.fresh, Nat.le_refl _, fun _ _ => LLe.refl _⟩ (fun k => ?_) hsz rfl
  · exact this
  · rw [get_argS]
    by_cases hc : 0 ≤ k ∧ k < 0 + args.length
    · rw [if_pos hc]
      have hlt : k < args.length := by omega
      have hlv : k < vs.length := by rw [← hv.1]; exact hlt
      have e1 : args[k]? = some (args.getD (k - 0) .any) := by simp [hlt]
      have e2 : (vs.toArray ++ Array.replicate (fn.ntmps - vs.toArray.size) undef).getD k undef = vs[k] := by
        rw [Array.getD_eq_getD_getElem?, Array.getElem?_append_left (by simpa using hlv)]
        simp [hlv]
      rw [e2]
      exact hv.2 k _ _ e1 (List.getElem?_eq_getElem hlv)
    · rw [if_neg hc]; exact .any _
section
variable {ti : TI} {X : Ctx} {z : ZO}
/-- all names of a memory lie below -/
def idsB (n : Nat) : Mem → Bool
  | [] => true
  | (k, _) :: m => Nat.blt k n && idsB n m
theorem idsB_get {n : Nat} : ∀ (m : Mem) (k : Nat) (o : Obj), idsB n m = true → mget m k = some o → k < n
  | [], k, o, _, e => by cases e
  | (p, o') :: m, k, o, h, e => by
    simp only [idsB, Bool.and_eq_true] at h
    rw [mget_cons] at e
    by_cases hk : p = k
    · subst hk; exact Nat.le_of_ble_eq_true h.1
    · rw [if_neg hk] at e; exact idsB_get m k o h.2 e
def resN (ti : TI) (m : Mem) (a : Slots) (rs : List ResultVar) : Option T := match resL ti m a rs with
  | some [t] => some t
  | some l => some (.tu l)
  | none => none
/-- the results, whatever the contract's form -/
theorem res_out {P : Program} {fn : Func} (hti : TIok P ti) (hX : X.P = P) {a : Slots} {m : Mem} {nx : Nat} {t : T} (h : resN ti m a fn.results.toList = some t) {Z : Kn} {ρ : Rho} {act : Act} {w : World} (H : Rel X Z ρ m nx w) (hS : RdS Z ρ a act.tmps) :
    ∃ v, (results fn act.tmps).run P w = .ok v w ∧ RdT Z ρ t v := by
  subst hX
  have run : ∀ l, resL ti m a fn.results.toList = some l → ∃ us : List Value, (fn.results.mapM (resS act.tmps)).run X.P w = .ok us.toArray w ∧ RdTs Z ρ l us := fun l e => by
    obtain ⟨us, u1, u2⟩ := res_run hti H hS fn.results.toList l e
    refine ⟨us, ?_, u2⟩
    rw [Array.mapM_eq_mapM_toList]
    have u1' : (fn.results.toList.mapM (resS act.tmps)).run X.P w = .ok us w := u1
    simp only [Sem.run_map, u1', Result.andThen_ok]
  unfold resN at h
  split at h
  · rename_i t0 hl
    injection h with h; subst h
    obtain ⟨us, u1, u2⟩ := run _ hl
    obtain ⟨v, vs', rfl, q1, q2⟩ := u2.uncons
    obtain rfl := q2.unnil
    refine ⟨v, ?_, q1⟩
    rw [results_eq]
    simp only [Sem.run_bind, u1, Result.andThen_ok, Sem.run_pure]
    simp
  · rename_i l hne hl
    injection h with h; subst h
    obtain ⟨us, u1, u2⟩ := run _ hl
    have hsz : ¬ us.toArray.size = 1 := fun hs => by
      have : l.length = 1 := by rw [u2.1]; simpa using hs
      obtain ⟨x, rfl⟩ := List.length_eq_one_iff.1 this
      exact hne x rfl
    refine ⟨.tuple us.toArray, ?_, RdT.mkTu u2⟩
    rw [results_eq]
    simp only [Sem.run_bind, u1, Result.andThen_ok, Sem.run_pure, dif_neg hsz]
  · cases h
def keepG (M : List Nat) (id : Nat) : Option Nat := match memB id M with | true => some id | false => none
/-- the end of a function with pointers: the things M are given back -/
theorem W_retP {P : Program} {fn : Func} {w0 : World} {Z0 : Kn} {ρ0 : Rho} {m0 : Mem} {nx0 nx1 : Nat} {R : T → Mem → Prop} (hti : TIok P ti) {ks : List K} {a : Slots} {m : Mem} {nx : Nat} {rs : List ResultVar} {t t' : T} (M : List Nat) (hr : fn.results.toList = rs) (h : resN ti m a rs = some t) (ht : mapT (chg (keepG M)) t = some t') (hm : idsB nx1 (keepM M m) = true) (hR : R t' (keepM M m)) :
    W (ctxP P fn w0 Z0 ρ0 m0 nx0 nx1 R) ⟨.code .ret :: ks, a, m, nx⟩ := by
  subst hr
  intro Z ρ act w H hS hn hd
  obtain ⟨v, h1, h2⟩ := res_out (X := ctxP P fn w0 Z0 ρ0 m0 nx0 nx1 R) hti rfl h H hS
  have hk : ∀ i j, keepG M i = some j → ρ j = ρ i := fun i j e => by
    unfold keepG at e
    split at e
    · injection e with e; rw [e]
    · cases e
  refine wp_ret (SK_ret (X := ctxP P fn w0 Z0 ρ0 m0 nx0 nx1 R) ks act w ⟨hd, v, h1, v, rfl, t', keepM M m, Z, ρ, hR, H.below, H.kn, H.z0, H.kle, fun id o e => ?_, fun i j oi oj b ei ej => H.apart i j oi oj b (mget_keepM _ _ _ _ ei) (mget_keepM _ _ _ _ ej), H.anch, (mapT_rel (chg_ok hk) h2 t' ht).1⟩)
  exact ⟨idsB_get _ _ _ hm e, (H.obj id o (mget_keepM _ _ _ _ e)).2⟩
end
end Go.Proofs.Ytconhpilbndpkaa.Vm
namespace Go.Proofs.Ytconhpilbndpkaa.Vm
open Go.RowKit
set_option linter.unusedVariables false

/-! ### lending: names are changed -/
def idx : List Nat → Nat → Option Nat
  | [], _ => none
  | s :: S, id => match Nat.beq s id with | true => some 0 | false => (match idx S id with | some j => some (j + 1) | none => none)
theorem idx_nth : ∀ (S : List Nat) (id j : Nat), idx S id = some j → nth S j = some id
  | [], id, j, h => by cases h
  | s :: S, id, j, h => by
    simp only [idx] at h
    split at h
    · rename_i hb
      injection h with h; subst h
      rw [Nat.eq_of_beq_eq_true hb]; rfl
    · split at h
      · rename_i k hk
        injection h with h; subst h
        exact idx_nth S id k hk
      · cases h
theorem idx_lt : ∀ (S : List Nat) (id j : Nat), idx S id = some j → j < S.length := fun S id j h => by
  have := idx_nth S id j h
  rw [nth_eq] at this
  exact (List.getElem?_eq_some_iff.1 this).1
theorem idx_inj {S : List Nat} {i k j : Nat} (h1 : idx S i = some j) (h2 : idx S k = some j) : i = k := by
  have a := idx_nth S i j h1
  rw [idx_nth S k j h2] at a
  injection a with a
  exact a.symm
def nodupB : List Nat → Bool
  | [] => true
  | s :: S => (match idx S s with | some _ => false | none => true) && nodupB S
theorem idx_of_nth : ∀ (S : List Nat) (id j : Nat), nodupB S = true → nth S j = some id → idx S id = some j
  | [], id, j, _, h => by cases h
  | s :: S, id, 0, hn, h => by
    have h : some s = some id := h
    injection h with h
    subst h
    simp [idx]
  | s :: S, id, j + 1, hn, h => by
    simp only [nodupB, Bool.and_eq_true] at hn
    have h : nth S j = some id := h
    have ih := idx_of_nth S id j hn.2 h
    simp only [idx]
    cases hb : Nat.beq s id with
    | true =>
      have e := Nat.eq_of_beq_eq_true hb
      subst e
      rw [ih] at hn
      cases hn.1
    | false => simp only [ih]
theorem idx_none {S : List Nat} {id : Nat} (h : idx S id = none) : ∀ k, nth S k ≠ some id := fun k e => by
  induction S generalizing k with
  | nil => cases k <;> cases e
  | cons s S ih =>
    simp only [idx] at h
    cases hb : Nat.beq s id with
    | true => rw [hb] at h; cases h
    | false =>
      rw [hb] at h
      simp only at h
      cases k with
      | zero =>
        have e : some s = some id := e
        injection e with e; subst e
        simp at hb
      | succ k =>
        refine ih ?_ k e
        cases hi : idx S id with
        | none => rfl
        | some j => rw [hi] at h; cases h
theorem nth_lt {S : List Nat} {k id : Nat} (h : nth S k = some id) : k < S.length := by
  rw [nth_eq] at h
  exact (List.getElem?_eq_some_iff.1 h).1
def lendR (ρ : Rho) (S : List Nat) : Rho := fun j => match nth S j with | some id => ρ id | none => none
/-- the things lent, by their new names -/
def lendM (g : Nat → Option Nat) (m : Mem) : Nat → List Nat → Option Mem
  | _, [] => some []
  | j, id :: r => match mget m id, lendM g m (j + 1) r with
    | some o, some l => (match chO g o with | some o' => some ((j, o') :: l) | none => none)
    | _, _ => none
theorem lendM_get {g : Nat → Option Nat} {m : Mem} : ∀ (r : List Nat) (j : Nat) (l : Mem), lendM g m j r = some l → ∀ (i : Nat) (o' : Obj), mget l i = some o' → ∃ k id o, i = j + k ∧ nth r k = some id ∧ mget m id = some o ∧ chO g o = some o'
  | [], j, l, h, i, o', e => by injection h with h; subst h; cases e
  | id :: r, j, l, h, i, o', e => by
    simp only [lendM] at h
    split at h
    · rename_i o l' ho hl
      split at h
      · rename_i o2 ho2
        injection h with h; subst h
        rw [mget_cons] at e
        by_cases hi : j = i
        · rw [if_pos hi] at e
          injection e with e; subst e
          exact ⟨0, id, o, by omega, rfl, ho, ho2⟩
        · rw [if_neg hi] at e
          obtain ⟨k, id', o3, q1, q2, q3, q4⟩ := lendM_get r (j + 1) l' hl i o' e
          exact ⟨k + 1, id', o3, by omega, q2, q3, q4⟩
      · cases h
    · cases h
theorem lendM_has {g : Nat → Option Nat} {m : Mem} : ∀ (r : List Nat) (j : Nat) (l : Mem), lendM g m j r = some l → ∀ (k id : Nat), nth r k = some id → ∃ o o', mget m id = some o ∧ chO g o = some o' ∧ mget l (j + k) = some o'
  | [], j, l, h, k, id, e => by cases k <;> cases e
  | id' :: r, j, l, h, k, id, e => by
    simp only [lendM] at h
    split at h
    · rename_i o l' ho hl
      split at h
      · rename_i o2 ho2
        injection h with h; subst h
        cases k with
        | zero =>
          have e : some id' = some id := e
          injection e with e; subst e
          refine ⟨o, o2, ho, ho2, ?_⟩
          rw [mget_cons]
          exact if_pos rfl
        | succ k =>
          obtain ⟨o3, o4, q1, q2, q3⟩ := lendM_has r (j + 1) l' hl k id e
          refine ⟨o3, o4, q1, q2, ?_⟩
          rw [mget_cons, show j + (k + 1) = j + 1 + k by omega]
          exact (if_neg (by simp only; omega)).trans q3
      · cases h
    · cases h
/-- what comes back -/
def backG (S : List Nat) (nx1 nx : Nat) (k : Nat) : Option Nat := match nth S k with
  | some j => some j
  | none => (match Nat.blt k nx1 with | true => some (nx + (k - S.length)) | false => none)
def unM (g : Nat → Option Nat) : Mem → Mem → Option Mem
  | [], m => some m
  | (k, o) :: r, m => match g k, chO g o, unM g r m with
    | some j, some o', some m' => some (mset m' j o')
    | _, _, _ => none
def covB (m : Mem) : Nat → Bool
  | 0 => true
  | n + 1 => (match mget m n with | some _ => covB m n | none => false)
theorem covB_get {m : Mem} : ∀ (n k : Nat), covB m n = true → k < n → ∃ o, mget m k = some o
  | 0, k, _, h => absurd h (Nat.not_lt_zero _)
  | n + 1, k, e, h => by
    simp only [covB] at e
    split at e
    · rename_i o ho
      by_cases hk : k = n
      · subst hk; exact ⟨o, ho⟩
      · exact covB_get n k e (by omega)
    · cases e
def backM (S : List Nat) (nx1 nx : Nat) (m1 m : Mem) : Option Mem := match covB m1 S.length with
  | true => unM (backG S nx1 nx) m1 m
  | false => none
theorem unM_get {g : Nat → Option Nat} : ∀ (m1 m m' : Mem), unM g m1 m = some m' → ∀ id o, mget m' id = some o → (∃ k o1, g k = some id ∧ mget m1 k = some o1 ∧ chO g o1 = some o) ∨ ((∀ k o1, mget m1 k = some o1 → g k ≠ some id) ∧ mget m id = some o)
  | [], m, m', h, id, o, e => by
    injection h with h; subst h
    exact .inr ⟨fun k o1 e' => (by cases e'), e⟩
  | (k0, o0) :: r, m, m', h, id, o, e => by
    simp only [unM] at h
    split at h
    · rename_i j0 o0' m2 g0 ho hr
      injection h with h; subst h
      rw [mget_set] at e
      by_cases hj : j0 = id
      · rw [if_pos hj] at e
        injection e with e; subst e hj
        exact .inl ⟨k0, o0, g0, by rw [mget_cons]; exact if_pos rfl, ho⟩
      · rw [if_neg hj] at e
        have ne : ∀ k, g k = some id → k0 ≠ k := fun k hk h => by
          subst h
          rw [g0] at hk
          injection hk with hk
          exact hj hk
        rcases unM_get r m m2 hr id o e with ⟨k, o1, q1, q2, q3⟩ | ⟨q1, q2⟩
        · exact .inl ⟨k, o1, q1, by rw [mget_cons]; exact (if_neg (ne k q1)).trans q2, q3⟩
        · refine .inr ⟨fun k o1 e hk => ?_, q2⟩
          rw [mget_cons] at e
          exact q1 k o1 ((if_neg (ne k hk)).symm.trans e) hk
    · cases h
theorem unM_keep {g : Nat → Option Nat} : ∀ (m1 m m' : Mem), unM g m1 m = some m' → ∀ id, (∀ k, g k ≠ some id) → mget m' id = mget m id
  | [], m, m', h, id, _ => by injection h with h; subst h; rfl
  | (k0, o0) :: r, m, m', h, id, hn => by
    simp only [unM] at h
    split at h
    · rename_i j0 o0' m2 g0 ho hr
      injection h with h; subst h
      rw [mget_set, if_neg fun e => hn k0 (by rw [g0, e])]
      exact unM_keep r m m2 hr id hn
    · cases h
section
variable {ti : TI} {X : Ctx} {z : ZO}
theorem lend_ok {Z : Kn} {ρ : Rho} {m m0 : Mem} {nx : Nat} {w : World} (H : Rel X Z ρ m nx w) {S : List Nat} (hS : nodupB S = true) (hl : lendM (idx S) m 0 S = some m0) : MemOk Z (lendR ρ S) (ownOf (lendR ρ S) m0 w) m0 S.length w ∧ ∀ i j, idx S i = some j → lendR ρ S j = ρ i := by
  have hg : ∀ i j, idx S i = some j → lendR ρ S j = ρ i := fun i j hj => by
    unfold lendR
    rw [idx_nth S i j hj]
  refine ⟨⟨fun i o e => ?_, fun i j oi oj b ei ej bi bj => ?_, fun i hi => ?_⟩, hg⟩
  · obtain ⟨k, id, o1, q1, q2, q3, q4⟩ := lendM_get S 0 m0 hl i o e
    have hik : i = k := by omega
    subst hik
    refine ⟨nth_lt q2, ?_⟩
    have hr : lendR ρ S i = ρ id := by unfold lendR; rw [q2]
    exact chO_rel hg (H.obj id o1 q3).2 q4 hr fun b ⟨l, h1, h2⟩ => .inr ⟨i, o, e, l, hr.trans h1, h2⟩
  · obtain ⟨k, id, o1, q1, q2, q3, q4⟩ := lendM_get S 0 m0 hl i oi ei
    obtain ⟨k', id', o1', p1, p2, p3, p4⟩ := lendM_get S 0 m0 hl j oj ej
    have hik : i = k := by omega
    have hjk : j = k' := by omega
    subst hik hjk
    have hr : lendR ρ S i = ρ id := by unfold lendR; rw [q2]
    have hr' : lendR ρ S j = ρ id' := by unfold lendR; rw [p2]
    obtain ⟨l, h1, h2⟩ := bi
    obtain ⟨l', h1', h2'⟩ := bj
    have := H.apart id id' o1 o1' b q3 p3 ⟨l, hr.symm.trans h1, h2⟩ ⟨l', hr'.symm.trans h1', h2'⟩
    subst this
    have a1 := idx_of_nth S id i hS q2
    rw [idx_of_nth S id j hS p2] at a1
    injection a1 with a1
    exact a1.symm
  · unfold lendR
    cases hn : nth S i with
    | none => rfl
    | some id => exact absurd (nth_lt hn) (by omega)
theorem lent_back {Z : Kn} {ρ : Rho} {m m0 : Mem} {nx nx1 : Nat} {w w' : World} (H : Rel X Z ρ m nx w) {S : List Nat} (hS : nodupB S = true) (hl : lendM (idx S) m 0 S = some m0) {R : T → Mem → Prop} {v : Value} (h : LentR R m0 S.length nx1 w w' Z (lendR ρ S) v) :
    ∃ t m1, R t m1 ∧ ∀ t' m', mapT (chg (backG S nx1 nx)) t = some t' → backM S nx1 nx m1 m = some m' → ∃ Z' ρ', KLe Z Z' ∧ RLe ρ ρ' ∧ Rel X Z' ρ' m' (nx + (nx1 - S.length)) w' ∧ RdT Z' ρ' t' v ∧ ∀ id o b, mget m id = some o → idx S id = none → ρ id = some (.blk b) → w'.heap[b]? = w.heap[b]? ∧ ρ' id = ρ id ∧ mget m' id = mget m id := by
  obtain ⟨t, m1, Z', ρ', hR, hbe, hk, hz0, hle, hobj, hap, han, ht⟩ := h
  refine ⟨t, m1, hR, fun t' m' ht' hm' => ?_⟩
  unfold backM at hm'
  split at hm'
  rotate_left
  · cases hm'
  rename_i hcov
  let ρn : Rho := fun id => match idx S id with | some j => ρ' j | none => if id < nx then ρ id else if S.length + (id - nx) < nx1 then ρ' (S.length + (id - nx)) else none
  have n1 : ∀ id j, idx S id = some j → ρn id = ρ' j := fun id j e => by simp only [ρn, e]
  have n2 : ∀ id, idx S id = none → id < nx → ρn id = ρ id := fun id e h => by simp only [ρn, e, if_pos h]
  have n3 : ∀ id, idx S id = none → ¬ id < nx → S.length + (id - nx) < nx1 → ρn id = ρ' (S.length + (id - nx)) := fun id e h h' => by simp only [ρn, e, if_neg h, if_pos h']
  have n4 : ∀ id, idx S id = none → ¬ id < nx → ¬ S.length + (id - nx) < nx1 → ρn id = none := fun id e h h' => by simp only [ρn, e, if_neg h, if_neg h']
  have hsz := H.size
  have lent : ∀ b, ownOf (lendR ρ S) m0 w b → w.heap.size ≤ b ∨ ∃ k id o, nth S k = some id ∧ mget m id = some o ∧ BlkOf ρ id b := fun b hb => by
    rcases hb with h | ⟨i, o, e, l, h1, h2⟩
    · exact .inl h
    · obtain ⟨k, id, o1, q1, q2, q3, q4⟩ := lendM_get S 0 m0 hl i o e
      have hik : i = k := by omega
      subst hik
      refine .inr ⟨i, id, o1, q2, q3, l, ?_, h2⟩
      unfold lendR at h1
      rw [q2] at h1
      exact h1
  have sub : ∀ b, ownOf (lendR ρ S) m0 w b → X.own b := fun b hb => by
    rcases lent b hb with h | ⟨k, id, o, q1, q2, q3⟩
    · exact X.hown b (Nat.le_trans hsz h)
    · exact ((H.obj id o q2).2.blk q3).1
  have far : ∀ id o b, mget m id = some o → idx S id = none → BlkOf ρ id b → ¬ ownOf (lendR ρ S) m0 w b := fun id o b e hi hb ho => by
    rcases lent b ho with h | ⟨k, id', o', q1, q2, q3⟩
    · have := ((H.obj id o e).2.blk hb).2
      omega
    · have := H.apart id id' o o' b e q2 hb q3
      subst this
      exact idx_none hi k q1
  have inm : ∀ id j, idx S id = some j → ∃ o, mget m id = some o := fun id j e => by
    obtain ⟨o, o', q1, _⟩ := lendM_has S 0 m0 hl j id (idx_nth S id j e)
    exact ⟨o, q1⟩
  have big : ∀ id, nx ≤ id → idx S id = none := fun id h => by
    cases hi : idx S id with
    | none => rfl
    | some j =>
      obtain ⟨o, q1⟩ := inm id j hi
      have := (H.obj id o q1).1
      omega
  have rle : RLe ρ ρn := fun id => by
    cases hi : idx S id with
    | none =>
      by_cases h : id < nx
      · rw [n2 id hi h]; exact LLe.refl _
      · rw [H.fresh id (by omega)]; trivial
    | some j =>
      rw [n1 id j hi]
      have := han j (idx_lt S id j hi)
      have e : lendR ρ S j = ρ id := by unfold lendR; rw [idx_nth S id j hi]
      rw [e] at this
      exact this
  have gcase : ∀ k id, backG S nx1 nx k = some id → (nth S k = some id ∧ idx S id = some k) ∨ (S.length ≤ k ∧ k < nx1 ∧ id = nx + (k - S.length) ∧ idx S id = none) := fun k id e => by
    unfold backG at e
    split at e
    · rename_i j hj
      injection e with e; subst e
      exact .inl ⟨hj, idx_of_nth S j k hS hj⟩
    · rename_i hn
      split at e
      · rename_i hb
        injection e with e; subst e
        refine .inr ⟨?_, Nat.le_of_ble_eq_true hb, rfl, big _ (Nat.le_add_right _ _)⟩
        rw [nth_eq] at hn
        have := List.getElem?_eq_none_iff.1 hn
        omega
      · cases e
  have back : ∀ k id, backG S nx1 nx k = some id → ρn id = ρ' k := fun k id e => by
    rcases gcase k id e with ⟨_, h⟩ | ⟨h1, h2, h3, h4⟩
    · exact n1 id k h
    · rw [n3 id h4 (by omega) (by omega), show S.length + (id - nx) = k by omega]
  have split : ∀ id o, mget m' id = some o → (∃ k o1, backG S nx1 nx k = some id ∧ mget m1 k = some o1 ∧ chO (backG S nx1 nx) o1 = some o) ∨ (idx S id = none ∧ mget m id = some o) := fun id o e => by
    rcases unM_get m1 m m' hm' id o e with h | ⟨q1, q2⟩
    · exact .inl h
    · refine .inr ⟨?_, q2⟩
      cases hi : idx S id with
      | none => rfl
      | some j =>
        obtain ⟨o1, ho1⟩ := covB_get S.length j hcov (idx_lt S id j hi)
        exact absurd (show backG S nx1 nx j = some id by unfold backG; rw [idx_nth S id j hi]) (q1 j o1 ho1)
  have hbx : Bel X.own w w' := ⟨hbe.os, hbe.tape, hbe.output, hbe.size, fun b hb => hbe.block b fun h => hb (sub b h)⟩
  have oldB : ∀ id b, idx S id = none → id < nx → BlkOf ρn id b → BlkOf ρ id b := fun id b e h ⟨l, h1, h2⟩ => ⟨l, by rw [← n2 id e h]; exact h1, h2⟩
  have newB : ∀ k id b, backG S nx1 nx k = some id → BlkOf ρn id b → BlkOf ρ' k b := fun k id b e ⟨l, h1, h2⟩ => ⟨l, by rw [← back k id e]; exact h1, h2⟩
  refine ⟨Z', ρn, hle, rle, ⟨H.below.trans hbx, hk, fun b o hb => (hz0 b o fun h => hb (sub b h)).trans (H.z0 b o hb), H.kle.trans hle, fun id o e => ?_, fun i j oi oj b ei ej bi bj => ?_, fun id hid => ?_, Nat.le_trans H.kb (Nat.le_add_right _ _), fun id hid => (H.anch id hid).trans (rle id)⟩, (mapT_rel (chg_ok back) ht t' ht').1, fun id o b e hi hb => ⟨hbe.block b (far id o b e hi ⟨_, hb, rfl⟩), n2 id hi (H.obj id o e).1, unM_keep m1 m m' hm' id fun k hk => ?_⟩⟩
  · rcases split id o e with ⟨k, o1, q1, q2, q3⟩ | ⟨q1, q2⟩
    · refine ⟨?_, chO_rel back (hobj k o1 q2).2 q3 (back k id q1) fun b hb => sub b ((hobj k o1 q2).2.blk hb).1⟩
      rcases gcase k id q1 with ⟨_, h⟩ | ⟨h1, h2, h3, h4⟩
      · obtain ⟨o2, q4⟩ := inm id k h
        exact Nat.lt_of_lt_of_le (H.obj id o2 q4).1 (Nat.le_add_right _ _)
      · omega
    · obtain ⟨h1, h2⟩ := H.obj id o q2
      refine ⟨Nat.lt_of_lt_of_le h1 (Nat.le_add_right _ _), h2.keep hle rle (n2 id q1 h1) fun b hb => ?_⟩
      have := far id o b q2 q1 hb
      exact ⟨hbe.block b this, fun o => hz0 b o this⟩
  · rcases split i oi ei with ⟨k, o1, q1, q2, q3⟩ | ⟨q1, q2⟩ <;> rcases split j oj ej with ⟨k', o1', p1, p2, p3⟩ | ⟨p1, p2⟩
    · have := hap k k' o1 o1' b q2 p2 (newB k i b q1 bi) (newB k' j b p1 bj)
      subst this
      rw [q1] at p1
      injection p1
    · exact absurd ((hobj k o1 q2).2.blk (newB k i b q1 bi)).1 (far j oj b p2 p1 (oldB j b p1 (H.obj j oj p2).1 bj))
    · exact absurd ((hobj k' o1' p2).2.blk (newB k' j b p1 bj)).1 (far i oi b q2 q1 (oldB i b q1 (H.obj i oi q2).1 bi))
    · exact H.apart i j oi oj b q2 p2 (oldB i b q1 (H.obj i oi q2).1 bi) (oldB j b p1 (H.obj j oj p2).1 bj)
  · exact n4 id (big id (by omega)) (by omega) (by omega)
  · rcases gcase k id hk with ⟨_, h⟩ | ⟨h1, h2, h3, h4⟩
    · rw [hi] at h; cases h
    · have := (H.obj id o e).1
      omega
def callPQ (n : Nat) (S : List Nat) (a : Slots) (all : List Oper) (o : Oper) : Option (FuncId × List T) := match dstOk n o.dst, gd a all o.guard with
  | true, .yes => (match o.op with
    | .call ⟨.value f, args, _⟩ => (match evT a f with
      | .fn f xs ys => (match pureTs xs, mapTs (chg (idx S)) (evTs a args.toList), pureTs ys with
        | some l1, some l2, some l3 => some (f, l1 ++ (l2 ++ l3))
        | _, _, _ => none)
      | _ => none)
    | _ => none)
  | _, _ => none
theorem W_callP {o : Oper} {r all : List Oper} {ks : List K} {a : Slots} {m m0 : Mem} {nx nx1 : Nat} {f : FuncId} {args : List T} {R : T → Mem → Prop} (S : List Nat) (hS : nodupB S = true) (hl : lendM (idx S) m 0 S = some m0) (hq : callPQ X.n S a all o = some (f, args)) (hb : fnB X.P f = true) (hc : CtP X.P f args m0 S.length nx1 R)
    (hw : ∀ t m1, R t m1 → ∃ t' m', mapT (chg (backG S nx1 nx)) t = some t' ∧ backM S nx1 nx m1 m = some m' ∧ W X ⟨.ops r all :: ks, put a o.dst t', m', nx + (nx1 - S.length)⟩) : W X ⟨.ops (o :: r) all :: ks, a, m, nx⟩ := by
  unfold callPQ at hq
  split at hq
  · rename_i hd hg
    split at hq
    · rename_i fo xs tys ho
      split at hq
      · rename_i g us vs hfe
        split at hq
        · rename_i l1 l2 l3 e1 e2 e3
          injection hq with hq
          injection hq with q1 q2
          subst q1 q2
          refine W_op hg fun Z ρ act w H hA hn hdf K hK => ?_
          obtain ⟨hok, hgr⟩ := lend_ok H hS hl
          have hfv := evT_rel hA fo
          rw [hfe] at hfv
          obtain ⟨u, v, hv, k1, k2⟩ := hfv.fnI
          have k3 := (pureTs_rel k1 e1).mono (KLe.refl _) (RLe.zero (lendR ρ S))
          have k4 := (mapTs_rel (chg_ok hgr) (evTs_rel hA xs.toList) e2).1
          have k5 := (pureTs_rel k2 e3).mono (KLe.refl _) (RLe.zero (lendR ρ S))
          unfold fnB at hb
          split at hb
          · rename_i fn hfn
            rw [Bool.and_eq_true] at hb
            have hnm : fn.name ≠ "runtime.NumGoroutine" := by simpa using hb.2
            unfold Oper.wp
            rw [fn_call hfn hb.1 hnm ho hv w]
            refine Calls.mono (hc w Z _ _ H.kn hok (k3.append (k4.append k5))) ?_
            rintro e w' ⟨v', rfl, hL⟩
            obtain ⟨t, m1, hR, hx⟩ := lent_back H hS hl hL
            obtain ⟨t', m', ht', hm', hW⟩ := hw t m1 hR
            obtain ⟨Z', ρ', hle, hr, H', ht, _⟩ := hx t' m' ht' hm'
            obtain ⟨p1, p2, p3⟩ := put_rel hle hr hA hn hd ht
            exact hK _ _ (hW Z' ρ' _ w' H' p1 p2 (p3.trans hdf))
          · cases hb
        · cases hq
      · cases hq
    · cases hq
  · cases hq
/-- no name of S -/
def apartB (S : List Nat) : Mem → Bool
  | [] => true
  | (k, _) :: m => (match idx S k with | some _ => false | none => true) && apartB S m
theorem apartB_get {S : List Nat} : ∀ (m : Mem) (k : Nat) (o : Obj), apartB S m = true → mget m k = some o → idx S k = none
  | [], k, o, _, e => by cases e
  | (p, o') :: m, k, o, h, e => by
    simp only [apartB, Bool.and_eq_true] at h
    rw [mget_cons] at e
    by_cases hk : p = k
    · subst hk
      cases hi : idx S p with
      | none => rfl
      | some j =>
        have := h.1
        simp only [hi] at this
        cases this
    · rw [if_neg hk] at e; exact apartB_get m k o h.2 e
theorem D_callP {ks : List K} {ops : List Oper} {esc : List Nat} {m0 : Mem} {i : Nat} {r : PT} {a : Slots} {m ml : Mem} {nx nx1 : Nat} {st : Bool} {o : Oper} {f : FuncId} {args : List T} {R : T → Mem → Prop} (S : List Nat) (hS : nodupB S = true) (hap : apartB S m0 = true) (hl : lendM (idx S) m 0 S = some ml) (ho : nth ops i = some o) (hq : callPQ X.n S a ops o = some (f, args)) (hb : fnB X.P f = true) (hc : CtP X.P f args ml S.length nx1 R)
    (hw : ∀ t m1, R t m1 → ∃ t' m', mapT (chg (backG S nx1 nx)) t = some t' ∧ backM S nx1 nx m1 m = some m' ∧ D X ks ops esc m0 ⟨r, put a o.dst t', m', nx + (nx1 - S.length), false⟩) : D X ks ops esc m0 ⟨.cons (0, i) r, a, m, nx, st⟩ := by
  rw [nth_eq] at ho
  have ho' : ops.toArray[i]? = some o := by simpa using ho
  unfold callPQ at hq
  split at hq
  · rename_i hd hg
    split at hq
    · rename_i fo xs tys hop
      split at hq
      · rename_i g us vs hfe
        split at hq
        · rename_i l1 l2 l3 e1 e2 e3
          injection hq with hq
          injection hq with q1 q2
          subst q1 q2
          intro Z0 ρ0 w0 Z ρ act w H hA hn hdf hZ hT hB hst
          have hwant : Region.wanted o (yielded ops.toArray act.tmps) = true := (gd_wanted hA).1 hg
          obtain ⟨hok, hgr⟩ := lend_ok H hS hl
          have hfv := evT_rel hA fo
          rw [hfe] at hfv
          obtain ⟨u, v, hv, k1, k2⟩ := hfv.fnI
          have k3 := (pureTs_rel k1 e1).mono (KLe.refl _) (RLe.zero (lendR ρ S))
          have k4 := (mapTs_rel (chg_ok hgr) (evTs_rel hA xs.toList) e2).1
          have k5 := (pureTs_rel k2 e3).mono (KLe.refl _) (RLe.zero (lendR ρ S))
          unfold fnB at hb
          split at hb
          · rename_i fn hfn
            rw [Bool.and_eq_true] at hb
            have hnm : fn.name ≠ "runtime.NumGoroutine" := by simpa using hb.2
            refine dynL_act ho' hwant fun K hK => ?_
            unfold Oper.wp
            rw [fn_call hfn hb.1 hnm hop hv w]
            refine Calls.mono (hc w Z _ _ H.kn hok (k3.append (k4.append k5))) ?_
            rintro e w' ⟨v', rfl, hL⟩
            obtain ⟨t, m1, hR, hx⟩ := lent_back H hS hl hL
            obtain ⟨t', m', ht', hm', hW⟩ := hw t m1 hR
            obtain ⟨Z', ρ', hle, hr, H', ht, hfar⟩ := hx t' m' ht' hm'
            obtain ⟨p1, p2, p3⟩ := put_rel hle hr hA hn hd ht
            have hT' : TW Z0 ρ0 m0 w0 w' := ⟨fun b o u e => H'.kn b o u (hle _ _ _ (hZ _ _ _ e)), fun id o b e1 es e2 => by
              obtain ⟨⟨o', k1, _⟩, k2⟩ := hB id o b e1 es e2
              exact (hfar id o' b k1 (apartB_get m0 id o hap e1) k2).1.trans (hT.2 id o b e1 es e2)⟩
            refine hK.out _ _ hT' (hW Z0 ρ0 w0 Z' ρ' _ w' H' p1 p2 (p3.trans hdf) (hZ.trans hle) hT' (fun id o b e1 es e2 => ?_) (fun h => by cases h))
            obtain ⟨⟨o', k1, ks⟩, k2⟩ := hB id o b e1 es e2
            have hi := apartB_get m0 id o hap e1
            obtain ⟨_, f2, f3⟩ := hfar id o' b k1 hi k2
            exact ⟨⟨o', f3.trans k1, ks⟩, f2.trans k2⟩
          · cases hb
        · cases hq
      · cases hq
    · cases hq
  · cases hq
end
end Go.Proofs.Ytconhpilbndpkaa.Vm
namespace Go.Proofs.Ytconhpilbndpkaa.Vm
open Go.RowKit
set_option linter.unusedVariables false

section
variable {ti : TI} {X : Ctx} {z : ZO}
/-! ### calls that look at rows: what the rows hold is known for the call -/
def frz (m : Mem) : Ch :=
  ⟨fun _ _ => none, fun _ els => some (.c (.sl els)), fun id n cap => match mget m id with | some (.row els _) => some (.c (.sl els)) | _ => none⟩
def eqsL (m : Mem) : List (Nat × Nat) → List (Nat × Nat)
  | [] => []
  | (id, n) :: r => (match mget m id with | some (.row els _) => (n, els.length) :: eqsL m r | _ => eqsL m r)
def AllEq : List (Nat × Nat) → Prop
  | [] => True
  | (a, b) :: r => a = b ∧ AllEq r
def RowEq (m : Mem) (p : Nat × Nat) : Prop := ∀ els cap, mget m p.1 = some (.row els cap) → p.2 = els.length
theorem eqsL_ok {m : Mem} : ∀ (L : List (Nat × Nat)), AllEq (eqsL m L) → ∀ p ∈ L, RowEq m p
  | (id, n) :: r, h, p, hp => by
    simp only [eqsL] at h
    rcases List.mem_cons.1 hp with rfl | hp
    · intro els cap e
      simp only at e
      rw [e] at h
      exact h.1
    · refine eqsL_ok r ?_ p hp
      split at h
      · exact h.2
      · exact h
/-- all that the world holds -/
def allW (w : World) : Kn := fun b o => w.cell? ⟨b, o, none⟩
theorem frz_ok {Z : Kn} {ρ : Rho} {m : Mem} {nx : Nat} {w : World} (H : Rel X Z ρ m nx w) : ChOk (RowEq m) (frz m) Z ρ (allW w) rho0 := by
  have hle : KLe Z (allW w) := fun b o u e => H.kn b o u e
  refine ⟨hle, fun id off t' v e h => (by cases e), fun id els t' v e h => ?_, fun id n cap t' v hA e h => ?_⟩
  · simp only [frz] at e
    injection e with e; subst e
    exact ⟨.c _ _ (h.skI.1.mono hle), rfl⟩
  · simp only [frz] at e
    split at e
    · rename_i els cap' hm
      injection e with e; subst e
      have hn : n = els.length := hA els cap' hm
      subst hn
      refine ⟨?_, rfl⟩
      rcases h.rwI with ⟨⟨b, hb, rfl⟩ | ⟨h0, _, rfl⟩, hc1, hc2⟩
      · obtain ⟨_, hO⟩ := H.obj id _ hm
        rcases hO with ⟨e1, e2, k1⟩ | ⟨b', cells, sz, k1, k2, k3, k4, k4', k5, k6, k7⟩
        · rw [hb] at k1; injection k1 with k1; cases k1
        · rw [hb] at k1; injection k1 with k1; injection k1 with k1; subst k1
          refine .c _ _ (RdC.mk k5 (fun k cs j c e ej => ?_) hc1 hc2)
          obtain ⟨u, r1, r2⟩ := k6 k cs j c e ej
          exact ⟨u, by rw [← r1]; exact k3.cell _, r2.mono hle⟩
      · have he := List.eq_nil_of_length_eq_zero h0
        rw [he]
        exact .c _ _ (.nl none 0 (Nat.zero_le _))
    · cases e
def callFQ (n : Nat) (m : Mem) (a : Slots) (all : List Oper) (o : Oper) : Option (FuncId × List T × List (Nat × Nat)) := match dstOk n o.dst, gd a all o.guard with
  | true, .yes => (match o.op with
    | .call ⟨.value f, args, _⟩ => (match evT a f with
      | .fn f [] [] => (match mapTs (frz m) (evTs a args.toList) with
        | some l2 => some (f, l2, eqsL m (rwsTs (evTs a args.toList)))
        | _ => none)
      | _ => none)
    | _ => none)
  | _, _ => none
mutual
/-- values without memory, parts also -/
def isSd : T → Bool
  | .c (.b _) => true
  | .c (.i _ _) => true
  | .c (.s _) => true
  | .q _ => true
  | .ag ts => isSds ts
  | .tu ts => isSds ts
  | _ => false
def isSds : List T → Bool
  | [] => true
  | t :: ts => isSd t && isSds ts
end
theorem isSds_mem : ∀ {ts : List T} {t : T}, isSds ts = true → t ∈ ts → isSd t = true
  | x :: ts, t, h, e => by
    simp only [isSds, Bool.and_eq_true] at h
    rcases List.mem_cons.1 e with rfl | e
    · exact h.1
    · exact isSds_mem h.2 e
theorem RdT.scald {Z Z' : Kn} {ρ ρ' : Rho} {t : T} {v : Value} (h : RdT Z ρ t v) : isSd t = true → RdT Z' ρ' t v := by
  induction h with
  | c x v h =>
    intro hs
    cases h <;> first | (cases hs; done) | skip
    · exact .c _ _ (.b _)
    · exact .c _ _ (.i _ _)
    · exact .c _ _ (.s _)
  | q e => intro _; exact .q e
  | ag ts vs h1 h2 h3 ih => intro hs; exact .ag ts vs h1 (fun i t v e1 e2 => ih i t v e1 e2 (isSds_mem hs (List.mem_of_getElem? e1))) h3
  | tu ts vs h1 h2 ih => intro hs; exact .tu ts vs h1 (fun i t v e1 e2 => ih i t v e1 e2 (isSds_mem hs (List.mem_of_getElem? e1)))
  | _ => intro hs; cases hs
theorem callF_run {n : Nat} {a : Slots} {all : List Oper} {o : Oper} {f : FuncId} {args : List T} {E : List (Nat × Nat)} {R : T → Prop} {m : Mem} (hq : callFQ n m a all o = some (f, args, E)) (hE : AllEq E) (hb : fnB X.P f = true) (hc : Ct X.P f args R) (hsc : ∀ t, R t → isSd t = true)
    {Z : Kn} {ρ : Rho} {nx : Nat} {act : Act} {w : World} (H : Rel X Z ρ m nx w) (hA : RdS Z ρ a act.tmps) {K : Act → World → Prop} {Q : Exit → Act → World → Prop}
    (hK : ∀ t v w', R t → RdT Z ρ t v → Below w.heap.size w w' → Rel X Z ρ m nx w' → KnOk Z w' → K (act.put o.dst v) w') : dstOk n o.dst = true ∧ gd a all o.guard = .yes ∧ o.wp X.P act w K Q := by
  unfold callFQ at hq
  split at hq
  · rename_i hd hg
    refine ⟨hd, hg, ?_⟩
    split at hq
    · rename_i fo xs tys ho
      split at hq
      · rename_i g hfe
        split at hq
        · rename_i l2 e2
          injection hq with hq
          injection hq with q1 q2
          injection q2 with q2 q3
          subst q1 q2 q3
          have hfv := evT_rel hA fo
          rw [hfe] at hfv
          obtain ⟨u, v, hv, k1, k2⟩ := hfv.fnI
          obtain rfl := k1.unnil
          obtain rfl := k2.unnil
          have k4 := (mapTs_relA (frz_ok H) (evTs_rel hA xs.toList) (eqsL_ok _ hE) e2).1
          unfold fnB at hb
          split at hb
          · rename_i fn hfn
            rw [Bool.and_eq_true] at hb
            have hnm : fn.name ≠ "runtime.NumGoroutine" := by simpa using hb.2
            unfold Oper.wp
            rw [fn_call hfn hb.1 hnm ho hv w]
            have hargs : RdTs (allW w) rho0 l2 ([] ++ ((xs.toList.map act.eval) ++ [])) := by simpa using k4
            refine Calls.mono (hc w (allW w) _ (fun b o u e => e) hargs) ?_
            rintro e w' ⟨v', t, Z', rfl, hR, hbe, hk, hz, ht⟩
            have hk' : KnOk Z w' := fun b o u e => (hbe.cell (p := ⟨b, o, none⟩) (H.kn.lt e)).trans (H.kn b o u e)
            obtain ⟨hle, H'⟩ := H.step hbe hk' (fun _ _ _ => rfl)
            exact hK t v' w' hR (ht.scald (hsc t hR)) hbe H' hk'
          · cases hb
        · cases hq
      · cases hq
    · cases hq
  · cases hq
theorem W_callF {o : Oper} {r all : List Oper} {ks : List K} {a : Slots} {m : Mem} {nx : Nat} {f : FuncId} {args : List T} {E : List (Nat × Nat)} {R : T → Prop} (hq : callFQ X.n m a all o = some (f, args, E)) (hE : AllEq E) (hb : fnB X.P f = true) (hc : Ct X.P f args R) (hsc : ∀ t, R t → isSd t = true)
    (hw : ∀ t, R t → W X ⟨.ops r all :: ks, put a o.dst t, m, nx⟩) : W X ⟨.ops (o :: r) all :: ks, a, m, nx⟩ := by
  have hg : gd a all o.guard = .yes := by unfold callFQ at hq; split at hq <;> simp_all
  refine W_op hg fun Z ρ act w H hA hn hdf K hK => ?_
  have hd : dstOk X.n o.dst = true := by unfold callFQ at hq; split at hq <;> simp_all
  refine (callF_run hq hE hb hc hsc H hA fun t v w' hR ht hbe H' hk' => ?_).2.2
  obtain ⟨p1, p2, p3⟩ := put_rel (KLe.refl Z) (RLe.refl ρ) hA hn hd ht
  exact hK _ _ (hw t hR Z ρ _ w' H' p1 p2 (p3.trans hdf))
theorem D_callF {ks : List K} {ops : List Oper} {esc : List Nat} {m0 : Mem} {i : Nat} {r : PT} {a : Slots} {m : Mem} {nx : Nat} {st : Bool} {o : Oper} {f : FuncId} {args : List T} {E : List (Nat × Nat)} {R : T → Prop} (ho : nth ops i = some o) (hq : callFQ X.n m a ops o = some (f, args, E)) (hE : AllEq E) (hb : fnB X.P f = true) (hc : Ct X.P f args R) (hsc : ∀ t, R t → isSd t = true)
    (hw : ∀ t, R t → D X ks ops esc m0 ⟨r, put a o.dst t, m, nx, st⟩) : D X ks ops esc m0 ⟨.cons (0, i) r, a, m, nx, st⟩ := by
  rw [nth_eq] at ho
  have ho' : ops.toArray[i]? = some o := by simpa using ho
  intro Z0 ρ0 w0 Z ρ act w H hA hn hdf hZ hT hB hst
  have hg : gd a ops o.guard = .yes := by unfold callFQ at hq; split at hq <;> simp_all
  have hd : dstOk X.n o.dst = true := by unfold callFQ at hq; split at hq <;> simp_all
  have hwant : Region.wanted o (yielded ops.toArray act.tmps) = true := (gd_wanted hA).1 hg
  refine dynL_act ho' hwant fun K hK => (callF_run hq hE hb hc hsc H hA fun t v w' hR ht hbe H' hk' => ?_).2.2
  obtain ⟨p1, p2, p3⟩ := put_rel (KLe.refl Z) (RLe.refl ρ) hA hn hd ht
  have hT' := tw_keep H hT hB hZ (KLe.refl Z) hk' fun id o b e1 es e2 => hbe.block b (box_lt H e1 e2).2
  exact hK.out _ _ hT' (hw t hR Z0 ρ0 w0 Z ρ _ w' H' p1 p2 (p3.trans hdf) hZ hT' hB hst)
end
end Go.Proofs.Ytconhpilbndpkaa.Vm
namespace Go.Proofs.Ytconhpilbndpkaa.Vm
open Go.RowKit
set_option linter.unusedVariables false

section
variable {ti : TI} {X : Ctx} {z : ZO}
/-! ### elements of rows, of any size -/
def cT : List C → List T
  | [] => []
  | c :: r => .c c :: cT r
theorem cT_eq : ∀ l : List C, cT l = l.map T.c
  | [] => rfl
  | c :: r => by rw [cT, cT_eq r]; rfl
def peQ (ti : TI) (a : Slots) (o : Oper) : Option (Bool × Nat × Nat × Nat × Nat × Nat) := match o.op with
  | .load t x => (match tget ti t, evT a x with
    | some i, .pe id j off sz => some (i.agg, i.size, id, j, off, sz)
    | _, _ => none)
  | _ => none
theorem peLd_run (hti : TIok X.P ti) {Z : Kn} {ρ : Rho} {m : Mem} {nx : Nat} {a : Slots} {act : Act} {w : World} (H : Rel X Z ρ m nx w) (hS : RdS Z ρ a act.tmps) {o : Oper} {g : Bool} {n id j off sz : Nat} {els : List (List C)} {cap : Nat} {cs : List C} {t : T} (hq : peQ ti a o = some (g, n, id, j, off, sz))
    (hm : mget m id = some (.row els cap)) (he : els[j]? = some cs) (hl : cs.length = sz) (hp : partT g n off (cT cs) = some t) : ∃ v, (∀ W, TW Z ρ m w W → (execOp act.eval o).run X.P W = .ok (.value v) W) ∧ RdT Z ρ t v := by
  unfold peQ at hq
  split at hq
  · rename_i ty x ho
    split at hq
    · rename_i i id' j' off' sz' hti' hx
      injection hq with hq
      injection hq with q0 hq
      injection hq with q1 hq
      injection hq with q2 hq
      injection hq with q3 hq
      injection hq with q4 q5
      subst q0 q1 q2 q3 q4 q5
      have K := hti ty i hti'
      have hx' := evT_rel hS x
      rw [hx] at hx'
      obtain ⟨b, hb, hv⟩ := hx'.peI
      obtain ⟨_, hO⟩ := H.obj id' _ hm
      obtain ⟨b', cells, sz2, k1, k2, k3, k4, _, k5, k6, k7⟩ := hO.resolve_left (by rintro ⟨rfl, _⟩; simp at he)
      rw [hb] at k1; injection k1 with k1; injection k1 with k1; subst k1
      have hsz : sz2 = sz' := by rw [← k5 j' cs he, hl]
      subst hsz
      -- the element's cells
      let vs : List Value := (List.range cs.length).map fun q => cells.getD (j' * sz2 + q) undef
      have hvs : ∀ (q : Nat) (c : C), cs[q]? = some c → cells[j' * sz2 + q]? = some (cells.getD (j' * sz2 + q) undef) ∧ RdC Z c (cells.getD (j' * sz2 + q) undef) := fun q c e => by
        obtain ⟨u, u1, u2⟩ := k6 j' cs q c he e
        have : cells.getD (j' * sz2 + q) undef = u := by rw [List.getD_eq_getElem?_getD, u1]; rfl
        rw [this]; exact ⟨u1, u2⟩
      have hrel : RdTs Z ρ (cT cs) vs := by
        refine ⟨by simp [cT_eq, vs], fun q t v e1 e2 => ?_⟩
        rw [cT_eq, List.getElem?_map] at e1
        cases hc : cs[q]? with
        | none => rw [hc] at e1; cases e1
        | some c =>
          rw [hc] at e1
          injection e1 with e1; subst e1
          have hlt := (List.getElem?_eq_some_iff.1 hc).1
          simp only [vs, List.getElem?_map, List.getElem?_range hlt] at e2
          injection e2 with e2; subst e2
          exact .c c _ (hvs q c hc).2
      have hone : ∀ t ∈ cT cs, t.one = true := fun t ht => by
        rw [cT_eq] at ht
        obtain ⟨c, _, rfl⟩ := List.mem_map.1 ht
        rfl
      have hcell : ∀ W, TW Z ρ m w W → ∀ (q : Nat) v, (vs.drop off')[q]? = some v → W.cell? ⟨b, j' * sz2 + off' + q, none⟩ = some v := fun W hW q v e => by
        rw [List.getElem?_drop] at e
        have hlt : off' + q < cs.length := by have := (List.getElem?_eq_some_iff.1 e).1; simpa [vs] using this
        simp only [vs, List.getElem?_map, List.getElem?_range hlt] at e
        injection e with e; subst e
        rw [(k3.keep (hW.2 id' _ b hm rfl hb)).cell, Nat.add_assoc]
        exact (hvs _ _ (List.getElem?_eq_getElem hlt)).1
      have fin : ∀ v, (∀ W, TW Z ρ m w W → (Instr.loadAt ty (act.eval x)).run X.P W = .ok v W) → ∀ W, TW Z ρ m w W → (execOp act.eval o).run X.P W = .ok (.value v) W := fun v h W hW => by
        obtain ⟨dst, op, ty', pos, after, guard⟩ := o
        simp only at ho
        subst ho
        simp [execOp, h W hW]
      unfold partT at hp
      cases hg : i.agg with
      | true =>
        rw [hg] at hp
        simp only at hp
        split at hp
        · rename_i l hl'
          injection hp with hp; subst hp
          obtain ⟨rfl, hn⟩ := takeL_some _ _ _ hl'
          rw [dropL_eq] at hn ⊢
          obtain ⟨fs, hu, _⟩ := K.row hg
          have hd := hrel.drop off'
          have hlen : ((vs.drop off').take i.size).length = i.size := by rw [List.length_take, ← hd.1]; omega
          refine ⟨.agg ((vs.drop off').take i.size).toArray, fin _ fun W hW => ?_, RdT.mkAg (hd.take i.size) (fun t ht => hone t (List.mem_of_mem_drop (List.mem_of_mem_take ht)))⟩
          rw [hv]
          refine run_loadAt_mid W b (j' * sz2 + off') ty ((vs.drop off').take i.size) _ (fun q v e => ?_) hu rfl (by rw [hlen]; exact K.size)
          have : q < i.size := by have := (List.getElem?_eq_some_iff.1 e).1; omega
          rw [List.getElem?_take_of_lt this] at e
          exact hcell W hW q v e
        · cases hp
      | false =>
        rw [hg] at hp
        simp only [nth_eq] at hp
        obtain ⟨v, e1, e2⟩ := hrel.at hp
        refine ⟨v, fin v fun W hW => ?_, e2⟩
        have hc := hcell W hW 0 v (by rw [List.getElem?_drop]; exact e1)
        have := K.agg W
        rw [hg] at this
        rw [hv]
        simp [Instr.loadAt, Instr.sureAddr, loadVar, this, show W.cell? ⟨b, j' * sz2 + off', none⟩ = some v from hc]
    · cases hq
  · cases hq
theorem W_peLd (hti : TIok X.P ti) {o : Oper} {r all : List Oper} {ks : List K} {a : Slots} {m : Mem} {nx : Nat} {g : Bool} {n id j off sz : Nat} {els : List (List C)} {cap : Nat} {cs : List C} {t : T} (hd : dstOk X.n o.dst = true) (hg : gd a all o.guard = .yes) (hq : peQ ti a o = some (g, n, id, j, off, sz))
    (hm : mget m id = some (.row els cap)) (he : els[j]? = some cs) (hl : cs.length = sz) (hp : partT g n off (cT cs) = some t) (hw : W X ⟨.ops r all :: ks, put a o.dst t, m, nx⟩) : W X ⟨.ops (o :: r) all :: ks, a, m, nx⟩ := by
  refine W_op hg fun Z ρ act w H hS hn hdf K hK => ?_
  obtain ⟨v, h1, h2⟩ := peLd_run hti H hS hq hm he hl hp
  obtain ⟨p1, p2, p3⟩ := put_rel (KLe.refl Z) (RLe.refl ρ) hS hn hd h2
  exact OpRes.wp (.inl (h1 w H.tw)) (hK _ _ (hw Z ρ _ w H p1 p2 (p3.trans hdf)))
theorem D_peLd0 (hti : TIok X.P ti) {ks : List K} {ops : List Oper} {esc : List Nat} {m0 : Mem} {i : Nat} {r : PT} {a : Slots} {m : Mem} {nx : Nat} {st : Bool} {o : Oper} {g : Bool} {n id j off sz : Nat} {els : List (List C)} {cap : Nat} {cs : List C} {t : T} (ho : nth ops i = some o) (hd : dstOk X.n o.dst = true) (hg : gd a ops o.guard = .yes) (hq : peQ ti a o = some (g, n, id, j, off, sz))
    (hm : mget m id = some (.row els cap)) (he : els[j]? = some cs) (hl : cs.length = sz) (hp : partT g n off (cT cs) = some t) (hw : D X ks ops esc m0 ⟨r, put a o.dst t, m, nx, st⟩) : D X ks ops esc m0 ⟨.cons (0, i) r, a, m, nx, st⟩ := by
  rw [nth_eq] at ho
  have ho' : ops.toArray[i]? = some o := by simpa using ho
  intro Z0 ρ0 w0 Z ρ act w H hS hn hdf hZ hT hB hst
  have hwant : Region.wanted o (yielded ops.toArray act.tmps) = true := (gd_wanted hS).1 hg
  obtain ⟨v, h1, h2⟩ := peLd_run hti H hS hq hm he hl hp
  obtain ⟨p1, p2, p3⟩ := put_rel (KLe.refl Z) (RLe.refl ρ) hS hn hd h2
  exact dynL_act ho' hwant fun K hK => OpRes.wp (.inl (h1 w H.tw)) (hK.out _ _ hT (hw Z0 ρ0 w0 Z ρ _ w H p1 p2 (p3.trans hdf) hZ hT hB hst))
theorem D_peLd1 (hti : TIok X.P ti) {ks : List K} {ops : List Oper} {esc : List Nat} {m0 : Mem} {i : Nat} {r : PT} {a : Slots} {m : Mem} {nx : Nat} {o : Oper} {g : Bool} {n id j off sz : Nat} {els : List (List C)} {cap : Nat} {cs : List C} {t : T} (ho : nth ops i = some o) (hd : dstOk X.n o.dst = true) (hg : gd a ops o.guard = .yes) (hq : peQ ti a o = some (g, n, id, j, off, sz))
    (hm : mget m0 id = some (.row els cap)) (he : els[j]? = some cs) (hl : cs.length = sz) (hp : partT g n off (cT cs) = some t) (hw : D X ks ops esc m0 ⟨r, put a o.dst t, m, nx, true⟩) : D X ks ops esc m0 ⟨.cons (1, i) r, a, m, nx, true⟩ := by
  rw [nth_eq] at ho
  have ho' : ops.toArray[i]? = some o := by simpa using ho
  intro Z0 ρ0 w0 Z ρ act w H hS hn hdf hZ hT hB hst
  obtain ⟨rfl, rfl, hsub⟩ := hst rfl
  have hwant : Region.wanted o (yielded ops.toArray act.tmps) = true := (gd_wanted hS).1 hg
  obtain ⟨v, h1, h2⟩ := peLd_run hti (H.sub hsub) hS hq hm he hl hp
  obtain ⟨p1, p2, p3⟩ := put_rel (KLe.refl Z0) (RLe.refl ρ0) hS hn hd h2
  exact dynL_take ho' hwant (fun W hW => h1 W (hT.two hW)) (hw Z0 ρ0 w0 Z0 ρ0 _ w H p1 p2 (p3.trans hdf) hZ hT hB (fun _ => ⟨rfl, rfl, hsub⟩))
/-! ### an element is set -/
def setAt : Nat → List C → List C → List C
  | _, [], cs => cs
  | o, d :: ds, cs => setAt (o + 1) ds (cs.set o d)
theorem setAt_length : ∀ (ds : List C) (o : Nat) (cs : List C), (setAt o ds cs).length = cs.length
  | [], o, cs => rfl
  | d :: ds, o, cs => by rw [setAt, setAt_length ds]; simp
theorem setAt_get : ∀ (ds : List C) (o : Nat) (cs : List C), o + ds.length ≤ cs.length → ∀ j : Nat, (setAt o ds cs)[j]? = if o ≤ j ∧ j < o + ds.length then ds[j - o]? else cs[j]?
  | [], o, cs, h, j => by rw [setAt, if_neg (by simp)]
  | d :: ds, o, cs, h, j => by
    simp only [List.length_cons] at h
    rw [setAt, setAt_get ds (o + 1) _ (by simp; omega)]
    by_cases hj : o = j
    · subst hj
      rw [if_neg (by omega), if_pos (by simp), List.getElem?_set_self (by omega)]
      simp
    · by_cases hc : o + 1 ≤ j ∧ j < o + 1 + ds.length
      · rw [if_pos hc, if_pos (by simp; omega), show j - o = (j - (o + 1)) + 1 by omega, List.getElem?_cons_succ]
      · rw [if_neg hc, if_neg (by simp; omega), List.getElem?_set_ne hj]
theorem setAt_all {ds cs : List C} (h : ds.length = cs.length) : setAt 0 ds cs = ds := by
  apply List.ext_getElem?
  intro j
  rw [setAt_get ds 0 cs (by omega)]
  by_cases hj : j < ds.length
  · rw [if_pos (by omega)]; rfl
  · rw [if_neg (by omega), List.getElem?_eq_none (by omega), List.getElem?_eq_none (by omega)]
theorem rowPut {Z : Kn} {ρ : Rho} {id b cap nx j : Nat} (hi : ρ id = some (.blk b)) : ∀ (us : List Value) (ds : List C) (off : Nat) (els : List (List C)) (cs : List C) (m : Mem) (w : World), Rel X Z ρ m nx w → mget m id = some (.row els cap) → els[j]? = some cs → off + us.length ≤ cs.length → ds.length = us.length →
    (∀ (q : Nat) (c : C) (v : Value), ds[q]? = some c → us[q]? = some v → RdC Z c v) → w.there b (j * cs.length + off) us.length ∧ Rel X Z ρ (mset m id (.row (els.set j (setAt off ds cs)) cap)) nx (w.setCells b (j * cs.length + off) us)
  | [], ds, off, els, cs, m, w, H, hm, he, hl, hd, hr => by
    obtain rfl := List.eq_nil_of_length_eq_zero hd
    refine ⟨fun q hq => absurd hq (Nat.not_lt_zero _), ?_⟩
    have e1 : els.set j (setAt off [] cs) = els := by
      rw [setAt]
      apply List.ext_getElem?
      intro q
      by_cases hq : j = q
      · subst hq; rw [List.getElem?_set_self (List.getElem?_eq_some_iff.1 he).1, he]
      · rw [List.getElem?_set_ne hq]
    rw [e1]
    rw [World.setCells]
    refine ⟨H.below, H.kn, H.z0, H.kle, fun q o e => ?_, fun p q op oq b' ep eq => ?_, H.fresh, H.kb, H.anch⟩
    · rw [mget_set] at e
      by_cases hq : id = q
      · rw [if_pos hq] at e; injection e with e; subst hq e; exact H.obj _ _ hm
      · rw [if_neg hq] at e; exact H.obj q o e
    · have back : ∀ i oi, mget (mset m id (.row els cap)) i = some oi → mget m i = some oi := fun i oi e => by
        rw [mget_set] at e
        by_cases h : id = i
        · subst h; rw [if_pos rfl] at e; rw [← e]; exact hm
        · rw [if_neg h] at e; exact e
      exact H.apart p q op oq b' (back p op ep) (back q oq eq)
  | u :: us, [], off, els, cs, m, w, H, hm, he, hl, hd, hr => by simp at hd
  | u :: us, d :: ds, off, els, cs, m, w, H, hm, he, hl, hd, hr => by
    simp only [List.length_cons] at hl hd
    obtain ⟨g1, g2⟩ := H.rowSet hm hi he (show off < cs.length by omega) (hr 0 d u rfl rfl)
    have hjl := (List.getElem?_eq_some_iff.1 he).1
    have ih := rowPut hi us ds (off + 1) (els.set j (cs.set off d)) (cs.set off d) _ _ g2 (by rw [mget_set, if_pos rfl]) (by rw [List.getElem?_set_self hjl]) (by simp; omega) (by omega) (fun q c v e1 e2 => hr (q + 1) c v (by simpa using e1) (by simpa using e2))
    rw [List.length_set] at ih
    obtain ⟨i1, i2⟩ := ih
    refine ⟨fun q hq => ?_, ?_⟩
    · cases q with
      | zero => exact g1 0 (by omega)
      | succ q =>
        have hs := i1 q (by simp only [List.length_cons] at hq; omega)
        have e1 : j * cs.length + (off + 1) + q = j * cs.length + off + (q + 1) := by omega
        rw [e1] at hs
        refine ⟨?_, ?_⟩
        · have := hs.1
          simp only [World.cell?, World.setCell, Array.getElem?_modify] at this ⊢
          revert this
          cases hb : w.heap[b]? with
          | none => simp
          | some bl => cases bl <;> simp
        · have := hs.2
          simp only [World.frozen?, World.setCell, Array.getElem?_modify] at this ⊢
          revert this
          cases hb : w.heap[b]? with
          | none => simp
          | some bl => cases bl <;> simp
    · rw [World.setCells, setAt]
      rw [mset_mset, List.set_set] at i2
      exact i2
def peSQ (ti : TI) (a : Slots) (o : Oper) : Option (Nat × Nat × Nat × Nat × List C) := match o.op with
  | .store t x y => (match tget ti t, evT a x, toCs (cellsT (evT a y)), allOne (cellsT (evT a y)) with
    | some i, .pe id j 0 sz, some ds, true => some (i.size, id, j, sz, ds)
    | _, _, _, _ => none)
  | _ => none
theorem peSt_run (hti : TIok X.P ti) {Z : Kn} {ρ : Rho} {m : Mem} {nx : Nat} {a : Slots} {act : Act} {w : World} (H : Rel X Z ρ m nx w) (hS : RdS Z ρ a act.tmps) {o : Oper} {n id j sz : Nat} {els : List (List C)} {cap : Nat} {cs ds : List C} (hq : peSQ ti a o = some (n, id, j, sz, ds))
    (hm : mget m id = some (.row els cap)) (he : els[j]? = some cs) (hl : cs.length = sz) (hn : ds.length = sz) (hz : sz = n) :
    ∃ w', (execOp act.eval o).run X.P w = .ok .skip w' ∧ Rel X Z ρ (mset m id (.row (els.set j ds) cap)) nx w' ∧ ∃ b, ρ id = some (.blk b) ∧ ∀ b', b' ≠ b → w'.heap[b']? = w.heap[b']? := by
  unfold peSQ at hq
  split at hq
  · rename_i ty x y ho
    split at hq
    · rename_i i id' j' sz' ds' hti' hx hcs h1
      injection hq with hq
      injection hq with q1 hq
      injection hq with q2 hq
      injection hq with q3 hq
      injection hq with q4 q5
      subst q1 q2 q3 q4 q5
      have hx' := evT_rel hS x
      rw [hx] at hx'
      obtain ⟨b, hb, hv⟩ := hx'.peI
      have hy := evT_rel hS y
      have hc := cellsT_rel hy h1
      have ho1 := allOne_eq _ h1
      obtain ⟨l1, l2⟩ := toCs_rel hc hcs
      have hlen : (act.eval y).cells.toList.length = cs.length := by rw [← l1]; omega
      obtain ⟨g1, g2⟩ := rowPut hb (act.eval y).cells.toList ds' 0 els cs m w H hm he (by omega) l1 l2
      rw [setAt_all (by omega)] at g2
      rw [Nat.add_zero] at g1 g2
      have hone : ∀ u ∈ (act.eval y).cells.toList, u.oneCell' = true := fun u hu => by
        obtain ⟨q, hq', rfl⟩ := List.getElem_of_mem hu
        have hlt : q < (cellsT (evT a y)).length := by rw [hc.1]; exact hq'
        exact (hc.2 q _ _ (List.getElem?_eq_getElem hlt) (List.getElem?_eq_getElem hq')).oneV (ho1 _ (List.getElem_mem hlt))
      have hst := run_storeCells_cells (P := X.P) b (j' * cs.length) (act.eval y).cells.toList 0 w (by simpa using fun q hq => (g1 q (by simpa using hq)).1) (by simpa using fun q hq => (g1 q (by simpa using hq)).2) hone
      simp only [Nat.add_zero] at hst
      have hsz : (sizeOf ty).run X.P w = .ok (act.eval y).cells.size w := by
        rw [(hti ty i hti').sz w]
        congr 1
        have : (act.eval y).cells.toList.length = (act.eval y).cells.size := by simp
        omega
      refine ⟨_, ?_, g2, b, hb, fun b' hne => heap_setCells_far hne _ _ w⟩
      obtain ⟨dst, op, ty', pos, after, guard⟩ := o
      simp only at ho
      subst ho
      rw [← hl, Nat.add_zero] at hv
      simp [execOp, Instr.storeAt, Instr.sureAddr, storeVar, hsz, hv, hst]
    · cases hq
  · cases hq
theorem W_peSt (hti : TIok X.P ti) {o : Oper} {r all : List Oper} {ks : List K} {a : Slots} {m : Mem} {nx : Nat} {n id j sz : Nat} {els : List (List C)} {cap : Nat} {cs ds : List C} (hd : dstOk X.n o.dst = true) (hg : gd a all o.guard = .yes) (hq : peSQ ti a o = some (n, id, j, sz, ds))
    (hm : mget m id = some (.row els cap)) (he : els[j]? = some cs) (hl : cs.length = sz) (hn : ds.length = sz) (hz : sz = n) (hw : W X ⟨.ops r all :: ks, put a o.dst .any, mset m id (.row (els.set j ds) cap), nx⟩) : W X ⟨.ops (o :: r) all :: ks, a, m, nx⟩ := by
  refine W_op hg fun Z ρ act w H hS hn' hdf K hK => ?_
  obtain ⟨w', h1, h2, _⟩ := peSt_run hti H hS hq hm he hl hn hz
  obtain ⟨p1, p2, p3⟩ := put_rel (KLe.refl Z) (RLe.refl ρ) hS hn' hd (RdT.any undef)
  exact OpRes.wp (.inr ⟨h1, rfl⟩) (hK _ _ (hw Z ρ _ w' h2 p1 p2 (p3.trans hdf)))
theorem D_peSt (hti : TIok X.P ti) {ks : List K} {ops : List Oper} {esc : List Nat} {m0 : Mem} {i : Nat} {r : PT} {a : Slots} {m : Mem} {nx : Nat} {st : Bool} {o : Oper} {n id j sz : Nat} {els : List (List C)} {cap : Nat} {cs ds : List C} (ho : nth ops i = some o) (hd : dstOk X.n o.dst = true) (hg : gd a ops o.guard = .yes) (hq : peSQ ti a o = some (n, id, j, sz, ds))
    (hm : mget m id = some (.row els cap)) (he : els[j]? = some cs) (hl : cs.length = sz) (hn : ds.length = sz) (hz : sz = n) (h0 : mget m0 id = none) (hw : D X ks ops esc m0 ⟨r, put a o.dst .any, mset m id (.row (els.set j ds) cap), nx, false⟩) : D X ks ops esc m0 ⟨.cons (0, i) r, a, m, nx, st⟩ := by
  rw [nth_eq] at ho
  have ho' : ops.toArray[i]? = some o := by simpa using ho
  intro Z0 ρ0 w0 Z ρ act w H hS hn' hdf hZ hT hB hst
  have hwant : Region.wanted o (yielded ops.toArray act.tmps) = true := (gd_wanted hS).1 hg
  obtain ⟨w', h1, h2, b, hb, hfar⟩ := peSt_run hti H hS hq hm he hl hn hz
  obtain ⟨p1, p2, p3⟩ := put_rel (KLe.refl Z) (RLe.refl ρ) hS hn' hd (RdT.any undef)
  have hT' : TW Z0 ρ0 m0 w0 w' := ⟨fun b' o u e => h2.kn b' o u (hZ _ _ _ e), fun id2 o2 b' e1 es e2 => by
    obtain ⟨⟨o3, q1, qs⟩, q2⟩ := hB id2 o2 b' e1 es e2
    refine (hfar b' fun e => ?_).trans (hT.2 id2 o2 b' e1 es e2)
    subst e
    have := H.apart id2 id _ _ b' q1 hm ⟨_, q2, rfl⟩ ⟨_, hb, rfl⟩
    subst this
    rw [e1] at h0; cases h0⟩
  refine dynL_act ho' hwant fun K hK => OpRes.wp (.inr ⟨h1, rfl⟩) (hK.out _ _ hT' (hw Z0 ρ0 w0 Z ρ _ w' h2 p1 p2 (p3.trans hdf) hZ hT' (fun id2 o2 b' e1 es e2 => ?_) (fun h => by cases h)))
  obtain ⟨⟨o3, q1, qs⟩, q2⟩ := hB id2 o2 b' e1 es e2
  refine ⟨⟨o3, ?_, qs⟩, q2⟩
  rw [mget_set, if_neg (fun e' => by subst e'; rw [e1] at h0; cases h0)]
  exact q1
theorem D_peStLast (hti : TIok X.P ti) {ks : List K} {ops : List Oper} {esc : List Nat} {m0 : Mem} {i : Nat} {a : Slots} {m : Mem} {nx : Nat} {st : Bool} {o : Oper} {n id j sz : Nat} {els : List (List C)} {cap : Nat} {cs ds : List C} (ho : nth ops i = some o) (he' : memB i esc = true) (hd : dstOk X.n o.dst = true) (hg : gd a ops o.guard = .yes) (hq : peSQ ti a o = some (n, id, j, sz, ds))
    (hm : mget m id = some (.row els cap)) (he : els[j]? = some cs) (hl : cs.length = sz) (hn : ds.length = sz) (hz : sz = n) (hw : W X ⟨ks, put a o.dst .any, mset m id (.row (els.set j ds) cap), nx⟩) : D X ks ops esc m0 ⟨.cons (0, i) .nil, a, m, nx, st⟩ := by
  rw [nth_eq] at ho
  have ho' : ops.toArray[i]? = some o := by simpa using ho
  intro Z0 ρ0 w0 Z ρ act w H hS hn' hdf hZ hT hB hst
  have hwant : Region.wanted o (yielded ops.toArray act.tmps) = true := (gd_wanted hS).1 hg
  obtain ⟨w', h1, h2, _⟩ := peSt_run hti H hS hq hm he hl hn hz
  obtain ⟨p1, p2, p3⟩ := put_rel (KLe.refl Z) (RLe.refl ρ) hS hn' hd (RdT.any undef)
  exact dynL_last ho' ((memB_eq i esc).1 he') hwant fun K hK => OpRes.wp (.inr ⟨h1, rfl⟩) (hK.out _ _ (dynL_done (hw Z ρ _ w' h2 p1 p2 (p3.trans hdf))))
end
end Go.Proofs.Ytconhpilbndpkaa.Vm
namespace Go.Proofs.Ytconhpilbndpkaa.Vm
open Go.RowKit
set_option linter.unusedVariables false

section
variable {ti : TI} {X : Ctx} {z : ZO}
/-! ### rows grow under new names -/
theorem W_rowAppN (hti : TIok X.P ti) {o : Oper} {r all : List Oper} {ks : List K} {a : Slots} {m : Mem} {nx : Nat} {id n cap sz : Nat} {els ys : List (List C)} (hq : appQ ti X.n a all o = some (.rw id n cap, ys, sz)) (hm : mget m id = some (.row els cap))
    (hn : n = els.length) (hes : ∀ cs ∈ els, cs.length = sz) (hs : ∀ cs ∈ ys, cs.length = sz) (hl : els.length + ys.length ≤ 67108864) (hne : 0 < ys.length)
    (hw : ∀ cap', els.length + ys.length ≤ cap' → cap' ≤ maxLen → W X ⟨.ops r all :: ks, put a o.dst (.rw nx (els.length + ys.length) cap'), (nx, .row (els ++ ys) cap') :: mdel m id, nx + 1⟩) : W X ⟨.ops (o :: r) all :: ks, a, m, nx⟩ := by
  obtain ⟨hd, hg, hp, xo, yo, t, el, i, zv, ho, hx, hy, hu, hi, hz, hsz, hby, hzs⟩ := appQ_some hti hq
  refine W_op hg fun Z ρ act w H hS hn' hdf K hK => ?_
  have hxr := evT_rel hS xo
  rw [hx, hn] at hxr
  obtain ⟨v', w', ρ', cap', h1, h2, h3, h4, h5, h6, -⟩ := append_row (ty0 := o.type) H hm hxr hes (elsOf_rel (evT_rel hS yo) hy) hs hp hu hi hz hsz hby hzs hl hne
  obtain ⟨p1, p2, p3⟩ := put_rel (KLe.refl Z) h4 hS hn' hd h6
  exact OpRes.wp (.inl (app_exec ho rfl rfl h1)) (hK _ _ (hw cap' h2 h3 Z _ _ w' h5 p1 p2 (p3.trans hdf)))
theorem D_rowAppN (hti : TIok X.P ti) {ks : List K} {ops : List Oper} {esc : List Nat} {m0 : Mem} {i : Nat} {r : PT} {a : Slots} {m : Mem} {nx : Nat} {st : Bool} {o : Oper} {id n cap sz : Nat} {els ys : List (List C)} (ho : nth ops i = some o) (hq : appQ ti X.n a ops o = some (.rw id n cap, ys, sz)) (hm : mget m id = some (.row els cap)) (h0 : mget m0 id = none)
    (hn : n = els.length) (hes : ∀ cs ∈ els, cs.length = sz) (hs : ∀ cs ∈ ys, cs.length = sz) (hl : els.length + ys.length ≤ 67108864) (hne : 0 < ys.length)
    (hw : ∀ cap', els.length + ys.length ≤ cap' → cap' ≤ maxLen → D X ks ops esc m0 ⟨r, put a o.dst (.rw nx (els.length + ys.length) cap'), (nx, .row (els ++ ys) cap') :: mdel m id, nx + 1, false⟩) : D X ks ops esc m0 ⟨.cons (0, i) r, a, m, nx, st⟩ := by
  rw [nth_eq] at ho
  have ho' : ops.toArray[i]? = some o := by simpa using ho
  obtain ⟨hd, hg, hp, xo, yo, t, el, j, zv, hop, hx, hy, hu, hi, hz, hsz, hby, hzs⟩ := appQ_some hti hq
  intro Z0 ρ0 w0 Z ρ act w H hS hn' hdf hZ hT hB hst
  have H : Rel X Z ρ m nx w := H
  have hwant : Region.wanted o (yielded ops.toArray act.tmps) = true := (gd_wanted hS).1 hg
  have hxr := evT_rel hS xo
  rw [hx, hn] at hxr
  obtain ⟨v', w', ρ', cap', h1, h2, h3, h4, h5, h6, h7⟩ := append_row (ty0 := o.type) H hm hxr hes (elsOf_rel (evT_rel hS yo) hy) hs hp hu hi hz hsz hby hzs hl hne
  obtain ⟨p1, p2, p3⟩ := put_rel (KLe.refl Z) h4 hS hn' hd h6
  have hT' : TW Z0 ρ0 m0 w0 w' := ⟨fun b' o u e => h5.kn b' o u (hZ _ _ _ e), fun id2 o2 b' e1 es e2 => by
    obtain ⟨⟨o3, q1, qs⟩, q2⟩ := hB id2 o2 b' e1 es e2
    refine (h7 b' ((H.obj id2 o3 q1).2.blk ⟨_, q2, rfl⟩).2 fun e => ?_).trans (hT.2 id2 o2 b' e1 es e2)
    have := H.apart id2 id _ _ b' q1 hm ⟨_, q2, rfl⟩ e
    subst this
    rw [e1] at h0; cases h0⟩
  refine dynL_act ho' hwant fun K hK => OpRes.wp (.inl (app_exec hop rfl rfl h1)) (hK.out _ _ hT' (hw cap' h2 h3 Z0 ρ0 w0 Z ρ' _ w' h5 p1 p2 (p3.trans hdf) hZ hT' (fun id2 o2 b' e1 es e2 => ?_) (fun h => by cases h)))
  obtain ⟨⟨o3, q1, qs⟩, q2⟩ := hB id2 o2 b' e1 es e2
  have hne : id2 ≠ id := fun e' => by subst e'; rw [e1] at h0; cases h0
  have hlt := (H.obj id2 o3 q1).1
  refine ⟨⟨o3, ?_, qs⟩, by have := h4 id2; rw [q2] at this; exact this⟩
  rw [mget_cons]
  refine (if_neg (by simp only; omega)).trans ?_
  rw [mget_mdel, if_neg hne]
  exact q1
/-! ### a name is changed -/
def renG (i j k : Nat) : Option Nat := match Nat.beq k i with
  | true => some j
  | false => (match Nat.beq k j with | true => none | false => some k)
def renS (i j : Nat) : Slots → Slots
  | [] => []
  | (k, t) :: a => (k, match mapT (chg (renG i j)) t with | some t' => t' | none => .any) :: renS i j a
def renM (i j : Nat) : Mem → Option Mem
  | [] => some []
  | (k, o) :: m => match renG i j k, chO (renG i j) o, renM i j m with
    | some k', some o', some m' => some ((k', o') :: m')
    | _, _, _ => none
theorem renS_get (i j k : Nat) : ∀ a : Slots, get (renS i j a) k = .any ∨ mapT (chg (renG i j)) (get a k) = some (get (renS i j a) k)
  | [] => .inl rfl
  | (p, t) :: a => by
    simp only [renS, get]
    cases hb : Nat.beq p k with
    | true =>
      simp only
      cases hm : mapT (chg (renG i j)) t with
      | none => exact .inl rfl
      | some t' => exact .inr rfl
    | false => exact renS_get i j k a
theorem renM_get {i j : Nat} : ∀ (m m' : Mem), renM i j m = some m' → ∀ id o, mget m' id = some o → ∃ k o1, renG i j k = some id ∧ mget m k = some o1 ∧ chO (renG i j) o1 = some o
  | [], m', h, id, o, e => by injection h with h; subst h; cases e
  | (k0, o0) :: m, m', h, id, o, e => by
    simp only [renM] at h
    split at h
    · rename_i k' o' m2 g0 ho hm
      injection h with h; subst h
      rw [mget_cons] at e
      by_cases hk : k' = id
      · rw [if_pos hk] at e
        injection e with e; subst e hk
        exact ⟨k0, o0, g0, by rw [mget_cons]; exact if_pos rfl, ho⟩
      · rw [if_neg hk] at e
        obtain ⟨k, o1, q1, q2, q3⟩ := renM_get m m2 hm id o e
        refine ⟨k, o1, q1, ?_, q3⟩
        rw [mget_cons]
        refine (if_neg fun e' => ?_).trans q2
        simp only at e'
        subst e'
        rw [q1] at g0
        injection g0 with g0
        exact hk g0.symm
    · cases h
theorem W_ren {ks : List K} {a : Slots} {m m' : Mem} {nx : Nat} (i j : Nat) (h1 : Nat.beq (i + 1) nx = true) (h2 : Nat.blt j i = true) (h3 : mget m j = none) (h4 : renM i j m = some m') (h : W X ⟨ks, renS i j a, m', i⟩) (hk : X.k ≤ j := by first | exact Nat.zero_le _ | exact Nat.le_of_ble_eq_true rfl) : W X ⟨ks, a, m, nx⟩ := by
  have h1 := Nat.eq_of_beq_eq_true h1
  have h2 := Nat.le_of_ble_eq_true h2
  intro Z ρ act w H hS hsz hd
  have H : Rel X Z ρ m nx w := H
  let ρ' : Rho := fun k => if k = j then ρ i else if k = i then none else ρ k
  have gcase : ∀ k k', renG i j k = some k' → (k = i ∧ k' = j) ∨ (k ≠ i ∧ k ≠ j ∧ k' = k) := fun k k' e => by
    unfold renG at e
    cases hb : Nat.beq k i with
    | true =>
      rw [hb] at e
      injection e with e
      exact .inl ⟨Nat.eq_of_beq_eq_true hb, e.symm⟩
    | false =>
      rw [hb] at e
      simp only at e
      cases hc : Nat.beq k j with
      | true => rw [hc] at e; cases e
      | false =>
        rw [hc] at e
        injection e with e
        exact .inr ⟨fun h => by subst h; simp at hb, fun h => by subst h; simp at hc, e.symm⟩
  have hg : ∀ k k', renG i j k = some k' → ρ' k' = ρ k := fun k k' e => by
    rcases gcase k k' e with ⟨rfl, rfl⟩ | ⟨q1, q2, rfl⟩
    · exact if_pos rfl
    · simp only [ρ', if_neg q2, if_neg q1]
  suffices hR : Rel X Z ρ' m' i w by
    refine h Z ρ' act w hR (fun k => ?_) hsz hd
    rcases renS_get i j k a with e | e
    · rw [e]; exact .any _
    · exact (mapT_rel (chg_ok hg) (hS k) _ e).1
  refine ⟨H.below, H.kn, H.z0, H.kle, fun id o e => ?_, fun p q op oq b ep eq bp bq => ?_, fun id hid => ?_, ?_, fun id hid => ?_⟩
  · obtain ⟨k, o1, q1, q2, q3⟩ := renM_get m m' h4 id o e
    obtain ⟨k1, k2⟩ := H.obj k o1 q2
    refine ⟨?_, chO_rel hg k2 q3 (hg k id q1) fun b hb => (k2.blk hb).1⟩
    rcases gcase k id q1 with ⟨_, rfl⟩ | ⟨q, _, rfl⟩
    · exact h2
    · omega
  · obtain ⟨k, o1, q1, q2, q3⟩ := renM_get m m' h4 p op ep
    obtain ⟨k', o1', p1, p2, p3⟩ := renM_get m m' h4 q oq eq
    obtain ⟨l, l1, l2⟩ := bp
    obtain ⟨l', l1', l2'⟩ := bq
    have := H.apart k k' o1 o1' b q2 p2 ⟨l, (hg k p q1) ▸ l1, l2⟩ ⟨l', (hg k' q p1) ▸ l1', l2'⟩
    subst this
    rw [q1] at p1
    injection p1
  · simp only [ρ']
    rw [if_neg (by omega)]
    by_cases hi : id = i
    · rw [if_pos hi]
    · rw [if_neg hi]; exact H.fresh id (by omega)
  · have := H.kb
    omega
  · simp only [ρ']
    rw [if_neg (by omega), if_neg (by omega)]
    exact H.anch id hid
/-! ### rows in boxes -/
theorem box_set {Z : Kn} {ρ : Rho} {ts : List T} {vs : List Value} (h : RdTs Z ρ ts vs) {off : Nat} {t : T} (k : ∀ v, vs[off]? = some v → RdT Z ρ t v) : RdTs Z ρ (ts.set off t) vs := by
  refine ⟨by rw [List.length_set]; exact h.1, fun i t' v e1 e2 => ?_⟩
  rw [List.getElem?_set] at e1
  split at e1
  · rename_i hi
    subst hi
    split at e1
    · injection e1 with e1; subst e1; exact k v e2
    · cases e1
  · exact h.2 i t' v e1 e2
theorem one_set {ts : List T} (h : ∀ t ∈ ts, t.one = true) {off : Nat} {t : T} (k : t.one = true) : ∀ t' ∈ ts.set off t, t'.one = true := fun t' ht => by
  rcases List.mem_or_eq_of_mem_set ht with h' | rfl
  · exact h t' h'
  · exact k
/-- a box reads in another way -/
theorem Rel.box' {Z : Kn} {ρ : Rho} {m : Mem} {nx : Nat} {w : World} (H : Rel X Z ρ m nx w) {B off : Nat} {ts : List T} {t t' : T} (hm : mget m B = some (.box ts)) (ht : ts[off]? = some t) (h1 : t'.one = true) (hr : ∀ v, RdT Z ρ t v → RdT Z ρ t' v) : Rel X Z ρ (mset m B (.box (ts.set off t'))) nx w := by
  refine ⟨H.below, H.kn, H.z0, H.kle, fun id o e => ?_, fun i j oi oj b ei ej => ?_, H.fresh, H.kb, H.anch⟩
  · rw [mget_set] at e
    by_cases hi : B = id
    · rw [if_pos hi] at e
      injection e with e; subst e hi
      obtain ⟨q, b, vs, k1, k2, k3, k4, k5, k6⟩ := H.obj B _ hm
      exact ⟨q, b, vs, k1, k2, k3, box_set k4 fun v e => hr v (k4.2 off t v ht e), one_set k5 h1, k6⟩
    · rw [if_neg hi] at e; exact H.obj id o e
  · have back : ∀ i oi, mget (mset m B (.box (ts.set off t'))) i = some oi → ∃ o, mget m i = some o := fun i oi e => by
      rw [mget_set] at e
      by_cases h : B = i
      · subst h; exact ⟨_, hm⟩
      · rw [if_neg h] at e; exact ⟨_, e⟩
    obtain ⟨oi', ei'⟩ := back i oi ei
    obtain ⟨oj', ej'⟩ := back j oj ej
    exact H.apart i j oi' oj' b ei' ej'
theorem W_nilRowB {ks : List K} {a : Slots} {m : Mem} {nx : Nat} (B off : Nat) {ts : List T} (hm : mget m B = some (.box ts)) (ht : ts[off]? = some .nil) (h : W X ⟨ks, a, mset ((nx, .row [] 0) :: m) B (.box (ts.set off (.rw nx 0 0))), nx + 1⟩) : W X ⟨ks, a, m, nx⟩ := by
  intro Z ρ act w H hS hsz hd
  have H : Rel X Z ρ m nx w := H
  obtain ⟨_, r1, H1⟩ := H.new (Z' := Z) (Below.refl _ _) H.kn (fun _ _ _ => rfl) (.tok (.slice none 0 0) 0) (.row [] 0) (fun b e => by cases e) (.inl ⟨rfl, rfl, updR_same _ _ _⟩)
  have hne : nx ≠ B := by have := (H.obj B _ hm).1; omega
  have H2 := H1.box' (B := B) (off := off) (t := .nil) (t' := .rw nx 0 0) (by rw [mget_cons]; exact (if_neg hne).trans hm) ht rfl fun v hv => by
    rw [hv.nilI]; exact .rn nx
  exact h Z _ act w H2 (fun k => (hS k).mono (KLe.refl _) r1) hsz hd
theorem freeze_rel {Z : Kn} {ρ : Rho} {m : Mem} {nx : Nat} {w : World} (H : Rel X Z ρ m nx w) {id cap : Nat} {els : List (List C)} (hm : mget m id = some (.row els cap)) : ∃ Z', KLe Z Z' ∧ Rel X Z' ρ (mdel m id) nx w ∧ ∀ v, RdT Z ρ (.rw id els.length cap) v → RdC Z' (.sl els) v := by
  obtain ⟨hid, hO⟩ := H.obj id _ hm
  rcases hO with ⟨e1, e2, k1⟩ | ⟨b, cells, sz, k1, k2, k3, k4, k4', k5, k6, k7⟩
  · refine ⟨Z, KLe.refl _, H.sub (subM_mdel m id), fun v hv => ?_⟩
    rcases hv.rwI.1 with ⟨b, hb, _⟩ | ⟨_, _, rfl⟩
    · rw [hb] at k1; injection k1 with k1; cases k1
    · rw [e1]; exact .nl none 0 (Nat.zero_le _)
  · let Z' : Kn := fun b' o => if b' = b then (cells.take (els.length * sz))[o]? else Z b' o
    have hZ' : ∀ b' o, b' ≠ b → Z' b' o = Z b' o := fun b' o h => if_neg h
    have hZb : ∀ o, Z' b o = (cells.take (els.length * sz))[o]? := fun o => if_pos rfl
    have hle : KLe Z Z' := fun b' o u e => (hZ' b' o (fun h => by subst h; rw [k7] at e; cases e)).trans e
    have hk : KnOk Z' w := fun b' o u e => by
      by_cases hbb : b' = b
      · subst hbb
        rw [hZb] at e
        have hlt := (List.getElem?_eq_some_iff.1 e).1
        rw [List.length_take] at hlt
        rw [List.getElem?_take_of_lt (by omega)] at e
        rw [k3.cell]; exact e
      · rw [hZ' b' o hbb] at e; exact H.kn b' o u e
    have H0 := H.sub (subM_mdel m id)
    refine ⟨Z', hle, ⟨H0.below, hk, fun b' o h => (hZ' b' o (fun e' => h (by rw [e']; exact k2))).trans (H0.z0 b' o h), H0.kle.trans hle, (fun j oj e => by
      obtain ⟨q1, q2⟩ := H0.obj j oj e
      refine ⟨q1, q2.keep hle (RLe.refl _) rfl fun b' hb' => ⟨rfl, fun o => hZ' b' o fun e' => ?_⟩⟩
      subst e'
      have hj := H.apart j id oj _ b' (subM_mdel m id _ _ e) hm hb' ⟨_, k1, rfl⟩
      subst hj
      rw [mget_mdel, if_pos rfl] at e; cases e), H0.apart, H0.fresh, H0.kb, H0.anch⟩, fun v hv => ?_⟩
    rcases hv.rwI.1 with ⟨b', hb, rfl⟩ | ⟨h0, _, rfl⟩
    · rw [k1] at hb; injection hb with hb; injection hb with hb; subst hb
      refine RdC.mk k5 (fun k cs j c e ej => ?_) k4'.1 k4'.2.1
      obtain ⟨u, r1, r2⟩ := k6 k cs j c e ej
      have hkl : k < els.length := (List.getElem?_eq_some_iff.1 e).1
      have hj : j < sz := by rw [← k5 k cs e]; exact (List.getElem?_eq_some_iff.1 ej).1
      have : (k + 1) * sz ≤ els.length * sz := Nat.mul_le_mul_right _ hkl
      rw [Nat.succ_mul] at this
      exact ⟨u, by rw [hZb, List.getElem?_take_of_lt (by omega)]; exact r1, r2.mono hle⟩
    · rw [List.eq_nil_of_length_eq_zero h0]; exact .nl none 0 (Nat.zero_le _)
/-- a row in a box is done with -/
theorem W_freezeC {ks : List K} {a : Slots} {m : Mem} {nx : Nat} (B off : Nat) {ts : List T} {id n cap : Nat} {els : List (List C)} (hm : mget m B = some (.box ts)) (ht : ts[off]? = some (.rw id n cap)) (hr : mget m id = some (.row els cap)) (hn : n = els.length)
    (h : W X ⟨ks, a, mset (mdel m id) B (.box (ts.set off (.c (.sl els)))), nx⟩) : W X ⟨ks, a, m, nx⟩ := by
  intro Z ρ act w H hS hsz hd
  have H : Rel X Z ρ m nx w := H
  subst hn
  obtain ⟨Z', hle, H', hv⟩ := freeze_rel H hr
  have hne : B ≠ id := fun e => by subst e; rw [hm] at hr; cases hr
  obtain ⟨_, b, vs, k1, k2, k3, k4, k5, k6⟩ := H.obj B _ hm
  -- the value in the box reads as the row did
  have hm' : mget (mdel m id) B = some (.box ts) := by rw [mget_mdel, if_neg hne]; exact hm
  refine h Z' ρ act w ⟨H'.below, H'.kn, H'.z0, H'.kle, fun q o e => ?_, fun i j oi oj b' ei ej => ?_, H'.fresh, H'.kb, H'.anch⟩ (fun k => (hS k).mono hle (RLe.refl _)) hsz hd
  · rw [mget_set] at e
    by_cases hi : B = q
    · rw [if_pos hi] at e
      injection e with e; subst e hi
      obtain ⟨q1, b2, vs2, g1, g2, g3, g4, g5, g6⟩ := H'.obj B _ hm'
      have hb : b2 = b := by rw [k1] at g1; injection g1 with g1; injection g1 with g1; exact g1.symm
      subst hb
      have hvs : vs2 = vs := by
        obtain ⟨t1, f1, e1, _⟩ := k3
        obtain ⟨t2, f2, e2, _⟩ := g3
        rw [e1] at e2
        injection e2 with e2
        injection e2 with e2
        have := congrArg Array.toList e2
        simpa using this.symm
      subst hvs
      exact ⟨q1, b2, vs2, g1, g2, g3, box_set g4 fun v e => .c _ _ (hv v (k4.2 off _ v ht e)), one_set g5 rfl, g6⟩
    · rw [if_neg hi] at e; exact H'.obj q o e
  · have back : ∀ i oi, mget (mset (mdel m id) B (.box (ts.set off (.c (.sl els))))) i = some oi → ∃ o, mget (mdel m id) i = some o := fun i oi e => by
      rw [mget_set] at e
      by_cases h : B = i
      · subst h; exact ⟨_, hm'⟩
      · rw [if_neg h] at e; exact ⟨_, e⟩
    obtain ⟨oi', ei'⟩ := back i oi ei
    obtain ⟨oj', ej'⟩ := back j oj ej
    exact H'.apart i j oi' oj' b' ei' ej'
end
end Go.Proofs.Ytconhpilbndpkaa.Vm
namespace Go.Proofs.Ytconhpilbndpkaa.Vm
open Go.RowKit
set_option linter.unusedVariables false

section
variable {ti : TI} {X : Ctx} {z : ZO}
/-! ### ways that meet -/
/-- what comes next is shown once, for all states that the code leaves behind -/
theorem W_cut {c : Code} {ks : List K} {a : Slots} {m : Mem} {nx : Nat} (S : Slots → Mem → Prop) (nx1 : Nat) (h : W X ⟨.code c :: .inv (fun _ => S) 1 nx1 :: ks, a, m, nx⟩) (hf : ∀ a m, S a m → W X ⟨ks, a, m, nx1⟩) : W X ⟨.code c :: ks, a, m, nx⟩ := by
  intro Z ρ act w H hS hn hd
  have := h Z ρ act w H hS hn hd
  refine wp_mono this fun e act' w' q => ?_
  cases e with
  | normal =>
    obtain ⟨n', a', m', Z', ρ', q1, q2, q3, q4, q5, q6⟩ := q
    exact hf a' m' q2 Z' ρ' act' w' q3 q4 q5 q6
  | _ => exact q
theorem W_fin {S : Slots → Mem → Prop} {nx nx' : Nat} {ks : List K} {a : Slots} {m : Mem} (L M : List Nat) (h1 : refS nx (keepS L a) = true) (h2 : refM nx (keepM M m) = true) (hI : S (keepS L a) (keepM M m)) (hk : X.k ≤ nx := by first | exact Nat.zero_le _ | exact Nat.le_of_ble_eq_true rfl) : W X ⟨.inv (fun _ => S) 1 nx :: ks, a, m, nx'⟩ :=
  W_inv L M 0 (Nat.lt_succ_self 0) h1 h2 hI hk
theorem SK_blkInv {S : Slots → Mem → Prop} {nx1 id : Nat} {rest : List K} (hf : ∀ a m, S a m → W X ⟨rest, a, m, nx1⟩) {e : Exit} {act : Act} {w : World} (h : SK X (.blk id :: .inv (fun _ => S) 1 nx1 :: rest) e act w) : SK X (.blk id :: rest) e act w := by
  have fin : SK X (.inv (fun _ => S) 1 nx1 :: rest) .normal act w → SK X rest .normal act w := fun q => by
    obtain ⟨n', a', m', Z', ρ', q1, q2, q3, q4, q5, q6⟩ := q
    exact hf a' m' q2 Z' ρ' act w q3 q4 q5 q6
  cases e with
  | normal => exact fin h
  | exit id' =>
    have h : (if id' = id then SK X (.inv (fun _ => S) 1 nx1 :: rest) .normal act w else SK X (.inv (fun _ => S) 1 nx1 :: rest) (.exit id') act w) := h
    show (if id' = id then SK X rest .normal act w else SK X rest (.exit id') act w)
    by_cases hi : id' = id
    · rw [if_pos hi] at h ⊢; exact fin h
    · rw [if_neg hi] at h ⊢; exact h
  | _ => exact h
/-- a loop, and what comes after it apart -/
theorem W_loopS {c : Code} {rest : List K} {id : Nat} {a : Slots} {m : Mem} {nx : Nat} (I : Nat → Slots → Mem → Prop) (n : Nat) (S : Slots → Mem → Prop) (nx1 : Nat) (h0 : I n a m)
    (round : ∀ n a m, I n a m → W X ⟨.code c :: .inv I n nx :: .blk id :: .inv (fun _ => S) 1 nx1 :: rest, a, m, nx⟩) (hf : ∀ a m, S a m → W X ⟨rest, a, m, nx1⟩) : W X ⟨.code (.loop c) :: .blk id :: rest, a, m, nx⟩ := by
  refine W_loop I n h0 fun n a m hI Z ρ act w H hS hn hd => ?_
  have := round n a m hI Z ρ act w H hS hn hd
  refine wp_mono this fun e act' w' q => ?_
  cases e with
  | normal => exact q
  | _ => exact SK_blkInv hf q
/-- a drawn region with ways, where only some things are read early; what follows is shown once -/
theorem W_drawCM (hm : X.P.follows .mixedOrders = true) {id : Nat} {ops : Array Oper} {ks : List K} {a : Slots} {m : Mem} {nx : Nat} (M : List Nat) (l : PT) (esc : List Nat) (hc : (Region.noSelect ops && planT ops esc false l (Array.replicate ops.size false) && l.len == ops.size) = true) (a1 : Slots) (m1 : Mem) (nx1 : Nat)
    (h : W X ⟨ks, a1, m1, nx1⟩ → D X ks ops.toList esc (keepM M m) ⟨l, a, m, nx, true⟩) (hf : W X ⟨ks, a1, m1, nx1⟩) : W X ⟨.code (.region id ops true) :: ks, a, m, nx⟩ := W_drawTM hm M l esc hc (h hf)
theorem W_to {ks : List K} {a a1 : Slots} {m m1 : Mem} {nx nx1 : Nat} (L M : List Nat) (hf : W X ⟨ks, a1, m1, nx1⟩) (e1 : keepS L a = a1) (e2 : keepM M m = m1) (h1 : refS nx1 a1 = true) (h2 : refM nx1 m1 = true) (hk : X.k ≤ nx1 := by first | exact Nat.zero_le _ | exact Nat.le_of_ble_eq_true rfl) : W X ⟨ks, a, m, nx⟩ := by
  subst e1 e2
  exact W_keep L M nx1 h1 h2 hf hk
end
end Go.Proofs.Ytconhpilbndpkaa.Vm
