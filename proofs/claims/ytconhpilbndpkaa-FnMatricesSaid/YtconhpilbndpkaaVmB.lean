/-
  A machine on values that read as trees: rules for code, calls, loops, appends, regions that draw their order.
-/
import Derived.Test.YtconhpilbndpkaaVmA
import Derived.Tactics
import Derived.Deep.LoopGhost
import Derived.Deep.RegionHeld3
namespace Go.Proofs.Ytconhpilbndpkaa.Vm
open Go.RowKit
set_option linter.unusedVariables false

/-! ### what is still to run -/
def SK (X : Ctx) : List K → Exit → Act → World → Prop
  | [], e, act, w => X.fin e act w
  | .code c :: ks, .normal, act, w => c.wp X.P (SK X ks) act w
  | .code _ :: ks, e, act, w => SK X ks e act w
  | .ops l all :: ks, .normal, act, w => wpList X.P all.toArray (SK X ks) l act w
  | .ops _ _ :: ks, e, act, w => SK X ks e act w
  | .blk id :: ks, .exit id', act, w => if id' = id then SK X ks .normal act w else SK X ks (.exit id') act w
  | .blk _ :: ks, e, act, w => SK X ks e act w
  | .inv I n nx :: _, .normal, act, w => ∃ n' a m Z ρ, n' < n ∧ I n' a m ∧ Rel X Z ρ m nx w ∧ RdS Z ρ a act.tmps ∧ act.tmps.size = X.n ∧ act.defers = []
  | .inv _ _ _ :: ks, e, act, w => SK X ks e act w
def W (X : Ctx) (s : St) : Prop := ∀ Z ρ act w, Rel X Z ρ s.m s.nx w → RdS Z ρ s.a act.tmps → act.tmps.size = X.n → act.defers = [] → SK X s.ks .normal act w

section
variable {ti : TI} {X : Ctx} {z : ZO}
theorem SK_then (c : Code) (ks : List K) : Exit.then (c.wp X.P (SK X ks)) (SK X ks) = SK X (.code c :: ks) := by
  funext e act w; cases e <;> rfl
theorem SK_block (id : Nat) (ks : List K) : Exit.inBlock id (SK X ks) = SK X (.blk id :: ks) := by
  funext e act w; cases e <;> rfl
theorem SK_unwind (id : Nat) : ∀ (ks ks' : List K), unwind id ks = some ks' → ∀ act w, SK X ks' .normal act w → SK X ks (.exit id) act w
  | [], _, h, _, _, _ => by cases h
  | .blk j :: ks, ks', h, act, w, hk => by
    unfold unwind at h
    split at h
    · rename_i hb
      injection h with h; subst h
      show (if id = j then _ else _)
      rw [if_pos (Nat.eq_of_beq_eq_true hb).symm]
      exact hk
    · rename_i hb
      show (if id = j then _ else _)
      rw [if_neg (fun e => by subst e; simp at hb)]
      exact SK_unwind id ks ks' h act w hk
  | .code c :: ks, ks', h, act, w, hk => SK_unwind id ks ks' h act w hk
  | .ops l a :: ks, ks', h, act, w, hk => SK_unwind id ks ks' h act w hk
  | .inv I n nx :: ks, ks', h, act, w, hk => SK_unwind id ks ks' h act w hk
theorem SK_ret : ∀ (ks : List K) (act : Act) (w : World), X.fin .ret act w → SK X ks .ret act w
  | [], _, _, h => h
  | .blk _ :: ks, act, w, h => SK_ret ks act w h
  | .code _ :: ks, act, w, h => SK_ret ks act w h
  | .ops _ _ :: ks, act, w, h => SK_ret ks act w h
  | .inv _ _ _ :: ks, act, w, h => SK_ret ks act w h

theorem put_rel {Z Z' : Kn} {ρ ρ' : Rho} {a : Slots} {act : Act} (H : KLe Z Z') (R : RLe ρ ρ') (hS : RdS Z ρ a act.tmps) {n : Nat} (hn : act.tmps.size = n) {dst : Option Tmp} (hd : dstOk n dst = true) {t : T} {v : Value} (ht : RdT Z' ρ' t v) :
    RdS Z' ρ' (put a dst t) (act.put dst v).tmps ∧ (act.put dst v).tmps.size = n ∧ (act.put dst v).defers = act.defers := by
  cases dst with
  | none => exact ⟨hS.mono H R, hn, rfl⟩
  | some d =>
    have hlt : d < act.tmps.size := by rw [hn]; simpa [dstOk] using hd
    exact ⟨(hS.mono H R).set hlt ht, by simp [Act.put, hn], rfl⟩
theorem gd_is {Z : Kn} {ρ : Rho} {a : Slots} {act : Act} (hS : RdS Z ρ a act.tmps) {all : List Oper} {o : Oper} (r : Gd) (h : gd a all o.guard = r) : match r with
    | .yes => Region.wanted o (yielded all.toArray act.tmps) = true
    | .no => Region.wanted o (yielded all.toArray act.tmps) = false
    | .stop => True := by
  unfold gd at h
  split at h
  · rename_i hg
    subst h
    simp [Region.wanted, hg]
  · rename_i p hp
    obtain ⟨g, b⟩ := p
    simp only [nth_eq] at h
    split at h
    · rename_i og hog
      split at h
      · rename_i d hd
        have key : ∀ x, get a d = .c (.b x) → yielded all.toArray act.tmps g = some x := fun x hx => by
          have := hS d
          rw [hx] at this
          have e := this.cI.boolI
          unfold yielded
          have hlt : d < act.tmps.size := by
            apply Classical.byContradiction
            intro hn
            simp only [Array.getD, hn, dif_neg, not_false_iff] at e
            cases e
          have e2 : act.tmps[d]? = some (.bool x) := by
            rw [Array.getElem?_eq_getElem hlt]
            simp only [Array.getD, hlt, dif_pos] at e
            exact congrArg some e
          simp [hog, hd, e2]
        split at h
        · rename_i hx
          have := key _ hx
          cases b <;> (subst h; simp [Region.wanted, hp, this])
        · rename_i hx
          have := key _ hx
          cases b <;> (subst h; simp [Region.wanted, hp, this])
        · rename_i hx
          subst h
          have e : act.tmps.getD d undef = .tuple #[] := by
            have := hS d
            rw [hx] at this
            obtain ⟨vs, e1, e2⟩ := this.tuI
            obtain rfl := e2.unnil
            exact e1
          have hy : yielded all.toArray act.tmps g = none := by
            unfold yielded
            by_cases hlt : d < act.tmps.size
            · have e2 : act.tmps[d]? = some (.tuple #[]) := by
                rw [Array.getElem?_eq_getElem hlt]
                simp only [Array.getD, hlt, dif_pos] at e
                exact congrArg some e
              simp [hog, hd, e2]
            · have e2 : act.tmps[d]? = none := Array.getElem?_eq_none (Nat.le_of_not_lt hlt)
              simp [hog, hd, e2]
          simp [Region.wanted, hp, hy]
        · subst h; trivial
      · subst h; trivial
    · subst h; trivial
theorem gd_wanted {Z : Kn} {ρ : Rho} {a : Slots} {act : Act} (hS : RdS Z ρ a act.tmps) {all : List Oper} {o : Oper} :
    (gd a all o.guard = .yes → Region.wanted o (yielded all.toArray act.tmps) = true) ∧ (gd a all o.guard = .no → Region.wanted o (yielded all.toArray act.tmps) = false) :=
  ⟨fun h => gd_is hS _ h, fun h => gd_is hS _ h⟩
/-- one operation of a list -/
theorem W_op {o : Oper} {r all : List Oper} {ks : List K} {a : Slots} {m : Mem} {nx : Nat} (hg : gd a all o.guard = .yes)
    (h : ∀ Z ρ act w, Rel X Z ρ m nx w → RdS Z ρ a act.tmps → act.tmps.size = X.n → act.defers = [] → ∀ (K : Act → World → Prop), (∀ a w, wpList X.P all.toArray (SK X ks) r a w → K a w) → o.wp X.P act w K (SK X ks)) : W X ⟨.ops (o :: r) all :: ks, a, m, nx⟩ := by
  intro Z ρ act w H hS hn hd
  show wpList X.P all.toArray (SK X ks) (o :: r) act w
  exact wpList_step fun K hK => by
    rw [if_pos ((gd_wanted hS).1 hg)]
    exact h Z ρ act w H hS hn hd K hK
theorem OpRes.wp {P : Program} {o : Oper} {act : Act} {w w' : World} {v : Value} (h : OpRes P o act w v w') {K : Act → World → Prop} {Q : Exit → Act → World → Prop} (hK : K (act.put o.dst v) w') : o.wp P act w K Q := by
  unfold Oper.wp
  rcases h with h | ⟨h, rfl⟩
  · rw [h]; exact hK
  · rw [h]; exact hK
theorem step_sound (hti : TIok X.P ti) (hz : z = realZ) {s s' : St} (h : step ti z X.n s = some s') (hw : W X s') : W X s := by
  obtain ⟨ks, a, m, nx⟩ := s
  unfold step at h
  simp only at h
  split at h
  · injection h with h; subst h
    exact fun Z ρ act w H hS hn hd => wp_skip (hw Z ρ act w H hS hn hd)
  · rename_i x y ks
    injection h with h; subst h
    exact fun Z ρ act w H hS hn hd => wp_seq (by rw [SK_then]; exact hw Z ρ act w H hS hn hd)
  · rename_i id ops ks
    injection h with h; subst h
    exact fun Z ρ act w H hS hn hd => wp_region_list (by have := hw Z ρ act w H hS hn hd; simpa [SK] using this)
  · rename_i c x y ks
    split at h
    · rename_i hc
      injection h with h; subst h
      exact fun Z ρ act w H hS hn hd => wp_cond_true (by have := evT_rel hS c; rw [hc] at this; exact this.cI.boolI) (hw Z ρ act w H hS hn hd)
    · rename_i hc
      injection h with h; subst h
      exact fun Z ρ act w H hS hn hd => wp_cond_false (by have := evT_rel hS c; rw [hc] at this; exact this.cI.boolI) (hw Z ρ act w H hS hn hd)
    · cases h
  · rename_i id c ks
    injection h with h; subst h
    exact fun Z ρ act w H hS hn hd => wp_block (by rw [SK_block]; exact hw Z ρ act w H hS hn hd)
  · rename_i id ks
    split at h
    · rename_i ks' hu
      injection h with h; subst h
      exact fun Z ρ act w H hS hn hd => wp_exit (SK_unwind id ks ks' hu act w (hw Z ρ act w H hS hn hd))
    · cases h
  · rename_i id ks
    injection h with h; subst h
    exact fun Z ρ act w H hS hn hd => hw Z ρ act w H hS hn hd
  · rename_i all ks
    injection h with h; subst h
    exact fun Z ρ act w H hS hn hd => hw Z ρ act w H hS hn hd
  · rename_i o r all ks
    unfold stepOp at h
    split at h
    · rename_i hdst
      simp only at h
      split at h
      · rename_i hg
        have key : ∀ rs s', opT ti z m nx a o.op = rs → (∀ Z ρ act w, Rel X Z ρ m nx w → RdS Z ρ a act.tmps → act.tmps.size = X.n → act.defers = [] → Good X Z ρ m nx act w o rs →
            ∃ v w' t m' nx' Z' ρ', OpRes X.P o act w v w' ∧ KLe Z Z' ∧ RLe ρ ρ' ∧ Rel X Z' ρ' m' nx' w' ∧ RdT Z' ρ' t v ∧ s' = ⟨.ops r all :: ks, put a o.dst t, m', nx'⟩) → W X s' → W X ⟨.ops (o :: r) all :: ks, a, m, nx⟩ := fun rs s' e hgood hw =>
          W_op hg fun Z ρ act w H hS hn hd K hK => by
            have hG := op_sound hti hz H hS o
            rw [e] at hG
            obtain ⟨v, w', t, m', nx', Z', ρ', h1, h2, h3, h4, h5, rfl⟩ := hgood Z ρ act w H hS hn hd hG
            obtain ⟨k1, k2, k3⟩ := put_rel h2 h3 hS hn hdst h5
            exact h1.wp (hK _ _ (hw Z' ρ' _ w' h4 k1 k2 (k3.trans hd)))
        split at h
        · rename_i t e
          injection h with h; subst h
          exact key _ _ e (fun Z ρ act w H hS hn hd ⟨v, h1, h2⟩ => ⟨v, w, t, m, nx, Z, ρ, .inl (h1 w fun _ => H.tw), KLe.refl _, RLe.refl _, H, h2, rfl⟩) hw
        · rename_i t m' e
          injection h with h; subst h
          exact key _ _ e (fun Z ρ act w H hS hn hd ⟨v, w', h1, h2, h3⟩ => ⟨v, w', t, m', nx, Z, ρ, h1, KLe.refl _, RLe.refl _, h2, h3, rfl⟩) hw
        · rename_i ob t e
          injection h with h; subst h
          exact key _ _ e (fun Z ρ act w H hS hn hd ⟨v, w', Z', ρ', h1, h2, h3, _, h4, h5⟩ => ⟨v, w', t, (nx, ob) :: m, nx + 1, Z', ρ', h1, h2, h3, h4, h5, rfl⟩) hw
        · cases h
      · rename_i hg
        injection h with h; subst h
        intro Z ρ act w H hS hn hd
        show wpList X.P all.toArray (SK X ks) (o :: r) act w
        refine wpList_step fun K hK => ?_
        rw [if_neg (by rw [(gd_wanted hS).2 hg]; decide)]
        obtain ⟨k1, k2, k3⟩ := put_rel (KLe.refl Z) (RLe.refl ρ) hS hn hdst (RdT.undef Z ρ)
        exact hK _ _ (hw Z ρ _ w H k1 k2 (k3.trans hd))
      · cases h
    · cases h
  · cases h
theorem W_run (hti : TIok X.P ti) (hz : z = realZ) (k : Nat) {s s' : St} (h : run ti z X.n k s = s') (hw : W X s') : W X s := by
  induction k generalizing s with
  | zero => have : s = s' := h; subst this; exact hw
  | succ k ih =>
    unfold run at h
    split at h
    · rename_i s1 h1
      exact step_sound hti hz h1 (ih h)
    · have : s = s' := h; subst this; exact hw

/-! ### the rules -/
theorem W_cond {c : Operand} {x y : Code} {ks : List K} {a : Slots} {m : Mem} {nx : Nat} {e : Bool} (hc : evT a c = .q e) (h1 : e = true → W X ⟨.code x :: ks, a, m, nx⟩) (h2 : e = false → W X ⟨.code y :: ks, a, m, nx⟩) : W X ⟨.code (.cond c x y) :: ks, a, m, nx⟩ := by
  intro Z ρ act w H hS hn hd
  refine wp_cond_split (t := e) (by have := evT_rel hS c; rw [hc] at this; exact this.qI) (fun he => h1 he Z ρ act w H hS hn hd) (fun he => h2 he Z ρ act w H hS hn hd)
/-- a slot's bool is known -/
theorem W_bool {ks : List K} {a : Slots} {m : Mem} {nx : Nat} (d : Nat) {e b : Bool} (hc : get a d = .q e) (he : e = b) (h : W X ⟨ks, set a d (.c (.b b)), m, nx⟩) : W X ⟨ks, a, m, nx⟩ := by
  intro Z ρ act w H hS hn hd
  refine h Z ρ act w H (fun k => ?_) hn hd
  rw [get_set]
  by_cases hk : d = k
  · subst hk he
    rw [if_pos rfl]
    have := hS d
    rw [hc] at this
    rw [this.qI]
    exact .c _ _ (.b _)
  · rw [if_neg hk]; exact hS k
/-- a round -/
theorem W_loop {c : Code} {ks : List K} {a : Slots} {m : Mem} {nx : Nat} (I : Nat → Slots → Mem → Prop) (n : Nat) (h0 : I n a m) (round : ∀ n a m, I n a m → W X ⟨.code c :: .inv I n nx :: ks, a, m, nx⟩) : W X ⟨.code (.loop c) :: ks, a, m, nx⟩ := by
  intro Z ρ act w H hS hn hd
  refine wp_loop_ghost (fun n act w => ∃ a m Z ρ, I n a m ∧ Rel X Z ρ m nx w ∧ RdS Z ρ a act.tmps ∧ act.tmps.size = X.n ∧ act.defers = []) n ⟨a, m, Z, ρ, h0, H, hS, hn, hd⟩ ?_
  rintro n act w ⟨a, m, Z, ρ, h1, h2, h3, h4, h5⟩
  have := round n a m h1 Z ρ act w h2 h3 h4 h5
  refine wp_mono this fun e act' w' q => ?_
  cases e with
  | normal =>
    obtain ⟨n', a', m', Z', ρ', q1, q2, q3, q4, q5, q6⟩ := q
    exact ⟨n', q1, a', m', Z', ρ', q2, q3, q4, q5, q6⟩
  | _ => exact q

theorem get_keepS (L : List Nat) (a : Slots) (k : Nat) : get (keepS L a) k = get a k ∨ get (keepS L a) k = .any := by
  induction L with
  | nil => exact .inr rfl
  | cons x L ih =>
    simp only [keepS, get]
    split
    · rename_i hb
      rw [Nat.eq_of_beq_eq_true hb]; exact .inl rfl
    · exact ih
theorem mget_keepM (M : List Nat) (m : Mem) (k : Nat) (o : Obj) (h : mget (keepM M m) k = some o) : mget m k = some o := by
  induction M with
  | nil => cases h
  | cons x M ih =>
    unfold keepM at h
    split at h
    · rename_i o' ho
      rw [mget_cons] at h
      split at h
      · rename_i e
        injection h with h; subst h
        simp only at e
        rw [← e]; exact ho
      · exact ih h
    · exact ih h
def cutR (ρ : Rho) (nx : Nat) : Rho := fun i => if i < nx then ρ i else none
theorem cut_rel {Z : Kn} {ρ : Rho} {nx : Nat} {t : T} {v : Value} (h : RdT Z ρ t v) : refB nx t = true → RdT Z (cutR ρ nx) t v := by
  have lists : ∀ (ts : List T), refBs nx ts = true → ∀ t ∈ ts, refB nx t = true := by
    intro ts
    induction ts with
    | nil => intro _ t ht; simp at ht
    | cons x ts ih =>
      intro hb t ht
      simp only [refBs, Bool.and_eq_true] at hb
      rcases List.mem_cons.1 ht with rfl | ht
      · exact hb.1
      · exact ih hb.2 t ht
  have blt : ∀ {id : Nat} {l : Loc}, Nat.blt id nx = true → ρ id = some l → cutR ρ nx id = some l := fun hb hi => by
    unfold cutR
    rw [if_pos (by simpa using hb)]; exact hi
  induction h with
  | c x v h => intro _; exact .c x v h
  | q e => intro _; exact .q e
  | nil => intro _; exact .nil
  | sk id els v u n h hi hn he => intro hb; exact .sk id els v u n h (blt hb hi) hn he
  | rw id n b cap hi hc hm => intro hb; exact .rw id n b cap (blt hb hi) hc hm
  | rn id => intro hb; exact .rn id
  | pt id off b hi => intro hb; exact .pt id off b (blt hb hi)
  | pf cs b off v hz hr => intro _; exact .pf cs b off v hz hr
  | pe id i off sz b hi => intro hb; exact .pe id i off sz b (blt hb hi)
  | rp id off n cap b hi => intro hb; exact .rp id off n cap b (blt hb hi)
  | np => intro _; exact .np
  | ag ts vs h1 h2 h3 ih => intro hb; exact .ag ts vs h1 (fun i t v e1 e2 => ih i t v e1 e2 (lists ts hb t (List.mem_of_getElem? e1))) h3
  | tu ts vs h1 h2 ih => intro hb; exact .tu ts vs h1 (fun i t v e1 e2 => ih i t v e1 e2 (lists ts hb t (List.mem_of_getElem? e1)))
  | fn f xs ys us vs h1 h2 h3 h4 ih1 ih2 =>
    intro hb
    simp only [refB, Bool.and_eq_true] at hb
    exact .fn f xs ys us vs h1 (fun i t v e1 e2 => ih1 i t v e1 e2 (lists xs hb.1 t (List.mem_of_getElem? e1))) h3 (fun i t v e1 e2 => ih2 i t v e1 e2 (lists ys hb.2 t (List.mem_of_getElem? e1)))
  | nf => intro _; exact .nf
  | any v => intro _; exact .any v
theorem refS_get {nx : Nat} : ∀ (a : Slots) (k : Nat), refS nx a = true → refB nx (get a k) = true
  | [], k, _ => rfl
  | p :: a, k, h => by
    simp only [refS, Bool.and_eq_true] at h
    simp only [get]
    split
    · exact h.1
    · exact refS_get a k h.2
theorem refM_get {nx : Nat} : ∀ (m : Mem) (k : Nat) (o : Obj), refM nx m = true → mget m k = some o → k < nx ∧ ∀ ts, o = .box ts → refBs nx ts = true
  | [], k, o, _, h => by cases h
  | p :: m, k, o, h, e => by
    simp only [refM, Bool.and_eq_true] at h
    rw [mget_cons] at e
    by_cases hk : p.1 = k
    · rw [if_pos hk] at e
      injection e with e
      refine ⟨by rw [← hk]; simpa using h.1, fun ts hts => ?_⟩
      subst e
      have := h.2.1
      rw [hts] at this
      exact this
    · rw [if_neg hk] at e
      exact refM_get m k o h.2.2 e
theorem refBs_mem {nx : Nat} : ∀ (ts : List T), refBs nx ts = true → ∀ t ∈ ts, refB nx t = true
  | [], _, t, ht => by simp at ht
  | x :: ts, hb, t, ht => by
    simp only [refBs, Bool.and_eq_true] at hb
    rcases List.mem_cons.1 ht with rfl | ht
    · exact hb.1
    · exact refBs_mem ts hb.2 t ht
/-- slots and objects are forgotten -/
theorem keep_rel {Z : Kn} {ρ : Rho} {a : Slots} {m : Mem} {nx nx' : Nat} {act : Act} {w : World} (L M : List Nat) (H : Rel X Z ρ m nx' w) (hS : RdS Z ρ a act.tmps) (h1 : refS nx (keepS L a) = true) (h2 : refM nx (keepM M m) = true) (hk : X.k ≤ nx) :
    Rel X Z (cutR ρ nx) (keepM M m) nx w ∧ RdS Z (cutR ρ nx) (keepS L a) act.tmps := by
  have cutE : ∀ id, id < nx → cutR ρ nx id = ρ id := fun id h => if_pos h
  refine ⟨⟨H.below, H.kn, H.z0, H.kle, fun id o e => ?_, fun i j oi oj b ei ej bi bj => ?_, fun id h => if_neg (by omega), hk, fun id h => (by rw [cutE id (Nat.lt_of_lt_of_le h hk)]; exact H.anch id h)⟩, fun k => ?_⟩
  · obtain ⟨k1, k2⟩ := refM_get _ _ _ h2 e
    refine ⟨k1, ?_⟩
    have hO := (H.obj id o (mget_keepM M m id o e)).2
    cases o with
    | box ts =>
      obtain ⟨b, vs, g1, g2, g3, g4, g5, g6⟩ := hO
      exact ⟨b, vs, (cutE id k1).trans g1, g2, g3, ⟨g4.1, fun i t v e1 e2 => cut_rel (g4.2 i t v e1 e2) (refBs_mem ts (k2 ts rfl) t (List.mem_of_getElem? e1))⟩, g5, g6⟩
    | tok sz els =>
      obtain ⟨v, g1, g2⟩ := hO
      exact ⟨v, (cutE id k1).trans g1, g2⟩
    | row els cap =>
      rcases hO with ⟨e1, e2, g1⟩ | ⟨b, cells, sz, g1, g2⟩
      · exact .inl ⟨e1, e2, (cutE id k1).trans g1⟩
      · exact .inr ⟨b, cells, sz, (cutE id k1).trans g1, g2⟩
  · have hi := (refM_get _ _ _ h2 ei).1
    have hj := (refM_get _ _ _ h2 ej).1
    obtain ⟨l, q1, q2⟩ := bi
    obtain ⟨l', q3, q4⟩ := bj
    rw [cutE i hi] at q1
    rw [cutE j hj] at q3
    exact H.apart i j oi oj b (mget_keepM M m i oi ei) (mget_keepM M m j oj ej) ⟨l, q1, q2⟩ ⟨l', q3, q4⟩
  · rcases get_keepS L a k with e | e
    · have hr := refS_get _ k h1
      rw [e] at hr ⊢
      exact cut_rel (hS k) hr
    · rw [e]; exact .any _
theorem W_inv {I : Nat → Slots → Mem → Prop} {n nx nx' : Nat} {ks : List K} {a : Slots} {m : Mem} (L M : List Nat) (n' : Nat) (hn : n' < n) (h1 : refS nx (keepS L a) = true) (h2 : refM nx (keepM M m) = true) (hI : I n' (keepS L a) (keepM M m)) (hk : X.k ≤ nx := by first | exact Nat.zero_le _ | exact Nat.le_of_ble_eq_true rfl) : W X ⟨.inv I n nx :: ks, a, m, nx'⟩ := by
  intro Z ρ act w H hS hsz hd
  obtain ⟨k1, k2⟩ := keep_rel L M H hS h1 h2 hk
  exact ⟨n', _, _, Z, _, hn, hI, k1, k2, hsz, hd⟩
/-- slots and objects are forgotten, anywhere -/
theorem W_keep {ks : List K} {a : Slots} {m : Mem} {nx : Nat} (L M : List Nat) (nx' : Nat) (h1 : refS nx' (keepS L a) = true) (h2 : refM nx' (keepM M m) = true) (h : W X ⟨ks, keepS L a, keepM M m, nx'⟩) (hk : X.k ≤ nx' := by first | exact Nat.zero_le _ | exact Nat.le_of_ble_eq_true rfl) : W X ⟨ks, a, m, nx⟩ := by
  intro Z ρ act w H hS hsz hd
  obtain ⟨k1, k2⟩ := keep_rel L M H hS h1 h2 hk
  exact h Z _ act w k1 k2 hsz hd
end
end Go.Proofs.Ytconhpilbndpkaa.Vm
namespace Go.Proofs.Ytconhpilbndpkaa.Vm
open Go.RowKit
set_option linter.unusedVariables false

/-! ### contracts -/
def rho0 : Rho := fun _ => none
/-- what a function does, on data -/
def Ct (P : Program) (f : FuncId) (args : List T) (R : T → Prop) : Prop := ∀ (w : World) (Z : Kn) (vs : List Value), KnOk Z w → RdTs Z rho0 args vs →
  Calls P f vs.toArray w fun e w' => ∃ v t Z', e = .returned v ∧ R t ∧ Below w.heap.size w w' ∧ KnOk Z' w' ∧ (∀ b o, b < w.heap.size → Z' b o = Z b o) ∧ RdT Z' rho0 t v
theorem Ct.mono {P : Program} {f : FuncId} {args : List T} {R R' : T → Prop} (h : Ct P f args R) (k : ∀ t, R t → R' t) : Ct P f args R' := fun w Z vs h1 h2 =>
  Calls.mono (h w Z vs h1 h2) fun e w' ⟨v, t, Z', a1, a2, a3⟩ => ⟨v, t, Z', a1, k t a2, a3⟩
theorem RLe.zero (ρ : Rho) : RLe rho0 ρ := fun _ => trivial

theorem pure_rel {Z : Kn} {ρ : Rho} {t : T} {v : Value} (h : RdT Z ρ t v) : ∀ t', pureT t = some t' → RdT Z rho0 t' v ∧ (t.one = true → t'.one = true) := by
  have lists : ∀ (ts : List T) (vs : List Value) (ts' : List T), ts.length = vs.length → (∀ (i : Nat) (t : T) (v : Value), ts[i]? = some t → vs[i]? = some v → ∀ t', pureT t = some t' → RdT Z rho0 t' v ∧ (t.one = true → t'.one = true)) → pureTs ts = some ts' →
      RdTs Z rho0 ts' vs ∧ ((∀ t ∈ ts, t.one = true) → ∀ t ∈ ts', t.one = true) := by
    intro ts
    induction ts with
    | nil =>
      intro vs ts' hl _ e
      injection e with e; subst e
      obtain rfl := List.eq_nil_of_length_eq_zero (by simpa using hl.symm)
      exact ⟨.nil _ _, fun _ t ht => by simp at ht⟩
    | cons t ts ih =>
      intro vs ts' hl hp e
      cases vs with
      | nil => simp at hl
      | cons v vs =>
        unfold pureTs at e
        split at e
        · rename_i x l hx hl'
          injection e with e; subst e
          obtain ⟨k1, k2⟩ := hp 0 t v rfl rfl x hx
          obtain ⟨k3, k4⟩ := ih vs l (by simpa using hl) (fun i t v h1 h2 => hp (i + 1) t v (by simpa using h1) (by simpa using h2)) hl'
          refine ⟨.cons k1 k3, fun ho t' ht' => ?_⟩
          rcases List.mem_cons.1 ht' with rfl | ht'
          · exact k2 (ho _ List.mem_cons_self)
          · exact k4 (fun t ht => ho t (List.mem_cons_of_mem _ ht)) t' ht'
        · cases e
  induction h with
  | c x v h => intro t' e; injection e with e; subst e; exact ⟨.c x v h, fun _ => rfl⟩
  | q x => intro t' e; injection e with e; subst e; exact ⟨.q x, fun _ => rfl⟩
  | nil => intro t' e; injection e with e; subst e; exact ⟨.nil, fun _ => rfl⟩
  | sk id els v u n h hi hn he => intro t' e; injection e with e; subst e; exact ⟨.c _ v h, fun _ => rfl⟩
  | rw id n b cap hi hc hm => intro t' e; cases e
  | rn id => intro t' e; cases e
  | pt id off b hi => intro t' e; cases e
  | pf cs b off v hz hr => intro t' e; injection e with e; subst e; exact ⟨.pf cs b off v hz hr, fun _ => rfl⟩
  | pe id i off sz b hi => intro t' e; cases e
  | rp id off n cap b hi => intro t' e; cases e
  | np => intro t' e; injection e with e; subst e; exact ⟨.np, fun _ => rfl⟩
  | ag ts vs h1 h2 h3 ih =>
    intro t' e
    unfold pureT at e
    split at e
    · rename_i l hl
      injection e with e; subst e
      obtain ⟨k1, k2⟩ := lists ts vs l h1 ih hl
      exact ⟨RdT.mkAg k1 (k2 h3), fun h => by cases h⟩
    · cases e
  | tu ts vs h1 h2 ih =>
    intro t' e
    unfold pureT at e
    split at e
    · rename_i l hl
      injection e with e; subst e
      exact ⟨RdT.mkTu (lists ts vs l h1 ih hl).1, fun h => by cases h⟩
    · cases e
  | fn f xs ys us vs h1 h2 h3 h4 ih1 ih2 =>
    intro t' e
    unfold pureT at e
    split at e
    · rename_i l k hl hk
      injection e with e; subst e
      have q1 := (lists xs us l h1 ih1 hl).1
      have q2 := (lists ys vs k h3 ih2 hk).1
      exact ⟨.fn f l k us vs q1.1 q1.2 q2.1 q2.2, fun _ => rfl⟩
    · cases e
  | nf => intro t' e; injection e with e; subst e; exact ⟨.nf, fun _ => rfl⟩
  | any v => intro t' e; cases e
theorem pureTs_rel {Z : Kn} {ρ : Rho} : ∀ {ts : List T} {vs : List Value} {ts' : List T}, RdTs Z ρ ts vs → pureTs ts = some ts' → RdTs Z rho0 ts' vs
  | [], vs, ts', h, e => by injection e with e; subst e; obtain rfl := h.unnil; exact .nil _ _
  | t :: ts, vs, ts', h, e => by
    obtain ⟨v, vs', rfl, h1, h2⟩ := h.uncons
    unfold pureTs at e
    split at e
    · rename_i x l hx hl
      injection e with e; subst e
      exact .cons (pure_rel h1 _ hx).1 (pureTs_rel h2 hl)
    · cases e

/-! ### a function's contract out of its body -/
def fin (P : Program) (fn : Func) (w0 : World) (Z0 : Kn) (R : T → Prop) : Exit → Act → World → Prop :=
  bodyPost P fn fun e w' => ∃ v t Z', e = .returned v ∧ R t ∧ Below w0.heap.size w0 w' ∧ KnOk Z' w' ∧ (∀ b o, b < w0.heap.size → Z' b o = Z0 b o) ∧ RdT Z' rho0 t v
def ctx (P : Program) (fn : Func) (w0 : World) (Z0 : Kn) (R : T → Prop) : Ctx := ⟨P, w0, Z0, fn.ntmps, fin P fn w0 Z0 R, fun b => w0.heap.size ≤ b, fun _ h => h, 0, rho0⟩
def argS : Nat → List T → Slots
  | _, [] => []
  | i, t :: ts => (i, t) :: argS (i + 1) ts
theorem get_argS : ∀ (ts : List T) (i k : Nat), get (argS i ts) k = if i ≤ k ∧ k < i + ts.length then ts.getD (k - i) .any else .any
  | [], i, k => by rw [if_neg (by simp)]; rfl
  | t :: ts, i, k => by
    simp only [argS, get, List.length_cons]
    cases hb : Nat.beq i k with
    | true =>
      have := Nat.eq_of_beq_eq_true hb
      subst this
      rw [if_pos (by omega)]
      simp
    | false =>
      have hne : i ≠ k := fun e => by subst e; simp at hb
      simp only [get_argS ts (i + 1) k]
      by_cases hc : i + 1 ≤ k ∧ k < i + 1 + ts.length
      · rw [if_pos hc, if_pos (by omega), show k - i = (k - (i + 1)) + 1 by omega]
        simp
      · rw [if_neg hc, if_neg (by omega)]
theorem Ct_of_W {P : Program} {f : FuncId} {fn : Func} {c : Code} {args : List T} {R : T → Prop} (hf : P.funcs[f]? = some fn) (hb : fn.body = some c) (hl : args.length ≤ fn.ntmps)
    (h : ∀ w0 Z0, W (ctx P fn w0 Z0 R) ⟨[.code c], argS 0 args, [], 0⟩) : Ct P f args R := by
  intro w Z vs hk hv
  refine calls_of_wp hf hb ?_
  have hsz : (vs.toArray ++ Array.replicate (fn.ntmps - vs.toArray.size) undef).size = fn.ntmps := by
    have := hv.1
    simp; omega
  have := h w Z Z rho0 { tmps := vs.toArray ++ Array.replicate (fn.ntmps - vs.toArray.size) undef, defers := [] } w
    ⟨Bel.refl _ _, hk, fun _ _ _ => rfl, KLe.refl _, (fun id o e => by cases e), (fun i j oi oj b e => by cases e), fun _ _ => rfl, Nat.le_refl _, fun _ h => absurd h (Nat.not_lt_zero _)⟩ (fun k => ?_) hsz rfl
  · exact this
  · rw [get_argS]
    by_cases hc : 0 ≤ k ∧ k < 0 + args.length
    · rw [if_pos hc]
      have hlt : k < args.length := by omega
      have hlv : k < vs.length := by rw [← hv.1]; exact hlt
      have e1 : args[k]? = some (args.getD (k - 0) .any) := by simp [hlt]
      have e2 : (vs.toArray ++ Array.replicate (fn.ntmps - vs.toArray.size) undef).getD k undef = vs[k] := by
        rw [Array.getD_eq_getD_getElem?, Array.getElem?_append_left (by simpa using hlv)]
        simp [hlv]
      rw [e2]
      exact hv.2 k _ _ e1 (List.getElem?_eq_getElem hlv)
    · rw [if_neg hc]; exact .any _
def resS (tmps : Array Value) : ResultVar → Sem Value
  | .tmp t => pure (tmps.getD t undef)
  | .cell a t => do loadVar t (← asAddr (tmps.getD a undef))
theorem results_eq (fn : Func) (tmps : Array Value) : results fn tmps = (do let vs ← fn.results.mapM (resS tmps); pure (if h : vs.size = 1 then vs[0] else .tuple vs)) := by
  unfold results
  congr 1
section
variable {ti : TI} {X : Ctx} {z : ZO} {P : Program}
theorem res_run (hti : TIok X.P ti) {Z : Kn} {ρ : Rho} {m : Mem} {nx : Nat} {w : World} {a : Slots} {tmps : Array Value} (H : Rel X Z ρ m nx w) (hS : RdS Z ρ a tmps) : ∀ (rs : List ResultVar) (l : List T), resL ti m a rs = some l →
    ∃ vs : List Value, (rs.mapM (resS tmps)).run X.P w = .ok vs w ∧ RdTs Z ρ l vs
  | [], l, e => by injection e with e; subst e; exact ⟨[], by simp, .nil _ _⟩
  | x :: rs, l, e => by
    unfold resL at e
    split at e
    · rename_i t l' h1 h2
      injection e with e; subst e
      obtain ⟨vs, k1, k2⟩ := res_run hti H hS rs l' h2
      cases x with
      | tmp d =>
        injection h1 with h1; subst h1
        refine ⟨tmps.getD d undef :: vs, ?_, .cons (hS d) k2⟩
        rw [List.mapM_cons]
        simp only [resS, Sem.run_bind, Sem.run_pure, Result.andThen_ok, k1]
      | cell d ty =>
        simp only [res1] at h1
        split at h1
        · rename_i i hi
          split at h1
          · rename_i v' hl
            injection h1 with h1; subst h1
            have hd := hS d
            obtain ⟨v, g1, g2⟩ := load_rel hti H hi hd hl
            replace g1 := g1 w H.tw
            have hptr : ∃ ad, tmps.getD d undef = .pointer (some ad) := by
              revert hl hd
              cases get a d <;> intro hl hd <;> first | (cases hl; done) | skip
              · obtain ⟨b, _, e⟩ := hd.ptI; exact ⟨_, e⟩
              · obtain ⟨b, off, u, e, _⟩ := hd.pfI; exact ⟨_, e⟩
            obtain ⟨ad, e2⟩ := hptr
            rw [e2] at g1
            refine ⟨v :: vs, ?_, .cons g2 k2⟩
            rw [List.mapM_cons]
            have g1' : (loadVar ty ad).run X.P w = .ok v w := by simpa [Instr.loadAt, Instr.sureAddr] using g1
            have hx1 : (resS tmps (.cell d ty)).run X.P w = .ok v w := by simp only [resS, e2, asAddr, Sem.run_bind, Sem.run_pure, Result.andThen_ok, g1']
            simp only [Sem.run_bind, Sem.run_pure, Result.andThen_ok, hx1, k1]
          · cases h1
        · cases h1
    · cases e
/-- the end -/
theorem fin_ok {P : Program} {fn : Func} {w0 : World} {Z0 : Kn} {R : T → Prop} (hti : TIok P ti) {a : Slots} {m : Mem} {nx : Nat} {t : T} (h : resT ti m a fn.results.toList = some t) (hR : R t)
    {Z : Kn} {ρ : Rho} {act : Act} {w : World} (H : Rel (ctx P fn w0 Z0 R) Z ρ m nx w) (hS : RdS Z ρ a act.tmps) (hd : act.defers = []) :
    act.defers = [] ∧ ∃ v, (results fn act.tmps).run P w = .ok v w ∧ ∃ v' t Z', Ending.returned v = .returned v' ∧ R t ∧ Below w0.heap.size w0 w ∧ KnOk Z' w ∧ (∀ b o, b < w0.heap.size → Z' b o = Z0 b o) ∧ RdT Z' rho0 t v' := by
  refine ⟨hd, ?_⟩
  have run : ∀ l, resL ti m a fn.results.toList = some l → ∃ us : List Value, (fn.results.mapM (resS act.tmps)).run P w = .ok us.toArray w ∧ RdTs Z ρ l us := fun l e => by
    obtain ⟨us, u1, u2⟩ := res_run (X := ctx P fn w0 Z0 R) hti H hS fn.results.toList l e
    refine ⟨us, ?_, u2⟩
    rw [Array.mapM_eq_mapM_toList]
    have u1' : (fn.results.toList.mapM (resS act.tmps)).run P w = .ok us w := u1
    simp only [Sem.run_map, u1', Result.andThen_ok]
  unfold resT at h
  split at h
  · rename_i t0 hl
    obtain ⟨us, u1, u2⟩ := run _ hl
    obtain ⟨v, vs', rfl, q1, q2⟩ := u2.uncons
    obtain rfl := q2.unnil
    refine ⟨v, ?_, v, t, Z, rfl, hR, H.below.below, H.kn, fun b o h => H.z0 b o (Nat.not_le_of_lt h), (pure_rel q1 t h).1⟩
    rw [results_eq]
    simp only [Sem.run_bind, u1, Result.andThen_ok, Sem.run_pure]
    simp
  · rename_i l hne hl
    obtain ⟨us, u1, u2⟩ := run _ hl
    have hsz : ¬ us.toArray.size = 1 := fun hs => by
      have : l.length = 1 := by rw [u2.1]; simpa using hs
      obtain ⟨x, rfl⟩ := List.length_eq_one_iff.1 this
      exact hne x rfl
    refine ⟨.tuple us.toArray, ?_, _, t, Z, rfl, hR, H.below.below, H.kn, fun b o h => H.z0 b o (Nat.not_le_of_lt h), (pure_rel (RdT.mkTu u2) t h).1⟩
    rw [results_eq]
    simp only [Sem.run_bind, u1, Result.andThen_ok, Sem.run_pure, dif_neg hsz]
  · cases h
theorem W_ret {P : Program} {fn : Func} {w0 : World} {Z0 : Kn} {R : T → Prop} (hti : TIok P ti) {ks : List K} {a : Slots} {m : Mem} {nx : Nat} {rs : List ResultVar} {t : T} (hr : fn.results.toList = rs) (h : resT ti m a rs = some t) (hR : R t) : W (ctx P fn w0 Z0 R) ⟨.code .ret :: ks, a, m, nx⟩ := by
  subst hr
  intro Z ρ act w H hS hn hd
  exact wp_ret (SK_ret (X := ctx P fn w0 Z0 R) ks act w (fin_ok hti h hR H hS hd))
theorem W_end {P : Program} {fn : Func} {w0 : World} {Z0 : Kn} {R : T → Prop} (hti : TIok P ti) {a : Slots} {m : Mem} {nx : Nat} {rs : List ResultVar} {t : T} (hr : fn.results.toList = rs) (h : resT ti m a rs = some t) (hR : R t) : W (ctx P fn w0 Z0 R) ⟨[], a, m, nx⟩ := by
  subst hr
  intro Z ρ act w H hS hn hd
  exact fin_ok hti h hR H hS hd

/-! ### calls -/
def evTs (a : Slots) : List Operand → List T
  | [] => []
  | x :: xs => evT a x :: evTs a xs
theorem evTs_rel {Z : Kn} {ρ : Rho} {a : Slots} {act : Act} (hS : RdS Z ρ a act.tmps) : ∀ (l : List Operand), RdTs Z ρ (evTs a l) (l.map act.eval)
  | [] => .nil _ _
  | x :: l => .cons (evT_rel hS x) (evTs_rel hS l)
/-- which function is called, with what -/
def callQ (n : Nat) (a : Slots) (all : List Oper) (o : Oper) : Option (FuncId × List T) := match dstOk n o.dst, gd a all o.guard with
  | true, .yes => (match o.op with
    | .call ⟨.value f, args, _⟩ => (match evT a f with
      | .fn f xs ys => (match pureTs xs, pureTs (evTs a args.toList), pureTs ys with
        | some l1, some l2, some l3 => some (f, l1 ++ (l2 ++ l3))
        | _, _, _ => none)
      | _ => none)
    | _ => none)
  | _, _ => none
end
end Go.Proofs.Ytconhpilbndpkaa.Vm
namespace Go.Proofs.Ytconhpilbndpkaa.Vm
open Go.RowKit
set_option linter.unusedVariables false

section
variable {ti : TI} {X : Ctx} {z : ZO} {P : Program}

/-! ### calls -/
theorem fn_call {g : FuncId} {fn : Func} (hfn : P.funcs[g]? = some fn) (hb : fn.body.isSome = true) (hnm : fn.name ≠ "runtime.NumGoroutine") {o : Oper} {f : Operand} {xs : Array Operand} {tys : Array TypeId} (ho : o.op = .call ⟨.value f, xs, tys⟩) {act : Act} {us vs : List Value}
    (hf : act.eval f = .func (.func g) us.toArray vs.toArray) (w : World) : (execOp act.eval o).run P w = .ok (.enter g (us ++ (xs.toList.map act.eval ++ vs)).toArray) w := by
  obtain ⟨dst, op, ty, pos, after, guard⟩ := o
  simp only at ho
  subst ho
  have hb' : ¬ fn.body = none := fun hbb => by rw [hbb] at hb; cases hb
  simp [execOp, resolve, Deferred.ofValue, hf, invoke, callFunc, program, Sem.run, hfn, hnm, hb']
/-- may the function be called? -/
def fnB (P : Program) (f : FuncId) : Bool := match P.funcs[f]? with | some fn => fn.body.isSome && decide (fn.name ≠ "runtime.NumGoroutine") | none => false
theorem W_call {o : Oper} {r all : List Oper} {ks : List K} {a : Slots} {m : Mem} {nx : Nat} {f : FuncId} {args : List T} {R : T → Prop} (hq : callQ X.n a all o = some (f, args)) (hb : fnB X.P f = true) (hc : Ct X.P f args R)
    (hw : ∀ t, R t → W X ⟨.ops r all :: ks, put a o.dst t, m, nx⟩) : W X ⟨.ops (o :: r) all :: ks, a, m, nx⟩ := by
  unfold callQ at hq
  split at hq
  · rename_i hd hg
    split at hq
    · rename_i fo xs tys ho
      split at hq
      · rename_i g us vs hfe
        split at hq
        · rename_i l1 l2 l3 e1 e2 e3
          injection hq with hq
          injection hq with q1 q2
          subst q1 q2
          refine W_op hg fun Z ρ act w H hS hn hdf K hK => ?_
          have hfv := evT_rel hS fo
          rw [hfe] at hfv
          obtain ⟨u, v, hv, k1, k2⟩ := hfv.fnI
          have k3 := pureTs_rel k1 e1
          have k4 := pureTs_rel (evTs_rel hS xs.toList) e2
          have k5 := pureTs_rel k2 e3
          unfold fnB at hb
          split at hb
          · rename_i fn hfn
            rw [Bool.and_eq_true] at hb
            have hnm : fn.name ≠ "runtime.NumGoroutine" := by simpa using hb.2
            unfold Oper.wp
            rw [fn_call hfn hb.1 hnm ho hv w]
            refine Calls.mono (hc w Z _ H.kn (k3.append (k4.append k5))) ?_
            rintro e w' ⟨v', t, Z', rfl, hR, hbe, hk, hz, ht⟩
            obtain ⟨hle, H'⟩ := H.step hbe hk hz
            have ht' : RdT Z' ρ t v' := ht.mono (KLe.refl _) (RLe.zero ρ)
            obtain ⟨p1, p2, p3⟩ := put_rel hle (RLe.refl ρ) hS hn hd ht'
            exact hK _ _ (hw t hR Z' ρ _ w' H' p1 p2 (p3.trans hdf))
          · cases hb
        · cases hq
      · cases hq
    · cases hq
  · cases hq

/-! ### elements -/
def elsOf : T → Option (List (List C))
  | .c (.sl els) => some els
  | .sk _ els => some els
  | .nil => some []
  | _ => none
theorem elsOf_rel {Z : Kn} {ρ : Rho} {t : T} {v : Value} {els : List (List C)} (h : RdT Z ρ t v) (e : elsOf t = some els) : RdC Z (.sl els) v := by
  unfold elsOf at e
  split at e
  · injection e with e; subst e; exact h.cI
  · injection e with e; subst e; exact h.skI.1
  · injection e with e; subst e; rw [h.nilI]; exact .nl none 0 (Nat.zero_le _)
  · cases e
def elemQ (ti : TI) (n : Nat) (a : Slots) (all : List Oper) (o : Oper) : Option (List (List C) × Int × Nat) := match dstOk n o.dst, gd a all o.guard with
  | true, .yes => (match o.op with
    | .indexAddr t x i => (match tget ti t with
      | some ty => (match ty.kind, tget ti ty.elem, elsOf (evT a x), evT a i with
        | .sl, some e, some els, .c (.i _ j) => some (els, j, e.size)
        | _, _, _, _ => none)
      | none => none)
    | _ => none)
  | _, _ => none
theorem W_elem (hti : TIok X.P ti) {o : Oper} {r all : List Oper} {ks : List K} {a : Slots} {m : Mem} {nx : Nat} {els : List (List C)} {idx : Int} {sz : Nat} {cells : List C} (hq : elemQ ti X.n a all o = some (els, idx, sz)) (j : Nat) (hj : idx = (j : Int)) (he : els[j]? = some cells) (hl : cells.length = sz)
    (hw : W X ⟨.ops r all :: ks, put a o.dst (.pf cells), m, nx⟩) : W X ⟨.ops (o :: r) all :: ks, a, m, nx⟩ := by
  unfold elemQ at hq
  split at hq
  · rename_i hd hg
    split at hq
    · rename_i t x i ho
      split at hq
      · rename_i ty hty
        split at hq
        · rename_i e els' kk j' hkd hel hels hi
          injection hq with hq
          injection hq with q1 q2
          injection q2 with q2 q3
          subst q1 q2 q3
          refine W_op hg fun Z ρ act w H hS hn hdf K hK => ?_
          have hx := elsOf_rel (evT_rel hS x) hels
          have hi' := (evT_rel hS i)
          rw [hi] at hi'
          have hiv := hi'.cI.intI
          have hu := (hti t ty hty).sl hkd
          have hs := (hti _ e hel).sz
          obtain ⟨A, cap, hv, hn1, hn2, hx⟩ := hx.slI
          have hlt : j < els'.length := (List.getElem?_eq_some_iff.1 he).1
          rcases hx with rfl | ⟨b, off, sz', u, rfl, hx1, hx2⟩
          · simp at he
          · have hsz : sz' = e.size := by rw [← hx1 j cells he, hl]
            subst hsz
            have hrun : (execOp act.eval o).run X.P w = .ok (.value (.pointer (some ⟨b, off + j * e.size, none⟩))) w := by
              obtain ⟨dst, op, ty', pos, after, guard⟩ := o
              simp only at ho
              subst ho
              rw [hj] at hiv
              have h0 : (0 : Int) ≤ (j : Int) := Int.natCast_nonneg j
              have h1' : (j : Int) < (els'.length : Int) := by omega
              simp [execOp, hv, hiv, Instr.indexAt, run_underlying hu, asIntOf, hlt, hs, Addr.add_mid]
            have ht : RdT Z ρ (.pf cells) (.pointer (some ⟨b, off + j * e.size, none⟩)) := .pf cells b _ (u j) (fun k c hk => (hx2 j cells k c he hk).1) (fun k c hk => (hx2 j cells k c he hk).2)
            obtain ⟨p1, p2, p3⟩ := put_rel (KLe.refl Z) (RLe.refl ρ) hS hn hd ht
            exact OpRes.wp (.inl hrun) (hK _ _ (hw Z ρ _ w H p1 p2 (p3.trans hdf)))
        · cases hq
      · cases hq
    · cases hq
  · cases hq

/-! ### bytes of strings -/
def byteQ (ti : TI) (n : Nat) (a : Slots) (all : List Oper) (o : Oper) : Option (List UInt8 × Int) := match dstOk n o.dst, gd a all o.guard with
  | true, .yes => (match o.op with
    | .index t x i => (match tget ti t with
      | some ty => (match ty.kind, evT a x, evT a i with
        | .str, .c (.s l), .c (.i _ j) => some (l, j)
        | _, _, _ => none)
      | none => none)
    | _ => none)
  | _, _ => none
theorem W_byte (hti : TIok X.P ti) {o : Oper} {r all : List Oper} {ks : List K} {a : Slots} {m : Mem} {nx : Nat} {l : List UInt8} {idx : Int} {b : UInt8} (hq : byteQ ti X.n a all o = some (l, idx)) (j : Nat) (hj : idx = (j : Int)) (he : l[j]? = some b)
    (hw : W X ⟨.ops r all :: ks, put a o.dst (.c (.i .u8 (b.toNat : Int))), m, nx⟩) : W X ⟨.ops (o :: r) all :: ks, a, m, nx⟩ := by
  unfold byteQ at hq
  split at hq
  · rename_i hd hg
    split at hq
    · rename_i t x i ho
      split at hq
      · rename_i ty hty
        split at hq
        · rename_i l' k j' hkd hx hi
          injection hq with hq
          injection hq with q1 q2
          subst q1 q2
          refine W_op hg fun Z ρ act w H hS hn hdf K hK => ?_
          have hx' := evT_rel hS x
          rw [hx] at hx'
          have hxv := hx'.cI.strI
          have hi' := (evT_rel hS i)
          rw [hi] at hi'
          have hiv := hi'.cI.intI
          have hu := (hti t ty hty).str hkd
          have hlt : j < l'.length := (List.getElem?_eq_some_iff.1 he).1
          have hrun : (execOp act.eval o).run X.P w = .ok (.value (.int .u8 (b.toNat : Int))) w := by
            obtain ⟨dst, op, ty', pos, after, guard⟩ := o
            simp only at ho
            subst ho
            rw [hj] at hiv
            have hlt' : j < (bs l').size := by simpa [bs, ByteArray.size] using hlt
            have hs' : (bs l')[j]? = some b := by
              rw [getElem?_pos (bs l') j hlt']
              have := (List.getElem?_eq_some_iff.1 he).2
              rw [← this]
              simp [ByteArray.getElem_eq_getElem_data, bs]
            have h0 : (0 : Int) ≤ (j : Int) := Int.natCast_nonneg j
            simp [execOp, hxv, hiv, Instr.index, run_underlying hu, asIntOf, h0, hs']
          obtain ⟨p1, p2, p3⟩ := put_rel (KLe.refl Z) (RLe.refl ρ) hS hn hd (.c _ _ (.i .u8 (b.toNat : Int)))
          exact OpRes.wp (.inl hrun) (hK _ _ (hw Z ρ _ w H p1 p2 (p3.trans hdf)))
        · cases hq
      · cases hq
    · cases hq
  · cases hq
end
end Go.Proofs.Ytconhpilbndpkaa.Vm
namespace Go.Proofs.Ytconhpilbndpkaa.Vm
open Go.RowKit
set_option linter.unusedVariables false

section
variable {ti : TI} {X : Ctx} {z : ZO} {P : Program}
/-- the cells of a slice that is read as a list -/
theorem src_rel {Z : Kn} {w : World} {ys : List (List C)} {u : Value} {sz : Nat} (h : RdC Z (.sl ys) u) (hk : KnOk Z w) (hs : ∀ cs ∈ ys, cs.length = sz) {tx e' : TypeId} (ht : P.underlying tx = some (.slice e')) :
    ∃ us, Src P sz tx u ys.length us w ∧ ∀ (k : Nat) (cs : List C) (j : Nat) (c : C), ys[k]? = some cs → cs[j]? = some c → ∃ v, us[k * sz + j]? = some v ∧ RdC Z c v := by
  obtain ⟨A, cap, rfl, hn, hc, hx⟩ := h.slI
  rcases hx with rfl | ⟨b, off, sz', u, rfl, hx1, hx2⟩
  · refine ⟨[], ⟨.inl ⟨e', ht⟩, fun _ => rfl, ?_, ?_, by simp, fun _ h => by cases h⟩, fun k cs j c e => by simp at e⟩ <;>
    · cases A with
      | none => exact run_firstCells_none _ sz 0 0 cap
      | some ad => exact run_firstCells_some _ sz 0 ad 0 cap [] (by simp) (fun j v h => by simp at h)
  · have hsz : ∀ (k : Nat) (cs : List C), ys[k]? = some cs → cs.length = sz := fun k cs e => hs cs (List.mem_of_getElem? e)
    rcases Nat.eq_zero_or_pos ys.length with h0 | hpos
    · obtain rfl := List.eq_nil_of_length_eq_zero h0
      exact ⟨[], ⟨.inl ⟨e', ht⟩, fun _ => rfl, run_firstCells_some _ sz 0 _ 0 cap [] (by simp) (fun j v h => by simp at h), run_firstCells_some _ sz 0 _ 0 cap [] (by simp) (fun j v h => by simp at h), by simp, fun _ h => by cases h⟩, fun k cs j c e => by simp at e⟩
    · have e1 : sz' = sz := by
        have e := List.getElem?_eq_getElem hpos
        rw [← hx1 0 _ e, hsz 0 _ e]
      subst e1
      let us := (List.range (ys.length * sz')).map fun i => u (i / sz') (i % sz')
      have hat : ∀ (k : Nat) (cs : List C) (j : Nat) (c : C), ys[k]? = some cs → cs[j]? = some c → us[k * sz' + j]? = some (u k j) := fun k cs j c e ej => by
        have hk : k < ys.length := (List.getElem?_eq_some_iff.1 e).1
        have hj : j < sz' := by rw [← hsz k cs e]; exact (List.getElem?_eq_some_iff.1 ej).1
        have hlt : k * sz' + j < ys.length * sz' := by
          have : (k + 1) * sz' ≤ ys.length * sz' := Nat.mul_le_mul_right _ hk
          rw [Nat.succ_mul] at this; omega
        simp only [us, List.getElem?_map, List.getElem?_range hlt, Option.map_some]
        rw [Nat.mul_comm, Nat.mul_add_div (by omega), Nat.div_eq_of_lt hj, Nat.mul_add_mod, Nat.mod_eq_of_lt hj, Nat.add_zero]
      have hall : ∀ (i : Nat) (v : Value), us[i]? = some v → ∃ (k : Nat) (cs : List C) (j : Nat) (c : C), ys[k]? = some cs ∧ cs[j]? = some c ∧ i = k * sz' + j ∧ v = u k j := fun i v e => by
        have hi : i < ys.length * sz' := by have := (List.getElem?_eq_some_iff.1 e).1; simpa [us] using this
        have hp : 0 < sz' := by
          rcases Nat.eq_zero_or_pos sz' with h0 | h0
          · rw [h0] at hi; simp at hi
          · exact h0
        have hkl : i / sz' < ys.length := Nat.div_lt_of_lt_mul (by rw [Nat.mul_comm]; exact hi)
        have ek := List.getElem?_eq_getElem hkl
        have hjl : i % sz' < ys[i / sz'].length := by rw [hsz _ _ ek]; exact Nat.mod_lt _ hp
        have ej := List.getElem?_eq_getElem hjl
        have hi' : i = i / sz' * sz' + i % sz' := by rw [Nat.mul_comm]; exact (Nat.div_add_mod i sz').symm
        refine ⟨_, _, _, _, ek, ej, hi', ?_⟩
        have := hat _ _ _ _ ek ej
        rw [← hi', e] at this
        injection this
      have hcell : ∀ (w' : World), KnOk Z w' → ∀ j v, us[j]? = some v → w'.cell? ((⟨b, off, none⟩ : Addr).add j) = some v := fun w' hk' i v e => by
        obtain ⟨k, cs, j, c, ek, ej, rfl, rfl⟩ := hall i v e
        rw [Addr.add_mid, ← Nat.add_assoc]
        exact hk' _ _ _ (hx2 k cs j c ek ej).1
      have hl : us.length = ys.length * sz' := by simp [us]
      refine ⟨us, ⟨.inl ⟨e', ht⟩, fun _ => rfl, run_firstCells_some _ sz' ys.length _ ys.length cap us hl (hcell w hk), run_firstCells_some _ sz' ys.length _ ys.length cap us hl (hcell w.drew hk), hl, fun v hv => ?_⟩, fun k cs j c e ej => ⟨_, hat k cs j c e ej, (hx2 k cs j c e ej).2⟩⟩
      obtain ⟨i, hi, rfl⟩ := List.getElem_of_mem hv
      obtain ⟨k, cs, j, c, ek, ej, _, e⟩ := hall i _ (List.getElem?_eq_getElem hi)
      rw [e]
      exact (hx2 k cs j c ek ej).2.one
/-- an object is changed in place, or moved to a new block -/
theorem Rel.chg {Z Z' : Kn} {ρ : Rho} {m : Mem} {nx : Nat} {w w' : World} (H : Rel X Z ρ m nx w) {id : Nat} {o o' : Obj} {l l' : Loc} (hm : mget m id = some o) (hi : ρ id = some l) (hl : LLe (some l) (some l'))
    (hle : KLe Z Z') (hk : KnOk Z' w') (hz0 : ∀ b o, ¬ X.own b → Z' b o = Z b o) (hbe : Bel X.own w w')
    (hnb : ∀ b, l'.B = some b → l.B = some b ∨ w.heap.size ≤ b)
    (hfar : ∀ b, b < w.heap.size → l.B ≠ some b → w'.heap[b]? = w.heap[b]? ∧ ∀ o, Z' b o = Z b o)
    (ho : ObjR Z' (updR ρ id l') X.own w' id o') : RLe ρ (updR ρ id l') ∧ Rel X Z' (updR ρ id l') (mset m id o') nx w' := by
  have hr : RLe ρ (updR ρ id l') := fun i => by
    by_cases h : i = id
    · subst h; rw [hi, updR_same]; exact hl
    · rw [updR_ne ρ l' h]; exact LLe.refl _
  have hid := (H.obj id o hm).1
  refine ⟨hr, H.below.trans hbe, hk, fun b o h => (hz0 b o h).trans (H.z0 b o h), H.kle.trans hle, fun j oj e => ?_, fun i j oi oj b ei ej bi bj => ?_, fun j hj => ?_, H.kb, fun j hj => (H.anch j hj).trans (hr j)⟩
  · rw [mget_set] at e
    by_cases hj : id = j
    · rw [if_pos hj] at e
      injection e with e; subst hj e
      exact ⟨hid, ho⟩
    · rw [if_neg hj] at e
      obtain ⟨q1, q2⟩ := H.obj j oj e
      refine ⟨q1, q2.keep hle hr (updR_ne ρ l' fun e => hj e.symm) fun b hb => hfar b (q2.blk hb).2 fun e' => ?_⟩
      exact hj (H.apart id j o oj b hm e ⟨l, hi, e'⟩ hb)
  · have back : ∀ i oi, mget (mset m id o') i = some oi → BlkOf (updR ρ id l') i b → (∃ oi, mget m i = some oi ∧ BlkOf ρ i b) ∨ (i = id ∧ w.heap.size ≤ b) := fun i oi e hb => by
      rw [mget_set] at e
      by_cases h : id = i
      · subst h
        obtain ⟨l2, k1, k2⟩ := hb
        rw [updR_same] at k1
        injection k1 with k1; subst k1
        rcases hnb b k2 with h3 | h3
        · exact .inl ⟨o, hm, l, hi, h3⟩
        · exact .inr ⟨rfl, h3⟩
      · rw [if_neg h] at e
        obtain ⟨l2, k1, k2⟩ := hb
        rw [updR_ne ρ l' fun e => h e.symm] at k1
        exact .inl ⟨oi, e, l2, k1, k2⟩
    rcases back i oi ei bi with ⟨oi', ei', bi'⟩ | ⟨rfl, h1⟩ <;> rcases back j oj ej bj with ⟨oj', ej', bj'⟩ | ⟨rfl, h2⟩
    · exact H.apart i j oi' oj' b ei' ej' bi' bj'
    · have := ((H.obj i oi' ei').2.blk bi').2; omega
    · have := ((H.obj j oj' ej').2.blk bj').2; omega
    · rfl
  · rw [updR_ne ρ l' (by omega)]
    exact H.fresh j hj
end
end Go.Proofs.Ytconhpilbndpkaa.Vm
namespace Go.Proofs.Ytconhpilbndpkaa.Vm
open Go.RowKit
set_option linter.unusedVariables false

section
variable {ti : TI} {X : Ctx} {z : ZO} {P : Program}
def Els (Z : Kn) (b : Nat) (els : List (List C)) (sz : Nat) : Prop := ∀ (k : Nat) (cs : List C) (j : Nat) (c : C), els[k]? = some cs → cs[j]? = some c → ∃ v, Z b (k * sz + j) = some v ∧ RdC Z c v
theorem RdC.mk {Z : Kn} {b : Nat} {els : List (List C)} {sz cap : Nat} (hs : ∀ (k : Nat) (cs : List C), els[k]? = some cs → cs.length = sz) (h : Els Z b els sz) (hn : els.length ≤ cap) (hc : cap ≤ maxLen) : RdC Z (.sl els) (.slice (some ⟨b, 0, none⟩) els.length cap) := by
  refine .sl els b 0 sz cap (fun k j => (Z b (k * sz + j)).getD undef) hn hc hs (fun k cs j c e ej => ?_) (fun k cs j c e ej => ?_)
  · obtain ⟨v, h1, _⟩ := h k cs j c e ej
    rw [Nat.zero_add, h1]; rfl
  · obtain ⟨v, h1, h2⟩ := h k cs j c e ej
    show RdC Z c ((Z b (k * sz + j)).getD undef)
    rw [h1]; exact h2
theorem RdC.els {Z : Kn} {b : Nat} {els : List (List C)} {sz cap n : Nat} (h : RdC Z (.sl els) (.slice (some ⟨b, 0, none⟩) n cap)) (hs : ∀ (k : Nat) (cs : List C), els[k]? = some cs → cs.length = sz) : Els Z b els sz := by
  obtain ⟨A, cap', e, hn, hc, hx⟩ := h.slI
  intro k cs j c ek ej
  rcases hx with rfl | ⟨b', off, sz', u, hA, hx1, hx2⟩
  · simp at ek
  · subst hA
    injection e with e1 e2 e3
    injection e1 with e1
    injection e1 with e4 e5
    subst e4 e5
    have : sz' = sz := by rw [← hx1 k cs ek, hs k cs ek]
    subst this
    have := hx2 k cs j c ek ej
    rw [Nat.zero_add] at this
    exact ⟨_, this⟩
theorem Els.append {Z Z' : Kn} {b b' : Nat} {els ys : List (List C)} {sz : Nat} (hs : ∀ (k : Nat) (cs : List C), els[k]? = some cs → cs.length = sz)
    (h1 : ∀ (k : Nat) (cs : List C) (j : Nat) (c : C), els[k]? = some cs → cs[j]? = some c → ∃ v, Z' b (k * sz + j) = some v ∧ RdC Z' c v)
    (h2 : ∀ (k : Nat) (cs : List C) (j : Nat) (c : C), ys[k]? = some cs → cs[j]? = some c → ∃ v, Z' b (els.length * sz + (k * sz + j)) = some v ∧ RdC Z' c v) : Els Z' b (els ++ ys) sz := by
  intro k cs j c ek ej
  by_cases hk : k < els.length
  · rw [List.getElem?_append_left hk] at ek
    exact h1 k cs j c ek ej
  · rw [List.getElem?_append_right (by omega)] at ek
    obtain ⟨v, q1, q2⟩ := h2 _ cs j c ek ej
    refine ⟨v, ?_, q2⟩
    rw [← q1]
    congr 1
    rw [← Nat.add_assoc, ← Nat.add_mul]
    congr 2
    omega
theorem append_tok {Z : Kn} {ρ : Rho} {m : Mem} {nx : Nat} {w : World} (H : Rel X Z ρ m nx w) {id sz : Nat} {els ys : List (List C)} {v uy : Value} (hm : mget m id = some (.tok sz els)) (hv : ρ id = some (.tok v els.length))
    (hy : RdC Z (.sl ys) uy) (hys : ∀ cs ∈ ys, cs.length = sz) (hp : 0 < sz) {t ty0 el : TypeId} (hu : X.P.underlying t = some (.slice el)) {i : TypeInfo} {zv : Value} (hi : X.P.info? el = some i) (hz : i.zero = some zv) (hsz : i.size = sz) (hby : i.bytes ≤ 1048576) (hzs : zv.cells.size = sz)
    (hb : els.length + ys.length ≤ 67108864) :
    ∃ v' w' Z' ρ', (Builtin.append_ #[t, t] ty0 #[v, uy]).run X.P w = .ok v' w' ∧ KLe Z Z' ∧ RLe ρ ρ' ∧ Rel X Z' ρ' (mset m id (.tok sz (els ++ ys))) nx w' ∧ RdT Z' ρ' (.sk id (els ++ ys)) v' ∧ (∀ b', b' < w.heap.size → (Loc.tok v els.length).B ≠ some b' → w'.heap[b']? = w.heap[b']?) := by
  obtain ⟨hid, v0, k1, k2, k3⟩ := H.obj id _ hm
  rw [hv] at k1
  injection k1 with k1; injection k1 with k1; subst k1
  obtain ⟨us, hsrc, hus⟩ := src_rel hy H.kn hys hu
  have hul := hsrc.newsLen
  rw [← hsz] at hsrc
  have hyk : ∀ (k : Nat) (cs : List C), ys[k]? = some cs → cs.length = sz := fun k cs e => hys cs (List.mem_of_getElem? e)
  -- what is the same in both ways: the end
  have fin : ∀ (b cap : Nat) (cells : List Value) (w' : World) (Z' : Kn), (Builtin.append_ #[t, t] ty0 #[v, uy]).run X.P w = .ok (.slice (some ⟨b, 0, none⟩) (els.length + ys.length) cap) w' → (∀ (k : Nat) (cs : List C), els[k]? = some cs → cs.length = sz) →
      KLe Z Z' → KnOk Z' w' → (∀ b o, ¬ X.own b → Z' b o = Z b o) → Bel X.own w w' → ((Loc.tok v els.length).B = some b ∨ w.heap.size ≤ b) → (∀ b', b' < w.heap.size → (Loc.tok v els.length).B ≠ some b' → w'.heap[b']? = w.heap[b']? ∧ ∀ o, Z' b' o = Z b' o) →
      (ys.length = 0 → v = .slice (some ⟨b, 0, none⟩) els.length cap) → X.own b → CellsAt w' b cells → cells.length = cap * sz → els.length + ys.length ≤ cap → cap ≤ maxLen → (els ++ ys = [] → cap = 0) → (∀ o, (els.length + ys.length) * sz ≤ o → Z' b o = none) →
      Els Z' b (els ++ ys) sz →
      ∃ v' w' Z' ρ', (Builtin.append_ #[t, t] ty0 #[v, uy]).run X.P w = .ok v' w' ∧ KLe Z Z' ∧ RLe ρ ρ' ∧ Rel X Z' ρ' (mset m id (.tok sz (els ++ ys))) nx w' ∧ RdT Z' ρ' (.sk id (els ++ ys)) v' ∧ (∀ b', b' < w.heap.size → (Loc.tok v els.length).B ≠ some b' → w'.heap[b']? = w.heap[b']?) := by
    intro b cap cells w' Z' hrun hes hle hk hz0 hbe hnb hfar hsame hB hC hcl hcap hcm hemp hnone hE
    have hsz2 : ∀ (k : Nat) (cs : List C), (els ++ ys)[k]? = some cs → cs.length = sz := fun k cs e => by
      rcases List.mem_append.1 (List.mem_of_getElem? e) with h | h
      · obtain ⟨j, hj, rfl⟩ := List.getElem_of_mem h
        exact hes j _ (List.getElem?_eq_getElem hj)
      · exact hys cs h
    have hrd := RdC.mk hsz2 hE (by rw [List.length_append]; exact hcap) hcm
    obtain ⟨q1, q2⟩ := H.chg (l' := .tok (.slice (some ⟨b, 0, none⟩) (els ++ ys).length cap) (els ++ ys).length) (o' := .tok sz (els ++ ys)) hm hv
      ⟨_, _, rfl, by rw [List.length_append]; omega, fun e => by
        rw [List.length_append] at e ⊢
        have h0 : ys.length = 0 := by omega
        rw [hsame h0, h0, Nat.add_zero]⟩ hle hk hz0 hbe (fun b' e => by
        have e' : some b = some b' := e
        injection e' with e'
        subst e'
        exact hnb) hfar
      ⟨_, updR_same _ _ _, hrd, .inr ⟨b, cap, cells, rfl, hB, hC, hcl, hsz2, hemp, fun o ho => hnone o (by rw [List.length_append] at ho; exact ho)⟩⟩
    refine ⟨_, w', Z', _, hrun, hle, q1, q2, ?_, fun b' h1 h2 => (hfar b' h1 h2).1⟩
    rw [← List.length_append]
    exact .sk id _ _ _ _ hrd (updR_same _ _ _) (Nat.le_refl _) fun _ => rfl
  -- a new row
  have grow : ∀ (base : Option Addr) (cap : Nat) (olds : List Value), v = .slice base els.length cap → (Builtin.firstCells i.size els.length (.slice base els.length cap)).run X.P w.drew = .ok olds.toArray w.drew → olds.length = els.length * sz → cap < els.length + ys.length →
      (∀ (k : Nat) (cs : List C), els[k]? = some cs → cs.length = sz) → (∀ (k : Nat) (cs : List C) (j : Nat) (c : C), els[k]? = some cs → cs[j]? = some c → ∃ v, olds[k * sz + j]? = some v ∧ RdC Z c v) →
      ∃ v' w' Z' ρ', (Builtin.append_ #[t, t] ty0 #[v, uy]).run X.P w = .ok v' w' ∧ KLe Z Z' ∧ RLe ρ ρ' ∧ Rel X Z' ρ' (mset m id (.tok sz (els ++ ys))) nx w' ∧ RdT Z' ρ' (.sk id (els ++ ys)) v' ∧ (∀ b', b' < w.heap.size → (Loc.tok v els.length).B ≠ some b' → w'.heap[b']? = w.heap[b']?) := by
    intro base cap olds hve hold hol hgr hes helt
    have hge := grownCap_ge w (els.length + ys.length) cap el
    have hgm := grownCap_le_maxLen w (els.length + ys.length) cap el (by unfold maxLen; omega)
    have hrun := run_append_grow_src (P := X.P) w t t ty0 el i zv hu hi hz base els.length cap olds hold uy ys.length us hsrc hgr (by omega) (growslice_fits hgr (by
      have : (els.length + ys.length) * i.bytes ≤ 67108864 * 1048576 := Nat.mul_le_mul hb hby
      omega))
    generalize hcap : grownCap w (els.length + ys.length) cap el = cap' at hrun hge hgm
    have hzc : (Builtin.zeroCells zv.cells (cap' - (els.length + ys.length))).toList.length = (cap' - (els.length + ys.length)) * sz := by simp [size_zeroCells, hzs]
    generalize hze : Builtin.zeroCells zv.cells (cap' - (els.length + ys.length)) = zs at hrun hzc
    have hcells : ((olds ++ us).toArray ++ zs) = (olds ++ us ++ zs.toList).toArray := by apply Array.ext'; simp
    rw [hcells, ← hve] at hrun
    have hbl : Below w.heap.size w (w.drew.alloc (.cells (olds ++ us ++ zs.toList).toArray el)) := ((Below.refl _ _).drew).alloc (by simp) _
    let Z' : Kn := fun b o => if b = w.heap.size then (olds ++ us)[o]? else Z b o
    have hZ' : ∀ b o, b ≠ w.heap.size → Z' b o = Z b o := fun b o h => if_neg h
    have hZn : ∀ o, Z' w.heap.size o = (olds ++ us)[o]? := fun o => if_pos rfl
    have hle : KLe Z Z' := fun b o u e => (hZ' b o (by have := H.kn.lt e; omega)).trans e
    have hCA : CellsAt (w.drew.alloc (.cells (olds ++ us ++ zs.toList).toArray el)) w.heap.size (olds ++ us ++ zs.toList) := CellsAt.new w.drew _ el
    have hol2 : (olds ++ us).length = (els.length + ys.length) * sz := by rw [List.length_append, hol, hul, Nat.add_mul]
    refine fin w.heap.size cap' (olds ++ us ++ zs.toList) _ Z' hrun hes hle (fun b o u e => ?_) (fun b o h => hZ' b o (fun e => h (by rw [e]; exact X.hown _ H.size))) (Bel.of hbl fun b h => X.hown b (Nat.le_trans H.size h)) (.inr (Nat.le_refl _)) (fun b' h _ => ⟨hbl.block b' h, fun o => hZ' b' o (by omega)⟩)
      (fun h0 => ?_) (X.hown _ H.size) hCA ?_ hge hgm (fun h0 => ?_) (fun o ho => by rw [hZn]; exact List.getElem?_eq_none (by omega)) (Els.append (Z := Z) (b' := 0) hes (fun k cs j c e ej => ?_) (fun k cs j c e ej => ?_))
    · by_cases hbb : b = w.heap.size
      · subst hbb
        rw [hZn] at e
        rw [hCA.cell, List.getElem?_append_left (List.getElem?_eq_some_iff.1 e).1]
        exact e
      · rw [hZ' b o hbb] at e
        exact (hbl.cell (p := ⟨b, o, none⟩) (H.kn.lt e)).trans (H.kn b o u e)
    · have hn := k2.slI
      obtain ⟨A, c', e, h2, _⟩ := hn
      rw [hve] at e
      injection e with e1 e2 e3
      omega
    · rw [List.length_append, hol2, hzc, ← Nat.add_mul]
      congr 1; omega
    · have : (els ++ ys).length = 0 := by rw [h0]; rfl
      rw [List.length_append] at this
      omega
    · obtain ⟨u, q1, q2⟩ := helt k cs j c e ej
      exact ⟨u, by rw [hZn, List.getElem?_append_left (List.getElem?_eq_some_iff.1 q1).1]; exact q1, q2.mono hle⟩
    · obtain ⟨u, q1, q2⟩ := hus k cs j c e ej
      refine ⟨u, ?_, q2.mono hle⟩
      rw [hZn, ← hol, List.getElem?_append_right (by omega), Nat.add_sub_cancel_left]
      exact q1
  rcases k3 with rfl | ⟨b, cap, cells, rfl, k4, k5, k6, k7, k8, k9⟩
  · -- no row so far
    have h0 : els.length = 0 := by
      obtain ⟨A, c', e, h2, _⟩ := k2.slI
      injection e with e1 e2 e3
      exact e2.symm
    obtain rfl := List.eq_nil_of_length_eq_zero h0
    rcases Nat.eq_zero_or_pos ys.length with hy0 | hy0
    · obtain rfl := List.eq_nil_of_length_eq_zero hy0
      have hus0 : us = [] := List.eq_nil_of_length_eq_zero (by rw [hul]; simp)
      subst hus0
      refine ⟨.slice none 0 0, w, Z, ρ, ?_, KLe.refl _, RLe.refl _, ?_, .sk id [] _ _ _ k2 hv (Nat.le_refl _) (fun _ => rfl), fun _ _ _ => rfl⟩
      · have hl := hsrc.len
        have hc := hsrc.cells
        simp only [List.length_nil] at hl hc
        simp [Builtin.append_, run_underlying hu, sizeOf, typeInfo, hi, hl, hc]
      · have hsame : ∀ j, mget (mset m id (.tok sz [])) j = mget m j := fun j => by
          rw [mget_set]
          by_cases hj : id = j
          · subst hj; rw [if_pos rfl]; exact hm.symm
          · rw [if_neg hj]
        refine ⟨H.below, H.kn, H.z0, H.kle, fun j o e => H.obj j o (by rw [← hsame j]; exact e), fun i j oi oj b ei ej => H.apart i j oi oj b (by rw [← hsame i]; exact ei) (by rw [← hsame j]; exact ej), H.fresh, H.kb, H.anch⟩
    · exact grow none 0 [] rfl (run_firstCells_none w.drew i.size 0 0 0) (by simp) (by simpa using hy0) (fun k cs e => by simp at e) (fun k cs j c e => by simp at e)
  · have hE := k2.els k7
    by_cases hroom : els.length + ys.length ≤ cap
    · have hcapm : cap ≤ maxLen := by
        obtain ⟨A, c', e, _, h3, _⟩ := k2.slI
        injection e with e1 e2 e3
        omega
      have htot : els.length * sz + us.length ≤ cells.length := by
        rw [hul, ← Nat.add_mul, k6]
        exact Nat.mul_le_mul_right _ hroom
      obtain ⟨cells', c1, c2, c3⟩ := CellsAt.setCells us (els.length * sz) w cells k5 htot
      have hth := k5.there htot
      have hrun := run_append_room_src (P := X.P) w t t ty0 el i hu hi b 0 els.length cap uy ys.length us hsrc hroom (fun j hj => by rw [hsz, Nat.zero_add]; exact (hth j hj).1) (fun j hj => by rw [hsz, Nat.zero_add]; exact (hth j hj).2)
      rw [hsz, Nat.zero_add] at hrun
      let Z' : Kn := fun b' o => if b' = b ∧ els.length * sz ≤ o then us[o - els.length * sz]? else Z b' o
      have hZ' : ∀ b' o, ¬ (b' = b ∧ els.length * sz ≤ o) → Z' b' o = Z b' o := fun b' o h => if_neg h
      have hZn : ∀ o, els.length * sz ≤ o → Z' b o = us[o - els.length * sz]? := fun o h => if_pos ⟨rfl, h⟩
      have hle : KLe Z Z' := fun b' o u e => (hZ' b' o (fun ⟨h1, h2⟩ => by subst h1; rw [k9 o h2] at e; cases e)).trans e
      refine fin b cap cells' _ Z' hrun k7 hle (fun b' o u e => ?_) (fun b' o h => hZ' b' o (fun e => h (by rw [e.1]; exact k4))) (bel_setCells k4 us _ w) (.inl rfl) (fun b' h hne => ⟨heap_setCells_far (fun e => hne (by rw [e]; rfl)) us _ w, fun o => hZ' b' o (fun ⟨h1, _⟩ => hne (by rw [h1]; rfl))⟩)
        (fun _ => rfl) k4 c1 (by rw [c2, k6]) hroom hcapm (fun h0 => ?_) (fun o ho => ?_) (Els.append (Z := Z) (b' := 0) k7 (fun k cs j c e ej => ?_) (fun k cs j c e ej => ?_))
      · by_cases hc : b' = b ∧ els.length * sz ≤ o
        · obtain ⟨rfl, h2⟩ := hc
          rw [hZn o h2] at e
          have hlt := (List.getElem?_eq_some_iff.1 e).1
          rw [c1.cell, c3, if_pos (by omega)]
          exact e
        · rw [hZ' b' o hc] at e
          have e2 := H.kn b' o u e
          by_cases hbb : b' = b
          · subst hbb
            rw [c1.cell, c3, if_neg (by omega), ← k5.cell]
            exact e2
          · exact (World.cell?_of_block (a := ⟨b', o, none⟩) (heap_setCells_far hbb us _ w)).trans e2
      · exact k8 (List.append_eq_nil_iff.1 h0).1
      · rw [hZn o (by rw [Nat.add_mul] at ho; omega)]
        exact List.getElem?_eq_none (by rw [hul]; rw [Nat.add_mul] at ho; omega)
      · obtain ⟨u, q1, q2⟩ := hE k cs j c e ej
        exact ⟨u, hle _ _ _ q1, q2.mono hle⟩
      · obtain ⟨u, q1, q2⟩ := hus k cs j c e ej
        refine ⟨u, ?_, q2.mono hle⟩
        rw [hZn _ (by omega), Nat.add_sub_cancel_left]
        exact q1
    · refine grow (some ⟨b, 0, none⟩) cap (cells.take (els.length * sz)) rfl (run_firstCells_some w.drew i.size els.length _ els.length cap _ ?_ ?_) ?_ (by omega) k7 (fun k cs j c e ej => ?_)
      · rw [List.length_take, hsz, k6, Nat.min_eq_left]
        have := k2.slI
        obtain ⟨A, c', e, h2, _⟩ := this
        injection e with e1 e2 e3
        exact Nat.mul_le_mul_right _ (by omega)
      · intro j u hj
        rw [Addr.add_mid, Nat.zero_add]
        have hlt : j < els.length * sz := by have := (List.getElem?_eq_some_iff.1 hj).1; rw [List.length_take] at this; omega
        rw [List.getElem?_take_of_lt hlt] at hj
        have := k5.cell j
        simp only [World.cell?, World.drew] at this ⊢
        rw [hj] at this
        exact this
      · rw [List.length_take, k6, Nat.min_eq_left]
        have := k2.slI
        obtain ⟨A, c', e, h2, _⟩ := this
        injection e with e1 e2 e3
        exact Nat.mul_le_mul_right _ (by omega)
      · obtain ⟨u, q1, q2⟩ := hE k cs j c e ej
        refine ⟨u, ?_, q2⟩
        have hk : k < els.length := (List.getElem?_eq_some_iff.1 e).1
        have hj : j < sz := by rw [← k7 k cs e]; exact (List.getElem?_eq_some_iff.1 ej).1
        have hlt : k * sz + j < els.length * sz := by
          have : (k + 1) * sz ≤ els.length * sz := Nat.mul_le_mul_right _ hk
          rw [Nat.succ_mul] at this; omega
        rw [List.getElem?_take_of_lt hlt]
        have := H.kn _ _ _ q1
        rw [k5.cell] at this
        exact this
end
end Go.Proofs.Ytconhpilbndpkaa.Vm
namespace Go.Proofs.Ytconhpilbndpkaa.Vm
open Go.RowKit
set_option linter.unusedVariables false

section
variable {ti : TI} {X : Ctx} {z : ZO} {P : Program}
/-- what is appended to what -/
def appQ (ti : TI) (n : Nat) (a : Slots) (all : List Oper) (o : Oper) : Option (T × List (List C) × Nat) := match dstOk n o.dst, gd a all o.guard with
  | true, .yes => (match o.op with
    | .call ⟨.builtin .append, args, tys⟩ => (match args.toList, tys.toList with
      | [x, y], [t, t'] => (match Nat.beq t t', tget ti t, elsOf (evT a y) with
        | true, some ty, some ys => (match ty.kind, tget ti ty.elem with
          | .sl, some e => (match Nat.blt 0 e.size with | true => some (evT a x, ys, e.size) | false => none)
          | _, _ => none)
        | _, _, _ => none)
      | _, _ => none)
    | _ => none)
  | _, _ => none
theorem appQ_some (hti : TIok X.P ti) {o : Oper} {all : List Oper} {a : Slots} {x : T} {ys : List (List C)} {sz : Nat} (hq : appQ ti X.n a all o = some (x, ys, sz)) :
    dstOk X.n o.dst = true ∧ gd a all o.guard = .yes ∧ 0 < sz ∧ ∃ xo yo t el i zv, o.op = .call ⟨.builtin .append, #[xo, yo], #[t, t]⟩ ∧ evT a xo = x ∧ elsOf (evT a yo) = some ys ∧ X.P.underlying t = some (.slice el) ∧ X.P.info? el = some i ∧ i.zero = some zv ∧ i.size = sz ∧ i.bytes ≤ 1048576 ∧ zv.cells.size = sz := by
  unfold appQ at hq
  split at hq
  · rename_i hd hg
    split at hq
    · rename_i args tys ho
      split at hq
      · rename_i xo yo t t' h1 h2
        split at hq
        · rename_i ty ys' hb hty hys
          split at hq
          · rename_i e hk he
            split at hq
            · rename_i hp
              injection hq with hq
              injection hq with q1 q2
              injection q2 with q2 q3
              subst q1 q2 q3
              have hb := Nat.eq_of_beq_eq_true hb
              subst hb
              obtain ⟨i, zv, i1, i2, i3, i4, i5⟩ := (hti _ e he).inf
              have e1 : args = #[xo, yo] := by apply Array.ext'; simpa using h1
              have e2 : tys = #[t, t] := by apply Array.ext'; simpa using h2
              subst e1 e2
              exact ⟨hd, hg, by simpa using hp, xo, yo, t, ty.elem, i, zv, ho, rfl, hys, (hti t ty hty).sl hk, i1, i4, i2, i3, i5⟩
            · cases hq
          · cases hq
        · cases hq
      · cases hq
    · cases hq
  · cases hq
theorem app_exec {o : Oper} {xo yo : Operand} {t : TypeId} (ho : o.op = .call ⟨.builtin .append, #[xo, yo], #[t, t]⟩) {act : Act} {w w' : World} {v u r : Value} (hx : act.eval xo = v) (hy : act.eval yo = u) (h : (Builtin.append_ #[t, t] o.type #[v, u]).run P w = .ok r w') :
    (execOp act.eval o).run P w = .ok (.value r) w' := by
  obtain ⟨dst, op, ty, pos, after, guard⟩ := o
  simp only at ho h
  subst ho
  simp [execOp, resolve, invoke, builtin, hx, hy, h]
theorem W_app (hti : TIok X.P ti) {o : Oper} {r all : List Oper} {ks : List K} {a : Slots} {m : Mem} {nx : Nat} {id sz : Nat} {els ys : List (List C)} (hq : appQ ti X.n a all o = some (.sk id els, ys, sz)) (hm : mget m id = some (.tok sz els)) (hs : ∀ cs ∈ ys, cs.length = sz) (hl : els.length + ys.length ≤ 67108864)
    (hw : W X ⟨.ops r all :: ks, put a o.dst (.sk id (els ++ ys)), mset m id (.tok sz (els ++ ys)), nx⟩) : W X ⟨.ops (o :: r) all :: ks, a, m, nx⟩ := by
  obtain ⟨hd, hg, hp, xo, yo, t, el, i, zv, ho, hx, hy, hu, hi, hz, hsz, hby, hzs⟩ := appQ_some hti hq
  refine W_op hg fun Z ρ act w H hS hn hdf K hK => ?_
  have hxr := evT_rel hS xo
  rw [hx] at hxr
  obtain ⟨_, u, n, hρ, hle, heq⟩ := hxr.skI
  obtain ⟨_, v0, k1, _⟩ := H.obj id _ hm
  have hn' : n = els.length ∧ u = v0 := by rw [hρ] at k1; injection k1 with k1; injection k1 with e1 e2; exact ⟨e2, e1⟩
  obtain ⟨rfl, rfl⟩ := hn'
  obtain ⟨v', w', Z', ρ', h1, h2, h3, h4, h5, _⟩ := append_tok (ty0 := o.type) H hm hρ (elsOf_rel (evT_rel hS yo) hy) hs hp hu hi hz hsz hby hzs hl
  obtain ⟨p1, p2, p3⟩ := put_rel h2 h3 hS hn hd h5
  exact OpRes.wp (.inl (app_exec ho (heq rfl) rfl h1)) (hK _ _ (hw Z' ρ' _ w' h4 p1 p2 (p3.trans hdf)))
/-- nothing so far -/
theorem W_app0 (hti : TIok X.P ti) {o : Oper} {r all : List Oper} {ks : List K} {a : Slots} {m : Mem} {nx : Nat} {sz : Nat} {ys : List (List C)} (hq : appQ ti X.n a all o = some (.nil, ys, sz)) (hs : ∀ cs ∈ ys, cs.length = sz) (hl : ys.length ≤ 67108864)
    (hw : W X ⟨.ops r all :: ks, put a o.dst (.sk nx ys), (nx, .tok sz ys) :: m, nx + 1⟩) : W X ⟨.ops (o :: r) all :: ks, a, m, nx⟩ := by
  obtain ⟨hd, hg, hp, xo, yo, t, el, i, zv, ho, hx, hy, hu, hi, hz, hsz, hby, hzs⟩ := appQ_some hti hq
  refine W_op hg fun Z ρ act w H hS hn hdf K hK => ?_
  have hxr := evT_rel hS xo
  rw [hx] at hxr
  have hxv := hxr.nilI
  obtain ⟨_, r1, H1⟩ := H.new (Z' := Z) (Below.refl _ _) H.kn (fun _ _ _ => rfl) (.tok (.slice none 0 0) 0) (.tok sz []) (fun b e => by cases e)
    ⟨_, updR_same _ _ _, .nl none 0 (Nat.zero_le _), .inl rfl⟩
  obtain ⟨v', w', Z', ρ', h1, h2, h3, h4, h5, _⟩ := append_tok (ty0 := o.type) (els := []) H1 (by rw [mget_cons, if_pos rfl]) (updR_same _ _ _) (elsOf_rel (evT_rel hS yo) hy) hs hp hu hi hz hsz hby hzs (by simpa using hl)
  have em : mset ((nx, Obj.tok sz []) :: m) nx (.tok sz ([] ++ ys)) = (nx, .tok sz ys) :: m := by simp [mset]
  rw [em] at h4
  obtain ⟨p1, p2, p3⟩ := put_rel h2 (r1.trans h3) hS hn hd h5
  exact OpRes.wp (.inl (app_exec ho hxv rfl h1)) (hK _ _ (hw Z' ρ' _ w' h4 p1 p2 (p3.trans hdf)))
/-- a nil slice in a slot may be taken for a row of one's own -/
theorem W_own {ks : List K} {a : Slots} {m : Mem} {nx : Nat} (d sz : Nat) (hc : get a d = .nil) (h : W X ⟨ks, set a d (.sk nx []), (nx, .tok sz []) :: m, nx + 1⟩) : W X ⟨ks, a, m, nx⟩ := by
  intro Z ρ act w H hS hn hd
  obtain ⟨_, r1, H1⟩ := H.new (Z' := Z) (Below.refl _ _) H.kn (fun _ _ _ => rfl) (.tok (.slice none 0 0) 0) (.tok sz []) (fun b e => by cases e)
    ⟨_, updR_same _ _ _, .nl none 0 (Nat.zero_le _), .inl rfl⟩
  refine h Z _ act w H1 (fun k => ?_) hn hd
  rw [get_set]
  by_cases hk : d = k
  · subst hk
    rw [if_pos rfl]
    have := hS d
    rw [hc] at this
    rw [this.nilI]
    exact .sk nx [] _ _ _ (.nl none 0 (Nat.zero_le _)) (updR_same _ _ _) (Nat.le_refl _) fun _ => rfl
  · rw [if_neg hk]; exact (hS k).mono (KLe.refl _) r1
end
end Go.Proofs.Ytconhpilbndpkaa.Vm
namespace Go.Proofs.Ytconhpilbndpkaa.Vm
open Go.RowKit
set_option linter.unusedVariables false

section
variable {P : Program} {ops : Array Oper} {Q : Exit → Act → World → Prop} {T : World → Prop} {esc : List Nat}

/-- none of the last operations has come up -/
def noEsc (esc : List Nat) (listed : Array Bool) : Prop := ∀ s ∈ esc, listed.getD s false = false
def wpL (P : Program) (ops : Array Oper) (Q : Exit → Act → World → Prop) (T : World → Prop) (esc : List Nat) : Nat → Array Bool → Act → World → Prop
  | 0, listed, a, w => Region.ready .any ops listed = [] ∧ Q .normal a w
  | n + 1, listed, a, w => (Region.ready .any ops listed = [] → Q .normal a w) ∧
    ∀ i ∈ Region.ready .any ops listed, wpOp P ops Q i (fun a' w' => (noEsc esc (listed.setIfInBounds i true) → T w') ∧ wpL P ops Q T esc n (listed.setIfInBounds i true) a' w') a w
theorem wpL_any : ∀ (n : Nat) (listed : Array Bool) (a : Act) (w : World), wpL P ops Q T esc n listed a w → wpAny P .any ops Q n listed a w
  | 0, _, _, _, h => h
  | n + 1, _, _, _, h => ⟨h.1, fun i hi => wpOp_mono (fun a' w' k => wpL_any n _ a' w' k.2) (h.2 i hi)⟩

/-- operation s waits, straight or by one other that has not come up, for operation i -/
def Late (ops : Array Oper) (listed : Array Bool) (i s : Nat) : Prop :=
  ∃ os, ops[s]? = some os ∧ ∃ e ∈ os.after, Region.binds .any e = true ∧ (e.on = i ∨ (listed.getD e.on false = false ∧ ∃ o, ops[e.on]? = some o ∧ ∃ d ∈ o.after, Region.binds .any d = true ∧ d.on = i))
def lateB (ops : Array Oper) (listed : Array Bool) (i s : Nat) : Bool := match ops[s]? with
  | some os => os.after.any fun e => Region.binds .any e && (e.on == i || (!listed.getD e.on false && match ops[e.on]? with
    | some o => o.after.any fun d => Region.binds .any d && d.on == i
    | none => false))
  | none => false
theorem Late.of {listed : Array Bool} {i s : Nat} (h : lateB ops listed i s = true) : Late ops listed i s := by
  unfold lateB at h
  split at h
  · rename_i os hos
    rw [Array.any_eq_true'] at h
    obtain ⟨e, he, h⟩ := h
    rw [Bool.and_eq_true, Bool.or_eq_true] at h
    refine ⟨os, hos, e, he, h.1, ?_⟩
    rcases h.2 with h2 | h2
    · exact .inl (eq_of_beq h2)
    · rw [Bool.and_eq_true] at h2
      right
      refine ⟨by simpa using h2.1, ?_⟩
      have h3 := h2.2
      split at h3
      · rename_i o ho
        rw [Array.any_eq_true'] at h3
        obtain ⟨d, hd, h4⟩ := h3
        rw [Bool.and_eq_true] at h4
        exact ⟨o, ho, d, hd, h4.1, eq_of_beq h4.2⟩
      · cases h3
  · cases h

theorem getD_unset {listed : Array Bool} {j k : Nat} (h : (listed.setIfInBounds j true).getD k true = false) : listed.getD k true = false := by
  by_cases hjk : j = k
  · subst hjk
    rw [Array.getD_eq_getD_getElem?] at h ⊢
    by_cases hlt : j < listed.size
    · rw [Array.getElem?_setIfInBounds_self_of_lt hlt] at h
      simp at h
    · rw [Array.getElem?_eq_none (by simp; omega)] at h
      simp at h
  · rw [Array.getD_eq_getD_getElem?, Array.getElem?_setIfInBounds_ne hjk, ← Array.getD_eq_getD_getElem?] at h
    exact h
theorem wpL_first {i : Nat} {oi : Oper} {v : Value} (hi : ops[i]? = some oi) (hsel : ∀ (j : Nat) (o : Oper) cs b, ops[j]? = some o → o.op ≠ .select cs b)
    (hQ : ∀ c a w, Q (.panic c) (a.put oi.dst v) w → Q (.panic c) a w) (hie : i ∉ esc) :
    ∀ (n : Nat) (listed : Array Bool) (a : Act) (w : World),
      (∀ j oj, ops[j]? = some oj → j ≠ i → listed.getD j true = false → (∀ e ∈ oj.after, Region.binds .any e = true → e.on ≠ i) → oi.apart ops oj = true) →
      i ∈ Region.ready .any ops listed → YieldsIf P ops T oi v a → T w → noEsc esc listed → (∀ s ∈ esc, Late ops listed i s) →
      wpL P ops Q T esc n (listed.setIfInBounds i true) (a.put oi.dst v) w → wpL P ops Q T esc (n + 1) listed a w := by
  intro n
  induction n with
  | zero =>
    intro listed a w _ hr hy hT hE hL H
    refine ⟨fun h => (by rw [h] at hr; cases hr), fun j hj => ?_⟩
    by_cases hji : j = i
    · subst hji
      exact hy.wpOp hi hT ⟨fun _ => hT, H⟩
    · have h1 := ready_mono hj hji
      rw [H.1] at h1
      cases h1
  | succ n ih =>
    intro listed a w hfree hr hy hT hE hL H
    refine ⟨fun h => (by rw [h] at hr; cases hr), fun j hj => ?_⟩
    by_cases hji : j = i
    · subst hji
      exact hy.wpOp hi hT ⟨fun _ => hT, H⟩
    · have h1 := H.2 j (ready_mono hj hji)
      obtain ⟨hju, oj, hoj, hall⟩ := mem_ready.1 hj
      have hi0 : listed.getD i false = false := by
        have h0 := (mem_ready.1 hr).1
        rw [Array.getD_eq_getD_getElem?] at h0 ⊢
        cases hx : listed[i]? with
        | none => rfl
        | some b => rw [hx] at h0; exact h0
      have hnot : ∀ e ∈ oj.after, Region.binds .any e = true → e.on ≠ i := fun e he hb heq => by
        have h2 := hall e he hb
        rw [heq, hi0] at h2
        cases h2
      -- j is none of the last operations, and none that one of these waits for
      have hjs : ∀ s ∈ esc, j ≠ s := fun s hs hjs => by
        obtain ⟨os, hos, e, he, hb, hl⟩ := hL s hs
        rw [← hjs, hoj] at hos
        injection hos with hos
        subst hos
        rcases hl with hl | ⟨hl, _⟩
        · exact hnot e he hb hl
        · have := hall e he hb
          rw [hl] at this
          cases this
      have hjr : ∀ o, ops[j]? = some o → (∃ d ∈ o.after, Region.binds .any d = true ∧ d.on = i) → False := fun o ho ⟨d, hd, hb, hdi⟩ => by
        rw [hoj] at ho
        injection ho with ho
        subst ho
        exact hnot d hd hb hdi
      have hfalse : ∀ k, k ≠ j → listed.getD k false = false → (listed.setIfInBounds j true).getD k false = false := fun k hk h => by
        rw [Array.getD_eq_getD_getElem?, Array.getElem?_setIfInBounds_ne (Ne.symm hk), ← Array.getD_eq_getD_getElem?]
        exact h
      have hE' : noEsc esc (listed.setIfInBounds j true) := fun s hs => hfalse s (Ne.symm (hjs s hs)) (hE s hs)
      have hE2 : noEsc esc ((listed.setIfInBounds i true).setIfInBounds j true) := fun s hs => by
        have hne : i ≠ s := fun e => hie (by rw [e]; exact hs)
        rw [Array.setIfInBounds_comm _ _ (Ne.symm hji)]
        rw [Array.getD_eq_getD_getElem?, Array.getElem?_setIfInBounds_ne hne, ← Array.getD_eq_getD_getElem?]
        exact hE' s hs
      have hL' : ∀ s ∈ esc, Late ops (listed.setIfInBounds j true) i s := fun s hs => by
        obtain ⟨os, hos, e, he, hb, hl⟩ := hL s hs
        refine ⟨os, hos, e, he, hb, ?_⟩
        rcases hl with hl | ⟨hl, o, ho, hd⟩
        · exact .inl hl
        · exact .inr ⟨hfalse _ (fun heq => hjr o (heq ▸ ho) hd) hl, o, ho, hd⟩
      have h2 := wpOp_putIf hoj (hfree j oj hoj hji hju hnot) (fun cs b => hsel i oi cs b hi) (fun cs b => hsel j oj cs b hoj) hQ hy h1
      refine wpOp_mono (fun a' w' h3 => ⟨fun _ => h3.2.1 hE2, ih (listed.setIfInBounds j true) a' w' (fun k ok hk hki hun hno => hfree k ok hk hki (getD_unset hun) hno) (ready_mono hr (Ne.symm hji)) h3.1 (h3.2.1 hE2) hE' hL' ?_⟩) h2
      rw [Array.setIfInBounds_comm _ _ hji]
      exact h3.2.2

theorem wpL_pure {i : Nat} {oi : Oper} {v : Value} (hi : ops[i]? = some oi) (hsel : ∀ (j : Nat) (o : Oper) cs b, ops[j]? = some o → o.op ≠ .select cs b)
    (hQ : ∀ c a w, Q (.panic c) (a.put oi.dst v) w → Q (.panic c) a w) (hie : i ∉ esc) :
    ∀ (n : Nat) (listed : Array Bool) (a : Act) (w : World),
      (∀ j oj, ops[j]? = some oj → j ≠ i → listed.getD j true = false → (∀ e ∈ oj.after, Region.binds .any e = true → e.on ≠ i) → oi.apart ops oj = true) →
      i ∈ Region.ready .any ops listed → YieldsIf P ops (fun _ => True) oi v a → (noEsc esc listed → T w) →
      wpL P ops Q T esc n (listed.setIfInBounds i true) (a.put oi.dst v) w → wpL P ops Q T esc (n + 1) listed a w := by
  have hset : ∀ (listed : Array Bool), noEsc esc (listed.setIfInBounds i true) → noEsc esc listed := fun listed h s hs => by
    have hne : i ≠ s := fun e => hie (by rw [e]; exact hs)
    have := h s hs
    rw [Array.getD_eq_getD_getElem?, Array.getElem?_setIfInBounds_ne hne, ← Array.getD_eq_getD_getElem?] at this
    exact this
  have hset' : ∀ (listed : Array Bool), noEsc esc listed → noEsc esc (listed.setIfInBounds i true) := fun listed h s hs => by
    have hne : i ≠ s := fun e => hie (by rw [e]; exact hs)
    rw [Array.getD_eq_getD_getElem?, Array.getElem?_setIfInBounds_ne hne, ← Array.getD_eq_getD_getElem?]
    exact h s hs
  intro n
  induction n with
  | zero =>
    intro listed a w _ hr hy hT H
    refine ⟨fun h => (by rw [h] at hr; cases hr), fun j hj => ?_⟩
    by_cases hji : j = i
    · subst hji
      exact hy.wpOp hi trivial ⟨fun h => hT (hset _ h), H⟩
    · have h1 := ready_mono hj hji
      rw [H.1] at h1
      cases h1
  | succ n ih =>
    intro listed a w hfree hr hy hT H
    refine ⟨fun h => (by rw [h] at hr; cases hr), fun j hj => ?_⟩
    by_cases hji : j = i
    · subst hji
      exact hy.wpOp hi trivial ⟨fun h => hT (hset _ h), H⟩
    · have h1 := H.2 j (ready_mono hj hji)
      obtain ⟨hju, oj, hoj, hall⟩ := mem_ready.1 hj
      have hi0 : listed.getD i false = false := by
        have h0 := (mem_ready.1 hr).1
        rw [Array.getD_eq_getD_getElem?] at h0 ⊢
        cases hx : listed[i]? with
        | none => rfl
        | some b => rw [hx] at h0; exact h0
      have hnot : ∀ e ∈ oj.after, Region.binds .any e = true → e.on ≠ i := fun e he hb heq => by
        have h2 := hall e he hb
        rw [heq, hi0] at h2
        cases h2
      have h2 := wpOp_putIf hoj (hfree j oj hoj hji hju hnot) (fun cs b => hsel i oi cs b hi) (fun cs b => hsel j oj cs b hoj) hQ hy h1
      have hT' : ∀ w', (noEsc esc ((listed.setIfInBounds i true).setIfInBounds j true) → T w') → noEsc esc (listed.setIfInBounds j true) → T w' := fun w' h3 h4 => h3 (by
        rw [Array.setIfInBounds_comm _ _ (Ne.symm hji)]
        exact hset' _ h4)
      refine wpOp_mono (fun a' w' h3 => ⟨hT' w' h3.2.1, ih (listed.setIfInBounds j true) a' w' (fun k ok hk hki hun hno => hfree k ok hk hki (getD_unset hun) hno) (ready_mono hr (Ne.symm hji)) h3.1 (hT' w' h3.2.1) ?_⟩) h2
      rw [Array.setIfInBounds_comm _ _ hji]
      exact h3.2.2

/-- a plan: operations one by one; where several are ready, a way for each -/
inductive PT where
  | nil
  | cons (p : Nat × Nat) (r : PT)
  | fork (t u : PT)
def PT.of : List (Nat × Nat) → PT
  | [] => .nil
  | p :: r => .cons p (PT.of r)
def PT.len : PT → Nat
  | .nil => 0
  | .cons _ r => r.len + 1
  | .fork t _ => t.len
theorem PT.of_len : ∀ l : List (Nat × Nat), (PT.of l).len = l.length
  | [] => rfl
  | _ :: r => congrArg (· + 1) (PT.of_len r)
def PT.heads : PT → List Nat
  | .cons (0, i) _ => [i]
  | .fork t u => t.heads ++ u.heads
  | _ => []
/-- may the operations be taken in this order? -/
def planT (ops : Array Oper) (esc : List Nat) : Bool → PT → Array Bool → Bool
  | f, .nil, listed => !f && (Region.ready .any ops listed).isEmpty
  | f, .cons (0, i) r, listed => (f || decide (Region.ready .any ops listed = [i])) && decide (i < listed.size) && planT ops esc false r (listed.setIfInBounds i true)
  | f, .cons (1, i) r, listed => !f && (Region.free .any ops listed i && (Region.ready .any ops listed).contains i && (!esc.contains i && esc.all (fun s => !listed.getD s false && lateB ops listed i s)) && planT ops esc false r (listed.setIfInBounds i true))
  | f, .cons (_ + 2, i) r, listed => !f && (Region.free .any ops listed i && (Region.ready .any ops listed).contains i && !esc.contains i && planT ops esc false r (listed.setIfInBounds i true))
  | f, .fork t u, listed => (f || (!(Region.ready .any ops listed).isEmpty && (Region.ready .any ops listed).all (fun i => (t.heads ++ u.heads).contains i))) && decide (t.len = u.len) && decide (0 < t.len) && planT ops esc true t listed && planT ops esc true u listed
abbrev planL (ops : Array Oper) (esc : List Nat) (l : List (Nat × Nat)) (listed : Array Bool) : Bool := planT ops esc false (PT.of l) listed
def dynL (P : Program) (ops : Array Oper) (Q : Exit → Act → World → Prop) (T : World → Prop) (esc : List Nat) : PT → Act → World → Prop
  | .nil, a, w => Q .normal a w
  | .fork t u, a, w => dynL P ops Q T esc t a w ∧ dynL P ops Q T esc u a w
  | .cons (1, i) r, a, w => ∃ o v, ops[i]? = some o ∧ YieldsIf P ops T o v a ∧ dynL P ops Q T esc r (a.put o.dst v) w
  | .cons (_ + 2, i) r, a, w => ∃ o v, ops[i]? = some o ∧ YieldsIf P ops (fun _ => True) o v a ∧ dynL P ops Q T esc r (a.put o.dst v) w
  | .cons (0, i) r, a, w => wpOp P ops Q i (fun a' w' => (i ∈ esc ∨ T w') ∧ dynL P ops Q T esc r a' w') a w
theorem dynL_take {i : Nat} {o : Oper} {v : Value} {l : PT} {a : Act} {w : World} (hi : ops[i]? = some o) (hw : Region.wanted o (yielded ops a.tmps) = true)
    (hv : ∀ W, T W → (execOp a.eval o).run P W = .ok (.value v) W) (h : dynL P ops Q T esc l (a.put o.dst v) w) : dynL P ops Q T esc (.cons (1, i) l) a w := ⟨o, v, hi, .inl ⟨hw, hv⟩, h⟩
theorem dynL_pure {i : Nat} {o : Oper} {v : Value} {l : PT} {a : Act} {w : World} (hi : ops[i]? = some o) (hw : Region.wanted o (yielded ops a.tmps) = true)
    (hv : ∀ W, (execOp a.eval o).run P W = .ok (.value v) W) (h : dynL P ops Q T esc l (a.put o.dst v) w) : dynL P ops Q T esc (.cons (2, i) l) a w := ⟨o, v, hi, .inl ⟨hw, fun W _ => hv W⟩, h⟩
theorem dynL_skip {i : Nat} {o : Oper} {l : PT} {a : Act} {w : World} (hi : ops[i]? = some o) (hw : Region.wanted o (yielded ops a.tmps) = false)
    (h : dynL P ops Q T esc l (a.put o.dst undef) w) : dynL P ops Q T esc (.cons (2, i) l) a w := ⟨o, undef, hi, .inr ⟨hw, rfl⟩, h⟩
theorem dynL_act {i : Nat} {o : Oper} {l : PT} {a : Act} {w : World} (hi : ops[i]? = some o) (hw : Region.wanted o (yielded ops a.tmps) = true)
    (h : ∀ K : Act → World → Prop, Shut (∀ a w, T w → dynL P ops Q T esc l a w → K a w) → Oper.wp P o a w K Q) : dynL P ops Q T esc (.cons (0, i) l) a w :=
  wpOp_step hi (fun K hK => by rw [if_pos hw]; exact h K (fun a w hS hd => hK a w ⟨.inr hS, hd⟩))
theorem dynL_last {i : Nat} {o : Oper} {l : PT} {a : Act} {w : World} (hi : ops[i]? = some o) (he : i ∈ esc) (hw : Region.wanted o (yielded ops a.tmps) = true)
    (h : ∀ K : Act → World → Prop, Shut (∀ a w, dynL P ops Q T esc l a w → K a w) → Oper.wp P o a w K Q) : dynL P ops Q T esc (.cons (0, i) l) a w :=
  wpOp_step hi (fun K hK => by rw [if_pos hw]; exact h K (fun a w hd => hK a w ⟨.inl he, hd⟩))
theorem dynL_done {a : Act} {w : World} (h : Q .normal a w) : dynL P ops (NoPanic Q) T esc .nil a w := h
/-- what a plan gives: at a fork, each of its first operations -/
def PTok (P : Program) (ops : Array Oper) (Q : Exit → Act → World → Prop) (T : World → Prop) (esc : List Nat) (t : PT) (listed : Array Bool) (a : Act) (w : World) : Prop :=
  ∀ i ∈ t.heads, wpOp P ops Q i (fun a' w' => (noEsc esc (listed.setIfInBounds i true) → T w') ∧ wpL P ops Q T esc (t.len - 1) (listed.setIfInBounds i true) a' w') a w
theorem dynL_sound (hs : Region.noSelect ops = true) : ∀ (l : PT) (listed : Array Bool) (a : Act) (w : World), (noEsc esc listed → T w) → dynL P ops (NoPanic Q) T esc l a w →
    (planT ops esc false l listed = true → wpL P ops (NoPanic Q) T esc l.len listed a w) ∧ (planT ops esc true l listed = true → PTok P ops (NoPanic Q) T esc l listed a w) := by
  intro l
  induction l with
  | nil =>
    intro listed a w hT h
    refine ⟨fun hp => ⟨by simpa [planT] using hp, h⟩, fun hp => ?_⟩
    simp [planT] at hp
  | fork t u iht ihu =>
    intro listed a w hT h
    have main : planT ops esc true t listed = true → planT ops esc true u listed = true → t.len = u.len → PTok P ops (NoPanic Q) T esc (.fork t u) listed a w := fun h1 h2 hl i hi => by
      rcases List.mem_append.1 (show i ∈ t.heads ++ u.heads from hi) with hi | hi
      · exact (iht listed a w hT h.1).2 h1 i hi
      · have := (ihu listed a w hT h.2).2 h2 i hi
        rw [← hl] at this
        exact this
    refine ⟨fun hp => ?_, fun hp => ?_⟩
    · simp only [planT, Bool.false_or, Bool.and_eq_true, decide_eq_true_eq, List.all_eq_true, Bool.not_eq_true'] at hp
      obtain ⟨⟨⟨⟨⟨h0, h1⟩, h2⟩, h3⟩, h4⟩, h5⟩ := hp
      have hk := main h4 h5 h2
      have e : (PT.fork t u).len = (t.len - 1) + 1 := by show t.len = _; omega
      rw [e]
      refine ⟨fun h00 => (by rw [h00] at h0; cases h0), fun i hi => hk i (show i ∈ t.heads ++ u.heads from by have := h1 i hi; simpa using this)⟩
    · simp only [planT, Bool.true_or, Bool.true_and, Bool.and_eq_true, decide_eq_true_eq] at hp
      obtain ⟨⟨⟨h2, h3⟩, h4⟩, h5⟩ := hp
      exact main h4 h5 h2
  | cons p l ih =>
    intro listed a w hT h
    obtain ⟨b, i⟩ := p
    match b with
    | 1 =>
      refine ⟨fun hp => ?_, fun hp => by simp [planT] at hp⟩
      simp only [planT, Bool.not_false, Bool.true_and, Bool.and_eq_true, Bool.not_eq_true', List.all_eq_true] at hp
      obtain ⟨⟨⟨h1, h2⟩, h3, h4⟩, h5⟩ := hp
      obtain ⟨o, v, hi, hy, h'⟩ := h
      have hie : i ∉ esc := fun hm => by simp [hm] at h3
      have hE : noEsc esc listed := fun s hs => (h4 s hs).1
      refine wpL_first hi (Region.noSelect_spec hs) (fun _ _ _ hc => hc.elim) hie l.len listed a w (Region.free_spec hi h1) (by simpa using h2) hy (hT hE) hE (fun s hs => Late.of (h4 s hs).2) ((ih _ _ _ (fun _ => hT hE) h').1 h5)
    | b + 2 =>
      refine ⟨fun hp => ?_, fun hp => by simp [planT] at hp⟩
      simp only [planT, Bool.not_false, Bool.true_and, Bool.and_eq_true, Bool.not_eq_true'] at hp
      obtain ⟨⟨⟨h1, h2⟩, h3⟩, h5⟩ := hp
      obtain ⟨o, v, hi, hy, h'⟩ := h
      have hie : i ∉ esc := fun hm => by simp [hm] at h3
      refine wpL_pure hi (Region.noSelect_spec hs) (fun _ _ _ hc => hc.elim) hie l.len listed a w (Region.free_spec hi h1) (by simpa using h2) hy hT ((ih _ _ _ (fun hn => hT fun s hs' => ?_) h').1 h5)
      have hne : i ≠ s := fun e => hie (by rw [e]; exact hs')
      have := hn s hs'
      rw [Array.getD_eq_getD_getElem?, Array.getElem?_setIfInBounds_ne hne, ← Array.getD_eq_getD_getElem?] at this
      exact this
    | 0 =>
      have main : i < listed.size → planT ops esc false l (listed.setIfInBounds i true) = true → wpOp P ops (NoPanic Q) i (fun a' w' => (noEsc esc (listed.setIfInBounds i true) → T w') ∧ wpL P ops (NoPanic Q) T esc l.len (listed.setIfInBounds i true) a' w') a w := fun hlt hp => by
        have hS : ∀ w', (i ∈ esc ∨ T w') → noEsc esc (listed.setIfInBounds i true) → T w' := fun w' h1 hn => by
          rcases h1 with h1 | h1
          · have := hn i h1
            rw [Array.getD_eq_getD_getElem?, Array.getElem?_setIfInBounds_self_of_lt hlt] at this
            cases this
          · exact h1
        exact wpOp_mono (fun a' w' h' => ⟨hS w' h'.1, (ih _ _ _ (hS w' h'.1) h'.2).1 hp⟩) h
      refine ⟨fun hp => ?_, fun hp => ?_⟩
      · simp only [planT, Bool.false_or, Bool.and_eq_true, decide_eq_true_eq] at hp
        obtain ⟨⟨h1, h2⟩, h3⟩ := hp
        refine ⟨fun h0 => (by rw [h1] at h0; cases h0), fun j hj => ?_⟩
        rw [h1, List.mem_singleton] at hj
        subst hj
        exact main h2 h3
      · simp only [planT, Bool.true_or, Bool.true_and, Bool.and_eq_true, decide_eq_true_eq] at hp
        intro j hj
        rw [show j = i from List.mem_singleton.1 hj]
        exact main hp.1 hp.2
theorem wp_region_phase {id : Nat} {a : Act} {w : World} (hm : P.follows .mixedOrders = true) (l : PT) (esc : List Nat) (hc : (Region.noSelect ops && planT ops esc false l (Array.replicate ops.size false) && l.len == ops.size) = true) (hT : T w.drew)
    (h : dynL P ops (NoPanic Q) T esc l a w.drew) : (Code.region id ops true).wp P Q a w := by
  rw [Bool.and_eq_true, Bool.and_eq_true] at hc
  have hl : l.len = ops.size := eq_of_beq hc.2
  refine wp_region_noPanic (wp_region_any hm ?_)
  have := wpL_any _ _ _ _ ((dynL_sound hc.1.1 l (Array.replicate ops.size false) a w.drew (fun _ => hT) h).1 hc.1.2)
  rw [hl] at this
  exact this
end
end Go.Proofs.Ytconhpilbndpkaa.Vm
namespace Go.Proofs.Ytconhpilbndpkaa.Vm
open Go.RowKit
set_option linter.unusedVariables false

/-! ### the types of a program -/
def aggB (P : Program) (t : TypeId) : Option Bool := match P.underlying t with | some (.struct _) => some true | some (.array _ _) => none | some _ => some false | none => none
def fldB (P : Program) (f : Field) : Option (Nat × Bool × Nat) := match P.info? f.type, aggB P f.type with
  | some j, some g => (match Nat.blt 0 j.size with | true => some (f.offset, g, j.size) | false => none)
  | _, _ => none
def fldsB (P : Program) : List Field → Option (List (Nat × Bool × Nat))
  | [] => some []
  | f :: fs => match fldB P f, fldsB P fs with | some x, some l => some (x :: l) | _, _ => none
def isAggV : Value → Bool
  | .agg _ => true
  | _ => false
def mkTy (P : Program) (t : TypeId) : Option TyI := match P.info? t, P.underlying t with
  | some j, some d => (match j.zero, aggB P t with
    | some zv, some g => (match Nat.ble j.bytes 1048576 && (Nat.beq zv.cells.size j.size && (!g || isAggV zv)) with
      | true => (match d with
        | .struct fs => (match fldsB P fs.toList with
          | some l => some ⟨.oth, g, j.size, zv.cells.toList.map constT, l, 0⟩
          | none => none)
        | .slice e => some ⟨.sl, g, j.size, zv.cells.toList.map constT, [], e⟩
        | .string => some ⟨.str, g, j.size, zv.cells.toList.map constT, [], 0⟩
        | _ => some ⟨.oth, g, j.size, zv.cells.toList.map constT, [], 0⟩)
      | false => none)
    | _, _ => none)
  | _, _ => none
section
variable {P : Program}
theorem aggB_ok {t : TypeId} {g : Bool} (h : aggB P t = some g) (w : World) : (isAgg t).run P w = .ok g w := by
  unfold aggB at h
  split at h
  · rename_i fs he; injection h with h; subst h; simp [isAgg, run_underlying he]
  · cases h
  · rename_i d hd1 hd2 he; injection h with h; subst h
    have he' := run_underlying (P := P) (w := w) he
    cases d <;> first | exact absurd rfl (hd1 _) | exact absurd rfl (hd2 _ _) | simp [isAgg, he']
  · cases h
theorem fldsB_ok : ∀ (fs : List Field) (l : List (Nat × Bool × Nat)), fldsB P fs = some l → l.length = fs.length ∧ ∀ (f : Nat) p, l[f]? = some p → ∃ fd, fs[f]? = some fd ∧ fd.offset = p.1 ∧ (∀ w, (isAgg fd.type).run P w = .ok p.2.1 w) ∧ (∀ w, (sizeOf fd.type).run P w = .ok p.2.2 w) ∧ 0 < p.2.2
  | [], l, h => by injection h with h; subst h; exact ⟨rfl, fun f p e => by simp at e⟩
  | fd :: fs, l, h => by
    unfold fldsB at h
    split at h
    · rename_i x l' hx hl
      injection h with h; subst h
      obtain ⟨k1, k2⟩ := fldsB_ok fs l' hl
      refine ⟨by simp [k1], fun f p e => ?_⟩
      cases f with
      | succ f => exact k2 f p (by simpa using e)
      | zero =>
        simp only [List.getElem?_cons_zero] at e
        injection e with e
        subst e
        unfold fldB at hx
        split at hx
        · rename_i j g hj hg
          split at hx
          · rename_i hp
            injection hx with hx
            subst hx
            exact ⟨fd, rfl, rfl, aggB_ok hg, fun w => by simp [sizeOf, typeInfo, hj], by simpa using hp⟩
          · cases hx
        · cases hx
    · cases h
theorem mkTy_ok {t : TypeId} {i : TyI} (h : mkTy P t = some i) : TyOk P t i := by
  unfold mkTy at h
  split at h
  · rename_i j d hj hd
    split at h
    · rename_i zv g hz hg
      split at h
      · rename_i hc
        simp only [Bool.and_eq_true] at hc
        obtain ⟨c1, c2, c3⟩ := hc
        have c1 := Nat.le_of_ble_eq_true c1
        have c2 := Nat.eq_of_beq_eq_true c2
        have hzr : ∀ w, (zeroValue t).run P w = .ok zv w := fun w => by simp [zeroValue, typeInfo, hj, hz]
        have hza : g = true → ∃ a, zv = .agg a := fun e => by
          subst e
          cases zv <;> first | exact ⟨_, rfl⟩ | cases c3
        have main : ∀ (k : TK) (fl : List (Nat × Bool × Nat)) (e : Nat), (g = true → ∃ fs, P.underlying t = some (.struct fs) ∧ fl.length = fs.size ∧ ∀ (f : Nat) p, fl[f]? = some p → ∃ fd, fs[f]? = some fd ∧ fd.offset = p.1 ∧ (∀ w, (isAgg fd.type).run P w = .ok p.2.1 w) ∧ (∀ w, (sizeOf fd.type).run P w = .ok p.2.2 w) ∧ 0 < p.2.2) →
            (g = false → fl = []) → (k = .sl → P.underlying t = some (.slice e)) → (k = .str → P.underlying t = some .string) → TyOk P t ⟨k, g, j.size, zv.cells.toList.map constT, fl, e⟩ := fun k fl e h1 h2 h3 h4 =>
          ⟨aggB_ok hg, h1, h2, by simp [hj], ⟨zv, hzr, hza, rfl, c2⟩, ⟨j, zv, hj, rfl, c1, hz, c2⟩, h3, h4⟩
        have hgd : g = true → ∃ fs, d = .struct fs := fun e => by
          subst e
          unfold aggB at hg
          rw [hd] at hg
          split at hg <;> first | (rename_i fs hh; injection hh with hh; exact ⟨_, hh⟩) | (injection hg with hg; cases hg) | cases hg
        split at h
        · rename_i fs
          split at h
          · rename_i l hl
            injection h with h; subst h
            obtain ⟨k1, k2⟩ := fldsB_ok _ _ hl
            refine main .oth l 0 (fun _ => ⟨fs, hd, by simpa using k1, fun f p e => by simpa using k2 f p e⟩) (fun e => ?_) (fun e => by cases e) (fun e => by cases e)
            subst e
            unfold aggB at hg
            rw [hd] at hg
            injection hg with hg; cases hg
          · cases h
        · injection h with h; subst h
          exact main .sl [] _ (fun e => by obtain ⟨fs, hh⟩ := hgd e; cases hh) (fun _ => rfl) (fun _ => hd) (fun e => by cases e)
        · injection h with h; subst h
          exact main .str [] _ (fun e => by obtain ⟨fs, hh⟩ := hgd e; cases hh) (fun _ => rfl) (fun e => by cases e) (fun _ => hd)
        · rename_i h1 h2 h3
          injection h with h; subst h
          exact main .oth [] _ (fun e => by obtain ⟨fs, hh⟩ := hgd e; exact absurd hh (h1 fs)) (fun _ => rfl) (fun e => by cases e) (fun e => by cases e)
      · cases h
    · cases h
  · cases h
theorem TIok_of {ti : TI} (h : ∀ p ∈ ti, mkTy P p.1 = some p.2) : TIok P ti := fun t i e => by
  induction ti with
  | nil => cases e
  | cons p r ih =>
    unfold tget at e
    split at e
    · rename_i hb
      injection e with e; subst e
      have := h p List.mem_cons_self
      rw [Nat.eq_of_beq_eq_true hb] at this
      exact mkTy_ok this
    · exact ih (fun q hq => h q (List.mem_cons_of_mem _ hq)) e
end
end Go.Proofs.Ytconhpilbndpkaa.Vm
namespace Go.Proofs.Ytconhpilbndpkaa.Vm
open Go.RowKit
set_option linter.unusedVariables false

/-! ### operations that give a value whatever the world -/
def Val (X : Ctx) (a : Slots) (m : Mem) (o : Oper) (t : T) : Prop := ∀ (Z : Kn) (ρ : Rho) (nx : Nat) (act : Act) (w : World), Rel X Z ρ m nx w → RdS Z ρ a act.tmps → ∃ v, (∀ W, (execOp act.eval o).run X.P W = .ok (.value v) W) ∧ RdT Z ρ t v
section
variable {ti : TI} {X : Ctx} {z : ZO}
theorem W_val {o : Oper} {r all : List Oper} {ks : List K} {a : Slots} {m : Mem} {nx : Nat} {t : T} (hd : dstOk X.n o.dst = true) (hg : gd a all o.guard = .yes) (hv : Val X a m o t) (hw : W X ⟨.ops r all :: ks, put a o.dst t, m, nx⟩) : W X ⟨.ops (o :: r) all :: ks, a, m, nx⟩ := by
  refine W_op hg fun Z ρ act w H hS hn hdf K hK => ?_
  obtain ⟨v, h1, h2⟩ := hv Z ρ nx act w H hS
  obtain ⟨p1, p2, p3⟩ := put_rel (KLe.refl Z) (RLe.refl ρ) hS hn hd h2
  exact OpRes.wp (.inl (h1 w)) (hK _ _ (hw Z ρ _ w H p1 p2 (p3.trans hdf)))

/-! ### a region that draws its order -/
def KB (m0 : Mem) (ρ0 : Rho) (m : Mem) (ρ : Rho) : Prop := ∀ id o b, mget m0 id = some o → o.still = true → ρ0 id = some (.blk b) → (∃ o', mget m id = some o' ∧ o'.still = true) ∧ ρ id = some (.blk b)
structure DSt where
  l : PT
  a : Slots
  m : Mem
  nx : Nat
  st : Bool
def SubM (m0 m : Mem) : Prop := ∀ id o, mget m0 id = some o → mget m id = some o
theorem SubM.refl (m : Mem) : SubM m m := fun _ _ h => h
theorem Rel.sub {X : Ctx} {Z : Kn} {ρ : Rho} {m0 m : Mem} {nx : Nat} {w : World} (H : Rel X Z ρ m nx w) (h : SubM m0 m) : Rel X Z ρ m0 nx w :=
  ⟨H.below, H.kn, H.z0, H.kle, fun id o e => H.obj id o (h id o e), fun i j oi oj b ei ej => H.apart i j oi oj b (h _ _ ei) (h _ _ ej), H.fresh, H.kb, H.anch⟩
def D (X : Ctx) (ks : List K) (ops : List Oper) (esc : List Nat) (m0 : Mem) (s : DSt) : Prop :=
  ∀ Z0 ρ0 w0 Z ρ act w, Rel X Z ρ s.m s.nx w → RdS Z ρ s.a act.tmps → act.tmps.size = X.n → act.defers = [] → KLe Z0 Z → TW Z0 ρ0 m0 w0 w → KB m0 ρ0 s.m ρ → (s.st = true → Z0 = Z ∧ ρ0 = ρ ∧ SubM m0 s.m) →
    dynL X.P ops.toArray (NoPanic (SK X ks)) (TW Z0 ρ0 m0 w0) esc s.l act w
def memB (i : Nat) : List Nat → Bool
  | [] => false
  | j :: l => match Nat.beq i j with | true => true | false => memB i l
theorem memB_eq (i : Nat) : ∀ l, memB i l = true ↔ i ∈ l
  | [] => by simp [memB]
  | j :: l => by
    simp only [memB]
    cases hb : Nat.beq i j with
    | true => have := Nat.eq_of_beq_eq_true hb; subst this; simp
    | false =>
      have hne : i ≠ j := fun e => by subst e; simp at hb
      simp only [memB_eq i l, List.mem_cons, hne, false_or]
def okV : Nat → Bool → Bool → Bool
  | 0, _, _ => true
  | 1, st, _ => st
  | _ + 2, _, ld => !ld
def stepD (ti : TI) (z : ZO) (m0 : Mem) (n : Nat) (ops : List Oper) (esc : List Nat) (s : DSt) : Option DSt := match s.l with
  | .nil => none
  | .fork _ _ => none
  | .cons (k, i) r => match nth ops i with
    | none => none
    | some o => match dstOk n o.dst with
      | false => none
      | true => match gd s.a ops o.guard with
        | .yes => (match opT ti z (match k with | 1 => m0 | _ => s.m) s.nx s.a o.op with
          | .val t => (match okV k s.st (isLd o.op) with | true => some ⟨r, put s.a o.dst t, s.m, s.nx, s.st⟩ | false => none)
          | .new ob t => (match k with | 0 => some ⟨r, put s.a o.dst t, (s.nx, ob) :: s.m, s.nx + 1, false⟩ | _ => none)
          | _ => none)
        | .no => (match k with | 1 => none | _ => some ⟨r, put s.a o.dst (.tu []), s.m, s.nx, s.st⟩)
        | .stop => none
def runD (ti : TI) (z : ZO) (m0 : Mem) (n : Nat) (ops : List Oper) (esc : List Nat) : Nat → DSt → DSt
  | 0, s => s
  | k + 1, s => match stepD ti z m0 n ops esc s with | some s' => runD ti z m0 n ops esc k s' | none => s

theorem tw_keep {Z0 Z Z' : Kn} {ρ0 ρ : Rho} {m0 m : Mem} {nx : Nat} {w0 w w' : World} (H : Rel X Z ρ m nx w) (hT : TW Z0 ρ0 m0 w0 w) (hB : KB m0 ρ0 m ρ) (h0 : KLe Z0 Z) (h1 : KLe Z Z') (hk : KnOk Z' w')
    (hb : ∀ id o b, mget m id = some o → o.still = true → ρ id = some (.blk b) → w'.heap[b]? = w.heap[b]?) : TW Z0 ρ0 m0 w0 w' :=
  ⟨fun b o u e => hk b o u (h1 _ _ _ (h0 _ _ _ e)), fun id o b e1 es e2 => by
    obtain ⟨⟨o', k1, ks⟩, k2⟩ := hB id o b e1 es e2
    exact (hb id o' b k1 ks k2).trans (hT.2 id o b e1 es e2)⟩
theorem TW.two {Z : Kn} {ρ : Rho} {m : Mem} {w0 w W : World} (h : TW Z ρ m w0 w) (h2 : TW Z ρ m w0 W) : TW Z ρ m w W := ⟨h2.1, fun id o b e es eb => (h2.2 id o b e es eb).trans (h.2 id o b e es eb).symm⟩
theorem box_lt {Z : Kn} {ρ : Rho} {m : Mem} {nx : Nat} {w : World} (H : Rel X Z ρ m nx w) {id b : Nat} {o : Obj} (hm : mget m id = some o) (hi : ρ id = some (.blk b)) : id < nx ∧ b < w.heap.size := by
  obtain ⟨h1, h2⟩ := H.obj id o hm
  exact ⟨h1, (h2.blk ⟨_, hi, rfl⟩).2⟩

theorem stepD_sound (hti : TIok X.P ti) (hz : z = realZ) {ks : List K} {ops : List Oper} {esc : List Nat} {m0 : Mem} {s s' : DSt} (h : stepD ti z m0 X.n ops esc s = some s') (hd : D X ks ops esc m0 s') : D X ks ops esc m0 s := by
  obtain ⟨l, a, m, nx, st⟩ := s
  unfold stepD at h
  simp only at h
  split at h
  · cases h
  · cases h
  · rename_i k i r
    split at h
    · cases h
    · rename_i o ho
      rw [nth_eq] at ho
      have ho' : ops.toArray[i]? = some o := by simpa using ho
      split at h
      · cases h
      · rename_i hdst
        intro Z0 ρ0 w0 Z ρ act w H hS hn hdf hZ hT hB hst
        simp only at H hS hst hB
        split at h
        · rename_i hg
          have hwant : Region.wanted o (yielded ops.toArray act.tmps) = true := (gd_wanted hS).1 hg
          match k, h with
          | 1, h =>
            simp only at h
            split at h
            · rename_i t e
              split at h
              · rename_i hok
                injection h with h; subst h
                have hst1 : st = true := hok
                obtain ⟨rfl, rfl, hsub⟩ := hst hst1
                have hG := op_sound hti hz (H.sub hsub) hS o
                rw [e] at hG
                obtain ⟨v, h1, h2⟩ := hG
                obtain ⟨p1, p2, p3⟩ := put_rel (KLe.refl Z0) (RLe.refl ρ0) hS hn hdst h2
                exact dynL_take ho' hwant (fun W hW => h1 W fun _ => hT.two hW) (hd Z0 ρ0 w0 Z0 ρ0 _ w H p1 p2 (p3.trans hdf) hZ hT hB hst)
              · cases h
            · cases h
            · cases h
          | 0, h =>
            have hG := op_sound hti hz H hS o
            simp only at h
            split at h
            · rename_i t e
              rw [e] at hG
              obtain ⟨v, h1, h2⟩ := hG
              obtain ⟨p1, p2, p3⟩ := put_rel (KLe.refl Z) (RLe.refl ρ) hS hn hdst h2
              split at h
              · injection h with h; subst h
                exact dynL_act ho' hwant fun K hK => OpRes.wp (.inl (h1 w fun _ => H.tw)) (hK.out _ _ hT (hd Z0 ρ0 w0 Z ρ _ w H p1 p2 (p3.trans hdf) hZ hT hB hst))
              · cases h
            · rename_i ob t e
              rw [e] at hG
              obtain ⟨v, w', Z', ρ', h1, h2, h3, h4, h5, h6⟩ := hG
              obtain ⟨p1, p2, p3⟩ := put_rel h2 h3 hS hn hdst h6
              injection h with h; subst h
              refine dynL_act ho' hwant fun K hK => OpRes.wp h1 (hK.out _ _ (tw_keep H hT hB hZ h2 h5.kn fun id o b e1 es e2 => h4.block b (box_lt H e1 e2).2) ?_)
              refine hd Z0 ρ0 w0 Z' ρ' _ w' h5 p1 p2 (p3.trans hdf) (hZ.trans h2) (tw_keep H hT hB hZ h2 h5.kn fun id o b e1 es e2 => h4.block b (box_lt H e1 e2).2) (fun id o b e1 es e2 => ?_) (fun h => by cases h)
              obtain ⟨⟨o', k1, ks⟩, k2⟩ := hB id o b e1 es e2
              have hlt := (box_lt H k1 k2).1
              refine ⟨⟨o', ?_, ks⟩, ?_⟩
              · rw [mget_cons, if_neg (by simp only; omega)]; exact k1
              · have := h3 id; rw [k2] at this; exact this
            · cases h
          | k + 2, h =>
            have hG := op_sound hti hz H hS o
            simp only at h
            split at h
            · rename_i t e
              rw [e] at hG
              obtain ⟨v, h1, h2⟩ := hG
              obtain ⟨p1, p2, p3⟩ := put_rel (KLe.refl Z) (RLe.refl ρ) hS hn hdst h2
              split at h
              · rename_i hok
                injection h with h; subst h
                have hld : isLd o.op = false := by
                  have : (!isLd o.op) = true := hok
                  simpa using this
                exact ⟨o, v, ho', .inl ⟨hwant, fun W _ => h1 W (fun h => by rw [hld] at h; cases h)⟩, hd Z0 ρ0 w0 Z ρ _ w H p1 p2 (p3.trans hdf) hZ hT hB hst⟩
              · cases h
            · cases h
            · cases h
        · rename_i hg
          have hwant : Region.wanted o (yielded ops.toArray act.tmps) = false := (gd_wanted hS).2 hg
          obtain ⟨p1, p2, p3⟩ := put_rel (KLe.refl Z) (RLe.refl ρ) hS hn hdst (RdT.undef Z ρ)
          match k, h with
          | 0, h =>
            injection h with h; subst h
            exact wpOp_step ho' fun K hK => by
              rw [if_neg (by rw [hwant]; decide)]
              exact hK _ _ ⟨.inr hT, hd Z0 ρ0 w0 Z ρ _ w H p1 p2 (p3.trans hdf) hZ hT hB hst⟩
          | 1, h => cases h
          | k + 2, h =>
            injection h with h; subst h
            exact ⟨o, undef, ho', .inr ⟨hwant, rfl⟩, hd Z0 ρ0 w0 Z ρ _ w H p1 p2 (p3.trans hdf) hZ hT hB hst⟩
        · cases h
theorem D_run (hti : TIok X.P ti) (hz : z = realZ) (k : Nat) {ks : List K} {ops : List Oper} {esc : List Nat} {m0 : Mem} {s s' : DSt} (h : runD ti z m0 X.n ops esc k s = s') (hd : D X ks ops esc m0 s') : D X ks ops esc m0 s := by
  induction k generalizing s with
  | zero => have : s = s' := h; subst this; exact hd
  | succ k ih =>
    unfold runD at h
    split at h
    · rename_i s1 h1
      exact stepD_sound hti hz h1 (ih h)
    · have : s = s' := h; subst this; exact hd
theorem Rel.drew {Z : Kn} {ρ : Rho} {m : Mem} {nx : Nat} {w : World} (H : Rel X Z ρ m nx w) : Rel X Z ρ m nx w.drew := (H.step (Below.drew (Below.refl _ _)) (fun b o u e => H.kn b o u e) (fun _ _ _ => rfl)).2
/-- as W_drawT, where only the things M are read early -/
theorem W_drawTM (hm : X.P.follows .mixedOrders = true) {id : Nat} {ops : Array Oper} {ks : List K} {a : Slots} {m : Mem} {nx : Nat} (M : List Nat) (l : PT) (esc : List Nat) (hc : (Region.noSelect ops && planT ops esc false l (Array.replicate ops.size false) && l.len == ops.size) = true)
    (h : D X ks ops.toList esc (keepM M m) ⟨l, a, m, nx, true⟩) : W X ⟨.code (.region id ops true) :: ks, a, m, nx⟩ := by
  intro Z ρ act w H hS hn hd
  have H' := H.drew
  have hs : SubM (keepM M m) m := fun id o e => mget_keepM M m id o e
  refine wp_region_phase hm l esc (T := TW Z ρ (keepM M m) w.drew) hc (H'.sub hs).tw ?_
  have := h Z ρ w.drew Z ρ act w.drew H' hS hn hd (KLe.refl _) (H'.sub hs).tw (fun id o b e1 es e2 => ⟨⟨o, hs _ _ e1, es⟩, e2⟩) (fun _ => ⟨rfl, rfl, hs⟩)
  simpa using this
theorem W_drawT (hm : X.P.follows .mixedOrders = true) {id : Nat} {ops : Array Oper} {ks : List K} {a : Slots} {m : Mem} {nx : Nat} (l : PT) (esc : List Nat) (hc : (Region.noSelect ops && planT ops esc false l (Array.replicate ops.size false) && l.len == ops.size) = true)
    (h : D X ks ops.toList esc m ⟨l, a, m, nx, true⟩) : W X ⟨.code (.region id ops true) :: ks, a, m, nx⟩ := by
  intro Z ρ act w H hS hn hd
  have H' := H.drew
  refine wp_region_phase hm l esc (T := TW Z ρ m w.drew) hc H'.tw ?_
  have := h Z ρ w.drew Z ρ act w.drew H' hS hn hd (KLe.refl _) H'.tw (fun id o b e1 es e2 => ⟨⟨o, e1, es⟩, e2⟩) (fun _ => ⟨rfl, rfl, SubM.refl _⟩)
  simpa using this
theorem W_drawM (hm : X.P.follows .mixedOrders = true) {id : Nat} {ops : Array Oper} {ks : List K} {a : Slots} {m : Mem} {nx : Nat} (M : List Nat) (l : List (Nat × Nat)) (esc : List Nat) (hc : (Region.noSelect ops && planL ops esc l (Array.replicate ops.size false) && l.length == ops.size) = true)
    (h : D X ks ops.toList esc (keepM M m) ⟨PT.of l, a, m, nx, true⟩) : W X ⟨.code (.region id ops true) :: ks, a, m, nx⟩ :=
  W_drawTM hm M (PT.of l) esc (by rw [PT.of_len]; exact hc) h
theorem W_draw (hm : X.P.follows .mixedOrders = true) {id : Nat} {ops : Array Oper} {ks : List K} {a : Slots} {m : Mem} {nx : Nat} (l : List (Nat × Nat)) (esc : List Nat) (hc : (Region.noSelect ops && planL ops esc l (Array.replicate ops.size false) && l.length == ops.size) = true)
    (h : D X ks ops.toList esc m ⟨PT.of l, a, m, nx, true⟩) : W X ⟨.code (.region id ops true) :: ks, a, m, nx⟩ :=
  W_drawT hm (PT.of l) esc (by rw [PT.of_len]; exact hc) h
/-- the same, where what follows is shown once -/
theorem W_drawC (hm : X.P.follows .mixedOrders = true) {id : Nat} {ops : Array Oper} {ks : List K} {a : Slots} {m : Mem} {nx : Nat} (l : PT) (esc : List Nat) (hc : (Region.noSelect ops && planT ops esc false l (Array.replicate ops.size false) && l.len == ops.size) = true) (a1 : Slots) (m1 : Mem) (nx1 : Nat)
    (h : W X ⟨ks, a1, m1, nx1⟩ → D X ks ops.toList esc m ⟨l, a, m, nx, true⟩) (hf : W X ⟨ks, a1, m1, nx1⟩) : W X ⟨.code (.region id ops true) :: ks, a, m, nx⟩ := W_drawT hm l esc hc (h hf)
theorem D_fork {ks : List K} {ops : List Oper} {esc : List Nat} {m0 : Mem} {t u : PT} {a : Slots} {m : Mem} {nx : Nat} {st : Bool} (h1 : D X ks ops esc m0 ⟨t, a, m, nx, st⟩) (h2 : D X ks ops esc m0 ⟨u, a, m, nx, st⟩) : D X ks ops esc m0 ⟨.fork t u, a, m, nx, st⟩ :=
  fun Z0 ρ0 w0 Z ρ act w H hS hn hd hZ hT hB hst => ⟨h1 Z0 ρ0 w0 Z ρ act w H hS hn hd hZ hT hB hst, h2 Z0 ρ0 w0 Z ρ act w H hS hn hd hZ hT hB hst⟩
theorem D_done {ks : List K} {ops : List Oper} {esc : List Nat} {m0 : Mem} {a : Slots} {m : Mem} {nx : Nat} {st : Bool} (h : W X ⟨ks, a, m, nx⟩) : D X ks ops esc m0 ⟨.nil, a, m, nx, st⟩ :=
  fun Z0 ρ0 w0 Z ρ act w H hS hn hd _ _ _ _ => dynL_done (h Z ρ act w H hS hn hd)
/-- a value that does not depend on the world -/
theorem D_val {ks : List K} {ops : List Oper} {esc : List Nat} {m0 : Mem} {k i : Nat} {r : PT} {a : Slots} {m : Mem} {nx : Nat} {st : Bool} {o : Oper} {t : T} (ho : nth ops i = some o) (hd : dstOk X.n o.dst = true) (hg : gd a ops o.guard = .yes) (hv : Val X a m o t)
    (hw : D X ks ops esc m0 ⟨r, put a o.dst t, m, nx, st⟩) : D X ks ops esc m0 ⟨.cons (k, i) r, a, m, nx, st⟩ := by
  rw [nth_eq] at ho
  have ho' : ops.toArray[i]? = some o := by simpa using ho
  intro Z0 ρ0 w0 Z ρ act w H hS hn hdf hZ hT hB hst
  have hwant : Region.wanted o (yielded ops.toArray act.tmps) = true := (gd_wanted hS).1 hg
  obtain ⟨v, h1, h2⟩ := hv Z ρ nx act w H hS
  obtain ⟨p1, p2, p3⟩ := put_rel (KLe.refl Z) (RLe.refl ρ) hS hn hd h2
  have hnext := hw Z0 ρ0 w0 Z ρ _ w H p1 p2 (p3.trans hdf) hZ hT hB hst
  match k with
  | 0 => exact dynL_act ho' hwant fun K hK => OpRes.wp (.inl (h1 w)) (hK.out _ _ hT hnext)
  | 1 => exact dynL_take ho' hwant (fun W _ => h1 W) hnext
  | k + 2 => exact ⟨o, v, ho', .inl ⟨hwant, fun W _ => h1 W⟩, hnext⟩
theorem D_bool {ks : List K} {ops : List Oper} {esc : List Nat} {m0 : Mem} {l : PT} {a : Slots} {m : Mem} {nx : Nat} {st : Bool} (d : Nat) {e b : Bool} (hc : get a d = .q e) (he : e = b) (h : D X ks ops esc m0 ⟨l, set a d (.c (.b b)), m, nx, st⟩) : D X ks ops esc m0 ⟨l, a, m, nx, st⟩ := by
  intro Z0 ρ0 w0 Z ρ act w H hS hn hdf hZ hT hB hst
  refine h Z0 ρ0 w0 Z ρ act w H (fun k => ?_) hn hdf hZ hT hB hst
  rw [get_set]
  by_cases hk : d = k
  · subst hk he
    rw [if_pos rfl]
    have := hS d
    rw [hc] at this
    rw [this.qI]
    exact .c _ _ (.b _)
  · rw [if_neg hk]; exact hS k
/-- a call -/
theorem D_call {ks : List K} {ops : List Oper} {esc : List Nat} {m0 : Mem} {i : Nat} {r : PT} {a : Slots} {m : Mem} {nx : Nat} {st : Bool} {o : Oper} {f : FuncId} {args : List T} {R : T → Prop} (ho : nth ops i = some o) (hq : callQ X.n a ops o = some (f, args)) (hb : fnB X.P f = true) (hc : Ct X.P f args R)
    (hw : ∀ t, R t → D X ks ops esc m0 ⟨r, put a o.dst t, m, nx, false⟩) : D X ks ops esc m0 ⟨.cons (0, i) r, a, m, nx, st⟩ := by
  rw [nth_eq] at ho
  have ho' : ops.toArray[i]? = some o := by simpa using ho
  unfold callQ at hq
  split at hq
  · rename_i hd hg
    split at hq
    · rename_i fo xs tys hop
      split at hq
      · rename_i g us vs hfe
        split at hq
        · rename_i l1 l2 l3 e1 e2 e3
          injection hq with hq
          injection hq with q1 q2
          subst q1 q2
          intro Z0 ρ0 w0 Z ρ act w H hS hn hdf hZ hT hB hst
          have hwant : Region.wanted o (yielded ops.toArray act.tmps) = true := (gd_wanted hS).1 hg
          have hfv := evT_rel hS fo
          rw [hfe] at hfv
          obtain ⟨u, v, hv, k1, k2⟩ := hfv.fnI
          have k3 := pureTs_rel k1 e1
          have k4 := pureTs_rel (evTs_rel hS xs.toList) e2
          have k5 := pureTs_rel k2 e3
          unfold fnB at hb
          split at hb
          · rename_i fn hfn
            rw [Bool.and_eq_true] at hb
            have hnm : fn.name ≠ "runtime.NumGoroutine" := by simpa using hb.2
            refine dynL_act ho' hwant fun K hK => ?_
            unfold Oper.wp
            rw [fn_call hfn hb.1 hnm hop hv w]
            refine Calls.mono (hc w Z _ H.kn (k3.append (k4.append k5))) ?_
            rintro e w' ⟨v', t, Z', rfl, hR, hbe, hk, hz, ht⟩
            obtain ⟨hle, H'⟩ := H.step hbe hk hz
            have ht' : RdT Z' ρ t v' := ht.mono (KLe.refl _) (RLe.zero ρ)
            obtain ⟨p1, p2, p3⟩ := put_rel hle (RLe.refl ρ) hS hn hd ht'
            have hT' := tw_keep H hT hB hZ hle hk fun id o b e1 es e2 => hbe.block b (box_lt H e1 e2).2
            exact hK.out _ _ hT' (hw t hR Z0 ρ0 w0 Z' ρ _ w' H' p1 p2 (p3.trans hdf) (hZ.trans hle) hT' hB (fun h => by cases h))
          · cases hb
        · cases hq
      · cases hq
    · cases hq
  · cases hq
/-- values without memory -/
def isS : T → Bool
  | .c (.b _) => true
  | .c (.i _ _) => true
  | .c (.s _) => true
  | .q _ => true
  | _ => false
theorem RdT.scal {Z Z' : Kn} {ρ ρ' : Rho} {t : T} {v : Value} (h : RdT Z ρ t v) (hs : isS t = true) : RdT Z' ρ' t v := by
  cases h <;> first | (cases hs; done) | skip
  · rename_i x h
    cases h <;> first | (cases hs; done) | skip
    · exact .c _ _ (.b _)
    · exact .c _ _ (.i _ _)
    · exact .c _ _ (.s _)
  · exact .q _
/-- a call that gives a value without memory: what was read can be read on -/
theorem D_callS {ks : List K} {ops : List Oper} {esc : List Nat} {m0 : Mem} {i : Nat} {r : PT} {a : Slots} {m : Mem} {nx : Nat} {st : Bool} {o : Oper} {f : FuncId} {args : List T} {R : T → Prop} (ho : nth ops i = some o) (hq : callQ X.n a ops o = some (f, args)) (hb : fnB X.P f = true) (hc : Ct X.P f args R) (hsc : ∀ t, R t → isS t = true)
    (hw : ∀ t, R t → D X ks ops esc m0 ⟨r, put a o.dst t, m, nx, st⟩) : D X ks ops esc m0 ⟨.cons (0, i) r, a, m, nx, st⟩ := by
  rw [nth_eq] at ho
  have ho' : ops.toArray[i]? = some o := by simpa using ho
  unfold callQ at hq
  split at hq
  · rename_i hd hg
    split at hq
    · rename_i fo xs tys hop
      split at hq
      · rename_i g us vs hfe
        split at hq
        · rename_i l1 l2 l3 e1 e2 e3
          injection hq with hq
          injection hq with q1 q2
          subst q1 q2
          intro Z0 ρ0 w0 Z ρ act w H hS hn hdf hZ hT hB hst
          have hwant : Region.wanted o (yielded ops.toArray act.tmps) = true := (gd_wanted hS).1 hg
          have hfv := evT_rel hS fo
          rw [hfe] at hfv
          obtain ⟨u, v, hv, k1, k2⟩ := hfv.fnI
          have k3 := pureTs_rel k1 e1
          have k4 := pureTs_rel (evTs_rel hS xs.toList) e2
          have k5 := pureTs_rel k2 e3
          unfold fnB at hb
          split at hb
          · rename_i fn hfn
            rw [Bool.and_eq_true] at hb
            have hnm : fn.name ≠ "runtime.NumGoroutine" := by simpa using hb.2
            refine dynL_act ho' hwant fun K hK => ?_
            unfold Oper.wp
            rw [fn_call hfn hb.1 hnm hop hv w]
            refine Calls.mono (hc w Z _ H.kn (k3.append (k4.append k5))) ?_
            rintro e w' ⟨v', t, Z', rfl, hR, hbe, hk, hz, ht⟩
            have hk' : KnOk Z w' := fun b o u e => (hbe.cell (p := ⟨b, o, none⟩) (H.kn.lt e)).trans (H.kn b o u e)
            obtain ⟨hle, H'⟩ := H.step hbe hk' (fun _ _ _ => rfl)
            have ht' : RdT Z ρ t v' := ht.scal (hsc t hR)
            obtain ⟨p1, p2, p3⟩ := put_rel (KLe.refl Z) (RLe.refl ρ) hS hn hd ht'
            have hT' := tw_keep H hT hB hZ (KLe.refl Z) hk' fun id o b e1 es e2 => hbe.block b (box_lt H e1 e2).2
            exact hK.out _ _ hT' (hw t hR Z0 ρ0 w0 Z ρ _ w' H' p1 p2 (p3.trans hdf) hZ hT' hB hst)
          · cases hb
        · cases hq
      · cases hq
    · cases hq
  · cases hq
/-- an append -/
theorem D_app (hti : TIok X.P ti) {ks : List K} {ops : List Oper} {esc : List Nat} {m0 : Mem} {i : Nat} {r : PT} {a : Slots} {m : Mem} {nx : Nat} {st : Bool} {o : Oper} {id sz : Nat} {els ys : List (List C)} (ho : nth ops i = some o) (hq : appQ ti X.n a ops o = some (.sk id els, ys, sz)) (hm : mget m id = some (.tok sz els)) (hs : ∀ cs ∈ ys, cs.length = sz) (hl : els.length + ys.length ≤ 67108864)
    (hw : D X ks ops esc m0 ⟨r, put a o.dst (.sk id (els ++ ys)), mset m id (.tok sz (els ++ ys)), nx, false⟩) : D X ks ops esc m0 ⟨.cons (0, i) r, a, m, nx, st⟩ := by
  rw [nth_eq] at ho
  have ho' : ops.toArray[i]? = some o := by simpa using ho
  obtain ⟨hd, hg, hp, xo, yo, t, el, j, zv, hop, hx, hy, hu, hi, hz, hsz, hby, hzs⟩ := appQ_some hti hq
  intro Z0 ρ0 w0 Z ρ act w H hS hn hdf hZ hT hB hst
  have hwant : Region.wanted o (yielded ops.toArray act.tmps) = true := (gd_wanted hS).1 hg
  have hxr := evT_rel hS xo
  rw [hx] at hxr
  obtain ⟨_, u, n, hρ, hle, heq⟩ := hxr.skI
  obtain ⟨_, v0, k1, _⟩ := H.obj id _ hm
  have hn' : n = els.length ∧ u = v0 := by rw [hρ] at k1; injection k1 with k1; injection k1 with e1 e2; exact ⟨e2, e1⟩
  obtain ⟨rfl, rfl⟩ := hn'
  obtain ⟨v', w', Z', ρ', h1, h2, h3, h4, h5, h6⟩ := append_tok (ty0 := o.type) H hm hρ (elsOf_rel (evT_rel hS yo) hy) hs hp hu hi hz hsz hby hzs hl
  obtain ⟨p1, p2, p3⟩ := put_rel h2 h3 hS hn hd h5
  have hT' := tw_keep H hT hB hZ h2 h4.kn fun id' o b e1 es e2 => h6 b (box_lt H e1 e2).2 fun e => by
    have := H.apart id' id _ _ b e1 hm ⟨_, e2, rfl⟩ ⟨_, hρ, e⟩
    subst this
    rw [e1] at hm; injection hm with hm; subst hm; cases es
  refine dynL_act ho' hwant fun K hK => OpRes.wp (.inl (app_exec hop (heq rfl) rfl h1)) (hK.out _ _ hT' (hw Z0 ρ0 w0 Z' ρ' _ w' h4 p1 p2 (p3.trans hdf) (hZ.trans h2) hT' (fun id' o b e1 es e2 => ?_) (fun h => by cases h)))
  obtain ⟨⟨o', q1, qs⟩, q2⟩ := hB id' o b e1 es e2
  refine ⟨⟨o', ?_, qs⟩, by have := h3 id'; rw [q2] at this; exact this⟩
  rw [mget_set, if_neg (fun e => by subst e; rw [q1] at hm; injection hm with hm; subst hm; cases qs)]
  exact q1
theorem D_app0 (hti : TIok X.P ti) {ks : List K} {ops : List Oper} {esc : List Nat} {m0 : Mem} {i : Nat} {r : PT} {a : Slots} {m : Mem} {nx : Nat} {st : Bool} {o : Oper} {sz : Nat} {ys : List (List C)} (ho : nth ops i = some o) (hq : appQ ti X.n a ops o = some (.nil, ys, sz)) (hs : ∀ cs ∈ ys, cs.length = sz) (hl : ys.length ≤ 67108864)
    (hw : D X ks ops esc m0 ⟨r, put a o.dst (.sk nx ys), (nx, .tok sz ys) :: m, nx + 1, false⟩) : D X ks ops esc m0 ⟨.cons (0, i) r, a, m, nx, st⟩ := by
  rw [nth_eq] at ho
  have ho' : ops.toArray[i]? = some o := by simpa using ho
  obtain ⟨hd, hg, hp, xo, yo, t, el, j, zv, hop, hx, hy, hu, hi, hz, hsz, hby, hzs⟩ := appQ_some hti hq
  intro Z0 ρ0 w0 Z ρ act w H hS hn hdf hZ hT hB hst
  have hwant : Region.wanted o (yielded ops.toArray act.tmps) = true := (gd_wanted hS).1 hg
  have hxr := evT_rel hS xo
  rw [hx] at hxr
  have hxv := hxr.nilI
  obtain ⟨_, r1, H1⟩ := H.new (Z' := Z) (Below.refl _ _) H.kn (fun _ _ _ => rfl) (.tok (.slice none 0 0) 0) (.tok sz []) (fun b e => by cases e)
    ⟨_, updR_same _ _ _, .nl none 0 (Nat.zero_le _), .inl rfl⟩
  obtain ⟨v', w', Z', ρ', h1, h2, h3, h4, h5, h6⟩ := append_tok (ty0 := o.type) (els := []) H1 (by rw [mget_cons, if_pos rfl]) (updR_same _ _ _) (elsOf_rel (evT_rel hS yo) hy) hs hp hu hi hz hsz hby hzs (by simpa using hl)
  have em : mset ((nx, Obj.tok sz []) :: m) nx (.tok sz ([] ++ ys)) = (nx, .tok sz ys) :: m := by simp [mset]
  rw [em] at h4
  obtain ⟨p1, p2, p3⟩ := put_rel h2 (r1.trans h3) hS hn hd h5
  have hT' := tw_keep H hT hB hZ h2 h4.kn fun id' o b e1 es e2 => h6 b (box_lt H e1 e2).2 fun e => by cases e
  refine dynL_act ho' hwant fun K hK => OpRes.wp (.inl (app_exec hop hxv rfl h1)) (hK.out _ _ hT' (hw Z0 ρ0 w0 Z' ρ' _ w' h4 p1 p2 (p3.trans hdf) (hZ.trans h2) hT' (fun id' o b e1 es e2 => ?_) (fun h => by cases h)))
  obtain ⟨⟨o', q1, qs⟩, q2⟩ := hB id' o b e1 es e2
  have hlt : id' < nx := (box_lt H q1 q2).1
  refine ⟨⟨o', ?_, qs⟩, by have := (r1.trans h3) id'; rw [q2] at this; exact this⟩
  rw [mget_cons, if_neg (by simp only; omega)]
  exact q1
/-- the last operation: a store -/
theorem D_last (hti : TIok X.P ti) (hz : z = realZ) {ks : List K} {ops : List Oper} {esc : List Nat} {m0 : Mem} {i : Nat} {a : Slots} {m m' : Mem} {nx : Nat} {st : Bool} {o : Oper} {t : T} (ho : nth ops i = some o) (he : memB i esc = true) (hd : dstOk X.n o.dst = true) (hg : gd a ops o.guard = .yes) (hq : opT ti z m nx a o.op = .upd t m')
    (hw : W X ⟨ks, put a o.dst t, m', nx⟩) : D X ks ops esc m0 ⟨.cons (0, i) .nil, a, m, nx, st⟩ := by
  rw [nth_eq] at ho
  have ho' : ops.toArray[i]? = some o := by simpa using ho
  intro Z0 ρ0 w0 Z ρ act w H hS hn hdf hZ hT hB hst
  have hwant : Region.wanted o (yielded ops.toArray act.tmps) = true := (gd_wanted hS).1 hg
  have hG := op_sound hti hz H hS o
  rw [hq] at hG
  obtain ⟨v, w', h1, h2, h3⟩ := hG
  obtain ⟨p1, p2, p3⟩ := put_rel (KLe.refl Z) (RLe.refl ρ) hS hn hd h3
  exact dynL_last ho' ((memB_eq i esc).1 he) hwant fun K hK => OpRes.wp h1 (hK.out _ _ (dynL_done (hw Z ρ _ w' h2 p1 p2 (p3.trans hdf))))
end
end Go.Proofs.Ytconhpilbndpkaa.Vm
namespace Go.Proofs.Ytconhpilbndpkaa.Vm
open Go.RowKit
set_option linter.unusedVariables false

section
variable {ti : TI} {X : Ctx} {z : ZO}
def elemQ0 (ti : TI) (a : Slots) (o : Oper) : Option (List (List C) × Int × Nat) := match o.op with
  | .indexAddr t x i => (match tget ti t with
    | some ty => (match ty.kind, tget ti ty.elem, elsOf (evT a x), evT a i with
      | .sl, some e, some els, .c (.i _ j) => some (els, j, e.size)
      | _, _, _, _ => none)
    | none => none)
  | _ => none
def byteQ0 (ti : TI) (a : Slots) (o : Oper) : Option (List UInt8 × Int) := match o.op with
  | .index t x i => (match tget ti t with
    | some ty => (match ty.kind, evT a x, evT a i with
      | .str, .c (.s l), .c (.i _ j) => some (l, j)
      | _, _, _ => none)
    | none => none)
  | _ => none
theorem Val_elem (hti : TIok X.P ti) {o : Oper} {a : Slots} {m : Mem} {els : List (List C)} {idx : Int} {sz : Nat} {cells : List C} (hq : elemQ0 ti a o = some (els, idx, sz)) (j : Nat) (hj : idx = (j : Int)) (he : els[j]? = some cells) (hl : cells.length = sz) : Val X a m o (.pf cells) := by
  unfold elemQ0 at hq
  · split at hq
    · rename_i t x i ho
      split at hq
      · rename_i ty hty
        split at hq
        · rename_i e els' kk j' hkd hel hels hi
          injection hq with hq
          injection hq with q1 q2
          injection q2 with q2 q3
          subst q1 q2 q3
          intro Z ρ nx act w H hS
          have hx := elsOf_rel (evT_rel hS x) hels
          have hi' := (evT_rel hS i)
          rw [hi] at hi'
          have hiv := hi'.cI.intI
          have hu := (hti t ty hty).sl hkd
          have hs := (hti _ e hel).sz
          obtain ⟨A, cap, hv, hn1, hn2, hx⟩ := hx.slI
          have hlt : j < els'.length := (List.getElem?_eq_some_iff.1 he).1
          rcases hx with rfl | ⟨b, off, sz', u, rfl, hx1, hx2⟩
          · simp at he
          · have hsz : sz' = e.size := by rw [← hx1 j cells he, hl]
            subst hsz
            have hrun : ∀ w, (execOp act.eval o).run X.P w = .ok (.value (.pointer (some ⟨b, off + j * e.size, none⟩))) w := fun w => by
              obtain ⟨dst, op, ty', pos, after, guard⟩ := o
              simp only at ho
              subst ho
              rw [hj] at hiv
              have h0 : (0 : Int) ≤ (j : Int) := Int.natCast_nonneg j
              have h1' : (j : Int) < (els'.length : Int) := by omega
              simp [execOp, hv, hiv, Instr.indexAt, run_underlying hu, asIntOf, hlt, hs, Addr.add_mid]
            have ht : RdT Z ρ (.pf cells) (.pointer (some ⟨b, off + j * e.size, none⟩)) := .pf cells b _ (u j) (fun k c hk => (hx2 j cells k c he hk).1) (fun k c hk => (hx2 j cells k c he hk).2)
            exact ⟨_, hrun, ht⟩
        · cases hq
      · cases hq
    · cases hq
theorem Val_byte (hti : TIok X.P ti) {o : Oper} {a : Slots} {m : Mem} {l : List UInt8} {idx : Int} {b : UInt8} (hq : byteQ0 ti a o = some (l, idx)) (j : Nat) (hj : idx = (j : Int)) (he : l[j]? = some b) : Val X a m o (.c (.i .u8 (b.toNat : Int))) := by
  unfold byteQ0 at hq
  · split at hq
    · rename_i t x i ho
      split at hq
      · rename_i ty hty
        split at hq
        · rename_i l' k j' hkd hx hi
          injection hq with hq
          injection hq with q1 q2
          subst q1 q2
          intro Z ρ nx act w H hS
          have hx' := evT_rel hS x
          rw [hx] at hx'
          have hxv := hx'.cI.strI
          have hi' := (evT_rel hS i)
          rw [hi] at hi'
          have hiv := hi'.cI.intI
          have hu := (hti t ty hty).str hkd
          have hlt : j < l'.length := (List.getElem?_eq_some_iff.1 he).1
          have hrun : ∀ w, (execOp act.eval o).run X.P w = .ok (.value (.int .u8 (b.toNat : Int))) w := fun w => by
            obtain ⟨dst, op, ty', pos, after, guard⟩ := o
            simp only at ho
            subst ho
            rw [hj] at hiv
            have hlt' : j < (bs l').size := by simpa [bs, ByteArray.size] using hlt
            have hs' : (bs l')[j]? = some b := by
              rw [getElem?_pos (bs l') j hlt']
              have := (List.getElem?_eq_some_iff.1 he).2
              rw [← this]
              simp [ByteArray.getElem_eq_getElem_data, bs]
            have h0 : (0 : Int) ≤ (j : Int) := Int.natCast_nonneg j
            simp [execOp, hxv, hiv, Instr.index, run_underlying hu, asIntOf, h0, hs']
          exact ⟨_, hrun, .c _ _ (.i .u8 (b.toNat : Int))⟩
        · cases hq
      · cases hq
    · cases hq
/-- a nil slice in a box may be taken for a row of one's own -/
theorem W_ownB {ks : List K} {a : Slots} {m : Mem} {nx : Nat} (id off sz : Nat) {ts : List T} (hm : mget m id = some (.box ts)) (hc : nth ts off = some .nil) (h : W X ⟨ks, a, (nx, .tok sz []) :: mset m id (.box (putAt off [.sk nx []] ts)), nx + 1⟩) : W X ⟨ks, a, m, nx⟩ := by
  intro Z ρ act w H hS hn hd
  obtain ⟨_, r1, H1⟩ := H.new (Z' := Z) (Below.refl _ _) H.kn (fun _ _ _ => rfl) (.tok (.slice none 0 0) 0) (.tok sz []) (fun b e => by cases e)
    ⟨_, updR_same _ _ _, .nl none 0 (Nat.zero_le _), .inl rfl⟩
  have hid := (H.obj id _ hm).1
  rw [nth_eq] at hc
  have hlt := (List.getElem?_eq_some_iff.1 hc).1
  have hl : off + [T.sk nx []].length ≤ ts.length := by simp; omega
  refine h Z _ act w ⟨H1.below, H1.kn, H1.z0, H1.kle, fun j o e => ?_, fun i j oi oj b ei ej => ?_, H1.fresh, H1.kb, H1.anch⟩ (hS.mono (KLe.refl _) r1) hn hd
  · rw [mget_cons] at e
    by_cases hj : nx = j
    · rw [if_pos hj] at e
      exact H1.obj j o (by rw [mget_cons, if_pos hj]; exact e)
    · rw [if_neg hj, mget_set] at e
      by_cases hk : id = j
      · rw [if_pos hk] at e
        injection e with e; subst hk e
        obtain ⟨q1, b, vs, k1, k2, k3, k4, k5, k6⟩ := H1.obj id (.box ts) (by rw [mget_cons, if_neg hj]; exact hm)
        refine ⟨q1, b, vs, k1, k2, k3, ⟨by rw [putAt_length _ _ _ hl]; exact k4.1, fun i t v e1 e2 => ?_⟩, fun t ht => ?_, k6⟩
        · rw [putAt_get _ _ _ _ hl] at e1
          by_cases hc2 : off ≤ i ∧ i < off + [T.sk nx []].length
          · rw [if_pos hc2] at e1
            have : i = off := by simp at hc2; omega
            subst this
            simp at e1
            subst e1
            have := k4.2 i .nil v hc e2
            rw [this.nilI]
            exact .sk nx [] _ _ _ (.nl none 0 (Nat.zero_le _)) (updR_same _ _ _) (Nat.le_refl _) fun _ => rfl
          · rw [if_neg hc2] at e1
            exact k4.2 i t v e1 e2
        · obtain ⟨i, hi, rfl⟩ := List.getElem_of_mem ht
          have e1 := List.getElem?_eq_getElem hi
          rw [putAt_get _ _ _ _ hl] at e1
          by_cases hc2 : off ≤ i ∧ i < off + [T.sk nx []].length
          · rw [if_pos hc2] at e1
            have : i = off := by simp at hc2; omega
            subst this
            simp at e1
            rw [← e1]; rfl
          · rw [if_neg hc2] at e1; exact k5 _ (List.mem_of_getElem? e1)
      · rw [if_neg hk] at e
        exact H1.obj j o (by rw [mget_cons, if_neg hj]; exact e)
  · have back : ∀ i oi, mget ((nx, Obj.tok sz []) :: mset m id (.box (putAt off [.sk nx []] ts))) i = some oi → ∃ o, mget ((nx, Obj.tok sz []) :: m) i = some o := fun i oi e => by
      rw [mget_cons] at e ⊢
      by_cases hj : nx = i
      · rw [if_pos hj]; exact ⟨_, rfl⟩
      · rw [if_neg hj, mget_set] at e
        rw [if_neg hj]
        by_cases hk : id = i
        · subst hk; exact ⟨_, hm⟩
        · rw [if_neg hk] at e; exact ⟨_, e⟩
    obtain ⟨oi', ei'⟩ := back i oi ei
    obtain ⟨oj', ej'⟩ := back j oj ej
    exact H1.apart i j oi' oj' b ei' ej'
end
end Go.Proofs.Ytconhpilbndpkaa.Vm
namespace Go.Proofs.Ytconhpilbndpkaa.Vm
open Go.RowKit
set_option linter.unusedVariables false

/-! ### the letters' meaning -/
theorem zE : ∃ bi ci cs ln lns nt pk ng cv mx mn, (⟨bi, ci, cs, ln, lns, nt, pk, ng, cv, mx, mn⟩ : ZO) = realZ := ⟨_, _, _, _, _, _, _, _, _, _, _, rfl⟩
section
variable {bi : BinOp → IntKind → Int → Int → Int} {ci : BinOp → Int → Int → Bool} {cs : BinOp → List UInt8 → List UInt8 → Bool} {ln : List (List C) → Int} {lns : List UInt8 → Int} {nt : Bool → Bool} {pk : Bool → Bool → Bool → Bool} {ng cv : IntKind → Int → Int} {mx mn : Int → Int → Int}
variable (hz : (⟨bi, ci, cs, ln, lns, nt, pk, ng, cv, mx, mn⟩ : ZO) = realZ)
include hz
theorem z_add {x y : Int} (h1 : -9223372036854775808 ≤ x + y) (h2 : x + y ≤ 9223372036854775807) : bi .add .i64 x y = x + y := by
  have e : bi = realZ.bi := congrArg ZO.bi hz
  rw [e]
  exact IntWalk.i64_in (x + y) ⟨h1, h2⟩
theorem z_sub {x y : Int} (h1 : -9223372036854775808 ≤ x - y) (h2 : x - y ≤ 9223372036854775807) : bi .sub .i64 x y = x - y := by
  have e : bi = realZ.bi := congrArg ZO.bi hz
  rw [e]
  exact IntWalk.i64_in (x - y) ⟨h1, h2⟩
theorem z_mul {x y : Int} (h1 : -9223372036854775808 ≤ x * y) (h2 : x * y ≤ 9223372036854775807) : bi .mul .i64 x y = x * y := by
  have e : bi = realZ.bi := congrArg ZO.bi hz
  rw [e]
  exact IntWalk.i64_in (x * y) ⟨h1, h2⟩
theorem z_neg {x : Int} (h1 : -9223372036854775808 ≤ -x) (h2 : -x ≤ 9223372036854775807) : ng .i64 x = -x := by
  have e : ng = realZ.ng := congrArg ZO.ng hz
  rw [e]
  exact IntWalk.i64_in (-x) ⟨h1, h2⟩
theorem z_eql (x y : Int) : ci .eql x y = (x == y) := by rw [show ci = realZ.ci from congrArg ZO.ci hz]; rfl
theorem z_neq (x y : Int) : ci .neq x y = (x != y) := by rw [show ci = realZ.ci from congrArg ZO.ci hz]; rfl
theorem z_lss (x y : Int) : ci .lss x y = decide (x < y) := by rw [show ci = realZ.ci from congrArg ZO.ci hz]; rfl
theorem z_leq (x y : Int) : ci .leq x y = decide (x ≤ y) := by rw [show ci = realZ.ci from congrArg ZO.ci hz]; rfl
theorem z_gtr (x y : Int) : ci .gtr x y = decide (y < x) := by rw [show ci = realZ.ci from congrArg ZO.ci hz]; rfl
theorem z_geq (x y : Int) : ci .geq x y = decide (y ≤ x) := by rw [show ci = realZ.ci from congrArg ZO.ci hz]; rfl
theorem z_seq (x y : List UInt8) : cs .eql x y = (x == y) := by rw [show cs = realZ.cs from congrArg ZO.cs hz]; rfl
theorem z_sne (x y : List UInt8) : cs .neq x y = !(x == y) := by rw [show cs = realZ.cs from congrArg ZO.cs hz]; rfl
theorem z_len (l : List (List C)) : ln l = (l.length : Int) := by rw [show ln = realZ.ln from congrArg ZO.ln hz]; rfl
theorem z_lns (l : List UInt8) : lns l = (l.length : Int) := by rw [show lns = realZ.lns from congrArg ZO.lns hz]; rfl
theorem z_not (x : Bool) : nt x = !x := by rw [show nt = realZ.nt from congrArg ZO.nt hz]; rfl
theorem z_pick (c x y : Bool) : pk c x y = if c then x else y := by rw [show pk = realZ.pk from congrArg ZO.pk hz]; rfl
theorem z_max (x y : Int) : mx x y = if y > x then y else x := by rw [show mx = realZ.mx from congrArg ZO.mx hz]; rfl
theorem z_min (x y : Int) : mn x y = if y < x then y else x := by rw [show mn = realZ.mn from congrArg ZO.mn hz]; rfl
end
/-- hiding a term from the evaluation -/
theorem hide {α : Sort _} (x : α) : ∃ y, y = x := ⟨x, rfl⟩
end Go.Proofs.Ytconhpilbndpkaa.Vm
namespace Go.Proofs.Ytconhpilbndpkaa.Vm
open Go.RowKit
set_option linter.unusedVariables false

section
variable {ti : TI} {X : Ctx} {z : ZO}
/-! ### quotients, remainders -/
def divQ (a : Slots) (o : Oper) : Option (BinOp × Int × Int) := match o.op with
  | .binOp op _ x y _ => (match evT a x, evT a y with
    | .c (.i .i64 x), .c (.i .i64 y) => some (op, x, y)
    | _, _ => none)
  | _ => none
theorem divQ_some {a : Slots} {o : Oper} {op : BinOp} {x y : Int} (h : divQ a o = some (op, x, y)) : ∃ t t' xo yo, o.op = .binOp op t xo yo t' ∧ evT a xo = .c (.i .i64 x) ∧ evT a yo = .c (.i .i64 y) := by
  unfold divQ at h
  split at h
  · rename_i op' t xo yo t' ho
    split at h
    · rename_i x' y' h1 h2
      injection h with h
      injection h with e1 e2
      injection e2 with e2 e3
      subst e1 e2 e3
      exact ⟨t, t', xo, yo, ho, h1, h2⟩
    · cases h
  · cases h
theorem Val_bin {a : Slots} {m : Mem} {o : Oper} {op : BinOp} {x y r : Int} (hq : divQ a o = some (op, x, y)) (hr : ∀ (t : TypeId) (xo yo : Operand) (w : World), (do eqGuard op t xo yo (.int .i64 x) (.int .i64 y); binOp op t (.int .i64 x) (.int .i64 y) : Sem Value).run X.P w = .ok (.int .i64 r) w) : Val X a m o (.c (.i .i64 r)) := by
  intro Z ρ nx act w H hS
  obtain ⟨t, t', xo, yo, ho, h1, h2⟩ := divQ_some hq
  have hx := evT_rel hS xo
  rw [h1] at hx
  have hy := evT_rel hS yo
  rw [h2] at hy
  refine ⟨.int .i64 r, fun W => ?_, .c _ _ (.i _ _)⟩
  obtain ⟨dst, op', ty, pos, after, guard⟩ := o
  simp only at ho
  subst ho
  have e : execOp act.eval ⟨dst, .binOp op t xo yo t', ty, pos, after, guard⟩ = (do pure (.value (← (do eqGuard op t xo yo (act.eval xo) (act.eval yo); binOp op t (act.eval xo) (act.eval yo) : Sem Value)))) := rfl
  rw [e, Sem.run_bind, hx.cI.intI, hy.cI.intI, hr]
  rfl
theorem Val_quo {a : Slots} {m : Mem} {o : Oper} {x y r : Int} (hq : divQ a o = some (.quo, x, y)) (hy : y ≠ 0) (hr : r = x.tdiv y) (h1 : -9223372036854775808 ≤ r) (h2 : r ≤ 9223372036854775807) : Val X a m o (.c (.i .i64 r)) :=
  Val_bin hq fun t xo yo w => by
    have : IntKind.i64.wrap (x.tdiv y) = r := by rw [← hr]; exact IntWalk.i64_in r ⟨h1, h2⟩
    simp [eqGuard, binOp, Op.intDiv, hy, this]
theorem Val_rem {a : Slots} {m : Mem} {o : Oper} {x y r : Int} (hq : divQ a o = some (.rem, x, y)) (hy : y ≠ 0) (hr : r = x.tmod y) : Val X a m o (.c (.i .i64 r)) :=
  Val_bin hq fun t xo yo w => by simp [eqGuard, binOp, Op.intDiv, hy, hr]
theorem Val_shr {a : Slots} {m : Mem} {o : Oper} {x y r : Int} (hq : divQ a o = some (.shr, x, y)) (hy : 0 ≤ y) (hr : r = x.fdiv (2 ^ min y.toNat 64)) : Val X a m o (.c (.i .i64 r)) :=
  Val_bin hq fun t xo yo w => by
    have h0 : ¬ y < 0 := by omega
    have hb : IntKind.i64.bits = 64 := rfl
    simp [eqGuard, binOp, Op.shift, h0, hr, hb]
theorem Val_and {a : Slots} {m : Mem} {o : Oper} {x y : Int} (i j : Nat) (hq : divQ a o = some (.and, x, y)) (hx : x = i) (hy : y = j) (hi : i ≤ 4611686018427387903) (hj : j ≤ 4611686018427387903) : Val X a m o (.c (.i .i64 ((i &&& j : Nat) : Int))) :=
  Val_bin hq fun t xo yo w => by
    subst hx hy
    have e1 : (BitVec.ofInt 64 (i : Int)).toNat = i := by
      rw [BitVec.ofInt_natCast, BitVec.toNat_ofNat]
      exact Nat.mod_eq_of_lt (by omega)
    have e2 : (BitVec.ofInt 64 (j : Int)).toNat = j := by
      rw [BitVec.ofInt_natCast, BitVec.toNat_ofNat]
      exact Nat.mod_eq_of_lt (by omega)
    have hle : i &&& j ≤ i := Nat.and_le_left
    have e3 : IntKind.i64.wrap ((BitVec.ofInt 64 (i : Int) &&& BitVec.ofInt 64 (j : Int)).toNat : Int) = ((i &&& j : Nat) : Int) := by
      rw [BitVec.toNat_and, e1, e2]
      exact IntWalk.i64_in _ ⟨by omega, by omega⟩
    show Result.ok (Value.int .i64 (IntKind.i64.wrap ((BitVec.ofInt 64 (i : Int) &&& BitVec.ofInt 64 (j : Int)).toNat : Int))) w = _
    rw [e3]
end
end Go.Proofs.Ytconhpilbndpkaa.Vm
