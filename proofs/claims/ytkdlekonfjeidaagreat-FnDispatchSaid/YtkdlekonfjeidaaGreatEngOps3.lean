/-
  The machine's operations against the model's: comparisons of values.
-/
import Derived.Test.YtkdlekonfjeidaaGreatEngOps2
namespace Go.Proofs.YtkdlekonfjeidaaGreat.Eng
open Go.RowKit
set_option linter.unusedVariables false
section
variable {P : Program} {dst : Option Tmp} {ty : TypeId} {pos : String} {after : Array Edge} {guard : Option (Nat × Bool)}

theorem equal_bool {t : TypeId} (hu : P.underlying t = some .bool) (a b : Bool) (w : World) : (Op.equal t (.bool a) (.bool b)).run P w = .ok (a == b) w := by
  show (Op.equalIn (9999 + 1) t _ _).run P w = _
  rw [Op.equalIn]
  simp [run_underlying hu]
theorem equal_ptr_nn {t : TypeId} {e : TypeId} (hu : P.underlying t = some (.pointer e))  (w : World) : (Op.equal t (.pointer none) (.pointer none)).run P w = .ok true w := by
  show (Op.equalIn (9999 + 1) t _ _).run P w = _
  rw [Op.equalIn]
  simp [run_underlying hu]
theorem equal_ptr_ns {t : TypeId} {e : TypeId} (hu : P.underlying t = some (.pointer e)) (a : Addr) (w : World) : (Op.equal t (.pointer none) (.pointer (some a))).run P w = .ok false w := by
  show (Op.equalIn (9999 + 1) t _ _).run P w = _
  rw [Op.equalIn]
  simp [run_underlying hu]
theorem equal_ptr_sn {t : TypeId} {e : TypeId} (hu : P.underlying t = some (.pointer e)) (a : Addr) (w : World) : (Op.equal t (.pointer (some a)) (.pointer none)).run P w = .ok false w := by
  show (Op.equalIn (9999 + 1) t _ _).run P w = _
  rw [Op.equalIn]
  simp [run_underlying hu]
theorem equal_sl_nn {t : TypeId} {e : TypeId} (hu : P.underlying t = some (.slice e))  (w : World) : (Op.equal t (.slice none 0 0) (.slice none 0 0)).run P w = .ok true w := by
  show (Op.equalIn (9999 + 1) t _ _).run P w = _
  rw [Op.equalIn]
  simp [run_underlying hu]
theorem equal_sl_ns {t : TypeId} {e : TypeId} (hu : P.underlying t = some (.slice e)) (a : Addr) (n c : Nat) (w : World) : (Op.equal t (.slice none 0 0) (.slice (some a) n c)).run P w = .ok false w := by
  show (Op.equalIn (9999 + 1) t _ _).run P w = _
  rw [Op.equalIn]
  simp [run_underlying hu]
theorem equal_sl_sn {t : TypeId} {e : TypeId} (hu : P.underlying t = some (.slice e)) (a : Addr) (n c : Nat) (w : World) : (Op.equal t (.slice (some a) n c) (.slice none 0 0)).run P w = .ok false w := by
  show (Op.equalIn (9999 + 1) t _ _).run P w = _
  rw [Op.equalIn]
  simp [run_underlying hu]
theorem equal_map_nn {t : TypeId} {k e : TypeId} (hu : P.underlying t = some (.map k e))  (w : World) : (Op.equal t (.map none) (.map none)).run P w = .ok true w := by
  show (Op.equalIn (9999 + 1) t _ _).run P w = _
  rw [Op.equalIn]
  simp [run_underlying hu]
theorem equal_map_ns {t : TypeId} {k e : TypeId} (hu : P.underlying t = some (.map k e)) (r : Nat) (w : World) : (Op.equal t (.map none) (.map (some r))).run P w = .ok false w := by
  show (Op.equalIn (9999 + 1) t _ _).run P w = _
  rw [Op.equalIn]
  simp [run_underlying hu]
theorem equal_map_sn {t : TypeId} {k e : TypeId} (hu : P.underlying t = some (.map k e)) (r : Nat) (w : World) : (Op.equal t (.map (some r)) (.map none)).run P w = .ok false w := by
  show (Op.equalIn (9999 + 1) t _ _).run P w = _
  rw [Op.equalIn]
  simp [run_underlying hu]
theorem equal_fn_nn {t : TypeId} {p r : Array TypeId} {b : Bool} (hu : P.underlying t = some (.func p r b))  (w : World) : (Op.equal t .nilFunc .nilFunc).run P w = .ok true w := by
  show (Op.equalIn (9999 + 1) t _ _).run P w = _
  rw [Op.equalIn]
  simp [run_underlying hu]
theorem equal_fn_ns {t : TypeId} {p r : Array TypeId} {b : Bool} (hu : P.underlying t = some (.func p r b)) (f : Fn) (x y : Array Value) (w : World) : (Op.equal t .nilFunc (.func f x y)).run P w = .ok false w := by
  show (Op.equalIn (9999 + 1) t _ _).run P w = _
  rw [Op.equalIn]
  simp [run_underlying hu]
theorem equal_fn_sn {t : TypeId} {p r : Array TypeId} {b : Bool} (hu : P.underlying t = some (.func p r b)) (f : Fn) (x y : Array Value) (w : World) : (Op.equal t (.func f x y) .nilFunc).run P w = .ok false w := by
  show (Op.equalIn (9999 + 1) t _ _).run P w = _
  rw [Op.equalIn]
  simp [run_underlying hu]
theorem guard_plain {t : TypeId} (u v : Value) (hh : match u with | .nilIface => False | .agg _ => False | _ => True) (w : World) (op : BinOp) (xo yo : Operand) : (eqGuard op t xo yo u v).run P w = .ok () w := by
  have h : op = .eql ∨ op = .neq ∨ (match op with | .eql => false | .neq => false | _ => true) = true := by cases op <;> simp
  unfold eqGuard
  cases u <;> first | exact hh.elim | (cases op <;> simp)
theorem eqC_run {t : TypeId} {x y : CV} {r : Bool} (h : eqC P t x y = some r) {ρ : Rn} {u v : Value} (hx : VRel ρ x u) (hy : VRel ρ y v) (w : World) :
    (Op.equal t u v).run P w = .ok r w ∧ (∀ (op : BinOp) (xo yo : Operand), (eqGuard op t xo yo u v).run P w = .ok () w) ∧ (binOp .eql t u v = do pure (.bool (← Op.equal t u v))) ∧ (binOp .neq t u v = do pure (.bool (!(← Op.equal t u v)))) := by
  unfold eqC at h
  split at h
  · have hu : P.underlying t = some .bool := by
      have ht : eqW P t = .bool := by assumption
      unfold eqW at ht
      split at ht <;> first | exact (by assumption) | cases ht
    have hu := hu
    obtain rfl := hx.boolI
    obtain rfl := hy.boolI
    injection h with h; subst h
    exact ⟨equal_bool hu _ _ w, guard_plain _ _ trivial w, rfl, rfl⟩
  · have hu : ∃ e, P.underlying t = some (.pointer e) := by
      have ht : eqW P t = .ptr := by assumption
      unfold eqW at ht
      split at ht <;> first | exact ⟨_, by assumption⟩ | cases ht
    obtain ⟨e, hu⟩ := hu
    obtain rfl := hx.nilpI
    obtain rfl := hy.nilpI
    injection h with h; subst h
    exact ⟨equal_ptr_nn hu w, guard_plain _ _ trivial w, rfl, rfl⟩
  · have hu : ∃ e, P.underlying t = some (.pointer e) := by
      have ht : eqW P t = .ptr := by assumption
      unfold eqW at ht
      split at ht <;> first | exact ⟨_, by assumption⟩ | cases ht
    obtain ⟨e, hu⟩ := hu
    obtain rfl := hx.nilpI
    obtain ⟨ri, _, rfl⟩ := hy.ptrI
    injection h with h; subst h
    exact ⟨equal_ptr_ns hu _ w, guard_plain _ _ trivial w, rfl, rfl⟩
  · have hu : ∃ e, P.underlying t = some (.pointer e) := by
      have ht : eqW P t = .ptr := by assumption
      unfold eqW at ht
      split at ht <;> first | exact ⟨_, by assumption⟩ | cases ht
    obtain ⟨e, hu⟩ := hu
    obtain ⟨ri, _, rfl⟩ := hx.ptrI
    obtain rfl := hy.nilpI
    injection h with h; subst h
    exact ⟨equal_ptr_sn hu _ w, guard_plain _ _ trivial w, rfl, rfl⟩
  · have hu : ∃ e, P.underlying t = some (.slice e) := by
      have ht : eqW P t = .sl := by assumption
      unfold eqW at ht
      split at ht <;> first | exact ⟨_, by assumption⟩ | cases ht
    obtain ⟨e, hu⟩ := hu
    obtain rfl := hx.nilsI
    obtain rfl := hy.nilsI
    injection h with h; subst h
    exact ⟨equal_sl_nn hu w, guard_plain _ _ trivial w, rfl, rfl⟩
  · have hu : ∃ e, P.underlying t = some (.slice e) := by
      have ht : eqW P t = .sl := by assumption
      unfold eqW at ht
      split at ht <;> first | exact ⟨_, by assumption⟩ | cases ht
    obtain ⟨e, hu⟩ := hu
    obtain rfl := hx.nilsI
    obtain ⟨ri, a, cap, _, rfl, _⟩ := hy.slI
    injection h with h; subst h
    exact ⟨equal_sl_ns hu _ _ _ w, guard_plain _ _ trivial w, rfl, rfl⟩
  · have hu : ∃ e, P.underlying t = some (.slice e) := by
      have ht : eqW P t = .sl := by assumption
      unfold eqW at ht
      split at ht <;> first | exact ⟨_, by assumption⟩ | cases ht
    obtain ⟨e, hu⟩ := hu
    obtain ⟨ri, a, cap, _, rfl, _⟩ := hx.slI
    obtain rfl := hy.nilsI
    injection h with h; subst h
    exact ⟨equal_sl_sn hu _ _ _ w, guard_plain _ _ trivial w, rfl, rfl⟩
  · have hu : ∃ k e, P.underlying t = some (.map k e) := by
      have ht : eqW P t = .map := by assumption
      unfold eqW at ht
      split at ht <;> first | exact ⟨_, _, by assumption⟩ | cases ht
    obtain ⟨k, e, hu⟩ := hu
    obtain rfl := hx.nilmI
    obtain rfl := hy.nilmI
    injection h with h; subst h
    exact ⟨equal_map_nn hu w, guard_plain _ _ trivial w, rfl, rfl⟩
  · have hu : ∃ k e, P.underlying t = some (.map k e) := by
      have ht : eqW P t = .map := by assumption
      unfold eqW at ht
      split at ht <;> first | exact ⟨_, _, by assumption⟩ | cases ht
    obtain ⟨k, e, hu⟩ := hu
    obtain rfl := hx.nilmI
    obtain ⟨ri, _, rfl⟩ := hy.mapI
    injection h with h; subst h
    exact ⟨equal_map_ns hu _ w, guard_plain _ _ trivial w, rfl, rfl⟩
  · have hu : ∃ k e, P.underlying t = some (.map k e) := by
      have ht : eqW P t = .map := by assumption
      unfold eqW at ht
      split at ht <;> first | exact ⟨_, _, by assumption⟩ | cases ht
    obtain ⟨k, e, hu⟩ := hu
    obtain ⟨ri, _, rfl⟩ := hx.mapI
    obtain rfl := hy.nilmI
    injection h with h; subst h
    exact ⟨equal_map_sn hu _ w, guard_plain _ _ trivial w, rfl, rfl⟩
  · have hu : ∃ p r b, P.underlying t = some (.func p r b) := by
      have ht : eqW P t = .fn := by assumption
      unfold eqW at ht
      split at ht <;> first | exact ⟨_, _, _, by assumption⟩ | cases ht
    obtain ⟨p, r0, b, hu⟩ := hu
    obtain rfl := hx.nilfnI
    obtain rfl := hy.nilfnI
    injection h with h; subst h
    exact ⟨equal_fn_nn hu w, guard_plain _ _ trivial w, rfl, rfl⟩
  · have hu : ∃ p r b, P.underlying t = some (.func p r b) := by
      have ht : eqW P t = .fn := by assumption
      unfold eqW at ht
      split at ht <;> first | exact ⟨_, _, _, by assumption⟩ | cases ht
    obtain ⟨p, r0, b, hu⟩ := hu
    obtain rfl := hx.nilfnI
    obtain ⟨u1, v1, rfl, _⟩ := hy.fnI
    injection h with h; subst h
    exact ⟨equal_fn_ns hu _ _ _ w, guard_plain _ _ trivial w, rfl, rfl⟩
  · have hu : ∃ p r b, P.underlying t = some (.func p r b) := by
      have ht : eqW P t = .fn := by assumption
      unfold eqW at ht
      split at ht <;> first | exact ⟨_, _, _, by assumption⟩ | cases ht
    obtain ⟨p, r0, b, hu⟩ := hu
    obtain ⟨u1, v1, rfl, _⟩ := hx.fnI
    obtain rfl := hy.nilfnI
    injection h with h; subst h
    exact ⟨equal_fn_sn hu _ _ _ w, guard_plain _ _ trivial w, rfl, rfl⟩
  · cases h

/-! ### Structs of integers, strings and bools -/
theorem fkOf_agg {t : TypeId} {k : FK} (h : fkOf P t = some k) (w : World) : (isAgg t).run P w = .ok false w := by
  unfold fkOf at h
  split at h
  · rename_i hu; simp [isAgg, run_underlying hu]
  · rename_i hu; simp [isAgg, run_underlying hu]
  · rename_i hu; simp [isAgg, run_underlying hu]
  · cases h
theorem eq1_run {t : TypeId} {k : FK} (hk : fkOf P t = some k) {x y : CV} {r : Bool} (h : eq1 k x y = some r) {ρ : Rn} {u v : Value} (hx : VRel ρ x u) (hy : VRel ρ y v) (d : Nat) (w : World) : (Op.equalIn (d + 1) t u v).run P w = .ok r w := by
  unfold fkOf at hk
  rw [Op.equalIn]
  split at hk
  · rename_i k' hu
    injection hk with hk; subst hk
    cases x <;> first | (cases h; done) | skip
    cases y <;> first | (cases h; done) | skip
    rename_i j a k b
    obtain rfl := hx.intI
    obtain rfl := hy.intI
    have h' : cond (decide (j = k)) (some (ieq a b)) none = some r := h
    by_cases e : j = k
    · rw [decide_eq_true e, cond_true, ieq_eq] at h'
      injection h' with h'
      subst e h'
      simp [run_underlying hu]
      rfl
    · rw [decide_eq_false e, cond_false] at h'; cases h'
  · rename_i hu
    injection hk with hk; subst hk
    cases x <;> first | (cases h; done) | skip
    cases y <;> first | (cases h; done) | skip
    obtain ⟨s, rfl, rfl⟩ := hx.strI
    obtain ⟨s', rfl, rfl⟩ := hy.strI
    injection h with h
    rw [leqN_eq] at h
    simp only [toNat_inj] at h
    simp only [run_underlying hu, Sem.run_bind, Result.andThen_ok, Sem.run_pure]
    congr 1
    rw [← h, Bool.eq_iff_iff]
    cases s; cases s'
    rename_i d1 d2
    show (d1 == d2) = true ↔ _
    simp
  · rename_i hu
    injection hk with hk; subst hk
    cases x <;> first | (cases h; done) | skip
    cases y <;> first | (cases h; done) | skip
    obtain rfl := hx.boolI
    obtain rfl := hy.boolI
    injection h with h; subst h
    simp [run_underlying hu]
  · cases hk

theorem flat_loop (xs ys : Array Value) (ρ : Rn) (d : Nat) (w : World) : ∀ (l : List Field) (n : Nat) (ks : List FK) (cs ds : List CV) (r : Bool), flatL P l n = some ks → eqS ks cs ds = some r →
    (∀ (i : Nat) (c : CV), cs[i]? = some c → ∃ v, xs[n + i]? = some v ∧ VRel ρ c v) → (∀ (i : Nat) (c : CV), ds[i]? = some c → ∃ v, ys[n + i]? = some v ∧ VRel ρ c v) →
    (forIn (m := Sem) l ((none, ()) : Option Bool × Unit) fun f __s =>
            if f.name = "_" then pure (ForInStep.yield (none, ()))
            else do
              let __do_lift ← part f.type xs f.offset
              let __do_lift_1 ← part f.type ys f.offset
              let __do_lift ← Op.equalIn (d + 1) f.type __do_lift __do_lift_1
              if __do_lift = false then pure (ForInStep.done (some false, ())) else pure (ForInStep.yield (none, ()))).run P w = .ok (if r then none else some false, ()) w := by
  intro l
  induction l with
  | nil =>
    intro n ks cs ds r h1 h2 h3 h4
    injection h1 with h1; subst h1
    cases cs with
    | cons c cs => cases h2
    | nil => cases ds with
      | cons c ds => cases h2
      | nil => injection h2 with h2; subst h2; simp
  | cons f l ih =>
    intro n ks cs ds r h1 h2 h3 h4
    rw [flatL] at h1
    cases hb : (Nat.beq f.offset n && decide (f.name ≠ "_")) with
    | false => rw [hb] at h1; cases h1
    | true =>
      rw [hb, cond_true] at h1
      simp only [Bool.and_eq_true, decide_eq_true_eq] at hb
      have ho : f.offset = n := Nat.eq_of_beq_eq_true hb.1
      have hn : ¬ f.name = "_" := hb.2
      split at h1
      · rename_i k hk
        split at h1
        · rename_i m hm
          injection h1 with h1; subst h1
          cases cs with
          | nil => cases h2
          | cons c cs => cases ds with
            | nil => cases h2
            | cons c' ds =>
              have h2' : (oc (eq1 k c c') none fun r => bc r (eqS m cs ds) (some false)) = some r := h2
              obtain ⟨b, h5, h6⟩ := oc_inv h2'
              obtain ⟨v, g1, g2⟩ := h3 0 c rfl
              obtain ⟨v', g3, g4⟩ := h4 0 c' rfl
              have e1 := eq1_run hk h5 g2 g4 d w
              simp only [Nat.add_zero] at g1 g3
              have p1 : (part f.type xs f.offset).run P w = .ok v w := by rw [ho]; simp [part, fkOf_agg hk, g1]
              have p2 : (part f.type ys f.offset).run P w = .ok v' w := by rw [ho]; simp [part, fkOf_agg hk, g3]
              cases b with
              | true =>
                have := ih (n + 1) m cs ds r hm h6 (fun i c hc => by have := h3 (i + 1) c hc; rwa [show n + 1 + i = n + (i + 1) by omega]) (fun i c hc => by have := h4 (i + 1) c hc; rwa [show n + 1 + i = n + (i + 1) by omega])
                simp [hn, p1, p2, e1, this]
              | false =>
                injection h6 with h6; subst h6
                simp [hn, p1, p2, e1]
        · cases h1
      · cases h1
theorem flat_eq {t : TypeId} {ks : List FK} (ht : flatT P t = some ks) {cs ds : List CV} {r : Bool} (h : eqS ks cs ds = some r) {ρ : Rn} {xs ys : Array Value} (hx : VRels ρ cs xs.toList) (hy : VRels ρ ds ys.toList) (w : World) :
    (Op.equal t (.agg xs) (.agg ys)).run P w = .ok r w ∧ ∀ (op : BinOp) (xo yo : Operand), (eqGuard op t xo yo (.agg xs) (.agg ys)).run P w = .ok () w := by
  unfold flatT at ht
  split at ht
  · rename_i fs hu
    cases hb : (!P.stoodInHeld t && !P.eqGuardType P.depth t) with
    | false => rw [hb] at ht; cases ht
    | true =>
      rw [hb, cond_true] at ht
      simp only [Bool.and_eq_true, Bool.not_eq_true'] at hb
      constructor
      · show (Op.equalIn (9998 + 1 + 1) t _ _).run P w = _
        rw [Op.equalIn]
        have := flat_loop xs ys ρ 9998 w fs.toList 0 ks cs ds r ht h (fun i c hc => by obtain ⟨v, k1, k2⟩ := hx.at hc; exact ⟨v, by simpa using k1, k2⟩) (fun i c hc => by obtain ⟨v, k1, k2⟩ := hy.at hc; exact ⟨v, by simpa using k1, k2⟩)
        rw [Array.forIn_toList] at this
        simp [run_underlying hu, program, Sem.run, hb.1, this]
        cases r <;> simp
      · intro op xo yo
        cases op <;> simp [eqGuard, program, Sem.run, hb.2]
  · cases ht

theorem eqO_ok (op : BinOp) (t : TypeId) {r : Option Bool} {c : CV} (h : eqO op r = some c) {ρ : Rn} {u v : Value} (hr : ∀ b, r = some b → ∀ w : World, (Op.equal t u v).run P w = .ok b w ∧ (∀ (op : BinOp) (xo yo : Operand), (eqGuard op t xo yo u v).run P w = .ok () w) ∧ (binOp .eql t u v = do pure (.bool (← Op.equal t u v))) ∧ (binOp .neq t u v = do pure (.bool (!(← Op.equal t u v))))) : BinOk P op t u v ρ c := by
  intro xo yo w
  obtain ⟨b, h1, h2⟩ := oc_inv h
  obtain ⟨k1, k2, k3, k4⟩ := hr b h1 w
  cases op <;> first | (cases h2; done) | skip
  · exact ⟨.bool b, by rw [k3]; simp [k2, k1], boolO_rel h2⟩
  · exact ⟨.bool !b, by rw [k4]; simp [k2, k1], boolO_rel h2⟩
theorem binG_ok (op : BinOp) (t : TypeId) {x y c : CV} (h : binG P op t x y = some c) {ρ : Rn} {u v : Value} (hx : VRel ρ x u) (hy : VRel ρ y v) : BinOk P op t u v ρ c := by
  unfold binG at h
  split at h
  · rename_i k a k' b
    obtain rfl := hx.intI
    obtain rfl := hy.intI
    obtain ⟨e, h1⟩ := bc_inv h
    have := of_decide_eq_true e
    subst this
    exact binInt_ok op t k a b ρ h1
  · obtain ⟨s, rfl, h1⟩ := hx.strI
    obtain ⟨s', rfl, h2⟩ := hy.strI
    exact binStr_ok op t _ _ s s' h1 h2 ρ h
  · obtain ⟨xs, rfl, h1, _⟩ := hx.aggI
    obtain ⟨ys, rfl, h2, _⟩ := hy.aggI
    obtain ⟨ks, h3, h4⟩ := oc_inv h
    exact eqO_ok op t h4 (fun b hb w => let ⟨a1, a2⟩ := flat_eq h3 hb h1 h2 w; ⟨a1, a2, rfl, rfl⟩)
  · exact eqO_ok op t h (fun b hb w => eqC_run hb hx hy w)
theorem seB_eq : ∀ (a b : SE), seB a b = true → a = b := by
  intro a
  induction a with
  | len => intro b h; cases b with
    | len => rfl
    | op o e k => cases h
  | op o e k ih =>
    intro b h
    cases b with
    | len => cases h
    | op o' e' k' =>
      have h' : bc (decide (o = o')) (bc (ieq k k') (seB e e') false) false = true := h
      by_cases ho : o = o'
      · rw [decide_eq_true ho, bc_true, ieq_eq] at h'
        by_cases hk : k = k'
        · rw [decide_eq_true hk, bc_true] at h'
          rw [ho, hk, ih e' h']
        · rw [decide_eq_false hk] at h'; cases h'
      · rw [decide_eq_false ho] at h'; cases h'
theorem findE_some : ∀ (t : Tab) (e : SE) (n : Int), findE e t = some n → (e, n) ∈ t := by
  intro t
  induction t with
  | nil => intro e n h; cases h
  | cons p t ih =>
    intro e n h
    have h' : bc (seB p.1 e) (some p.2) (findE e t) = some n := h
    cases hb : seB p.1 e with
    | true =>
      rw [hb, bc_true] at h'
      injection h' with h'
      obtain ⟨p1, p2⟩ := p
      have := seB_eq p1 e hb
      simp only at this h'
      subst this h'
      simp
    | false =>
      rw [hb, bc_false] at h'
      exact List.mem_cons_of_mem _ (ih e n h')
theorem sym_ok (op : BinOp) (T : TypeId) {e : SE} {t : Tab} {y c : CV} (h : symC op e t y = some c) {ρ : Rn} {u v : Value} (hx : VRel ρ (.sym e t) u) (hy : VRel ρ y v) : BinOk P op T u v ρ c := by
  obtain ⟨j, k, rfl, h1⟩ := asInt_some h
  have hj : j = .i64 := by cases j <;> first | rfl | cases h1
  subst hj
  have h2 : symR op e t k = some c := h1
  have ev := hy.intI
  subst ev
  cases hx with
  | sym _ _ ri hρ ht a he =>
    intro xo yo w
    have hev : ∀ (o : BinOp) (r : Int), evalOp o a k = some r → evalE ri.b (.op o e k) = some r := fun o r hr => by
      show (evalE ri.b e).bind (fun a => evalOp o a k) = some r
      rw [he]
      exact hr
    have tab : ∀ (o : BinOp) (n r : Int), findE (.op o e k) t = some n → evalOp o a k = some r → n = r := fun o n r hf hr => by
      have h3 := ht _ (findE_some t _ n hf)
      have h4 : evalE ri.b (.op o e k) = some n := h3
      rw [hev o r hr] at h4
      injection h4 with h4
      exact h4.symm
    have num : ∀ (o : BinOp) (r : Int), evalOp o a k = some r → oc (findE (.op o e k) t) (some (CV.sym (.op o e k) t)) (fun n => some (.int .i64 n)) = some c → VRel ρ c (.int .i64 r) := fun o r hr hc => by
      cases hf : findE (.op o e k) t with
      | none =>
        rw [hf, oc_none] at hc
        injection hc with hc
        subst hc
        exact .sym _ t ri hρ ht r (hev o r hr)
      | some n =>
        rw [hf, oc_some] at hc
        injection hc with hc
        subst hc
        rw [tab o n r hf hr]
        exact .int _ _
    have cmp : ∀ (o : BinOp) (b : Bool), evalOp o a k = some (if b then 1 else 0) → (oc (findE (.op o e k) t) none fun n => bc (ieq n 1) (some (CV.bool true)) (bc (ieq n 0) (some (.bool false)) none)) = some c → VRel ρ c (.bool b) := fun o b hr hc => by
      obtain ⟨n, h3, h4⟩ := oc_inv hc
      have hn := tab o n _ h3 hr
      subst hn
      rw [ieq_eq, ieq_eq] at h4
      cases b with
      | true => injection h4 with h4; subst h4; exact .bool _
      | false => injection h4 with h4; subst h4; exact .bool _
    unfold symR symW at h2
    cases op <;> first | (cases h2; done) | skip
    case quo =>
      simp only at h2
      rw [ieq_eq] at h2
      by_cases hk : k = 0
      · rw [decide_eq_true hk] at h2; cases h2
      · rw [decide_eq_false hk, bc_false] at h2
        exact ⟨.int .i64 (IntKind.i64.wrap (a.tdiv k)), by simp [eqGuard, binOp, Op.intDiv, hk], num .quo _ rfl h2⟩
    case rem =>
      simp only at h2
      rw [ieq_eq] at h2
      by_cases hk : k = 0
      · rw [decide_eq_true hk] at h2; cases h2
      · rw [decide_eq_false hk, bc_false] at h2
        exact ⟨.int .i64 (a.tmod k), by simp [eqGuard, binOp, Op.intDiv, hk], num .rem _ rfl h2⟩
    case gtr => exact ⟨.bool (decide (k < a)), by simp [eqGuard, binOp, Op.intCmp], cmp .gtr (decide (k < a)) (by simp [evalOp]) h2⟩
    case eql => exact ⟨.bool (a == k), by simp [eqGuard, binOp, Op.intCmp], cmp .eql (a == k) (by simp [evalOp]) h2⟩
theorem intO_eq (k : IntKind) (n : Int) : intO k n = some (.int k n) := forceI_eq n _
theorem okN_eq (s : Nat) : okN s = intO .i64 (wrapF .i64 (.ofNat s)) := by
  have h1 : wrapF .i64 (.ofNat s) = cond (Nat.ble s 9223372036854775807) (.ofNat s) (IntKind.wrap .i64 (.ofNat s)) := rfl
  have h2 : okN s = bc (Nat.ble s 9223372036854775807) (some (.int .i64 (.ofNat s))) (slowI (.ofNat s)) := by cases s <;> rfl
  rw [h2]
  cases hb : Nat.ble s 9223372036854775807 with
  | true => rw [h1, hb, cond_true, intO_eq]; rfl
  | false => rfl
theorem addI_eq (a b : Int) : addI a b = intO .i64 (wrapF .i64 (iadd a b)) := by
  cases a with
  | ofNat m => cases b with
    | ofNat n => exact okN_eq (Nat.add m n)
    | negSucc n => rfl
  | negSucc m => rfl
theorem mulI_eq (a b : Int) : mulI a b = intO .i64 (wrapF .i64 (Int.mul a b)) := by
  cases a with
  | ofNat m => cases b with
    | ofNat n => exact okN_eq (Nat.mul m n)
    | negSucc n => rfl
  | negSucc m => rfl
theorem subI_eq (a b : Int) : subI a b = intO .i64 (wrapF .i64 (Int.sub a b)) := by
  cases a with
  | ofNat m => cases b with
    | ofNat n =>
      show bc (Nat.ble n m) (okN (Nat.sub m n)) (slowI (Int.sub (.ofNat m) (.ofNat n))) = _
      cases hb : Nat.ble n m with
      | false => rfl
      | true =>
        rw [bc_true, okN_eq]
        have h := Nat.le_of_ble_eq_true hb
        have : Int.sub (.ofNat m) (.ofNat n) = .ofNat (Nat.sub m n) := (Int.ofNat_sub h).symm
        rw [this]
    | negSucc n => rfl
  | negSucc m => rfl
theorem eqI_eq (t f : Option CV) (a b : Int) : eqI t f a b = bc (ieq a b) t f := by
  cases a with
  | ofNat m => cases b with
    | ofNat n => rfl
    | negSucc n => rfl
  | negSucc m => cases b with
    | ofNat n => rfl
    | negSucc n => rfl
theorem ltI_eq (t f : Option CV) (a b : Int) : ltI t f a b = bc (ilt a b) t f := by
  cases a with
  | ofNat m => cases b with
    | ofNat n => rfl
    | negSucc n => rfl
  | negSucc m => cases b with
    | ofNat n => rfl
    | negSucc n => rfl
theorem boolO_bc (b : Bool) : boolO b = bc b tT tF := by cases b <;> rfl
theorem boolO_not (b : Bool) : boolO (!b) = bc b tF tT := by cases b <;> rfl
theorem binI_eq (op : BinOp) (a b : Int) : (BW.rec (motive := fun _ => Int → Int → Option CV) (fun f a b => f a b) (binI op) a b : Option CV) = BW.rec (motive := fun _ => Option CV) (fun f => f a b) (binInt op .i64) := by
  cases op with
  | add => exact addI_eq a b
  | sub => exact subI_eq a b
  | mul => exact mulI_eq a b
  | eql => exact (eqI_eq _ _ a b).trans (boolO_bc _).symm
  | neq => exact (eqI_eq _ _ a b).trans (boolO_not _).symm
  | lss => exact (ltI_eq _ _ a b).trans (boolO_bc _).symm
  | leq => exact (ltI_eq _ _ b a).trans (boolO_not _).symm
  | gtr => exact (ltI_eq _ _ b a).trans (boolO_bc _).symm
  | geq => exact (ltI_eq _ _ a b).trans (boolO_not _).symm
  | _ => rfl
theorem binC_eq (op : BinOp) (t : TypeId) (x y : CV) : binC P op t x y = binC0 P op t x y := by
  cases x with
  | int k a =>
    cases k <;> first | rfl | skip
    cases y with
    | int k' b =>
      cases k' <;> first | rfl | skip
      exact binI_eq op a b
    | _ => rfl
  | _ => rfl
theorem binC_ok (op : BinOp) (t : TypeId) {x y c : CV} (h0 : binC P op t x y = some c) {ρ : Rn} {u v : Value} (hx : VRel ρ x u) (hy : VRel ρ y v) : BinOk P op t u v ρ c := by
  have h : binC0 P op t x y = some c := (binC_eq op t x y).symm.trans h0
  cases x with
  | int k a =>
    refine binG_ok op t ?_ hx hy
    cases k with
    | i64 =>
      obtain ⟨k', b, rfl, h1⟩ := asInt_some (show asInt y (fun k' b => is64 k' (BW.rec (motive := fun _ => Option CV) (fun f => f a b) (binInt op .i64)) none) = some c from h)
      cases k' <;> first | exact h1 | cases h1
    | _ => exact h
  | any => cases h
  | slx tab => cases h
  | sym e tab => exact sym_ok op t h hx hy
  | bool b => exact binG_ok (P := P) op t (show binG P op t (.bool b) y = some c from h) hx hy
  | str l => exact binG_ok (P := P) op t (show binG P op t (.str l) y = some c from h) hx hy
  | nilp => exact binG_ok (P := P) op t (show binG P op t .nilp y = some c from h) hx hy
  | ptr i o => exact binG_ok (P := P) op t (show binG P op t (.ptr i o) y = some c from h) hx hy
  | nils => exact binG_ok (P := P) op t (show binG P op t .nils y = some c from h) hx hy
  | sl i o l s => exact binG_ok (P := P) op t (show binG P op t (.sl i o l s) y = some c from h) hx hy
  | nilm => exact binG_ok (P := P) op t (show binG P op t .nilm y = some c from h) hx hy
  | map i => exact binG_ok (P := P) op t (show binG P op t (.map i) y = some c from h) hx hy
  | nilfn => exact binG_ok (P := P) op t (show binG P op t .nilfn y = some c from h) hx hy
  | fn f l m => exact binG_ok (P := P) op t (show binG P op t (.fn f l m) y = some c from h) hx hy
  | agg l => exact binG_ok (P := P) op t (show binG P op t (.agg l) y = some c from h) hx hy
  | tup l => exact binG_ok (P := P) op t (show binG P op t (.tup l) y = some c from h) hx hy
theorem binOp_ok (op : BinOp) (t t' : TypeId) (x y : Operand) : PureOk P ⟨dst, .binOp op t x y t', ty, pos, after, guard⟩ (fun a => ev a x fun x => ev a y fun y => binC P op t x y) := by
  intro ρ a act c hT h w
  obtain ⟨c1, h1, r1⟩ := ev_some h
  obtain ⟨c2, h2, r2⟩ := ev_some h1
  obtain ⟨v, h3, h4⟩ := binC_ok op t h2 (r1 ρ act hT) (r2 ρ act hT) x y w
  refine ⟨v, ?_, h4⟩
  have e : execOp act.eval ⟨dst, .binOp op t x y t', ty, pos, after, guard⟩ = (do pure (.value (← (do eqGuard op t x y (act.eval x) (act.eval y); binOp op t (act.eval x) (act.eval y) : Sem Value)))) := rfl
  rw [e, Sem.run_bind, h3]
  rfl
end
end Go.Proofs.YtkdlekonfjeidaaGreat.Eng
