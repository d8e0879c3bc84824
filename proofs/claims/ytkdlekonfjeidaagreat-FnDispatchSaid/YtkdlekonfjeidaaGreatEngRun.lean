/-
  The machine's runs are the model's.
-/
import Derived.Test.YtkdlekonfjeidaaGreatEngFast
import Derived.LoopN
namespace Go.Proofs.YtkdlekonfjeidaaGreat.Eng
open Go.RowKit
set_option linter.unusedVariables false

/-! ### What the check of a program tells -/
theorem exc_bind {α β : Type} {x : Except String α} {f : α → Except String β} {r : β} (h : (x >>= f) = .ok r) : ∃ v, x = .ok v ∧ f v = .ok r := by
  cases x with
  | error e => cases h
  | ok v => exact ⟨v, rfl, h⟩
theorem exc_forM {α : Type} {f : α → Except String Unit} : ∀ {l : List α}, l.forM f = .ok () → ∀ a ∈ l, f a = .ok ()
  | [], _, a, ha => by cases ha
  | x :: l, h, a, ha => by
    obtain ⟨v, h1, h2⟩ := exc_bind (show (f x >>= fun _ => l.forM f) = .ok () from h)
    rcases List.mem_cons.1 ha with rfl | ha
    · exact h1
    · exact exc_forM h2 a ha
theorem exc_require {b : Bool} {s : String} {u : Unit} (h : CheckCode.require b s = .ok u) : b = true := by
  unfold CheckCode.require at h
  split at h
  · assumption
  · cases h
theorem exc_mapError {α : Type} {x : Except String α} {f : String → String} {r : α} (h : x.mapError f = .ok r) : x = .ok r := by
  cases x with
  | error e => cases h
  | ok v => exact h
theorem region_inv {P : Program} {fn : Func} {id : Nat} {ops : Array Oper} {draw : Bool} (h : CheckCode.region P fn id ops draw = .ok ()) : (∀ (i : Nat) (o : Oper) (d : Nat), ops[i]? = some o → o.dst = some d → d < fn.ntmps) ∧ RegOk ops := by
  unfold CheckCode.region at h
  obtain ⟨_, h1, h2⟩ := exc_bind h
  obtain ⟨_, h3, h4⟩ := exc_bind h2
  refine ⟨fun i o d ho hd => ?_, RegOk.of_ok (exc_require h4)⟩
  have := exc_forM h1 (o, i) (by rw [List.mem_zipIdx_iff_getElem?]; simpa using ho)
  simp only [hd] at this
  obtain ⟨_, h5, _⟩ := exc_bind this
  exact of_decide_eq_true (exc_require h5)
theorem func_inv {P : Program} {fn : Func} {c : Code} (h : CheckCode.func P fn = .ok ()) (hb : fn.body = some c) : CheckCode.code P fn [] [] c = .ok () := by
  unfold CheckCode.func at h
  obtain ⟨_, _, h⟩ := exc_bind h
  obtain ⟨_, _, h⟩ := exc_bind h
  obtain ⟨_, _, h⟩ := exc_bind h
  simp only [hb] at h
  obtain ⟨_, _, h⟩ := exc_bind h
  obtain ⟨_, h1, _⟩ := exc_bind h
  exact h1
theorem check_inv {P : Program} (h : P.check = .ok ()) {f : FuncId} {fn : Func} {c : Code} (hf : P.funcs[f]? = some fn) (hb : fn.body = some c) : CheckCode.code P fn [] [] c = .ok () := by
  unfold Program.check at h
  obtain ⟨_, h1, _⟩ := exc_bind h
  have := exc_forM h1 f (by simp; exact (Array.getElem?_eq_some_iff.1 hf).1)
  unfold CheckCode.funcAt at this
  rw [hf] at this
  exact func_inv (exc_mapError this) hb

def exitOf : MX → Exit
  | .normal => .normal
  | .exit id => .exit id
  | .ret => .ret
section
variable (P : Program)
def WPk (k : Nat) (c : Code) (Q : Exit → Act → World → Prop) (act : Act) (w : World) : Prop := match c with
  | .loop c => Code.rounds P c Q k act w
  | c => c.wp P Q act w
/-- what is known of a run of a piece of code -/
def CodeRun (n : Nat) (c : Code) (a : Tm) (h : Hp) (m : MX) (a' : Tm) (h' : Hp) : Prop := h.next ≤ h'.next ∧ ∃ k, ∀ (ρ : Rn) (B : Nat) (w : World) (act : Act), TRel ρ a act.tmps → act.tmps.size = n → HRel ρ h B w → B ≤ w.heap.size → Fresh ρ h.next h'.next →
  ∀ (Q : Exit → Act → World → Prop), (∀ act' w' ρ', TRel ρ' a' act'.tmps → act'.tmps.size = n → act'.defers = act.defers → HRel ρ' h' B w' → Step h.next h'.next ρ h w ρ' h' w' → Q (exitOf m) act' w') → WPk P k c Q act w
def CodeOk (r : R) : Prop := ∀ (fn : Func) (blocks labels : List Nat) (c : Code) (a : Tm) (h : Hp) (m : MX) (a' : Tm) (h' : Hp), fn.ntmps ≤ 512 → CheckCode.code P fn blocks labels c = .ok () → r.code c a h = some (m, a', h') → CodeRun P fn.ntmps c a h m a' h'
end
section
variable {P : Program}
theorem WPk.wp {k : Nat} {c : Code} {Q : Exit → Act → World → Prop} {act : Act} {w : World} (h : WPk P k c Q act w) : c.wp P Q act w := by
  unfold WPk at h
  split at h
  · exact wp_loop_rounds k h
  · exact h
theorem code_seq {fn : Func} {blocks labels : List Nat} {x y : Code} (h : CheckCode.code P fn blocks labels (.seq x y) = .ok ()) : CheckCode.code P fn blocks labels x = .ok () ∧ CheckCode.code P fn blocks labels y = .ok () := by
  rw [CheckCode.code] at h
  obtain ⟨u, h1, h2⟩ := exc_bind h
  exact ⟨h1, h2⟩
theorem code_cond {fn : Func} {blocks labels : List Nat} {c : Operand} {x y : Code} (h : CheckCode.code P fn blocks labels (.cond c x y) = .ok ()) : CheckCode.code P fn blocks labels x = .ok () ∧ CheckCode.code P fn blocks labels y = .ok () := by
  rw [CheckCode.code] at h
  obtain ⟨u, h1, h2⟩ := exc_bind h
  obtain ⟨u', h3, h4⟩ := exc_bind h2
  exact ⟨h3, h4⟩
/-- one piece of code behind another -/
theorem CodeRun.next {n : Nat} {x : Code} {a a1 a2 : Tm} {h h1 h2 : Hp} {m : MX} (hx : CodeRun P n x a h .normal a1 h1) {R : (Exit → Act → World → Prop) → Act → World → Prop}
    (hg : h1.next ≤ h2.next) (hy : ∀ (ρ : Rn) (B : Nat) (w : World) (act : Act), TRel ρ a1 act.tmps → act.tmps.size = n → HRel ρ h1 B w → B ≤ w.heap.size → Fresh ρ h1.next h2.next →
      ∀ (Q : Exit → Act → World → Prop), (∀ act' w' ρ', TRel ρ' a2 act'.tmps → act'.tmps.size = n → act'.defers = act.defers → HRel ρ' h2 B w' → Step h1.next h2.next ρ h1 w ρ' h2 w' → Q (exitOf m) act' w') → R Q act w) :
    h.next ≤ h2.next ∧ ∀ (ρ : Rn) (B : Nat) (w : World) (act : Act), TRel ρ a act.tmps → act.tmps.size = n → HRel ρ h B w → B ≤ w.heap.size → Fresh ρ h.next h2.next →
      ∀ (Q : Exit → Act → World → Prop), (∀ act' w' ρ', TRel ρ' a2 act'.tmps → act'.tmps.size = n → act'.defers = act.defers → HRel ρ' h2 B w' → Step h.next h2.next ρ h w ρ' h2 w' → Q (exitOf m) act' w') → x.wp P (Exit.then (R Q) Q) act w := by
  obtain ⟨g1, k, hx⟩ := hx
  refine ⟨Nat.le_trans g1 hg, fun ρ B w act hT hs H hB hF Q hQ => ?_⟩
  refine (hx ρ B w act hT hs H hB (hF.left hg) (Exit.then (R Q) Q) fun act1 w1 ρ1 t1 t2 t3 t4 t5 => ?_).wp
  show R Q act1 w1
  refine hy ρ1 B w1 act1 t1 t2 t4 (Nat.le_trans hB t5.size) (Fresh.right t5 g1 hF) Q fun act2 w2 ρ2 s1 s2 s3 s4 s5 => ?_
  exact hQ act2 w2 ρ2 s1 s2 (by rw [s3, t3]) s4 ((t5.widen (Nat.le_refl _) hg).trans (s5.widen g1 (Nat.le_refl _)))
theorem CodeRun.stop {n : Nat} {x : Code} {a a' : Tm} {h h' : Hp} {m : MX} (hm : m ≠ .normal) (hx : CodeRun P n x a h m a' h') (R : (Exit → Act → World → Prop) → Act → World → Prop) :
    ∀ (ρ : Rn) (B : Nat) (w : World) (act : Act), TRel ρ a act.tmps → act.tmps.size = n → HRel ρ h B w → B ≤ w.heap.size → Fresh ρ h.next h'.next →
      ∀ (Q : Exit → Act → World → Prop), (∀ act' w' ρ', TRel ρ' a' act'.tmps → act'.tmps.size = n → act'.defers = act.defers → HRel ρ' h' B w' → Step h.next h'.next ρ h w ρ' h' w' → Q (exitOf m) act' w') → x.wp P (Exit.then (R Q) Q) act w := by
  obtain ⟨g1, k, hx⟩ := hx
  intro ρ B w act hT hs H hB hF Q hQ
  refine (hx ρ B w act hT hs H hB hF (Exit.then (R Q) Q) fun act1 w1 ρ1 t1 t2 t3 t4 t5 => ?_).wp
  have := hQ act1 w1 ρ1 t1 t2 t3 t4 t5
  cases m with
  | normal => exact absurd rfl hm
  | exit id => exact this
  | ret => exact this
theorem mxK_inv {x : Option (MX × Tm × Hp)} {k : MX → Tm → Hp → Option (MX × Tm × Hp)} {b : MX × Tm × Hp} (e : mxK x k = some b) : ∃ m a h, x = some (m, a, h) ∧ k m a h = some b := by
  cases x with
  | none => cases e
  | some p => obtain ⟨m, a, h⟩ := p; exact ⟨m, a, h, rfl, e⟩
theorem seqK_inv {r : R} {y : Code} {x : Option (MX × Tm × Hp)} {m : MX} {a' : Tm} {h' : Hp} (e : seqK r y x = some (m, a', h')) : (∃ a1 h1, x = some (.normal, a1, h1) ∧ r.code y a1 h1 = some (m, a', h')) ∨ (m ≠ .normal ∧ x = some (m, a', h')) := by
  obtain ⟨m1, a1, h1, k1, k2⟩ := mxK_inv e
  cases m1 with
  | normal => exact .inl ⟨a1, h1, k1, k2⟩
  | exit i =>
    have k3 : some (MX.exit i, a1, h1) = some (m, a', h') := k2
    injection k3 with k3
    injection k3 with e1 e2
    injection e2 with e2 e3
    subst e1 e2 e3
    exact .inr ⟨by simp, k1⟩
  | ret =>
    have k3 : some (MX.ret, a1, h1) = some (m, a', h') := k2
    injection k3 with k3
    injection k3 with e1 e2
    injection e2 with e2 e3
    subst e1 e2 e3
    exact .inr ⟨by simp, k1⟩
theorem regW_seq {ops : Array Oper} (h : regW P ops = .seq) : lall (guard1 ops) ops.toList = true ∧ lall (fun o => plainO P o.op) ops.toList = true := by
  unfold regW at h
  cases h1 : lall (guard1 ops) ops.toList with
  | false => rw [h1] at h; cases h
  | true =>
    rw [h1, bc_true] at h
    cases h2 : lall (fun o => plainO P o.op) ops.toList with
    | false => rw [h2] at h; cases h
    | true => exact ⟨rfl, rfl⟩
theorem regW_draw {ops : Array Oper} {bl : List Nat} (h : regW P ops = .draw bl) : lall (guard1 ops) ops.toList = true ∧ bl = (CheckFast.beforeF ops).toList := by
  unfold regW at h
  cases h1 : lall (guard1 ops) ops.toList with
  | false => rw [h1] at h; cases h
  | true =>
    rw [h1, bc_true] at h
    cases h2 : lall (fun o => plainO P o.op) ops.toList with
    | false => rw [h2, bc_false] at h; injection h with h; exact ⟨rfl, h.symm⟩
    | true => rw [h2] at h; cases h
theorem beforeF_length (ops : Array Oper) : (CheckFast.beforeF ops).toList.length = ops.toList.length := by
  rw [CheckFast.beforeF_eq]
  obtain ⟨r, h1, h2, _⟩ := before_fold ops.toList #[]
  have hr : Region.before ops = r := by
    unfold Region.before
    rw [← Array.foldl_toList]
    exact h1
  rw [hr]
  simpa using h2
theorem regDraw_draw {r : R} {ops : Array Oper} {a : Tm} {h : Hp} {p : Tm × Hp} (e : regDraw P r ops a h = some p) : lall (guard1 ops) ops.toList = true ∧ drawR P r.fn ops ops.toList (CheckFast.beforeF ops).toList 0 a ⟨h, [], [], []⟩ = some p := by
  unfold regDraw at e
  cases hw : regW P ops with
  | bad => rw [hw] at e; cases e
  | seq =>
    rw [hw] at e
    obtain ⟨h1, h2⟩ := regW_seq hw
    have e' : opsF P r.fn ops a h = some p := e
    rw [opsF_eq] at e'
    exact ⟨h1, plain_draw ops _ _ _ _ _ _ _ h2 (Nat.le_of_eq (beforeF_length ops).symm) e'⟩
  | draw bl =>
    rw [hw] at e
    obtain ⟨h1, rfl⟩ := regW_draw hw
    exact ⟨h1, e⟩
/-- ONE STEP OF FUEL: code -/
theorem code_step {r : R} (hm : P.follows .mixedOrders = true) (hC : CallOk P r.fn) (hR : CodeOk P r) : CodeOk P ⟨stepCode P r, stepFn P r⟩ := by
  intro fn blocks labels c a h m a' h' hn hck e
  have e' : KW.rec (motive := fun _ => Option (MX × Tm × Hp)) (fun f => f r a h) (codeW P c) = some (m, a', h') := e
  clear e
  cases c with
  | skip =>
    injection e' with e'; injection e' with e1 e2; injection e2 with e2 e3; subst e1 e2 e3
    exact ⟨Nat.le_refl _, 0, fun ρ B w act hT hs H hB hF Q hQ => wp_skip (hQ act w ρ hT hs rfl H (Step.refl _ _ _ _ _))⟩
  | label l =>
    injection e' with e'; injection e' with e1 e2; injection e2 with e2 e3; subst e1 e2 e3
    exact ⟨Nat.le_refl _, 0, fun ρ B w act hT hs H hB hF Q hQ => wp_label (hQ act w ρ hT hs rfl H (Step.refl _ _ _ _ _))⟩
  | ret =>
    injection e' with e'; injection e' with e1 e2; injection e2 with e2 e3; subst e1 e2 e3
    exact ⟨Nat.le_refl _, 0, fun ρ B w act hT hs H hB hF Q hQ => wp_ret (hQ act w ρ hT hs rfl H (Step.refl _ _ _ _ _))⟩
  | exit id =>
    injection e' with e'; injection e' with e1 e2; injection e2 with e2 e3; subst e1 e2 e3
    exact ⟨Nat.le_refl _, 0, fun ρ B w act hT hs H hB hF Q hQ => wp_exit (hQ act w ρ hT hs rfl H (Step.refl _ _ _ _ _))⟩
  | region id ops draw =>
    obtain ⟨hdn, hok⟩ := region_inv (show CheckCode.region P fn id ops draw = .ok () from hck)
    cases draw with
    | false =>
      obtain ⟨p, k1, k2⟩ := oc_inv (show regO (opsR P r.fn ops ops.toList a h) = some (m, a', h') from (by rw [← opsF_eq]; exact e'))
      injection k2 with k2
      injection k2 with e1 e2
      subst e1 e2
      obtain ⟨g1, g2⟩ := opsR_sound hC ops fn.ntmps hn ops.toList a h a' h' k1 (fun o ho d hd => by
        obtain ⟨i, hi, rfl⟩ := List.getElem_of_mem ho
        exact hdn i _ d (by simp at hi ⊢) hd)
      exact ⟨g1, 0, fun ρ B w act hT hs H hB hF Q hQ => wp_region_list (g2 ρ B w act hT hs H hB hF Q hQ)⟩
    | true =>
      obtain ⟨p, k1, k2⟩ := oc_inv (show regO (regDraw P r ops a h) = some (m, a', h') from e')
      injection k2 with k2
      injection k2 with e1 e2
      subst e1 e2
      obtain ⟨k3, k4⟩ := regDraw_draw k1
      obtain ⟨g1, g2⟩ := draw_sound hC hok k3 hn hdn k4
      refine ⟨g1, 0, fun ρ B w act hT hs H hB hF Q hQ => wp_region_any hm (g2 ρ B { w with drawn := w.drawn + 1 } act hT hs (H.drew (w.drawn + 1)) hB hF Q fun act' w' ρ' t1 t2 t3 t4 t5 => hQ act' w' ρ' t1 t2 t3 t4 ((Step.drew (w.drawn + 1)).trans t5))⟩
  | seq x y =>
    obtain ⟨c1, c2⟩ := code_seq hck
    rcases seqK_inv (show seqK r y (r.code x a h) = some (m, a', h') from e') with ⟨a1, h1, k1, k2⟩ | ⟨k1, k2⟩
    · have hx := hR fn blocks labels x a h .normal a1 h1 hn c1 k1
      obtain ⟨gy, ky, hy⟩ := hR fn blocks labels y a1 h1 m a' h' hn c2 k2
      obtain ⟨g1, g2⟩ := hx.next (R := fun Q => y.wp P Q) gy (fun ρ B w act hT hs H hB hF Q hQ => (hy ρ B w act hT hs H hB hF Q hQ).wp)
      exact ⟨g1, 0, fun ρ B w act hT hs H hB hF Q hQ => wp_seq (g2 ρ B w act hT hs H hB hF Q hQ)⟩
    · have hx := hR fn blocks labels x a h m a' h' hn c1 k2
      exact ⟨hx.1, 0, fun ρ B w act hT hs H hB hF Q hQ => wp_seq (hx.stop k1 (fun Q => y.wp P Q) ρ B w act hT hs H hB hF Q hQ)⟩
  | cond c x y =>
    obtain ⟨c1, c2⟩ := code_cond hck
    obtain ⟨v, k1, k2⟩ := ev_some (show ev a c (fun c => asBool c (r.code x a h) (r.code y a h)) = some (m, a', h') from e')
    obtain ⟨b, rfl, k3⟩ := asBool_some k1
    cases b with
    | true =>
      rw [if_pos rfl] at k3
      obtain ⟨g1, k, g2⟩ := hR fn blocks labels x a h m a' h' hn c1 k3
      exact ⟨g1, 0, fun ρ B w act hT hs H hB hF Q hQ => wp_cond_true (k2 ρ act hT).boolI (g2 ρ B w act hT hs H hB hF Q hQ).wp⟩
    | false =>
      rw [if_neg (by simp)] at k3
      obtain ⟨g1, k, g2⟩ := hR fn blocks labels y a h m a' h' hn c2 k3
      exact ⟨g1, 0, fun ρ B w act hT hs H hB hF Q hQ => wp_cond_false (k2 ρ act hT).boolI (g2 ρ B w act hT hs H hB hF Q hQ).wp⟩
  | block id c =>
    have c1 : CheckCode.code P fn (id :: blocks) labels c = .ok () := hck
    obtain ⟨m1, a1, h1, k1, k2⟩ := mxK_inv (show blockK id (r.code c a h) = some (m, a', h') from e')
    obtain ⟨g1, k, g2⟩ := hR fn (id :: blocks) labels c a h m1 a1 h1 hn c1 k1
    cases m1 with
    | normal =>
      have k3 : some (MX.normal, a1, h1) = some (m, a', h') := k2
      injection k3 with k3; injection k3 with e1 e2; injection e2 with e2 e3; subst e1 e2 e3
      exact ⟨g1, 0, fun ρ B w act hT hs H hB hF Q hQ => wp_block (g2 ρ B w act hT hs H hB hF (Exit.inBlock id Q) hQ).wp⟩
    | ret =>
      have k3 : some (MX.ret, a1, h1) = some (m, a', h') := k2
      injection k3 with k3; injection k3 with e1 e2; injection e2 with e2 e3; subst e1 e2 e3
      exact ⟨g1, 0, fun ρ B w act hT hs H hB hF Q hQ => wp_block (g2 ρ B w act hT hs H hB hF (Exit.inBlock id Q) hQ).wp⟩
    | exit i =>
      have k3 : bc (Nat.beq i id) (some (MX.normal, a1, h1)) (some (MX.exit i, a1, h1)) = some (m, a', h') := k2
      cases hb : Nat.beq i id with
      | true =>
        rw [hb, bc_true] at k3
        injection k3 with k3; injection k3 with e1 e2; injection e2 with e2 e3; subst e1 e2 e3
        have e := Nat.eq_of_beq_eq_true hb
        refine ⟨g1, 0, fun ρ B w act hT hs H hB hF Q hQ => wp_block (g2 ρ B w act hT hs H hB hF (Exit.inBlock id Q) fun act' w' ρ' t1 t2 t3 t4 t5 => ?_).wp⟩
        show (if i = id then Q .normal act' w' else Q (.exit i) act' w')
        rw [if_pos e]
        exact hQ act' w' ρ' t1 t2 t3 t4 t5
      | false =>
        rw [hb, bc_false] at k3
        injection k3 with k3; injection k3 with e1 e2; injection e2 with e2 e3; subst e1 e2 e3
        have e : i ≠ id := fun e => by subst e; simp at hb
        refine ⟨g1, 0, fun ρ B w act hT hs H hB hF Q hQ => wp_block (g2 ρ B w act hT hs H hB hF (Exit.inBlock id Q) fun act' w' ρ' t1 t2 t3 t4 t5 => ?_).wp⟩
        show (if i = id then Q .normal act' w' else Q (.exit i) act' w')
        rw [if_neg e]
        exact hQ act' w' ρ' t1 t2 t3 t4 t5
  | loop c =>
    have c1 : CheckCode.code P fn blocks labels c = .ok () := hck
    rcases seqK_inv (show seqK r (.loop c) (r.code c a h) = some (m, a', h') from e') with ⟨a1, h1, k1, k2⟩ | ⟨k1, k2⟩
    · have hx := hR fn blocks labels c a h .normal a1 h1 hn c1 k1
      obtain ⟨gy, ky, hy⟩ := hR fn blocks labels (.loop c) a1 h1 m a' h' hn hck k2
      obtain ⟨g1, g2⟩ := hx.next (R := fun Q => Code.rounds P c Q ky) gy hy
      exact ⟨g1, ky + 1, fun ρ B w act hT hs H hB hF Q hQ => g2 ρ B w act hT hs H hB hF Q hQ⟩
    · have hx := hR fn blocks labels c a h m a' h' hn c1 k2
      exact ⟨hx.1, 1, fun ρ B w act hT hs H hB hF Q hQ => hx.stop k1 (fun Q => Code.rounds P c Q 0) ρ B w act hT hs H hB hF Q hQ⟩
  | rangeFunc f ps x y => cases e'
  | scope c => cases e'
  | goto l => cases e'
  | refuse s => cases e'

/-! ### Functions -/
theorem argsT_get : ∀ (l : List CV) (i : Nat) (a : Tm) (t : Nat), t < 512 → i + l.length ≤ 512 → TM.get (argsT l i a) t = if i ≤ t ∧ t < i + l.length then l.getD (t - i) undefC else TM.get a t := by
  intro l
  induction l with
  | nil => intro i a t ht hl; rw [if_neg (by simp)]; rfl
  | cons v l ih =>
    intro i a t ht hl
    have hl' : i + 1 + l.length ≤ 512 := by simp at hl; omega
    show TM.get (argsT l (i + 1) (TM.set a i v)) t = _
    rw [ih (i + 1) _ t ht hl', TM.get_set _ _ _ _ (by simp at hl; omega) ht]
    by_cases e : i = t
    · subst e
      rw [if_neg (by omega), if_pos rfl, if_pos (by simp)]
      simp
    · rw [if_neg e]
      by_cases hc : i + 1 ≤ t ∧ t < i + 1 + l.length
      · rw [if_pos hc, if_pos (by simp; omega)]
        have : t - i = (t - (i + 1)) + 1 := by omega
        rw [this]
        simp
      · rw [if_neg hc, if_neg (by simp; omega)]
theorem entry_rel {ρ : Rn} {args : List CV} {vs : List Value} (h : VRels ρ args vs) (n : Nat) (hn : n ≤ 512) (hl : args.length ≤ n) : TRel ρ (argsT args 0 TM3.z) (vs.toArray ++ Array.replicate (n - vs.toArray.size) undef) := by
  have hlen := h.1
  refine ⟨by simp; omega, fun t ht => ?_⟩
  rw [argsT_get args 0 TM3.z t ht (by omega), TM.get_z]
  rw [Array.getD_eq_getD_getElem?]
  by_cases hc : t < args.length
  · rw [if_pos ⟨Nat.zero_le _, by omega⟩]
    rw [Array.getElem?_append_left (by simp; omega)]
    have h1 : args[t]? = some args[t] := List.getElem?_eq_getElem hc
    obtain ⟨v, k1, k2⟩ := h.at h1
    have e1 : args.getD (t - 0) undefC = args[t] := by simp [hc]
    rw [e1]
    have e2 : vs.toArray[t]? = some v := by simpa using k1
    rw [e2]
    exact k2
  · rw [if_neg (by omega), Array.getElem?_append_right (by simp; omega)]
    cases hx : (Array.replicate (n - vs.toArray.size) undef)[t - vs.toArray.size]? with
    | none => exact undef_rel ρ
    | some v =>
      have := Array.getElem?_eq_some_iff.1 hx
      obtain ⟨_, h2⟩ := this
      simp at h2
      subst h2
      exact undef_rel ρ
def resS (tmps : Array Value) : ResultVar → Sem Value
  | .tmp t => pure (tmps.getD t undef)
  | .cell a t => do loadVar t (← asAddr (tmps.getD a undef))
theorem results_eq (fn : Func) (tmps : Array Value) : results fn tmps = (do let vs ← fn.results.mapM (resS tmps); pure (if h : vs.size = 1 then vs[0] else .tuple vs)) := by
  unfold results
  congr 1
theorem res_run {h : Hp} {a : Tm} {tmps : Array Value} {ρ : Rn} {B : Nat} {w : World} (hT : TRel ρ a tmps) (H : HRel ρ h B w) : ∀ (rs : List ResultVar) (l : List CV), lall resOk rs = true → lmapO (resC P h a) rs = some l →
    ∃ vs : List Value, (rs.mapM (resS tmps)).run P w = .ok vs w ∧ VRels ρ l vs := by
  intro rs
  induction rs with
  | nil => intro l _ e; injection e with e; subst e; exact ⟨[], by simp, .nil ρ⟩
  | cons x rs ih =>
    intro l hok e
    rw [lall_eq] at hok
    simp only [List.all_cons, Bool.and_eq_true] at hok
    rw [lmapO_cons] at e
    obtain ⟨c, h1, h2⟩ := oc_inv e
    obtain ⟨m, h3, h4⟩ := oc_inv h2
    injection h4 with h4; subst h4
    obtain ⟨vs, k1, k2⟩ := ih m (by rw [lall_eq]; exact hok.2) h3
    cases x with
    | tmp t =>
      injection h1 with h1
      subst h1
      have ht : t < 512 := Nat.lt_succ_of_le (Nat.le_of_ble_eq_true hok.1)
      refine ⟨tmps.getD t undef :: vs, ?_, .cons (hT.2 t ht) k2⟩
      rw [List.mapM_cons]
      simp only [resS, Sem.run_bind, Sem.run_pure, Result.andThen_ok, k1]
    | cell x t =>
      have hx : x < 512 := Nat.lt_succ_of_le (Nat.le_of_ble_eq_true hok.1)
      have hv := hT.2 x hx
      obtain ⟨v, g1, g2⟩ := load_run (show loadC P h t (TM.get a x) = some c from h1) H hv
      obtain ⟨id, off, e1, _⟩ := asPtr_some (show asPtr (TM.get a x) (fun id off => loadP P h t id off) = some c from h1)
      rw [e1] at hv
      obtain ⟨ri, _, e2⟩ := hv.ptrI
      rw [e2] at g1
      refine ⟨v :: vs, ?_, .cons g2 k2⟩
      rw [List.mapM_cons]
      have g1' : (loadVar t ⟨ri.b, off, none⟩).run P w = .ok v w := by
        simpa [Instr.loadAt, Instr.sureAddr] using g1
      have hx1 : (resS tmps (.cell x t)).run P w = .ok v w := by simp only [resS, e2, asAddr, Sem.run_bind, Sem.run_pure, Result.andThen_ok, g1']
      simp only [Sem.run_bind, Sem.run_pure, Result.andThen_ok, hx1, k1]
/-- ONE STEP OF FUEL: functions -/
theorem fn_step {r : R} (hP : P.check = .ok ()) (hnames : ∀ (f : FuncId) (fn : Func), P.funcs[f]? = some fn → fn.name ≠ "runtime.NumGoroutine") (hR : CodeOk P r) : CallOk P (stepFn P r) := by
  intro f args h c h' e
  unfold stepFn fnW at e
  simp only [lnth_arr] at e
  cases hf : P.funcs[f]? with
  | none => rw [hf] at e; cases e
  | some fn =>
    rw [hf] at e
    simp only at e
    cases hb : fn.body with
    | none => rw [hb] at e; cases e
    | some body =>
      rw [hb] at e
      simp only at e
      cases hc : (lall resOk fn.results.toList && Nat.ble fn.ntmps 512) with
      | false => rw [hc] at e; cases e
      | true =>
        rw [hc, bc_true] at e
        simp only [Bool.and_eq_true] at hc
        have hn : fn.ntmps ≤ 512 := Nat.le_of_ble_eq_true hc.2
        obtain ⟨h1, h2⟩ := bc_inv (show bc (Nat.ble (llen args) fn.ntmps) (fnK P fn.results.toList (r.code body (argsT args 0 TM3.z) h)) none = some (c, h') from e)
        rw [llen_eq] at h1
        have hl : args.length ≤ fn.ntmps := Nat.le_of_ble_eq_true h1
        obtain ⟨⟨m, a1, hh⟩, k1, k2⟩ := oc_inv h2
        have hck := check_inv hP hf hb
        obtain ⟨g1, k, g2⟩ := hR fn [] [] body _ h m a1 hh hn hck k1
        have hres : (m = .normal ∨ m = .ret) ∧ tupO hh (lmapO (resC P hh a1) fn.results.toList) = some (c, h') := by
          cases m with
          | normal => exact ⟨.inl rfl, k2⟩
          | exit i => cases k2
          | ret => exact ⟨.inr rfl, k2⟩
        obtain ⟨hm, hr⟩ := hres
        obtain ⟨l, k3, k4⟩ := oc_inv hr
        have hh' : hh = h' := by
          split at k4 <;> (injection k4 with k4; injection k4 with _ k5)
        subst hh'
        refine ⟨g1, ⟨fn, rfl, by rw [hb]; rfl, hnames f fn hf⟩, fun ρ B w vs H hB hF hv => ?_⟩
        refine calls_of_wp hf hb ?_
        have hvl := hv.1
        refine (g2 ρ B w _ (entry_rel hv fn.ntmps hn hl) (by simp; omega) H hB hF _ fun act' w' ρ' t1 t2 t3 t4 t5 => ?_).wp
        obtain ⟨us, u1, u2⟩ := res_run t1 t4 fn.results.toList l hc.1 k3
        have hresults : ∃ v, (results fn act'.tmps).run P w' = .ok v w' ∧ VRel ρ' c v := by
          have hmap : (fn.results.mapM (resS act'.tmps)).run P w' = .ok us.toArray w' := by
            rw [Array.mapM_eq_mapM_toList]
            simp only [Sem.run_map, u1, Result.andThen_ok]
          rw [results_eq]
          simp only [Sem.run_bind, hmap, Result.andThen_ok, Sem.run_pure]
          split at k4
          · rename_i v0
            injection k4 with k4; injection k4 with e1 _
            subst e1
            obtain ⟨v, vs', rfl, q1, q2⟩ := u2.uncons
            have := q2.unnil
            subst this
            exact ⟨v, by simp, q1⟩
          · rename_i l' hne
            injection k4 with k4; injection k4 with e1 _
            subst e1
            have hsz : ¬ us.toArray.size = 1 := by
              intro hs
              have : l.length = 1 := by rw [u2.1]; simpa using hs
              match l, this with
              | [v], _ => exact hne v rfl
            exact ⟨.tuple us.toArray, by simp only [dif_neg hsz], VRel.mkTup u2⟩
        obtain ⟨v, v1, v2⟩ := hresults
        have hfin : act'.defers = [] ∧ ∃ v, (results fn act'.tmps).run P w' = .ok v w' ∧ (∃ v' ρ'', Ending.returned v = .returned v' ∧ HRel ρ'' hh B w' ∧ Step h.next hh.next ρ h w ρ'' hh w' ∧ VRel ρ'' c v') := ⟨t3, v, v1, v, ρ', rfl, t4, t5, v2⟩
        rcases hm with rfl | rfl
        · exact hfin
        · exact hfin
/-- THE MACHINE IS SOUND -/
theorem RR_sound (hP : P.check = .ok ()) (hm : P.follows .mixedOrders = true) (hnames : ∀ (f : FuncId) (fn : Func), P.funcs[f]? = some fn → fn.name ≠ "runtime.NumGoroutine") : ∀ n, CallOk P (RR P n).fn ∧ CodeOk P (RR P n) := by
  intro n
  induction n with
  | zero => exact ⟨(fun f args h c h' e => by cases e), (fun fn blocks labels c a h m a' h' _ _ e => by cases e)⟩
  | succ n ih => exact ⟨fn_step hP hnames ih.2, code_step hm ih.1 ih.2⟩
end
end Go.Proofs.YtkdlekonfjeidaaGreat.Eng
