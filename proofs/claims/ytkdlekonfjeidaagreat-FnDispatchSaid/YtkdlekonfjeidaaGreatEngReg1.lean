/-
  Regions in the order of the text.
-/
import Derived.Test.YtkdlekonfjeidaaGreatEngOps9
namespace Go.Proofs.YtkdlekonfjeidaaGreat.Eng
open Go.RowKit
set_option linter.unusedVariables false

theorem putC_none (a : Tm) (v : CV) : putC a none v = a := rfl
theorem putK_some {β : Type} (a : Tm) (d : Nat) (v : CV) (k : Tm → β) : putK (some d) a v k = TM.setK a d v k := by
  show PW.rec (motive := fun _ => Tm → CV → (Tm → β) → β) (fun s a v k => s β v a k) (fun a _ k => k a) (match TMW.at d with | .mk _ s => .mk s) a v k = TMW.rec (motive := fun _ => TM0 → TM3 → (TM3 → β) → β) (fun _ s v t k => s β v t k) (TMW.at d) v a k
  cases TMW.at d
  rfl
theorem putC_some (a : Tm) (d : Nat) (v : CV) : putC a (some d) v = TM.set a d v := putK_some a d v _
theorem putK_eq {β : Type} (dst : Option Tmp) (a : Tm) (v : CV) (k : Tm → β) : putK dst a v k = k (putC a dst v) := by
  cases dst with
  | none => rfl
  | some d => rw [putK_some, putC_some, TM.setK_eq]
theorem TRel.put {ρ : Rn} {a : Tm} {act : Act} (h : TRel ρ a act.tmps) {dst : Option Tmp} (hd : ∀ d, dst = some d → d < act.tmps.size) {c : CV} {v : Value} (hv : VRel ρ c v) : TRel ρ (putC a dst c) (act.put dst v).tmps := by
  cases dst with
  | none => exact h
  | some d => rw [putC_some]; exact h.set (hd d rfl) hv
theorem size_put (act : Act) (dst : Option Tmp) (v : Value) : (act.put dst v).tmps.size = act.tmps.size := by
  cases dst <;> simp [Act.put]
theorem defers_put (act : Act) (dst : Option Tmp) (v : Value) : (act.put dst v).defers = act.defers := by
  cases dst <;> rfl

/-- an operation's guard -/
theorem wantK_some {β : Type} {ops : Array Oper} {a : Tm} {o : Oper} {t f : Option β} {r : β} (h : wantK ops a o t f = some r) {ρ : Rn} {x : Array Value} (hx : x.size ≤ 512)
    (hT : ∀ g want og d, o.guard = some (g, want) → ops[g]? = some og → og.dst = some d → d < 512 → VRel ρ (TM.get a d) (x.getD d undef)) :
    (Region.wanted o (yielded ops x) = true ∧ t = some r) ∨ (Region.wanted o (yielded ops x) = false ∧ f = some r) := by
  unfold wantK guardW at h
  simp only [lnth_arr] at h
  cases hg : o.guard with
  | none => rw [hg] at h; exact .inl ⟨by simp [Region.wanted, hg], h⟩
  | some p =>
    obtain ⟨g, want⟩ := p
    rw [hg] at h
    simp only at h
    have hw : Region.wanted o (yielded ops x) = (yielded ops x g == some want) := by simp [Region.wanted, hg]
    rw [hw]
    cases ho : ops[g]? with
    | none =>
      rw [ho] at h
      have : yielded ops x g = none := by simp [yielded, ho]
      rw [this]
      exact .inr ⟨by simp, h⟩
    | some og =>
      rw [ho] at h
      simp only at h
      cases hd : og.dst with
      | none =>
        rw [hd] at h
        have : yielded ops x g = none := by simp [yielded, ho, hd]
        rw [this]
        exact .inr ⟨by simp, h⟩
      | some d =>
        rw [hd] at h
        simp only at h
        have hb0 : ((ops[g]?).bind (·.dst)).bind (x[·]?) = x[d]? := by rw [ho]; simp [hd]
        have hy1 : ∀ b, x[d]? = some (.bool b) → yielded ops x g = some b := fun b hb => by unfold yielded; rw [hb0, hb]
        have hy0 : (∀ b, x[d]? ≠ some (.bool b)) → yielded ops x g = none := fun hb => by
          unfold yielded
          rw [hb0]
          cases hx : x[d]? with
          | none => rfl
          | some u => cases u <;> first | rfl | exact absurd hx (hb _)
        cases hb : Nat.ble d 511 with
        | false =>
          rw [hb, bc_false] at h
          have : ¬ d ≤ 511 := fun hle => by rw [Nat.ble_eq_true_of_le hle] at hb; cases hb
          have hn : x[d]? = none := Array.getElem?_eq_none (Nat.le_trans hx (Nat.lt_of_not_le this))
          rw [hy0 (fun b => by rw [hn]; simp)]
          exact .inr ⟨rfl, h⟩
        | true =>
          rw [hb, bc_true] at h
          have hlt : d < 512 := Nat.lt_succ_of_le (Nat.le_of_ble_eq_true hb)
          have hv := hT g want og d hg ho hd hlt
          have h' : isBK want (TM.get a d) t f = some r := h
          have hgetD : ∀ u, x[d]? = some u → x.getD d undef = u := fun u hu => by
            rw [Array.getD_eq_getD_getElem?, hu]; rfl
          generalize hc : TM.get a d = c at h' hv
          cases c with
          | any => cases h'
          | bool b =>
            have e := hv.boolI
            have hs : x[d]? = some (.bool b) := by
              cases hx : x[d]? with
              | none => rw [Array.getD_eq_getD_getElem?, hx] at e; cases e
              | some u => rw [hgetD u hx] at e; rw [e]
            rw [hy1 b hs]
            cases b <;> cases want <;> first | exact .inl ⟨rfl, h'⟩ | exact .inr ⟨rfl, h'⟩
          | _ =>
            refine .inr ⟨?_, h'⟩
            rw [hy0 (fun b hb => by rw [hgetD _ hb] at hv; cases hv)]
            rfl

section
variable {P : Program} {call : FuncId → List CV → Hp → Option (CV × Hp)}

theorem opRun_inv {β : Type} {o : Op} {a : Tm} {h : Hp} {k : CV → Hp → Option β} {r : β} (e : opRun P call o a h k = some r) : ∃ v h1, k v h1 = some r ∧
    ((∃ f, opW P o = .pure f ∧ f a = some v ∧ h1 = h) ∨ (∃ f, opW P o = .read f ∧ f a h = some v ∧ h1 = h) ∨ (∃ f n, opW P o = .new f ∧ f a = some n ∧ h.next < 32768 ∧ v = n.val h.next ∧ h1 = addN (h.setN (h.next + 1)) h.next n) ∨ effRun call (opW P o) a h = some (v, h1)) := by
  unfold opRun at e
  cases hw : opW P o with
  | pure f =>
    rw [hw] at e
    obtain ⟨v, h1, h2⟩ := oc_inv (show oc (f a) none (fun v => k v h) = some r from e)
    exact ⟨v, h, h2, .inl ⟨f, rfl, h1, rfl⟩⟩
  | read f =>
    rw [hw] at e
    obtain ⟨v, h1, h2⟩ := oc_inv (show oc (f a h) none (fun v => k v h) = some r from e)
    exact ⟨v, h, h2, .inr (.inl ⟨f, rfl, h1, rfl⟩)⟩
  | new f =>
    rw [hw] at e
    obtain ⟨n, h1, h2⟩ := oc_inv (show oc (f a) none (fun n => newN h n k) = some r from e)
    obtain ⟨h3, h4⟩ := newN_some h2
    exact ⟨_, _, h4, .inr (.inr (.inl ⟨f, n, rfl, h1, h3, rfl, rfl⟩))⟩
  | act f =>
    rw [hw] at e
    obtain ⟨p, h1, h2⟩ := oc_inv (show oc (f a h) none (fun p => pc p k) = some r from e)
    exact ⟨p.1, p.2, h2, .inr (.inr (.inr h1))⟩
  | call f =>
    rw [hw] at e
    obtain ⟨q, h1, h2⟩ := oc_inv (show oc (f a) none (fun p => oc (call p.1 p.2 h) none fun p => pc p k) = some r from e)
    obtain ⟨p, h3, h4⟩ := oc_inv h2
    refine ⟨p.1, p.2, h4, .inr (.inr (.inr ?_))⟩
    show (match f a with | some p => call p.1 p.2 h | none => none) = _
    rw [h1]
    exact h3
/-- what one operation leads to -/
def After (P : Program) (o : Oper) (h : Hp) (c : CV) (h' : Hp) (a : Tm) : Prop := h.next ≤ h'.next ∧
  ∀ (ρ : Rn) (B : Nat) (w : World) (act : Act), TRel ρ a act.tmps → HRel ρ h B w → B ≤ w.heap.size → Fresh ρ h.next h'.next →
    ∀ (K : Act → World → Prop) (Q : Exit → Act → World → Prop), (∀ v w' ρ', HRel ρ' h' B w' → Step h.next h'.next ρ h w ρ' h' w' → VRel ρ' c v → K (act.put o.dst v) w') → o.wp P act w K Q
theorem op_after (hC : CallOk P call) (o : Oper) {a : Tm} {h h1 : Hp} {v : CV}
    (e : (∃ f, opW P o.op = .pure f ∧ f a = some v ∧ h1 = h) ∨ (∃ f, opW P o.op = .read f ∧ f a h = some v ∧ h1 = h) ∨ (∃ f n, opW P o.op = .new f ∧ f a = some n ∧ h.next < 32768 ∧ v = n.val h.next ∧ h1 = addN (h.setN (h.next + 1)) h.next n) ∨ effRun call (opW P o.op) a h = some (v, h1)) : After P o h v h1 a := by
  have hok := opW_ok (P := P) o
  rcases e with ⟨f, h2, h3, rfl⟩ | ⟨f, h2, h3, rfl⟩ | ⟨f, n, h2, h3, h4, rfl, rfl⟩ | h2
  · rw [h2] at hok
    refine ⟨Nat.le_refl _, fun ρ B w act hT H hB hF K Q hK => ?_⟩
    obtain ⟨u, k1, k2⟩ := hok ρ a act v hT h3 w
    exact Res.wp (.inl k1) (hK u w ρ H (Step.refl _ _ _ _ _) k2)
  · rw [h2] at hok
    refine ⟨Nat.le_refl _, fun ρ B w act hT H hB hF K Q hK => ?_⟩
    obtain ⟨u, k1, k2⟩ := hok ρ a act v h1 B w hT H h3
    exact Res.wp (.inl k1) (hK u w ρ H (Step.refl _ _ _ _ _) k2)
  · rw [h2] at hok
    have hnx : (addN (h.setN (h.next + 1)) h.next n).next = h.next + 1 := by rw [addN_next]; rfl
    refine ⟨by rw [hnx]; exact Nat.le_succ _, fun ρ B w act hT H hB hF K Q hK => ?_⟩
    rw [hnx] at hF hK
    obtain ⟨u, w', tot, k1, k2, k3⟩ := hok ρ a act n hT h3 w
    obtain ⟨p1, p2⟩ := newN_rel H hB h4 (hF _ (Nat.le_refl _) (Nat.lt_succ_self _)) n tot k2
    exact Res.wp (.inl k1) (hK u w' _ p1 p2 (k3 _))
  · exact ⟨eff_grows hC o h2, fun ρ B w act hT H hB hF K Q hK => eff_sound hC o h2 hT H hB hF hK⟩

/-- REGIONS IN THE ORDER OF THE TEXT -/
theorem opsR_sound (hC : CallOk P call) (ops : Array Oper) (n : Nat) (hn : n ≤ 512) : ∀ (l : List Oper) (a : Tm) (h : Hp) (a' : Tm) (h' : Hp), opsR P call ops l a h = some (a', h') → (∀ o ∈ l, ∀ d, o.dst = some d → d < n) → h.next ≤ h'.next ∧
    ∀ (ρ : Rn) (B : Nat) (w : World) (act : Act), TRel ρ a act.tmps → act.tmps.size = n → HRel ρ h B w → B ≤ w.heap.size → Fresh ρ h.next h'.next →
      ∀ (Q : Exit → Act → World → Prop), (∀ act' w' ρ', TRel ρ' a' act'.tmps → act'.tmps.size = n → act'.defers = act.defers → HRel ρ' h' B w' → Step h.next h'.next ρ h w ρ' h' w' → Q .normal act' w') → wpList P ops Q l act w := by
  intro l
  induction l with
  | nil =>
    intro a h a' h' e hd
    injection e with e
    injection e with e1 e2
    subst e1 e2
    exact ⟨Nat.le_refl _, fun ρ B w act hT hs H hB hF Q hQ => hQ act w ρ hT hs rfl H (Step.refl _ _ _ _ _)⟩
  | cons o l ih =>
    intro a h a' h' e hd
    have e' : wantK ops a o (opRun P call o.op a h fun v h => putK o.dst a v fun a => opsR P call ops l a h) (putK o.dst a undefC fun a => opsR P call ops l a h) = some (a', h') := e
    have hdl : ∀ o ∈ l, ∀ d, o.dst = some d → d < n := fun o' ho' => hd o' (by simp [ho'])
    have hdo := hd o (by simp)
    have grow : h.next ≤ h'.next := by
      have hx : ∀ (t f : Option (Tm × Hp)), wantK ops a o t f = some (a', h') → t = some (a', h') ∨ f = some (a', h') := by
        intro t f hw
        unfold wantK at hw
        cases hgw : guardW ops o.guard with
        | none => rw [hgw] at hw; exact .inl hw
        | never => rw [hgw] at hw; exact .inr hw
        | some d want =>
          rw [hgw] at hw
          have hw' : isBK want (TM.get a d) t f = some (a', h') := hw
          generalize TM.get a d = c at hw'
          cases c with
          | bool b => cases b <;> cases want <;> first | exact .inl hw' | exact .inr hw'
          | any => cases hw'
          | _ => exact .inr hw'
      rcases hx _ _ e' with e1 | e1
      · obtain ⟨v, h1, h2, h3⟩ := opRun_inv e1
        rw [putK_eq] at h2
        exact Nat.le_trans (op_after hC o h3).1 (ih _ _ _ _ h2 hdl).1
      · rw [putK_eq] at e1
        exact (ih _ _ _ _ e1 hdl).1
    refine ⟨grow, fun ρ B w act hT hs H hB hF Q hQ => ?_⟩
    have hw := wantK_some e' hT.1 (fun g want og d _ _ _ hlt => hT.2 d hlt)
    unfold wpList
    rcases hw with ⟨hw, e1⟩ | ⟨hw, e1⟩
    · rw [if_pos hw]
      obtain ⟨v, h1, h2, h3⟩ := opRun_inv e1
      rw [putK_eq] at h2
      obtain ⟨g1, g2⟩ := op_after hC o h3
      obtain ⟨i1, i2⟩ := ih _ _ _ _ h2 hdl
      refine .inl (g2 ρ B w act hT H hB (hF.left i1) _ Q fun u w' ρ' H' S' hv => ?_)
      have hS := S'.sub (hF.left i1)
      refine i2 ρ' B w' (act.put o.dst u) ((hT.mono hS).put (fun d hd' => by rw [hs]; exact hdo d hd') hv) (by rw [size_put, hs]) H' (Nat.le_trans hB S'.size) (Fresh.right S' g1 hF) Q fun act' w2 ρ2 t1 t2 t3 t4 t5 => ?_
      exact hQ act' w2 ρ2 t1 t2 (by rw [t3, defers_put]) t4 ((S'.widen (Nat.le_refl _) i1).trans (t5.widen g1 (Nat.le_refl _)))
    · rw [if_neg (by rw [hw]; simp)]
      rw [putK_eq] at e1
      obtain ⟨i1, i2⟩ := ih _ _ _ _ e1 hdl
      exact i2 ρ B w (act.put o.dst undef) (hT.put (fun d hd' => by rw [hs]; exact hdo d hd') (undef_rel ρ)) (by rw [size_put, hs]) H hB hF Q fun act' w2 ρ2 t1 t2 t3 t4 t5 => hQ act' w2 ρ2 t1 t2 (by rw [t3, defers_put]) t4 t5
end
end Go.Proofs.YtkdlekonfjeidaaGreat.Eng
