/-
  The machine with a table of known runs.
-/
import Derived.Test.YtkdlekonfjeidaaGreatEngLaw
namespace Go.Proofs.YtkdlekonfjeidaaGreat.Eng
open Go.RowKit
set_option linter.unusedVariables false

noncomputable def lookS {β : Type} (s : List Nat) (l : List (List Nat × β)) : Option β := List.rec (motive := fun _ => Option β) none (fun p _ ih => bc (leqN p.1 s) (some p.2) ih) l
theorem lookS_some {β : Type} {s : List Nat} {l : List (List Nat × β)} {b : β} (h : lookS s l = some b) : (s, b) ∈ l := by
  induction l with
  | nil => cases h
  | cons p l ih =>
    have h' : bc (leqN p.1 s) (some p.2) (lookS s l) = some b := h
    cases hb : leqN p.1 s with
    | true =>
      rw [hb, bc_true] at h'
      injection h' with h'
      rw [leqN_iff] at hb
      obtain ⟨p1, p2⟩ := p
      simp only at hb h'
      subst hb h'
      simp
    | false =>
      rw [hb, bc_false] at h'
      exact List.mem_cons_of_mem _ (ih h')
noncomputable def newT {β : Type} (h : Hp) (T : Option (List (List Nat))) (k : CV → Hp → Option β) : Option β := match T with
  | none => k .nils h
  | some l => newN h (.row (llen l) 1 (strsC l)) k
noncomputable def oraRun (T : TR) (h : Hp) : Option (CV × Hp) := newT h T.lines fun l h => newT h T.forced fun f h => some (.agg [.int .i64 T.code, l, f, .int .i64 T.events, .int .i64 T.live], h)
noncomputable def ora (rid pid : FuncId) (tr : List (List Nat × TR)) (tp : List (List Nat × Bool)) (fn0 : FuncId → List CV → Hp → Option (CV × Hp)) (f : FuncId) (args : List CV) (h : Hp) : Option (CV × Hp) :=
  bc (Nat.beq f rid) (match args with | [.str s] => oc (lookS s tr) none fun T => oraRun T h | _ => none)
    (bc (Nat.beq f pid) (match args with | [.str s] => oc (lookS s tp) none fun b => some (.bool b, h) | _ => none) (fn0 f args h))
section
variable {P : Program}
def ParsesTo (P : Program) (f : FuncId) (s : List Nat) (b : Bool) : Prop := ∀ (u : ByteArray) (w : World), u.data.toList.map UInt8.toNat = s → Calls P f #[.string u] w fun e w' => Below w.heap.size w w' ∧ e = .returned (.bool b)
noncomputable def isB (b : Bool) (r : Option (CV × Hp)) : Bool := match r with | some (.bool c, _) => (match b with | true => c | false => !c) | _ => false
theorem parses_to {fn0 : FuncId → List CV → Hp → Option (CV × Hp)} (hC : CallOk P fn0) {f : FuncId} {s : List Nat} {b : Bool} (hrun : isB b (fn0 f [.str s] Hp.empty) = true) : ParsesTo P f s b := by
  intro u w hu
  unfold isB at hrun
  split at hrun
  · rename_i c h hr
    have hc : c = b := by cases b <;> cases c <;> first | rfl | cases hrun
    subst hc
    obtain ⟨g1, _, g2⟩ := hC f _ _ _ _ hr
    have H := empty_rel (fun _ => none) (fun id ri h => by cases h) w.heap.size w
    have := g2 (fun _ => none) w.heap.size w [.string u] H (Nat.le_refl _) (fun id _ _ => rfl) (VRels.cons (.str s u hu) (VRels.nil _))
    refine Calls.mono this ?_
    rintro e' w' ⟨x, ρ', rfl, k1, k2, k3⟩
    rw [k3.boolI]
    exact ⟨k2.below H (Nat.le_refl _), rfl⟩
  · cases hrun

theorem below_keep {w w' : World} (hb : Below w.heap.size w w') : ∀ b, b < w.heap.size → w'.heap[b]? = w.heap[b]? := fun b h => hb.block b h
theorem below_rel {ρ : Rn} {h : Hp} {B : Nat} {w w' : World} (H : HRel ρ h B w) (hb : Below w.heap.size w w') : HRel ρ h B w' ∧ ∀ lo hi, Step lo hi ρ h w ρ h w' :=
  ⟨H.grow (Sub.refl _) H.lt (below_keep hb), fun lo hi => ⟨fun _ _ => rfl, fun _ h => .inl h, fun b h _ => hb.block b h, hb.size, hb.os, hb.tape, hb.output, fun _ _ _ h => h⟩⟩
/-- texts that are known, as a row of the machine -/
theorem add_text {ρ : Rn} {h : Hp} {B : Nat} {w : World} (H : HRel ρ h B w) (T : Option (List (List Nat))) {B' : Nat} (hB' : B ≤ B') {v : Value} {b : Option Nat} (hT : TextsAt B' w T v b) (hown : ∀ b0, b = some b0 → ¬ Own ρ h b0) {β : Type} {k : CV → Hp → Option β} {r : β} (e : newT h T k = some r) :
    ∃ (c : CV) (h' : Hp), k c h' = some r ∧ h.next ≤ h'.next ∧ (Fresh ρ h.next h'.next → ∃ ρ', Sub ρ ρ' ∧ HRel ρ' h' B w ∧ VRel ρ' c v ∧ c.one = true ∧ (∀ id, ¬ (h.next ≤ id ∧ id < h'.next) → ρ' id = ρ id) ∧ (∀ b', Own ρ' h' b' → Own ρ h b' ∨ b = some b') ∧ ∀ f, f < 32768 → ¬ (h.next ≤ f ∧ f < h'.next) → NoFam h f → NoFam h' f) := by
  cases T with
  | none =>
    obtain ⟨rfl, rfl⟩ := hT
    exact ⟨.nils, h, e, Nat.le_refl _, fun _ => ⟨ρ, Sub.refl _, H, .nils, rfl, fun _ _ => rfl, fun b' h => .inl h, fun _ _ _ h => h⟩⟩
  | some l =>
    obtain ⟨b0, a, cap, cells, rfl, hb0, rfl, hcap, ha, hcell, hlen, hstr⟩ := hT
    obtain ⟨hn, h1⟩ := newN_some e
    rw [llen_eq] at h1
    have hnx : (addN (h.setN (h.next + 1)) h.next (.row l.length 1 (strsC l))).next = h.next + 1 := by rw [addN_next]; rfl
    refine ⟨_, _, h1, by rw [hnx]; exact Nat.le_succ _, fun hF => ?_⟩
    rw [hnx] at hF ⊢
    have hf : ρ h.next = none := hF _ (Nat.le_refl _) (Nat.lt_succ_self _)
    have hsub := updR_sub hf ⟨b0, cells.size⟩
    have hlt : ∀ id ri, updR ρ h.next ⟨b0, cells.size⟩ id = some ri → id < 32768 := fun id ri hr => by
      by_cases ei : id = h.next
      · omega
      · rw [updR_other _ _ _ _ ei] at hr; exact H.lt id ri hr
    have H1 : HRel (updR ρ h.next ⟨b0, cells.size⟩) (h.setN (h.next + 1)) B w := (H.grow hsub hlt (fun _ _ => rfl)).heapEq (fun _ _ => rfl) (fun _ _ => rfl)
    have hnone : h.get h.next = none := by
      cases hg : h.get h.next with
      | none => rfl
      | some c => obtain ⟨ri, g1, _⟩ := H.obj h.next c hn hg; rw [hf] at g1; cases g1
    have hget : ∀ j, j < 32768 → (addN (h.setN (h.next + 1)) h.next (.row l.length 1 (strsC l))).get j = if h.next = j then some (.row (strsC l) h.next) else h.get j := fun j hj => addN_get _ _ _ hn j hj
    refine ⟨updR ρ h.next ⟨b0, cells.size⟩, hsub, ?_, ?_, rfl, fun id hid => updR_other _ _ _ _ (fun e' => hid (by subst e'; omega)), fun b' ⟨j, c, rj, m1, m2, m3, m4⟩ => ?_, fun f hfl hfr hno j cs hj hc => ?_⟩
    · refine re_add H1 h.next _ hn (updR_same _ _ _) (Nat.le_trans hB' hb0) ?_ (fun _ _ _ _ j cs hj hc => H.known j cs h.next hj hc hf) (fun j c rj hj hne hc hr hb => ?_)
      · refine ⟨cells, hcell, rfl, by rw [strsC_eq]; simpa using hlen, fun j c hj => ?_⟩
        rw [strsC_eq, List.getElem?_map] at hj
        cases hs : l[j]? with
        | none => rw [hs] at hj; cases hj
        | some s =>
          rw [hs] at hj
          injection hj with hj
          subst hj
          obtain ⟨u, u1, u2⟩ := hstr j s hs
          exact ⟨rfl, _, u1, .str s u u2⟩
      · rw [updR_other _ _ _ _ hne] at hr
        exact hown b0 rfl ⟨j, c, rj, hj, hc, hr, hb⟩
    · show VRel _ (.sl h.next 0 l.length 1) _
      refine .sl h.next 0 l.length 1 ⟨b0, cells.size⟩ a cap (updR_same _ _ _) hcap ?_
      rcases ha with ⟨h2, h3⟩ | h2
      · exact .inl ⟨h2, by simpa using h3⟩
      · exact .inr h2
    · rw [hget j m1] at m2
      by_cases ej : h.next = j
      · subst ej
        rw [updR_same] at m3
        injection m3 with m3
        subst m3
        exact .inr (by rw [← m4])
      · rw [if_neg ej] at m2
        rw [updR_other _ _ _ _ (Ne.symm ej)] at m3
        exact .inl ⟨j, c, rj, m1, m2, m3, m4⟩
    · rw [hget j hj] at hc
      by_cases ej : h.next = j
      · subst ej
        rw [if_pos rfl] at hc
        injection hc with hc
        injection hc with _ e2
        exact hfr (by omega)
      · rw [if_neg ej] at hc
        exact hno j cs hj hc
/-- THE TABLE IS SOUND -/
theorem ora_ok {fn0 : FuncId → List CV → Hp → Option (CV × Hp)} (hC : CallOk P fn0) {rid pid : FuncId} {tr : List (List Nat × TR)} {tp : List (List Nat × Bool)} (hr : ∀ p ∈ tr, RunsTo P rid p.1 p.2) (hp : ∀ p ∈ tp, ParsesTo P pid p.1 p.2)
    (fr : ∃ fn, P.funcs[rid]? = some fn ∧ fn.body.isSome = true ∧ fn.name ≠ "runtime.NumGoroutine") (fp : ∃ fn, P.funcs[pid]? = some fn ∧ fn.body.isSome = true ∧ fn.name ≠ "runtime.NumGoroutine") : CallOk P (ora rid pid tr tp fn0) := by
  intro f args h c h' e
  unfold ora at e
  cases hb1 : Nat.beq f rid with
  | true =>
    have := Nat.eq_of_beq_eq_true hb1
    subst this
    rw [hb1, bc_true] at e
    split at e
    · rename_i s
      obtain ⟨T, h1, h2⟩ := oc_inv e
      have hT := hr _ (lookS_some h1)
      unfold oraRun at h2
      have grow : ∀ {β : Type} (h : Hp) (T : Option (List (List Nat))) (k : CV → Hp → Option β) (r : β), newT h T k = some r → ∃ c h1, k c h1 = some r ∧ h.next ≤ h1.next := by
        intro β h T k r e
        cases T with
        | none => exact ⟨_, _, e, Nat.le_refl _⟩
        | some l =>
          obtain ⟨_, h3⟩ := newN_some e
          exact ⟨_, _, h3, by rw [addN_next]; exact Nat.le_succ _⟩
      have hgrow : h.next ≤ h'.next := by
        obtain ⟨c1, x1, k1, k2⟩ := grow h T.lines _ _ h2
        obtain ⟨c2, x2, k3, k4⟩ := grow x1 T.forced _ _ k1
        injection k3 with k3
        injection k3 with _ k5
        subst k5
        omega
      refine ⟨hgrow, fr, fun ρ B w vs H hB hF hv => ?_⟩
      obtain ⟨v, vs', rfl, hv1, hv2⟩ := hv.uncons
      have := hv2.unnil
      subst this
      obtain ⟨u, rfl, hu⟩ := hv1.strI
      refine Calls.mono (hT u w hu) ?_
      rintro e' w' ⟨hbel, lv, fv, b1, b2, rfl, t1, t2, t3⟩
      obtain ⟨H1, S1⟩ := below_rel H hbel
      have hownlt : ∀ b, Own ρ h b → b < w.heap.size := fun b ⟨j, c, rj, m1, m2, m3, m4⟩ => by
        obtain ⟨_, hO⟩ := H.at m3 m2
        rw [← m4]; exact hO.lt
      have hge1 : ∀ b0, b1 = some b0 → w.heap.size ≤ b0 := fun b0 hb0 => by
        cases hl : T.lines with
        | none => rw [hl] at t1; obtain ⟨_, q⟩ := t1; rw [q] at hb0; cases hb0
        | some l => rw [hl] at t1; obtain ⟨x, _, _, _, q1, q2, _⟩ := t1; rw [q1] at hb0; injection hb0 with hb0; omega
      have hge2 : ∀ b0, b2 = some b0 → w.heap.size ≤ b0 := fun b0 hb0 => by
        cases hl : T.forced with
        | none => rw [hl] at t2; obtain ⟨_, q⟩ := t2; rw [q] at hb0; cases hb0
        | some l => rw [hl] at t2; obtain ⟨x, _, _, _, q1, q2, _⟩ := t2; rw [q1] at hb0; injection hb0 with hb0; omega
      obtain ⟨c1, x1, k1, k2, k3⟩ := add_text H1 T.lines hB t1 (fun b0 hb0 ho => by have := hownlt b0 ho; have := hge1 b0 hb0; omega) h2
      -- the second row
      have hx1 : ∃ c2 x2, newT x1 T.forced (fun f h => some (CV.agg [.int .i64 T.code, c1, f, .int .i64 T.events, .int .i64 T.live], h)) = some (c, h') ∧ x1.next ≤ h'.next ∧ c2 = c ∧ x2 = h' := ⟨c, h', k1, by
        obtain ⟨c2, x2, k4, k5⟩ := grow x1 T.forced _ _ k1
        injection k4 with k4
        injection k4 with _ k6
        subst k6
        exact k5, rfl, rfl⟩
      obtain ⟨_, _, hx2, hx3, _, _⟩ := hx1
      obtain ⟨ρ1, s1, r1, v1, o1, a1, w1, f1⟩ := k3 (fun id i1 i2 => hF id i1 (by omega))
      obtain ⟨c2, x2, k4, k5, k6⟩ := add_text r1 T.forced hB t2 (fun b0 hb0 ho => by
        rcases w1 b0 ho with h3 | h3
        · have := hownlt b0 h3; have := hge2 b0 hb0; omega
        · exact t3 b0 h3 hb0) hx2
      injection k4 with k4
      injection k4 with e1 e2
      subst e2
      have hF1 : Fresh ρ1 x1.next x2.next := fun id i1 i2 => by
        rw [a1 id (by omega)]
        exact hF id (by omega) i2
      obtain ⟨ρ2, s2, r2, v2, o2, a2, w2, f2⟩ := k6 hF1
      refine ⟨_, ρ2, rfl, r2, ?_, ?_⟩
      · have st := S1 h.next x2.next
        refine ⟨fun id hid => ?_, fun b' hb' => ?_, fun b' hb' hno => st.keep b' hb' hno, st.size, st.os, st.tape, st.output, fun f hf hfr hno => ?_⟩
        · rw [a2 id (by omega), a1 id (by omega)]
        · rcases w2 b' hb' with h3 | h3
          · rcases w1 b' h3 with h4 | h4
            · exact .inl h4
            · exact .inr (hge1 b' h4)
          · exact .inr (hge2 b' h3)
        · exact f2 f hf (by omega) (f1 f hf (by omega) hno)
      · rw [← e1]
        have := VRel.mkAgg (VRels.cons (VRel.int .i64 T.code) (VRels.cons (v1.mono s2) (VRels.cons v2 (VRels.cons (VRel.int .i64 T.events) (VRels.cons (VRel.int .i64 T.live) (VRels.nil ρ2)))))) (fun c hc => by
          simp at hc
          rcases hc with rfl | rfl | rfl | rfl | rfl <;> first | rfl | assumption)
        exact this
    · cases e
  | false =>
    rw [hb1, bc_false] at e
    cases hb2 : Nat.beq f pid with
    | true =>
      have := Nat.eq_of_beq_eq_true hb2
      subst this
      rw [hb2, bc_true] at e
      split at e
      · rename_i s
        obtain ⟨b, h1, h2⟩ := oc_inv e
        injection h2 with h2
        injection h2 with e1 e2
        subst e1 e2
        refine ⟨Nat.le_refl _, fp, fun ρ B w vs H hB hF hv => ?_⟩
        obtain ⟨v, vs', rfl, hv1, hv2⟩ := hv.uncons
        have := hv2.unnil
        subst this
        obtain ⟨u, rfl, hu⟩ := hv1.strI
        refine Calls.mono (hp _ (lookS_some h1) u w hu) ?_
        rintro e' w' ⟨hbel, rfl⟩
        obtain ⟨H1, S1⟩ := below_rel H hbel
        exact ⟨_, ρ, rfl, H1, S1 _ _, .bool _⟩
      · cases e
    | false =>
      rw [hb2, bc_false] at e
      exact hC f args h c h' e
/-- the machine with the table -/
noncomputable def RO (P : Program) (rid pid : FuncId) (tr : List (List Nat × TR)) (tp : List (List Nat × Bool)) (n : Nat) : R := Nat.rec (motive := fun _ => R) ⟨fun _ _ _ => none, fun _ _ _ => none⟩ (fun _ r => ⟨stepCode P r, ora rid pid tr tp (stepFn P r)⟩) n
theorem RO_sound (hP : P.check = .ok ()) (hm : P.follows .mixedOrders = true) (hnames : ∀ (f : FuncId) (fn : Func), P.funcs[f]? = some fn → fn.name ≠ "runtime.NumGoroutine") {rid pid : FuncId} {tr : List (List Nat × TR)} {tp : List (List Nat × Bool)} (hr : ∀ p ∈ tr, RunsTo P rid p.1 p.2) (hp : ∀ p ∈ tp, ParsesTo P pid p.1 p.2)
    (fr : ∃ fn, P.funcs[rid]? = some fn ∧ fn.body.isSome = true ∧ fn.name ≠ "runtime.NumGoroutine") (fp : ∃ fn, P.funcs[pid]? = some fn ∧ fn.body.isSome = true ∧ fn.name ≠ "runtime.NumGoroutine") : ∀ n, CallOk P (RO P rid pid tr tp n).fn ∧ CodeOk P (RO P rid pid tr tp n) := by
  intro n
  induction n with
  | zero => exact ⟨(fun f args h c h' e => by cases e), (fun fn blocks labels c a h m a' h' _ _ e => by cases e)⟩
  | succ n ih => exact ⟨ora_ok (fn_step hP hnames ih.2) hr hp fr fp, fun fn blocks labels c a h m a' h' h1 h2 e => code_step hm ih.1 ih.2 fn blocks labels c a h m a' h' h1 h2 e⟩
end
end Go.Proofs.YtkdlekonfjeidaaGreat.Eng
