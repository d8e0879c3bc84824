/-
  A region that draws its order: every order ends alike.
-/
import Derived.Test.YtkdlekonfjeidaaGreatEngReg6
namespace Go.Proofs.YtkdlekonfjeidaaGreat.Eng
open Go.RowKit
set_option linter.unusedVariables false

theorem HRel.grow {ρ ρ' : Rn} {h : Hp} {B : Nat} {w w' : World} (H : HRel ρ h B w) (hS : Sub ρ ρ') (hlt : ∀ id ri, ρ' id = some ri → id < 32768) (hk : ∀ b, b < w.heap.size → w'.heap[b]? = w.heap[b]?) : HRel ρ' h B w' := by
  have hin : ∀ i c, i < 32768 → h.get i = some c → ρ' i = ρ i := fun i c hi hc => by
    obtain ⟨ri, h1, _⟩ := H.obj i c hi hc
    rw [h1, hS i ri h1]
  refine ⟨hlt, fun id c hid hc => ?_, fun i j ci cj ri rj hi hj hij h1 h2 e1 e2 hb => ?_, H.fam, H.famlt, fun i cs f hi hc h => ?_⟩
  · obtain ⟨ri, h1, h2, h3⟩ := H.obj id c hid hc
    exact ⟨ri, hS _ _ h1, h2, h3.mono hS (hk _ h3.lt)⟩
  · rw [hin i ci hi h1] at e1
    rw [hin j cj hj h2] at e2
    exact H.apart i j ci cj ri rj hi hj hij h1 h2 e1 e2 hb
  · cases hf : ρ f with
    | none => exact H.known i cs f hi hc hf
    | some rf => rw [hS f rf hf] at h; cases h

section
variable {P : Program} {call : FuncId → List CV → Hp → Option (CV × Hp)} {ops : Array Oper} {A : Nat → Tm} {D : Nat → DS} {T : Nat → Rec} {h0 : Hp}
variable {ρ0 : Rn} {B : Nat} {w0 : World} {n : Nat} {df : List Deferred} {S : Nat → Prop} {τ : Nat} {ρ : Rn} {act : Act} {w : World}

theorem sel_bad {o : Op} (h : ∃ cs b, o = .select cs b) : opW P o = .pure fun _ => none := by
  obtain ⟨cs, b, rfl⟩ := h
  rfl
theorem not_select {o : Oper} (h : opW P o.op ≠ .pure fun _ => none) : ∀ cs b, o.op ≠ .select cs b := fun cs b e => h (sel_bad ⟨cs, b, e⟩)
/-- nothing in memory changes -/
theorem Inv.quiet (I : Inv ops A D T h0 ρ0 B w0 n df S τ ρ act w) (t : Trace P call ops A D T h0) (hdn : ∀ (i : Nat) (o : Oper) (d : Nat), ops[i]? = some o → o.dst = some d → d < n) {j : Nat} {o : Oper} (ho : ops[j]? = some o) (hS : ¬ S j) (hb : ∀ i, bit ops j i → S i) (h1 : ∀ id m, T j ≠ .nw id m) (h2 : ∀ v a b, T j ≠ .ef v a b) {u : Value} (hu : VRel ρ (T j).v u) :
    Inv ops A D T h0 ρ0 B w0 n df (fun i => S i ∨ i = j) τ ρ (act.put o.dst u) w := by
  have hj := (Array.getElem?_eq_some_iff.1 ho).1
  have hU : ∀ p, UU ops T (fun i => S i ∨ i = j) τ p → UU ops T S τ p := fun p ⟨i, k1, k2, k3, k4⟩ => by
    rcases k1 with k1 | rfl
    · exact ⟨i, k1, k2, k3, k4⟩
    · exact absurd k3 (h1 _ _)
  refine ⟨fun i hi => ?_, fun i k hi hk => ?_, I.tau, fun k hk => ?_, fun X hX => I.rel X (fun p hp => hU p (hX p hp)), fun p hp => I.non p (hU p hp), fun i id m hi hn hT => I.frN i id m hi (fun h => hn (.inl h)) hT, fun i v a b hi hn hT => I.frE i v a b hi (fun h => hn (.inl h)) hT, by rw [size_put]; exact I.sz, by rw [defers_put]; exact I.df, I.hB, I.slots t hdn ho hS (Sub.refl _) hu⟩
  · rcases hi with hi | rfl
    · exact I.dom i hi
    · exact hj
  · rcases hi with hi | rfl
    · exact .inl (I.clo i k hi hk)
    · exact .inl (hb k hk)
  · rw [← I.eff k hk]
    constructor
    · rintro (h | rfl)
      · exact h
      · obtain ⟨_, v, a, b, h⟩ := hk; exact absurd h (h2 v a b)
    · exact .inl
/-- a new block -/
theorem Inv.news (I : Inv ops A D T h0 ρ0 B w0 n df S τ ρ act w) (t : Trace P call ops A D T h0) (hC : CallOk P call) (hdn : ∀ (i : Nat) (o : Oper) (d : Nat), ops[i]? = some o → o.dst = some d → d < n) {j : Nat} {o : Oper} (ho : ops[j]? = some o) (hS : ¬ S j) (hb : ∀ i, bit ops j i → S i) {id : Nat} {m : NW} (hT : T j = .nw id m) {w' : World} {tot : Nat} (hw : NewCells ρ w w' m tot) {u : Value} (hu : VRel (updR ρ id ⟨w.heap.size, tot⟩) (m.val id) u) :
    Inv ops A D T h0 ρ0 B w0 n df (fun i => S i ∨ i = j) τ (updR ρ id ⟨w.heap.size, tot⟩) (act.put o.dst u) w' := by
  have hj := (Array.getElem?_eq_some_iff.1 ho).1
  have hf := I.frN j id m hj hS hT
  obtain ⟨hid1, hid2, hid3⟩ := (t.next hC hj).2.1 id m hT
  have hsub := updR_sub hf ⟨w.heap.size, tot⟩
  have hF' := t.uu_fun hC (fun i => S i ∨ i = j) τ
  have hheap : ∃ ob, w'.heap = w.heap.push ob := by
    obtain ⟨_, _, _, hw⟩ := hw
    cases m with
    | box cs => obtain ⟨us, ty, h1, _⟩ := hw; exact ⟨_, h1⟩
    | row l s cs => obtain ⟨us, ex, ty, fr, h1, _⟩ := hw; exact ⟨_, h1⟩
    | map => obtain ⟨c, h1⟩ := hw; exact ⟨_, h1⟩
  obtain ⟨ob, hheap⟩ := hheap
  have hkeep : ∀ b, b < w.heap.size → w'.heap[b]? = w.heap[b]? := fun b hb' => by
    rw [hheap, Array.getElem?_push_lt hb', Array.getElem?_eq_getElem hb']
  have hsize : w.heap.size ≤ w'.heap.size := by rw [hheap]; simp
  have hU : ∀ p, UU ops T (fun i => S i ∨ i = j) τ p → p = (id, m) ∨ (UU ops T S τ p ∧ p.1 ≠ id) := fun p ⟨i, k1, k2, k3, k4⟩ => by
    by_cases e : i = j
    · subst e
      rw [hT] at k3
      injection k3 with e1 e2
      left
      rw [e1, e2]
    · refine .inr ⟨⟨i, k1.resolve_right e, k2, k3, k4⟩, fun h => e ?_⟩
      have k3' : T i = .nw id p.2 := by rw [← h]; exact k3
      exact t.nw_inj hC k2 hj k3' hT
  have hlt : ∀ i ri, updR ρ id ⟨w.heap.size, tot⟩ i = some ri → i < 32768 := fun i ri h => by
    by_cases e : i = id
    · omega
    · rw [updR_other _ _ _ _ e] at h
      exact (I.rel [] (fun p hp => by cases hp)).1.lt i ri h
  have hn0 : h0.next ≤ id := by
    have := t.mono hC j 0 (by omega) (by omega)
    rw [t.init] at this
    rw [hid1]; exact this
  have hnN : id + 1 ≤ (D ops.size).h.next := by
    have := t.mono hC ops.size (j + 1) (by omega) (Nat.le_refl _)
    omega
  refine ⟨fun i hi => ?_, fun i k hi hk => ?_, I.tau, fun k hk => ?_, fun X hX => ?_, fun p hp => ?_, fun i id' m' hi hn hT' => ?_, fun i v a b hi hn hT' => ?_, by rw [size_put]; exact I.sz, by rw [defers_put]; exact I.df, Nat.le_trans I.hB hsize, I.slots t hdn ho hS hsub (by rw [hT]; exact hu)⟩
  · rcases hi with hi | rfl
    · exact I.dom i hi
    · exact hj
  · rcases hi with hi | rfl
    · exact .inl (I.clo i k hi hk)
    · exact .inl (hb k hk)
  · rw [← I.eff k hk]
    constructor
    · rintro (h | rfl)
      · exact h
      · obtain ⟨_, v, a, b, h⟩ := hk; rw [hT] at h; cases h
    · exact .inl
  · have hX0 : In (X.filter fun p => p.1 ≠ id) (UU ops T S τ) := fun p hp => by
      obtain ⟨h1, h2⟩ := List.mem_filter.1 hp
      rcases hU p (hX p h1) with rfl | ⟨h3, _⟩
      · simp at h2
      · exact h3
    obtain ⟨H, St⟩ := I.rel _ hX0
    by_cases hm : (id, m) ∈ X
    · obtain ⟨p1, p2⟩ := new_add H I.hB id hid2 hf m tot hw
      have hmem : UU ops T (fun i => S i ∨ i = j) τ (id, m) := hX _ hm
      have he : HEq2 (addN (lay (X.filter fun p => p.1 ≠ id) (D τ).h) id m) (lay X (D τ).h) := by
        have : addN (lay (X.filter fun p => p.1 ≠ id) (D τ).h) id m = lay ((id, m) :: X.filter fun p => p.1 ≠ id) (D τ).h := rfl
        rw [this]
        refine lay_same hF' (fun p hp => ?_) hX (fun p => ?_) (HEq2.refl _)
        · rcases List.mem_cons.1 hp with rfl | hp
          · exact hmem
          · exact hX p (List.mem_filter.1 hp).1
        · constructor
          · intro hp
            rcases List.mem_cons.1 hp with rfl | hp
            · exact hm
            · exact (List.mem_filter.1 hp).1
          · intro hp
            by_cases e : p.1 = id
            · rw [hF'.2 p (id, m) (hX p hp) hmem e]; exact List.mem_cons_self ..
            · exact List.mem_cons_of_mem _ (List.mem_filter.2 ⟨hp, by simpa using e⟩)
      exact ⟨p1.heq he, (St.trans ((p2.widen hn0 hnN).heq (HEq2.refl _) he))⟩
    · have he : HEq2 (lay (X.filter fun p => p.1 ≠ id) (D τ).h) (lay X (D τ).h) := by
        refine lay_same hF' (fun p hp => hX p (List.mem_filter.1 hp).1) hX (fun p => ⟨fun hp => (List.mem_filter.1 hp).1, fun hp => List.mem_filter.2 ⟨hp, ?_⟩⟩) (HEq2.refl _)
        rcases hU p (hX p hp) with rfl | ⟨_, h3⟩
        · exact absurd hp hm
        · simpa using h3
      have H' := H.heq he
      have St' := St.heq (HEq2.refl _) he
      have own1 : ∀ b, Own (updR ρ id ⟨w.heap.size, tot⟩) (lay X (D τ).h) b → Own ρ (lay X (D τ).h) b := fun b ⟨i, c, ri, k1, k2, k3, k4⟩ => by
        obtain ⟨ri', g1, _⟩ := H'.obj i c k1 k2
        rw [hsub i ri' g1] at k3
        injection k3 with k3
        subst k3
        exact ⟨i, c, ri', k1, k2, g1, k4⟩
      refine ⟨H'.grow hsub hlt hkeep, St'.trans ⟨fun i hi => updR_other _ _ _ _ (fun e => hi (by subst e; omega)), fun b hb' => .inl (own1 b hb'), fun b hb' _ => hkeep b hb', hsize, hw.1, hw.2.1, hw.2.2.1, fun f _ _ h => h⟩⟩
  · rcases hU p hp with rfl | ⟨h1, _⟩
    · cases hg : (D τ).h.get id with
      | none => rfl
      | some c =>
        obtain ⟨ri, g1, _⟩ := (I.rel [] (fun p hp => by cases hp)).1.obj id c hid2 hg
        rw [hf] at g1; cases g1
    · exact I.non p h1
  · rw [updR_other _ _ _ _ (fun e => by
      subst e
      have := t.nw_inj hC hi hj hT' hT
      exact hn (.inr this))]
    exact I.frN i id' m' hi (fun h => hn (.inl h)) hT'
  · intro k k1 k2
    obtain ⟨e1, e2⟩ := (t.next hC hi).2.2 v a b hT'
    have hij : i ≠ j := fun e => hn (.inr e)
    have hne : k ≠ id := by
      intro e
      subst e
      rcases Nat.lt_or_ge i j with h | h
      · have := t.mono hC j (i + 1) (by omega) (by omega); rw [e2] at k2; omega
      · have := t.mono hC i (j + 1) (by omega) (by omega); rw [e1] at k1; omega
    rw [updR_other _ _ _ _ hne]
    exact I.frE i v a b hi (fun h => hn (.inl h)) hT' k k1 k2
/-- an effect -/
theorem Inv.effect (I : Inv ops A D T h0 ρ0 B w0 n df S τ ρ act w) (t : Trace P call ops A D T h0) (hC : CallOk P call) (hdn : ∀ (i : Nat) (o : Oper) (d : Nat), ops[i]? = some o → o.dst = some d → d < n) {j : Nat} {o : Oper} (ho : ops[j]? = some o) (hS : ¬ S j) (hb : ∀ i, bit ops j i → S i) {v : CV} {hin hout : Hp} (hT : T j = .ef v hin hout) :
    HRel ρ hin B w ∧ Fresh ρ hin.next hout.next ∧ ∀ u w' ρ', HRel ρ' hout B w' → Step hin.next hout.next ρ hin w ρ' hout w' → VRel ρ' v u → Inv ops A D T h0 ρ0 B w0 n df (fun i => S i ∨ i = j) (j + 1) ρ' (act.put o.dst u) w' := by
  have hj := (Array.getElem?_eq_some_iff.1 ho).1
  have hE : isEf ops T j := ⟨hj, v, hin, hout, hT⟩
  have hs := t.step j o ho
  rw [hT] at hs
  obtain ⟨_, _, _, hhin, _, _, hD⟩ := hs
  have hh1 : hout = (D (j + 1)).h := by rw [hD]
  obtain ⟨hnx1, _⟩ := (t.next hC hj).2.2 v hin hout hT
  have hτ : τ ≤ j := by
    rcases Nat.lt_or_ge j τ with h | h
    · exact absurd ((I.eff j hE).2 h) hS
    · exact h
  have hno : ∀ k, τ ≤ k → k < j → ¬ isEf ops T k := fun k k1 k2 hk => by
    have := (I.eff k hk).1 (hb k (t.chain k2 hk hE))
    omega
  have hlater : ∀ k, isEf ops T k → j < k → ¬ S k := fun k hk h1 h2 => hS (I.clo k j h2 (t.chain h1 hE hk))
  have hF := t.uu_fun hC S τ
  have hX0 : In (sel (bm ops j) (D j).pend) (UU ops T S τ) := fun p hp => by
    obtain ⟨i, h1, h2⟩ := mem_sel hp
    obtain ⟨k1, k2, k3⟩ := (t.pend j (by omega) i p.1 p.2).1 h1
    exact ⟨i, hb i h2, by omega, k2, fun h => k3 (mu_mono hτ h)⟩
  have he : HEq2 (lay (sel (bm ops j) (D j).pend) (D τ).h) hin := by
    rw [hhin, mergeB_lay]
    exact lay_same hF hX0 hX0 (fun _ => Iff.rfl) (t.same j τ hτ (by omega) hno)
  obtain ⟨Hin, Stin⟩ := I.rel _ hX0
  have hFr := I.frE j v hin hout hj hS hT
  refine ⟨Hin.heq he, hFr, fun u w' ρ' H' St' hu => ?_⟩
  have hsub := St'.sub hFr
  have hU : ∀ p, UU ops T (fun i => S i ∨ i = j) (j + 1) p → UU ops T S τ p ∧ ¬ (hin.next ≤ p.1 ∧ p.1 < hout.next) ∧ ∀ m, (p.1, m) ∉ sel (bm ops j) (D j).pend := fun p ⟨i, k1, k2, k3, k4⟩ => by
    have hij : i ≠ j := fun e => by subst e; rw [hT] at k3; cases k3
    have hSi := k1.resolve_right hij
    refine ⟨⟨i, hSi, k2, k3, fun h => k4 (mu_mono (by omega) h)⟩, fun h => ?_, fun m hm => ?_⟩
    · obtain ⟨e1, e2, e3⟩ := (t.next hC k2).2.1 _ _ k3
      rw [hnx1, hh1] at h
      rcases Nat.lt_or_ge i j with h' | h'
      · have := t.mono hC j (i + 1) (by omega) (by omega); omega
      · have := t.mono hC i (j + 1) (by omega) (by omega); omega
    · obtain ⟨i', h1, h2⟩ := mem_sel hm
      obtain ⟨q1, q2, q3⟩ := (t.pend j (by omega) i' p.1 m).1 h1
      have := t.nw_inj hC (by omega) k2 q2 k3
      subst this
      exact k4 ⟨j, by omega, hE, h2⟩
  have hnin : ∀ p, UU ops T (fun i => S i ∨ i = j) (j + 1) p → hin.get p.1 = none := fun p hp => by
    obtain ⟨h1, _, h3⟩ := hU p hp
    rw [← he.1 p.1 (hF.1 p h1), lay_out hF hX0 _ (hF.1 p h1) h3]
    exact I.non p h1
  have hlay : ∀ X, In X (UU ops T (fun i => S i ∨ i = j) (j + 1)) → HEq2 (lay (X ++ sel (bm ops j) (D j).pend) (D τ).h) (lay X hin) := fun X hX => by
    have hXU : In X (UU ops T S τ) := fun p hp => (hU p (hX p hp)).1
    rw [lay_append]
    exact lay_same hF hXU hXU (fun _ => Iff.rfl) he
  have hold : ∀ X, In X (UU ops T (fun i => S i ∨ i = j) (j + 1)) → HRel ρ (lay X hin) B w ∧ Step h0.next (D ops.size).h.next ρ0 h0 w0 ρ (lay X hin) w := fun X hX => by
    have hXU : In (X ++ sel (bm ops j) (D j).pend) (UU ops T S τ) := fun p hp => by
      rcases List.mem_append.1 hp with hp | hp
      · exact (hU p (hX p hp)).1
      · exact hX0 p hp
    obtain ⟨a1, a2⟩ := I.rel _ hXU
    exact ⟨a1.heq (hlay X hX), a2.heq (HEq2.refl _) (hlay X hX)⟩
  have hfr : ∀ X, In X (UU ops T (fun i => S i ∨ i = j) (j + 1)) → (∀ p ∈ X, hout.get p.1 = none) ∧ HRel ρ' (lay X hout) B w' := fun X hX =>
    frame_rel hF St' hsub H' X (fun p hp => (hU p (hX p hp)).1) (fun p hp => (hU p (hX p hp)).2.1) (fun p hp => hnin p (hX p hp)) (hold X hX).1
  have hn0 : h0.next ≤ hin.next := by
    have := t.mono hC j 0 (by omega) (by omega)
    rw [t.init] at this
    rw [hnx1]; exact this
  have hnN : hout.next ≤ (D ops.size).h.next := by
    have := t.mono hC ops.size (j + 1) (by omega) (Nat.le_refl _)
    rw [hh1]; exact this
  refine ⟨fun i hi => ?_, fun i k hi hk => ?_, by omega, fun k hk => ?_, fun X hX => ?_, fun p hp => ?_, fun i id' m' hi hn hT' => ?_, fun i v' a b hi hn hT' => ?_, by rw [size_put]; exact I.sz, by rw [defers_put]; exact I.df, Nat.le_trans I.hB St'.size, I.slots t hdn ho hS hsub (by rw [hT]; exact hu)⟩
  · rcases hi with hi | rfl
    · exact I.dom i hi
    · exact hj
  · rcases hi with hi | rfl
    · exact .inl (I.clo i k hi hk)
    · exact .inl (hb k hk)
  · constructor
    · rintro (h | rfl)
      · have := (I.eff k hk).1 h; omega
      · omega
    · intro h
      by_cases e : k = j
      · exact .inr e
      · exact .inl (hb k (t.chain (by omega) hk hE))
  · have hknow : ∀ p ∈ X, ρ p.1 ≠ none := fun p hp h => by
      have hXU : In X (UU ops T S τ) := fun p hp => (hU p (hX p hp)).1
      obtain ⟨ri, g1, _⟩ := (hold X hX).1.obj p.1 _ (hF.1 p (hXU p hp)) (lay_in hF hXU hin (show (p.1, p.2) ∈ X from hp))
      rw [g1] at h; cases h
    have st1 := frame_step hF St' (X := X) (fun p hp => (hU p (hX p hp)).1) (fun p hp => (hU p (hX p hp)).2.1) (fun p hp => hnin p (hX p hp)) hknow
    rw [← hh1]
    exact ⟨(hfr X hX).2, (hold X hX).2.trans (st1.widen hn0 hnN)⟩
  · rw [← hh1]
    exact (hfr [p] (fun q hq => by simp at hq; subst hq; exact hp)).1 p (by simp)
  · obtain ⟨e1, e2, e3⟩ := (t.next hC hi).2.1 _ _ hT'
    have hij : i ≠ j := fun e => hn (.inr e)
    rw [St'.agree id' (fun h => by
      rw [hnx1, hh1] at h
      rcases Nat.lt_or_ge i j with h' | h'
      · have := t.mono hC j (i + 1) (by omega) (by omega); omega
      · have := t.mono hC i (j + 1) (by omega) (by omega); omega)]
    exact I.frN i id' m' hi (fun h => hn (.inl h)) hT'
  · intro k k1 k2
    obtain ⟨e1, e2⟩ := (t.next hC hi).2.2 v' a b hT'
    have hij : i ≠ j := fun e => hn (.inr e)
    rw [St'.agree k (fun h => by
      rw [hnx1, hh1] at h
      rw [e1] at k1
      rw [e2] at k2
      rcases Nat.lt_or_ge i j with h' | h'
      · have := t.mono hC j (i + 1) (by omega) (by omega); omega
      · have := t.mono hC i (j + 1) (by omega) (by omega); omega)]
    exact I.frE i v' a b hi (fun h => hn (.inl h)) hT' k k1 k2

/-- ONE OPERATION, WHENEVER ITS TURN COMES -/
theorem Inv.go (I : Inv ops A D T h0 ρ0 B w0 n df S τ ρ act w) (t : Trace P call ops A D T h0) (hC : CallOk P call) (hn : n ≤ 512) (hdn : ∀ (i : Nat) (o : Oper) (d : Nat), ops[i]? = some o → o.dst = some d → d < n) {j : Nat} {o : Oper} (ho : ops[j]? = some o) (hS : ¬ S j) (hb : ∀ i, bit ops j i → S i)
    {Q : Exit → Act → World → Prop} {K : Act → World → Prop} (hK : ∀ τ' ρ' act' w', Inv ops A D T h0 ρ0 B w0 n df (fun i => S i ∨ i = j) τ' ρ' act' w' → K act' w') : wpOp P ops Q j K act w := by
  have hd : ∀ (i : Nat) (o : Oper) (d : Nat), ops[i]? = some o → o.dst = some d → d < 512 := fun i o d h1 h2 => Nat.lt_of_lt_of_le (hdn i o d h1 h2) hn
  have hj := (Array.getElem?_eq_some_iff.1 ho).1
  have hs := t.step j o ho
  have hok := opW_ok (P := P) o
  have hsz : act.tmps.size ≤ 512 := by rw [I.sz]; exact hn
  have hopd := fun s h1 h2 => I.operand t hd ho hS hb s h1 h2
  unfold wpOp
  rw [ho]
  simp only
  cases hT : T j with
  | val v =>
    rw [hT] at hs
    obtain ⟨_, _, hcase⟩ := hs
    rcases hcase with ⟨hw, rfl⟩ | ⟨hw, f, hf, hfv⟩
    · rw [if_neg (by rw [I.guard t hd hn ho hS hb hw]; simp)]
      exact hK τ ρ _ w (I.quiet t hdn ho hS hb (fun _ _ h => by rw [hT] at h; cases h) (fun _ _ _ h => by rw [hT] at h; cases h) (by rw [hT]; exact undef_rel ρ))
    · rw [if_pos (I.guard t hd hn ho hS hb hw)]
      have hns : ∀ cs b, o.op ≠ .select cs b := not_select (P := P) (fun e => by rw [hf] at e; injection e with e; subst e; cases hfv)
      obtain ⟨a', act', h1, h2, h3⟩ := op_local (P := P) o hns (A j) act ρ hsz hopd
      rw [hf] at h3 hok
      rw [show f (A j) = f a' from h3] at hfv
      obtain ⟨u, k1, k2⟩ := hok ρ a' act' v h1 hfv w
      rw [h2] at k1
      exact .inl (Res.wp (.inl k1) (hK τ ρ _ w (I.quiet t hdn ho hS hb (fun _ _ h => by rw [hT] at h; cases h) (fun _ _ _ h => by rw [hT] at h; cases h) (by rw [hT]; exact k2))))
  | rd f v =>
    obtain ⟨hh, g1, g2⟩ := I.readAt t hC ho hS hb hT
    rw [hT] at hs
    obtain ⟨_, hw, hf, _⟩ := hs
    rw [if_pos (I.guard t hd hn ho hS hb hw)]
    have hns : ∀ cs b, o.op ≠ .select cs b := not_select (P := P) (fun e => by rw [hf] at e; cases e)
    obtain ⟨a', act', h1, h2, h3⟩ := op_local (P := P) o hns (A j) act ρ hsz hopd
    rw [hf] at h3 hok
    rw [show f (A j) hh = f a' hh from h3 hh] at g1
    obtain ⟨u, k1, k2⟩ := hok ρ a' act' v hh B w h1 g2 g1
    rw [h2] at k1
    exact .inl (Res.wp (.inl k1) (hK τ ρ _ w (I.quiet t hdn ho hS hb (fun _ _ h => by rw [hT] at h; cases h) (fun _ _ _ h => by rw [hT] at h; cases h) (by rw [hT]; exact k2))))
  | nw id m =>
    rw [hT] at hs
    obtain ⟨_, hw, ⟨f, hf, hfv⟩, _⟩ := hs
    rw [if_pos (I.guard t hd hn ho hS hb hw)]
    have hns : ∀ cs b, o.op ≠ .select cs b := not_select (P := P) (fun e => by rw [hf] at e; cases e)
    obtain ⟨a', act', h1, h2, h3⟩ := op_local (P := P) o hns (A j) act ρ hsz hopd
    rw [hf] at h3 hok
    rw [show f (A j) = f a' from h3] at hfv
    obtain ⟨u, w', tot, k1, k2, k3⟩ := hok ρ a' act' m h1 hfv w
    rw [h2] at k1
    exact .inl (Res.wp (.inl k1) (hK τ _ _ w' (I.news t hC hdn ho hS hb hT k2 (k3 id))))
  | ef v hin hout =>
    obtain ⟨H1, H2, H3⟩ := I.effect t hC hdn ho hS hb hT
    rw [hT] at hs
    obtain ⟨_, hw, _, _, hrun, _⟩ := hs
    rw [if_pos (I.guard t hd hn ho hS hb hw)]
    have hns : ∀ cs b, o.op ≠ .select cs b := not_select (P := P) (fun e => by rw [e] at hrun; cases hrun)
    obtain ⟨a', act', h1, h2, h3⟩ := op_local (P := P) o hns (A j) act ρ hsz hopd
    have hrun' : effRun call (opW P o.op) a' hin = some (v, hout) := by
      rw [← hrun]
      cases how : opW P o.op with
      | act f => rw [how] at h3; exact (h3 hin).symm
      | call f =>
        rw [how] at h3
        show (match f a' with | some p => call p.1 p.2 hin | none => none) = (match f (A j) with | some p => call p.1 p.2 hin | none => none)
        rw [show f (A j) = f a' from h3]
      | _ => rfl
    refine .inl (eff_sound2 hC o hrun' h1 h2.symm H1 I.hB H2 fun u w' ρ' k1 k2 k3 => ?_)
    exact hK (j + 1) ρ' _ w' (H3 u w' ρ' k1 k2 k3)
end
end Go.Proofs.YtkdlekonfjeidaaGreat.Eng
