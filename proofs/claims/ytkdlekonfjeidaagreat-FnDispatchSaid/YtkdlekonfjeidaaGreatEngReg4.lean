/-
  What the check of a region tells.
-/
import Derived.Test.YtkdlekonfjeidaaGreatEngReg3
namespace Go.Proofs.YtkdlekonfjeidaaGreat.Eng
open Go.RowKit
set_option linter.unusedVariables false

/-- the operations before an operation -/
def bm (ops : Array Oper) (j : Nat) : Nat := (Region.before ops).getD j 0
def bit (ops : Array Oper) (j i : Nat) : Prop := Nat.testBit (bm ops j) i = true

def mstep (acc : Array Nat) (o : Oper) : Nat := o.after.foldl (fun s e => if Region.binds .any e then s ||| 2 ^ e.on ||| acc.getD e.on 0 else s) 0
theorem before_fold : ∀ (l : List Oper) (acc : Array Nat), ∃ r : Array Nat, l.foldl (fun acc o => acc.push (mstep acc o)) acc = r ∧ r.size = acc.size + l.length ∧ (∀ j, j < acc.size → r[j]? = acc[j]?) ∧
    ∀ i o, l[i]? = some o → ∃ acc' : Array Nat, r[acc.size + i]? = some (mstep acc' o) ∧ acc'.size = acc.size + i ∧ ∀ j, j < acc'.size → acc'[j]? = r[j]? := by
  intro l
  induction l with
  | nil => intro acc; exact ⟨acc, rfl, rfl, fun _ _ => rfl, fun i o h => by simp at h⟩
  | cons x l ih =>
    intro acc
    obtain ⟨r, h1, h2, h3, h4⟩ := ih (acc.push (mstep acc x))
    rw [Array.size_push] at h2 h3 h4
    refine ⟨r, h1, by simp [h2]; omega, fun j hj => by rw [h3 j (by omega), Array.getElem?_push_lt hj, Array.getElem?_eq_getElem hj], fun i o ho => ?_⟩
    cases i with
    | zero =>
      simp at ho
      subst ho
      refine ⟨acc, ?_, rfl, fun j hj => by rw [h3 j (by omega), Array.getElem?_push_lt hj, Array.getElem?_eq_getElem hj]⟩
      rw [Nat.add_zero, h3 _ (by omega)]
      simp
    | succ i =>
      obtain ⟨acc', k1, k2, k3⟩ := h4 i o (by simpa using ho)
      exact ⟨acc', by rw [show acc.size + (i + 1) = acc.size + 1 + i by omega]; exact k1, by omega, k3⟩
theorem bm_spec (ops : Array Oper) (j : Nat) (o : Oper) (ho : ops[j]? = some o) : ∃ acc : Array Nat, bm ops j = mstep acc o ∧ acc.size = j ∧ ∀ k, k < j → acc.getD k 0 = bm ops k := by
  obtain ⟨r, h1, h2, h3, h4⟩ := before_fold ops.toList #[]
  have hr : Region.before ops = r := by
    unfold Region.before
    rw [← Array.foldl_toList]
    exact h1
  obtain ⟨acc, k1, k2, k3⟩ := h4 j o (by simpa using ho)
  simp at k1 k2 k3
  refine ⟨acc, ?_, k2, fun k hk => ?_⟩
  · unfold bm
    rw [hr, Array.getD_eq_getD_getElem?, k1]
    rfl
  · unfold bm
    rw [hr, Array.getD_eq_getD_getElem?, Array.getD_eq_getD_getElem?]
    have := k3 k (by omega)
    rw [← this]
theorem bm_none (ops : Array Oper) (j : Nat) (ho : ops[j]? = none) : bm ops j = 0 := by
  obtain ⟨r, h1, h2, h3, h4⟩ := before_fold ops.toList #[]
  have hr : Region.before ops = r := by
    unfold Region.before
    rw [← Array.foldl_toList]
    exact h1
  have hs : ops.size ≤ j := by
    rcases Nat.lt_or_ge j ops.size with h | h
    · rw [Array.getElem?_eq_getElem h] at ho; cases ho
    · exact h
  unfold bm
  rw [hr, Array.getD_eq_getD_getElem?, Array.getElem?_eq_none (by simp at h2; omega)]
  rfl
theorem mstep_bits (acc : Array Nat) (i : Nat) : ∀ (l : List Edge) (s : Nat), Nat.testBit (l.foldl (fun s e => if Region.binds .any e then s ||| 2 ^ e.on ||| acc.getD e.on 0 else s) s) i = true ↔
    Nat.testBit s i = true ∨ ∃ e ∈ l, Region.binds .any e = true ∧ (i = e.on ∨ Nat.testBit (acc.getD e.on 0) i = true) := by
  intro l
  induction l with
  | nil => intro s; simp
  | cons e l ih =>
    intro s
    rw [List.foldl_cons, ih]
    by_cases hb : Region.binds .any e = true
    · rw [if_pos hb]
      have : Nat.testBit (s ||| 2 ^ e.on ||| acc.getD e.on 0) i = true ↔ Nat.testBit s i = true ∨ i = e.on ∨ Nat.testBit (acc.getD e.on 0) i = true := by
        rw [Nat.testBit_or, Nat.testBit_or, Nat.testBit_two_pow]
        simp only [Bool.or_eq_true, decide_eq_true_eq, or_assoc]
        constructor
        · rintro (h | h | h)
          · exact .inl h
          · exact .inr (.inl h.symm)
          · exact .inr (.inr h)
        · rintro (h | h | h)
          · exact .inl h
          · exact .inr (.inl h.symm)
          · exact .inr (.inr h)
      rw [this]
      constructor
      · rintro ((h | h) | ⟨e', h1, h2⟩)
        · exact .inl h
        · exact .inr ⟨e, by simp, hb, h⟩
        · exact .inr ⟨e', by simp [h1], h2⟩
      · rintro (h | ⟨e', h1, h2, h3⟩)
        · exact .inl (.inl h)
        · rcases List.mem_cons.1 h1 with rfl | h1
          · exact .inl (.inr h3)
          · exact .inr ⟨e', h1, h2, h3⟩
    · rw [if_neg hb]
      constructor
      · rintro (h | ⟨e', h1, h2⟩)
        · exact .inl h
        · exact .inr ⟨e', by simp [h1], h2⟩
      · rintro (h | ⟨e', h1, h2, h3⟩)
        · exact .inl h
        · rcases List.mem_cons.1 h1 with rfl | h1
          · exact absurd h2 hb
          · exact .inr ⟨e', h1, h2, h3⟩
theorem bit_inv {ops : Array Oper} {j i : Nat} (h : bit ops j i) : ∃ o e, ops[j]? = some o ∧ e ∈ o.after ∧ Region.binds .any e = true ∧ (i = e.on ∨ (e.on < j ∧ bit ops e.on i)) := by
  unfold bit at h
  cases ho : ops[j]? with
  | none => rw [bm_none ops j ho] at h; simp at h
  | some o =>
    obtain ⟨acc, h1, h2, h3⟩ := bm_spec ops j o ho
    rw [h1] at h
    unfold mstep at h
    rw [← Array.foldl_toList, mstep_bits] at h
    rcases h with h | ⟨e, k1, k2, k3⟩
    · simp at h
    · refine ⟨o, e, rfl, by simpa using k1, k2, ?_⟩
      rcases k3 with k3 | k3
      · exact .inl k3
      · by_cases hlt : e.on < j
        · rw [h3 _ hlt] at k3; exact .inr ⟨hlt, k3⟩
        · rw [Array.getD_eq_getD_getElem?, Array.getElem?_eq_none (by omega)] at k3
          simp at k3
theorem bit_direct {ops : Array Oper} {j : Nat} {o : Oper} {e : Edge} (ho : ops[j]? = some o) (he : e ∈ o.after) (hb : Region.binds .any e = true) : bit ops j e.on := by
  obtain ⟨acc, h1, h2, h3⟩ := bm_spec ops j o ho
  unfold bit
  rw [h1]
  unfold mstep
  rw [← Array.foldl_toList, mstep_bits]
  exact .inr ⟨e, by simpa using he, hb, .inl rfl⟩

structure RegOk (ops : Array Oper) : Prop where
  edge : ∀ j o e, ops[j]? = some o → e ∈ o.after → Region.binds .any e = true → e.on < j
  guard : ∀ j o g want, ops[j]? = some o → o.guard = some (g, want) → bit ops j g
  tmp : ∀ i j oi oj t, i < j → ops[i]? = some oi → ops[j]? = some oj → (oi.dst = some t ∧ (oj.dst = some t ∨ t ∈ opSlots oj.op)) ∨ (oj.dst = some t ∧ t ∈ opSlots oi.op) → bit ops j i
theorem RegOk.lt {ops : Array Oper} (h : RegOk ops) : ∀ j i, bit ops j i → i < j := by
  intro j
  induction j using Nat.strongRecOn with
  | _ j ih =>
    intro i hb
    obtain ⟨o, e, h1, h2, h3, h4⟩ := bit_inv hb
    have := h.edge j o e h1 h2 h3
    rcases h4 with rfl | ⟨h4, h5⟩
    · exact this
    · have := ih e.on h4 i h5; omega
/-- a set that is closed under the edges is closed under 'before' -/
theorem closed_bit {ops : Array Oper} {S : Nat → Prop} (hS : ∀ j o e, S j → ops[j]? = some o → e ∈ o.after → Region.binds .any e = true → S e.on) : ∀ j i, S j → bit ops j i → S i := by
  intro j
  induction j using Nat.strongRecOn with
  | _ j ih =>
    intro i hj hb
    obtain ⟨o, e, h1, h2, h3, h4⟩ := bit_inv hb
    have he := hS j o e hj h1 h2 h3
    rcases h4 with rfl | ⟨h4, h5⟩
    · exact he
    · exact ih e.on h4 i he h5

/-! ### From the check -/
def wstep (n : Nat) (w : Array (List (Tmp × Nat))) (p : Oper × Nat) : Array (List (Tmp × Nat)) := match p.1.dst with
  | some d => w.modify (d % n) ((d, p.2) :: ·)
  | none => w
theorem wstep_size (n : Nat) (w : Array (List (Tmp × Nat))) (p : Oper × Nat) : (wstep n w p).size = w.size := by
  unfold wstep
  split <;> simp
theorem wfold (n : Nat) (hn : 0 < n) : ∀ (l : List (Oper × Nat)) (w : Array (List (Tmp × Nat))), w.size = n → (∀ k x, x ∈ w.getD k [] → x ∈ (l.foldl (wstep n) w).getD k []) ∧ ∀ o i d, (o, i) ∈ l → o.dst = some d → (d, i) ∈ (l.foldl (wstep n) w).getD (d % n) [] := by
  intro l
  induction l with
  | nil => intro w _; exact ⟨fun k x h => h, fun o i d h => by cases h⟩
  | cons p l ih =>
    intro w hw
    obtain ⟨h1, h2⟩ := ih (wstep n w p) (by rw [wstep_size, hw])
    have keep : ∀ k x, x ∈ w.getD k [] → x ∈ (wstep n w p).getD k [] := by
      intro k x hx
      unfold wstep
      split
      · rename_i d hd
        rw [Array.getD_eq_getD_getElem?] at hx ⊢
        rw [Array.getElem?_modify]
        by_cases e : d % n = k
        · subst e
          have hlt : d % n < w.size := by rw [hw]; exact Nat.mod_lt _ hn
          rw [Array.getElem?_eq_getElem hlt] at hx ⊢
          simp at hx ⊢
          exact .inr hx
        · simpa [e] using hx
      · exact hx
    refine ⟨fun k x hx => h1 k x (keep k x hx), fun o i d hm hd => ?_⟩
    rcases List.mem_cons.1 hm with rfl | hm
    · refine h1 _ _ ?_
      unfold wstep
      simp only [hd]
      have hlt : d % n < w.size := by rw [hw]; exact Nat.mod_lt _ hn
      rw [Array.getD_eq_getD_getElem?, Array.getElem?_modify, Array.getElem?_eq_getElem hlt]
      simp
    · exact h2 o i d hm hd
theorem tmp_ok {ops : Array Oper} (h : Region.temporariesOk ops (Region.before ops) = true) (i j : Nat) (oi oj : Oper) (t : Nat) (hi : ops[i]? = some oi) (hj : ops[j]? = some oj) (hd : oi.dst = some t) (hn : oj.dst = some t ∨ t ∈ opSlots oj.op) (hne : i ≠ j) : bit ops (max i j) (min i j) := by
  have hsz : 0 < ops.size := by
    have := (Array.getElem?_eq_some_iff.1 hi).1
    omega
  unfold Region.temporariesOk at h
  simp only [List.all_eq_true] at h
  have hmem : ∀ (k : Nat) (o : Oper), ops[k]? = some o → (o, k) ∈ ops.toList.zipIdx := fun k o hk => by
    rw [List.mem_zipIdx_iff_getElem?]
    simpa using hk
  have h1 := h (oj, j) (hmem j oj hj) t (by
    simp only [List.mem_append, Option.mem_toList]
    rcases hn with hn | hn
    · exact .inl hn
    · rw [mem_opSlots] at hn
      exact .inr (List.mem_filterMap.2 ⟨.tmp t, by simpa using hn, rfl⟩))
  have hw := (wfold ops.size hsz ops.toList.zipIdx (Array.replicate ops.size []) (by simp)).2 oi i t (hmem i oi hi) hd
  have h2 := h1 (t, i) hw
  simp only [Bool.or_eq_true, bne_iff_ne, ne_eq, not_true_eq_false, beq_iff_eq, false_or] at h2
  rcases h2 with h2 | h2
  · exact absurd h2 hne
  · exact h2
theorem RegOk.of_ok {types : Array TypeInfo} {ops : Array Oper} {draw : Bool} (h : Region.ok types ops draw = true) : RegOk ops := by
  unfold Region.ok at h
  simp only [Bool.and_eq_true] at h
  obtain ⟨⟨⟨⟨h1, h2⟩, _⟩, _⟩, _⟩ := h
  have h1' : ∀ (j : Nat) (o : Oper), ops[j]? = some o → (o.after.all (fun e => decide (e.on < j) || (match e.ground with | .gcOnly _ => e.on != j && decide (e.on < ops.size) | _ => false)) && (match o.guard with | none => true | some (g, _) => o.after.any (fun e => e.on == g && Region.binds .any e) && ((ops[g]?).bind (·.dst)).isSome)) = true := by
    intro j o ho
    rw [Array.all_eq_true_iff_forall_mem] at h1
    exact h1 (o, j) (by
      rw [Array.mem_zipIdx_iff_getElem?]
      exact ho)
  refine ⟨fun j o e ho he hb => ?_, fun j o g want ho hg => ?_, fun i j oi oj t hij hi hj hc => ?_⟩
  · have := h1' j o ho
    simp only [Bool.and_eq_true] at this
    have h3 := Array.all_eq_true_iff_forall_mem.1 this.1 e he
    simp only [Bool.or_eq_true, decide_eq_true_eq] at h3
    rcases h3 with h3 | h3
    · exact h3
    · unfold Region.binds at hb
      cases hgr : e.ground <;> rw [hgr] at h3 hb <;> first | (cases h3; done) | (cases hb; done)
  · have := h1' j o ho
    simp only [Bool.and_eq_true, hg] at this
    obtain ⟨e, he, hb⟩ := Array.any_eq_true'.1 this.2.1
    simp only [Bool.and_eq_true, beq_iff_eq] at hb
    have := bit_direct ho he hb.2
    rwa [hb.1] at this
  · rcases hc with ⟨hd, hn⟩ | ⟨hd, hn⟩
    · have := tmp_ok h2 i j oi oj t hi hj hd hn (by omega)
      rwa [Nat.max_eq_right (by omega), Nat.min_eq_left (by omega)] at this
    · have := tmp_ok h2 j i oj oi t hj hi hd (.inr hn) (by omega)
      rwa [Nat.max_eq_left (by omega), Nat.min_eq_right (by omega)] at this

/-! ### Guards -/
theorem cntD_ge {d : Nat} : ∀ (l : List Oper) (i : Nat) (o : Oper), l[i]? = some o → o.dst = some d → 1 ≤ cntD d l := by
  intro l
  induction l with
  | nil => intro i o h; simp at h
  | cons x l ih =>
    intro i o h hd
    have hc : cntD d (x :: l) = bc (isDst d x) (Nat.succ (cntD d l)) (cntD d l) := rfl
    rw [hc]
    cases i with
    | zero =>
      simp at h
      subst h
      have : isDst d x = true := by unfold isDst; rw [hd]; simp
      rw [this, bc_true]
      omega
    | succ i =>
      have := ih i o (by simpa using h) hd
      cases isDst d x with
      | true => rw [bc_true]; omega
      | false => rw [bc_false]; exact this
theorem cntD_one {d : Nat} : ∀ (l : List Oper) (i j : Nat) (oi oj : Oper), cntD d l = 1 → l[i]? = some oi → oi.dst = some d → l[j]? = some oj → oj.dst = some d → i = j := by
  intro l
  induction l with
  | nil => intro i j oi oj _ h; simp at h
  | cons x l ih =>
    intro i j oi oj hc hi hdi hj hdj
    have hcx : cntD d (x :: l) = bc (isDst d x) (Nat.succ (cntD d l)) (cntD d l) := rfl
    rw [hcx] at hc
    have hx : ∀ o : Oper, o.dst = some d → isDst d o = true := fun o ho => by unfold isDst; rw [ho]; simp
    cases i with
    | zero =>
      cases j with
      | zero => rfl
      | succ j =>
        simp at hi
        subst hi
        rw [hx x hdi, bc_true] at hc
        have := cntD_ge l j oj (by simpa using hj) hdj
        omega
    | succ i =>
      cases j with
      | zero =>
        simp at hj
        subst hj
        rw [hx x hdj, bc_true] at hc
        have := cntD_ge l i oi (by simpa using hi) hdi
        omega
      | succ j =>
        have h1 : cntD d l = 1 := by
          have := cntD_ge l j oj (by simpa using hj) hdj
          cases hb : isDst d x with
          | true => rw [hb, bc_true] at hc; omega
          | false => rw [hb, bc_false] at hc; exact hc
        rw [ih i j oi oj h1 (by simpa using hi) hdi (by simpa using hj) hdj]
theorem guard_one {ops : Array Oper} (h : lall (guard1 ops) ops.toList = true) {j : Nat} {o : Oper} (ho : ops[j]? = some o) {g : Nat} {want : Bool} (hg : o.guard = some (g, want)) : ∃ og d, ops[g]? = some og ∧ og.dst = some d ∧ ∀ i oi, ops[i]? = some oi → oi.dst = some d → i = g := by
  rw [lall_eq] at h
  have h1 := List.all_eq_true.1 h o (List.mem_of_getElem? (show ops.toList[j]? = some o by simpa using ho))
  unfold guard1 at h1
  simp only [lnth_arr] at h1
  rw [hg] at h1
  simp only at h1
  split at h1
  · rename_i og hog
    split at h1
    · rename_i d hd
      refine ⟨og, d, hog, hd, fun i oi hi hdi => ?_⟩
      exact cntD_one ops.toList i g oi og (Nat.eq_of_beq_eq_true h1) (by simpa using hi) hdi (by simpa using hog) hd
    · cases h1
  · cases h1
end Go.Proofs.YtkdlekonfjeidaaGreat.Eng
