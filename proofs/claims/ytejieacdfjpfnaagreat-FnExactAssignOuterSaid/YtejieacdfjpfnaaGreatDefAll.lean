/-
  DefineIn and AssignOuter: contracts; what a law's walk has in hand; regions in whatever order.
-/
import Derived.Test.YtejieacdfjpfnaaGreatGood
import Derived.Test.YtejieacdfjpfnaaGreatMarks
import Derived.Test.YtejieacdfjpfnaaGreatGSlot
import Derived.Test.YtejieacdfjpfnaaGreatStCopy
import Derived.Test.YtejieacdfjpfnaaGreatPlan
import Derived.Test.YtejieacdfjpfnaaGreatDefine
import Derived.Test.YtejieacdfjpfnaaGreatNames
namespace Go.Proofs.YtejieacdfjpfnaaGreat
set_option maxRecDepth 100000
open Go.ChangeShapes Go.WideShapes Go.ChangeAt Go.RowKit Go.Deep
set_option linter.unusedVariables false
set_option maxRecDepth 100000

structure Part where
  lo : Nat
  hi : Nat
  P : World → Prop
def Closed (lo hi : Nat) (P : World → Prop) : Prop := ∀ W W', Keeps (Rng lo hi) W W' → P W → P W'
/-- the newest part stands first -/
def Chain (B : Nat) : List Part → Nat → Prop
  | [], top => B ≤ top
  | p :: ps, top => p.lo ≤ p.hi ∧ p.hi ≤ top ∧ Chain B ps p.lo
def LS (w : World) (ps : List Part) (W : World) : Prop := Below w.heap.size w W ∧ Chain w.heap.size ps W.heap.size ∧ ∀ p ∈ ps, Closed p.lo p.hi p.P ∧ p.P W
theorem Chain.top {B : Nat} : ∀ {ps : List Part} {a b : Nat}, Chain B ps a → a ≤ b → Chain B ps b
  | [], _, _, h, k => Nat.le_trans h k
  | _ :: _, _, _, h, k => ⟨h.1, Nat.le_trans h.2.1 k, h.2.2⟩
theorem Chain.base {B : Nat} : ∀ {ps : List Part} {a : Nat}, Chain B ps a → B ≤ a
  | [], _, h => h
  | p :: ps, a, h => Nat.le_trans (Chain.base h.2.2) (Nat.le_trans h.1 h.2.1)
theorem Chain.bnd {B : Nat} : ∀ {ps : List Part} {a : Nat}, Chain B ps a → ∀ p ∈ ps, B ≤ p.lo ∧ p.lo ≤ p.hi ∧ p.hi ≤ a
  | [], _, _, p, hp => by cases hp
  | q :: ps, a, h, p, hp => by
    rcases List.mem_cons.1 hp with rfl | hp
    · exact ⟨Chain.base h.2.2, h.1, h.2.1⟩
    · have := Chain.bnd h.2.2 p hp
      have h1 := h.1
      have h2 := h.2.1
      exact ⟨this.1, this.2.1, by omega⟩
section
variable {w : World} {ps : List Part} {W W' : World}
theorem LS.start (w : World) : LS w [] w := ⟨Below.refl _ _, Nat.le_refl _, fun p hp => by cases hp⟩
theorem LS.below (h : LS w ps W) : Below w.heap.size w W := h.1
theorem LS.at (h : LS w ps W) (i : Nat) (p : Part) (hp : ps[i]? = some p) : p.P W := (h.2.2 p (List.mem_of_getElem? hp)).2
theorem LS.bnd (h : LS w ps W) (i : Nat) (p : Part) (hp : ps[i]? = some p) : w.heap.size ≤ p.lo ∧ p.lo ≤ p.hi ∧ p.hi ≤ W.heap.size := h.2.1.bnd p (List.mem_of_getElem? hp)
theorem LS.keep (h : LS w ps W) (hb : Below w.heap.size w W') (hs : W.heap.size ≤ W'.heap.size) (hk : ∀ p ∈ ps, Keeps (Rng p.lo p.hi) W W') : LS w ps W' :=
  ⟨hb, h.2.1.top hs, fun p hp => ⟨(h.2.2 p hp).1, (h.2.2 p hp).1 W W' (hk p hp) (h.2.2 p hp).2⟩⟩
theorem LS.step (h : LS w ps W) (hb : Below W.heap.size W W') : LS w ps W' :=
  h.keep (h.1.trans (hb.mono h.1.size)) hb.size (fun p _ => Keeps.of_below _ hb)
theorem LS.alloc (h : LS w ps W) (o : Obj) : LS w ps (W.alloc o) := h.step ((Below.refl _ _).alloc (Nat.le_refl _) o)
theorem LS.drew (h : LS w ps W) : LS w ps W.drew := h.step (Below.drew (Below.refl _ _))
/-- a new part -/
theorem LS.push (h : LS w ps W) (hb : Below W.heap.size W W') (P : World → Prop) (hc : Closed W.heap.size W'.heap.size P) (hP : P W') : ∃ p : Part, LS w (p :: ps) W' ∧ p.lo = W.heap.size ∧ p.hi = W'.heap.size ∧ Hid (∀ V, p.P V → P V) := by
  have h1 := h.step hb
  refine ⟨⟨W.heap.size, W'.heap.size, P⟩, ⟨h1.1, ⟨hb.size, Nat.le_refl _, h.2.1⟩, fun p hp => ?_⟩, rfl, rfl, fun _ h => h⟩
  rcases List.mem_cons.1 hp with rfl | hp
  · exact ⟨hc, hP⟩
  · exact h1.2.2 p hp
theorem Chain.apart {B : Nat} : ∀ {ps : List Part} {a : Nat} (i j : Nat) (p q : Part), Chain B ps a → ps[i]? = some p → ps[j]? = some q → i < j → q.hi ≤ p.lo
  | [], _, i, _, _, _, _, h, _, _ => by simp at h
  | r :: ps, a, 0, j + 1, p, q, hc, hi, hj, _ => by
    simp only [List.getElem?_cons_zero, Option.some.injEq] at hi
    subst hi
    simp only [List.getElem?_cons_succ] at hj
    exact (Chain.bnd hc.2.2 q (List.mem_of_getElem? hj)).2.2
  | r :: ps, a, i + 1, j + 1, p, q, hc, hi, hj, hij => by
    simp only [List.getElem?_cons_succ] at hi hj
    exact Chain.apart i j p q hc.2.2 hi hj (by omega)
theorem Chain.set {B : Nat} : ∀ {ps : List Part} {a : Nat} (i : Nat) (p p' : Part), Chain B ps a → ps[i]? = some p → p'.lo = p.lo → p'.hi = p.hi → Chain B (ps.set i p') a
  | [], _, _, _, _, _, h, _, _ => by simp at h
  | r :: ps, a, 0, p, p', hc, hi, h1, h2 => by
    simp only [List.getElem?_cons_zero, Option.some.injEq] at hi
    subst hi
    simp only [List.set_cons_zero]
    exact ⟨by rw [h1, h2]; exact hc.1, by rw [h2]; exact hc.2.1, by rw [h1]; exact hc.2.2⟩
  | r :: ps, a, i + 1, p, p', hc, hi, h1, h2 => by
    simp only [List.getElem?_cons_succ] at hi
    simp only [List.set_cons_succ]
    exact ⟨hc.1, hc.2.1, Chain.set i p p' hc.2.2 hi h1 h2⟩
/-- a part is changed, all else is kept -/
theorem LS.mod (h : LS w ps W) (i : Nat) (p : Part) (hp : ps[i]? = some p) (hk : Keeps (fun b => ¬ Rng p.lo p.hi b) W W') (h0 : Below 0 W W') (P' : World → Prop) (hc : Closed p.lo p.hi P') (hP : P' W') :
    ∃ p' : Part, LS w (ps.set i p') W' ∧ p'.lo = p.lo ∧ p'.hi = p.hi ∧ Hid (∀ V, p'.P V → P' V) := by
  have hb := h.bnd i p hp
  have hbel : Below w.heap.size w W' := h.1.trans ⟨h0.os, h0.tape, h0.output, hk.1, fun b hb' => hk.2 b (by have := h.1.size; omega) (fun hr => by have := hr.1; omega)⟩
  refine ⟨⟨p.lo, p.hi, P'⟩, ⟨hbel, (h.2.1.set i p ⟨p.lo, p.hi, P'⟩ hp rfl rfl).top hk.1, fun q hq => ?_⟩, rfl, rfl, fun _ h => h⟩
  obtain ⟨j, hj, hjq⟩ := List.getElem_of_mem hq
  rw [List.length_set] at hj
  by_cases hij : i = j
  · subst hij
    rw [List.getElem_set_self] at hjq
    subst hjq
    exact ⟨hc, hP⟩
  · rw [List.getElem_set_ne hij] at hjq
    have hjs : ps[j]? = some q := by rw [← hjq]; exact List.getElem?_eq_getElem hj
    have hq' := h.2.2 q (List.mem_of_getElem? hjs)
    refine ⟨hq'.1, hq'.1 W W' ⟨hk.1, fun b hbs hr => hk.2 b hbs fun hr' => ?_⟩ hq'.2⟩
    have a1 := hr.1
    have a2 := hr.2
    have a3 := hr'.1
    have a4 := hr'.2
    rcases Nat.lt_or_gt_of_ne hij with hlt | hlt
    · have := Chain.apart i j p q h.2.1 hp hjs hlt
      omega
    · have := Chain.apart j i q p h.2.1 hjs hp hlt
      omega
/-- a box -/
theorem LS.box (h : LS w ps W) (t : Nat) (cs : List Value) : ∃ p : Part, LS w (p :: ps) (W.alloc (.cells cs.toArray t)) ∧ Hid (p.lo = W.heap.size) ∧ Hid (∀ V, p.P V → Blk V W.heap.size t cs) := by
  obtain ⟨p, h1, h2, _, h4⟩ := h.push ((Below.refl _ _).alloc (Nat.le_refl _) (.cells cs.toArray t)) (fun V => Blk V W.heap.size t cs) (fun V V' hk hb => hb.keeps hk ⟨Nat.le_refl _, by simp⟩) (Blk.new W t cs)
  exact ⟨p, h1, h2, h4⟩
end
theorem open_ints64 {H : Type} {enc : TypeId × Value → H} {w : World} {base : Nat} {spare : Nat → Bool} {held : Bool} {v : Value} {d : DataW H} {p : List MemPlace} {r : Reach} {b0 : Nat} (hv : Value.okWide Tryz.prog w r b0 26 v) (h : DataW.Trod enc Tryz.prog w base spare held 26 v d p) : ∃ l, Ints w v l := by
  obtain ⟨a, len, cap, rfl⟩ := okWide_slice Tryz.underlying26 hv
  obtain ⟨fuel, hf⟩ := h
  obtain ⟨v, l, hcs, hl⟩ := open_slr Tryz.underlying26 cells_int (by decide) IntR (fun _ _ _ _ _ h => open_i64 Tryz.underlying3 h) hf
  have : v = .slice a len cap := by simpa [Value.cells] using hcs.symm
  subst this
  exact ⟨l, hl⟩
end Go.Proofs.YtejieacdfjpfnaaGreat
namespace Go.Proofs.YtejieacdfjpfnaaGreat
open Go.ChangeShapes Go.WideShapes Go.ChangeAt Go.RowKit Go.Deep
set_option linter.unusedVariables false
set_option maxRecDepth 100000

section
variable {P : Program} {ops : Array Oper} {Q : Exit → Act → World → Prop}
theorem dyn_sound_more {S : World → Prop} (hs : Region.noSelect ops = true) (k : Nat) : ∀ (l : List (Bool × Nat)) (listed : Array Bool) (a : Act) (w : World), planOk ops l listed = true → S w → dyn P ops (NoPanic Q) S l a w → wpAnyH P .any ops (NoPanic Q) S (l.length + k) listed a w := by
  intro l
  induction l with
  | nil =>
    intro listed a w hp hS h
    exact wpAnyH_done (by simpa [planOk] using hp) h _
  | cons p l ih =>
    intro listed a w hp hS h
    obtain ⟨b, i⟩ := p
    rw [show (((b, i) :: l).length + k) = (l.length + k) + 1 by simp; omega]
    cases b with
    | true =>
      rw [planOk, Bool.and_eq_true, Bool.and_eq_true] at hp
      obtain ⟨o, v, hi, hy, h'⟩ := h
      exact wpAnyH_take hi hs hp.1.1 hp.1.2 (fun _ _ _ hc => hc.elim) hy hS (ih _ _ _ hp.2 hS h')
    | false =>
      rw [planOk, Bool.and_eq_true, decide_eq_true_eq] at hp
      refine wpAnyH_all hp.1 (by simp) fun j hj => ?_
      rw [List.mem_singleton] at hj
      subst hj
      exact wpOp_mono (fun a' w' h' => ⟨h'.1, ih _ _ _ hp.2 h'.1 h'.2⟩) h
def frontL (n m : Nat) : Array Bool := ((List.range n).map fun i => decide (i < m)).toArray
def freeOk2 (ops : Array Oper) (m : Nat) : Bool :=
  decide (m < ops.size) && (List.range m).all (fun i => match ops[i]? with | some o => o.guard.isNone | none => false) &&
  (List.range ops.size).all (fun i => (List.range ops.size).all fun j => i == j || match dstOf ops i with | some d => dstOf ops j != some d | none => true) &&
  (List.range ops.size).all (fun i => match ops[i]? with | some o => o.after.all (fun e => !Region.binds .any e || decide (e.on < i)) | none => true) &&
  (List.range ops.size).all (fun k => decide (k < m) || match ops[k]? with | some o => (List.range m).all fun i => o.after.any fun e => Region.binds .any e && e.on == i | none => false)
structure FInv2 (ops : Array Oper) (m : Nat) (S : World → Prop) (R : Nat → (Nat → Nat → Prop) → (Nat → Value) → World → Prop) (base : Nat) (a0 : Act) (listed : Array Bool) (a : Act) (w : World) : Prop where
  size : listed.size = ops.size
  tail : ∀ i, m ≤ i → listed.getD i false = false
  closed : ∀ i o, ops[i]? = some o → listed.getD i false = true → ∀ e ∈ o.after, Region.binds .any e = true → listed.getD e.on false = true
  ex : ∃ (vs : Nat → Value) (T : Nat → Nat → Prop), a = fullAct ops vs a0 ∧ S w ∧ base ≤ w.heap.size ∧ (∀ l b, T l b → base ≤ b ∧ b < w.heap.size) ∧ (∀ l l' b, T l b → T l' b → l = l') ∧ ∀ i, listed.getD i false = true → R i T vs w
theorem wp_region_free2 {id : Nat} {a0 : Act} {w : World} (hm : P.follows .mixedOrders = true) (m : Nat) (l : List (Bool × Nat)) (hc : (freeOk2 ops m && Region.noSelect ops && planOk ops l (frontL ops.size m) && l.length + m == ops.size) = true) (S : World → Prop) (lab : Nat → Nat) (D : Nat → List Nat) (R : Nat → (Nat → Nat → Prop) → (Nat → Value) → World → Prop) (F : (Nat → Value) → Act) (hF : ∀ vs, fullAct ops vs a0 = F vs)
    (hD : ((List.range m).all fun i => (D i).all fun j => j == i || match ops[i]? with | some o => o.after.any fun e => Region.binds .any e && e.on == j | none => false) = true)
    (hS : S w.drew)
    (hR : ∀ (i : Nat) (T T' : Nat → Nat → Prop) (vs vs' : Nat → Value) (W W' : World), (∀ j ∈ D i, vs' j = vs j) → (∀ l b, T l b → T' l b) → Below W.heap.size W W' → R i T vs W → R i T' vs' W')
    (hstep : ∀ i o, ops[i]? = some o → i < m → ∀ (vs : Nat → Value) (T : Nat → Nat → Prop) (W : World), S W → (∀ e ∈ o.after, Region.binds .any e = true → R e.on T vs W) →
      Oper.wp P o (F vs) W (fun a' W' => ∃ v, a' = (F vs).put o.dst v ∧ Below W.heap.size W W' ∧ S W' ∧ R i (fun l b => T l b ∨ (l = lab i ∧ W.heap.size ≤ b ∧ b < W'.heap.size)) (upd vs i v) W') (NoPanic Q))
    (hlast : ∀ (vs : Nat → Value) (T : Nat → Nat → Prop) (W : World), S W → w.heap.size ≤ W.heap.size → (∀ l b, T l b → w.heap.size ≤ b ∧ b < W.heap.size) → (∀ l l' b, T l b → T l' b → l = l') → (∀ i, i < m → R i T vs W) →
      ∃ S' : World → Prop, S' W ∧ dyn P ops (NoPanic Q) S' l (F vs) W) :
    (Code.region id ops true).wp P Q a0 w := by
  simp only [freeOk2, Bool.and_eq_true, decide_eq_true_eq, beq_iff_eq] at hc
  obtain ⟨⟨⟨⟨⟨⟨⟨hpos, hg⟩, hdist⟩, hback⟩, htailAll⟩, hsel⟩, hplan⟩, hlen⟩ := hc
  have hguard : ∀ (i : Nat) (o : Oper), i < m → ops[i]? = some o → o.guard = none := fun i o him ho => by
    have := List.all_eq_true.1 hg i (List.mem_range.2 him)
    rw [ho] at this
    simpa using this
  have hdst : ∀ (i j : Nat), i < ops.size → j < ops.size → j ≠ i → ∀ d, dstOf ops i = some d → dstOf ops j ≠ some d := fun i j hi hj hne d hd => by
    have h1 := List.all_eq_true.1 (List.all_eq_true.1 hdist i (List.mem_range.2 hi)) j (List.mem_range.2 hj)
    rw [hd] at h1
    simp only [Bool.or_eq_true, beq_iff_eq, bne_iff_ne] at h1
    exact h1.resolve_left (fun e => hne e.symm)
  have hbk : ∀ (i : Nat) (o : Oper), ops[i]? = some o → ∀ e ∈ o.after, Region.binds .any e = true → e.on < i := fun i o ho e he hbi => by
    have hi : i < ops.size := (Array.getElem?_eq_some_iff.1 ho).1
    have h1 := List.all_eq_true.1 hback i (List.mem_range.2 hi)
    rw [ho] at h1
    have := Array.all_eq_true_iff_forall_mem.1 h1 e he
    rw [hbi] at this
    simpa using this
  refine wp_region_noPanic (wp_region_any hm ?_)
  have key : ∀ (fuel : Nat) (listed : Array Bool) (a : Act) (W : World), FInv2 ops m S R w.heap.size a0 listed a W → ((List.range ops.size).filter fun i => !listed.getD i false).length ≤ fuel → wpAny P .any ops (NoPanic Q) fuel listed a W := by
    intro fuel
    induction fuel with
    | zero =>
      intro listed a W hI hf
      exfalso
      have h1 : (ops.size - 1) ∈ (List.range ops.size).filter fun i => !listed.getD i false := by
        rw [List.mem_filter, List.mem_range]
        exact ⟨by omega, by rw [hI.tail _ (by omega)]; rfl⟩
      have := List.length_pos_of_mem h1
      omega
    | succ fuel ih =>
      intro listed a W hI hf
      by_cases hall : ∀ i, i < m → listed.getD i false = true
      · have hL : listed = frontL ops.size m := by
          apply Array.ext
          · simp [frontL, hI.size]
          · intro i h1 h2
            have hi : i < ops.size := by rw [← hI.size]; exact h1
            have h3 : listed.getD i false = listed[i] := by simp [Array.getD, h1]
            simp only [frontL, List.getElem_toArray, List.getElem_map, List.getElem_range]
            by_cases him : i < m
            · rw [← h3, hall i him, decide_eq_true him]
            · rw [← h3, hI.tail i (by omega), decide_eq_false him]
        obtain ⟨vs, T, hA, hSW, hbs, hT1, hT2, hRW⟩ := hI.ex
        rw [hF] at hA
        subst hA
        obtain ⟨S', hS', hd⟩ := hlast vs T W hSW hbs hT1 hT2 (fun i hi => hRW i (hall i hi))
        have hcnt : l.length ≤ fuel + 1 := by
          have h4 : ((List.range' m (ops.size - m))).length ≤ ((List.range ops.size).filter fun i => !listed.getD i false).length := by
            apply List.Sublist.length_le
            have h5 : List.range' m (ops.size - m) = (List.range' m (ops.size - m)).filter fun i => !listed.getD i false := by
              symm
              apply List.filter_eq_self.2
              intro i hi
              rw [List.mem_range'] at hi
              obtain ⟨j, hj, rfl⟩ := hi
              rw [hI.tail _ (by omega)]
              rfl
            rw [h5]
            apply List.Sublist.filter
            have h6 : List.range ops.size = List.range m ++ List.range' m (ops.size - m) := by
              rw [List.range_eq_range', List.range_eq_range', show ops.size = m + (ops.size - m) by omega, ← List.range'_append]
              simp
            rw [h6]
            exact List.sublist_append_right _ _
          rw [List.length_range'] at h4
          omega
        have := dyn_sound_more hsel (fuel + 1 - l.length) l listed (F vs) W (by rw [hL]; exact hplan) hS' hd
        rw [show l.length + (fuel + 1 - l.length) = fuel + 1 by omega] at this
        exact wpAny_of_held _ _ _ _ this
      · refine ⟨fun hr => ?_, fun i hi => ?_⟩
        · exfalso
          apply hall
          intro i
          induction i using Nat.strongRecOn with
          | _ i ihi =>
            intro him
            have hi : i < ops.size := by omega
            by_cases hl : listed.getD i false = true
            · exact hl
            · exfalso
              have hm2 : i ∈ Region.ready .any ops listed := by
                rw [mem_ready]
                refine ⟨by rw [getD_false hI.size hi]; simpa using hl, ops[i], Array.getElem?_eq_getElem hi, fun e he hb => ?_⟩
                have hlt := hbk i _ (Array.getElem?_eq_getElem hi) e he hb
                exact ihi e.on hlt (by omega)
              rw [hr] at hm2
              cases hm2
        · rw [mem_ready] at hi
          obtain ⟨hl, o, ho, hdeps⟩ := hi
          have hin : i < ops.size := (Array.getElem?_eq_some_iff.1 ho).1
          rw [getD_false hI.size hin] at hl
          have him : i < m := by
            rcases Nat.lt_or_ge i m with h | h
            · exact h
            · exfalso
              apply hall
              intro k hk
              have h1 := List.all_eq_true.1 htailAll i (List.mem_range.2 hin)
              rw [decide_eq_false (by omega), Bool.false_or, ho] at h1
              have h2 := List.all_eq_true.1 h1 k (List.mem_range.2 hk)
              rw [Array.any_eq_true'] at h2
              obtain ⟨e, he, h3⟩ := h2
              simp only [Bool.and_eq_true, beq_iff_eq] at h3
              rw [← h3.2]
              exact hdeps e he h3.1
          obtain ⟨vs, T, hA, hSW, hbs, hT1, hT2, hRW⟩ := hI.ex
          rw [hF] at hA
          subst hA
          have hwant : Region.wanted o (yielded ops (F vs).tmps) = true := by unfold Region.wanted; rw [hguard i o him ho]
          unfold wpOp
          rw [ho]
          dsimp only
          rw [if_pos hwant]
          left
          have hless := (filter_less (p := fun j => !listed.getD j false) (p' := fun j => !(listed.setIfInBounds i true).getD j false) (fun j hj => by
            by_cases hji : i = j
            · subst hji; simp [hl]
            · rw [getD_set_ne false hji] at hj; exact hj) i (by simp [hl]) (by simp [hI.size, hin]) (List.range ops.size)).2 (List.mem_range.2 hin)
          refine Oper.wp_mono (fun a' W' h' => ?_) (hstep i o ho him vs T W hSW (fun e he hb => hRW e.on (hdeps e he hb)))
          obtain ⟨v, rfl, hb, hS', hRi⟩ := h'
          refine ih _ _ _ ⟨by simp [hI.size], ?_, ?_, upd vs i v, (fun l b => T l b ∨ (l = lab i ∧ W.heap.size ≤ b ∧ b < W'.heap.size)), ?_, hS', Nat.le_trans hbs hb.size, ?_, ?_, ?_⟩ (by omega)
          · intro k hk
            rw [getD_set_ne false (by omega)]; exact hI.tail k hk
          · intro k ok hk hlk e he hbe
            by_cases hik : i = k
            · subst hik
              rw [ho] at hk
              injection hk with hk
              subst hk
              exact getD_set_true (hdeps e he hbe)
            · rw [getD_set_ne false hik] at hlk
              exact getD_set_true (hI.closed k ok hk hlk e he hbe)
          · have h9 := fullOn_upd (ops := ops) vs i v (List.range ops.size) a0 List.nodup_range (List.mem_range.2 hin) (fun j hj hne => hdst i j hin (List.mem_range.1 hj) hne)
            have hdo : dstOf ops i = o.dst := by unfold dstOf; rw [ho]; rfl
            rw [hdo] at h9
            rw [← hF]
            exact h9
          · rintro l b (h1 | ⟨_, h2, h3⟩)
            · have := hT1 l b h1; have := hb.size; omega
            · omega
          · rintro l l' b (h1 | ⟨h1, h2, h3⟩) (k1 | ⟨k1, k2, k3⟩)
            · exact hT2 l l' b h1 k1
            · have := hT1 l b h1; omega
            · have := hT1 l' b k1; omega
            · rw [h1, k1]
          · intro k hlk
            by_cases hik : i = k
            · subst hik; exact hRi
            · rw [getD_set_ne false hik] at hlk
              refine hR k T _ vs _ W W' (fun j hj => ?_) (fun l b h1 => .inl h1) hb (hRW k hlk)
              refine upd_ne _ _ _ _ fun hji => ?_
              subst hji
              have hkm : k < m := by
                rcases Nat.lt_or_ge k m with h' | h'
                · exact h'
                · rw [hI.tail k h'] at hlk; cases hlk
              have hkn : k < ops.size := by omega
              have h1 := List.all_eq_true.1 (List.all_eq_true.1 hD k (List.mem_range.2 hkm)) j hj
              rw [Array.getElem?_eq_getElem hkn] at h1
              simp only [Bool.or_eq_true, beq_iff_eq] at h1
              rcases h1 with h1 | h1
              · exact hik h1
              · rw [Array.any_eq_true'] at h1
                obtain ⟨e, he, h2⟩ := h1
                simp only [Bool.and_eq_true, beq_iff_eq] at h2
                have := hI.closed k _ (Array.getElem?_eq_getElem hkn) hlk e he h2.1
                rw [h2.2, hl] at this
                cases this
  obtain ⟨vs0, hvs0⟩ := fullAct_start ops a0
  refine key ops.size _ _ _ ⟨by simp, fun i _ => rep_false _ _, ?_, vs0, fun _ _ => False, hvs0, hS, Nat.le_refl _, fun _ _ h => h.elim, fun _ _ _ h => h.elim, ?_⟩ ?_
  · intro i o _ h; rw [rep_false] at h; cases h
  · intro i h; rw [rep_false] at h; cases h
  · exact Nat.le_trans (List.length_filter_le _ _) (by simp)
theorem nodup_le : ∀ (a b : List Nat), a.Nodup → (∀ x ∈ a, x ∈ b) → a.length ≤ b.length
  | [], b, _, _ => Nat.zero_le _
  | x :: a, b, h, hs => by
    rw [List.nodup_cons] at h
    have h1 : x ∈ b := hs x (by simp)
    have h2 := nodup_le a (b.erase x) h.2 (fun y hy => (List.mem_erase_of_ne (show y ≠ x from fun e => h.1 (e ▸ hy))).2 (hs y (by simp [hy])))
    rw [List.length_erase_of_mem h1] at h2
    have := List.length_pos_of_mem h1
    simp
    omega
def frontJ (n m j : Nat) : Array Bool := ((List.range n).map fun i => decide (i < m) && i != j).toArray
def freeOk3 (ops : Array Oper) (m j : Nat) : Bool :=
  decide (m < ops.size) && (List.range m).all (fun i => match ops[i]? with | some o => o.guard.isNone | none => false) &&
  (List.range ops.size).all (fun i => (List.range ops.size).all fun j => i == j || match dstOf ops i with | some d => dstOf ops j != some d | none => true) &&
  (List.range ops.size).all (fun i => match ops[i]? with | some o => o.after.all (fun e => !Region.binds .any e || decide (e.on < i)) | none => true) &&
  (List.range ops.size).all (fun k => decide (k < m) || match ops[k]? with | some o => (List.range m).all fun i => i == j || o.after.any fun e => Region.binds .any e && e.on == i | none => false)
/-- the same, where one operation of the front need not come before the rest -/
theorem wp_region_free3 {id : Nat} {a0 : Act} {w : World} (hm : P.follows .mixedOrders = true) (m j0 : Nat) (l : List (Bool × Nat)) (hc : (freeOk3 ops m j0 && Region.noSelect ops && planOk ops l (frontL ops.size m) && planOk ops ((true, j0) :: l) (frontJ ops.size m j0) && decide (j0 < m) && l.length + m == ops.size) = true) (S : World → Prop) (lab : Nat → Nat) (D : Nat → List Nat) (R : Nat → (Nat → Nat → Prop) → (Nat → Value) → World → Prop) (F : (Nat → Value) → Act) (hF : ∀ vs, fullAct ops vs a0 = F vs)
    (hD : ((List.range m).all fun i => (D i).all fun j => j == i || match ops[i]? with | some o => o.after.any fun e => Region.binds .any e && e.on == j | none => false) = true)
    (hS : S w.drew)
    (hR : ∀ (i : Nat) (T T' : Nat → Nat → Prop) (vs vs' : Nat → Value) (W W' : World), (∀ j ∈ D i, vs' j = vs j) → (∀ l b, T l b → T' l b) → Below W.heap.size W W' → R i T vs W → R i T' vs' W')
    (hstep : ∀ i o, ops[i]? = some o → i < m → ∀ (vs : Nat → Value) (T : Nat → Nat → Prop) (W : World), S W → (∀ e ∈ o.after, Region.binds .any e = true → R e.on T vs W) →
      Oper.wp P o (F vs) W (fun a' W' => ∃ v, a' = (F vs).put o.dst v ∧ Below W.heap.size W W' ∧ S W' ∧ R i (fun l b => T l b ∨ (l = lab i ∧ W.heap.size ≤ b ∧ b < W'.heap.size)) (upd vs i v) W') (NoPanic Q))
    (hlast : ∀ (vs : Nat → Value) (T : Nat → Nat → Prop) (W : World), S W → w.heap.size ≤ W.heap.size → (∀ l b, T l b → w.heap.size ≤ b ∧ b < W.heap.size) → (∀ l l' b, T l b → T l' b → l = l') → (∀ i, i < m → R i T vs W) →
      ∃ S' : World → Prop, S' W ∧ dyn P ops (NoPanic Q) S' l (F vs) W)
    (hlate : ∀ (vs : Nat → Value) (T : Nat → Nat → Prop) (W : World), S W → w.heap.size ≤ W.heap.size → (∀ l b, T l b → w.heap.size ≤ b ∧ b < W.heap.size) → (∀ l l' b, T l b → T l' b → l = l') → (∀ i, i < m → i ≠ j0 → R i T vs W) →
      ∃ S' : World → Prop, S' W ∧ dyn P ops (NoPanic Q) S' ((true, j0) :: l) (F vs) W) :
    (Code.region id ops true).wp P Q a0 w := by
  simp only [freeOk3, Bool.and_eq_true, decide_eq_true_eq, beq_iff_eq] at hc
  obtain ⟨⟨⟨⟨⟨⟨⟨⟨⟨hpos, hg⟩, hdist⟩, hback⟩, htailAll⟩, hsel⟩, hplan⟩, hplanJ⟩, hj0⟩, hlen⟩ := hc
  have hguard : ∀ (i : Nat) (o : Oper), i < m → ops[i]? = some o → o.guard = none := fun i o him ho => by
    have := List.all_eq_true.1 hg i (List.mem_range.2 him)
    rw [ho] at this
    simpa using this
  have hdst : ∀ (i j : Nat), i < ops.size → j < ops.size → j ≠ i → ∀ d, dstOf ops i = some d → dstOf ops j ≠ some d := fun i j hi hj hne d hd => by
    have h1 := List.all_eq_true.1 (List.all_eq_true.1 hdist i (List.mem_range.2 hi)) j (List.mem_range.2 hj)
    rw [hd] at h1
    simp only [Bool.or_eq_true, beq_iff_eq, bne_iff_ne] at h1
    exact h1.resolve_left (fun e => hne e.symm)
  have hbk : ∀ (i : Nat) (o : Oper), ops[i]? = some o → ∀ e ∈ o.after, Region.binds .any e = true → e.on < i := fun i o ho e he hbi => by
    have hi : i < ops.size := (Array.getElem?_eq_some_iff.1 ho).1
    have h1 := List.all_eq_true.1 hback i (List.mem_range.2 hi)
    rw [ho] at h1
    have := Array.all_eq_true_iff_forall_mem.1 h1 e he
    rw [hbi] at this
    simpa using this
  refine wp_region_noPanic (wp_region_any hm ?_)
  have key : ∀ (fuel : Nat) (listed : Array Bool) (a : Act) (W : World), FInv2 ops m S R w.heap.size a0 listed a W → ((List.range ops.size).filter fun i => !listed.getD i false).length ≤ fuel → wpAny P .any ops (NoPanic Q) fuel listed a W := by
    intro fuel
    induction fuel with
    | zero =>
      intro listed a W hI hf
      exfalso
      have h1 : (ops.size - 1) ∈ (List.range ops.size).filter fun i => !listed.getD i false := by
        rw [List.mem_filter, List.mem_range]
        exact ⟨by omega, by rw [hI.tail _ (by omega)]; rfl⟩
      have := List.length_pos_of_mem h1
      omega
    | succ fuel ih =>
      intro listed a W hI hf
      by_cases hall : ∀ i, i < m → i ≠ j0 → listed.getD i false = true
      · obtain ⟨vs, T, hA, hSW, hbs, hT1, hT2, hRW⟩ := hI.ex
        rw [hF] at hA
        subst hA
        have hcnt0 : ∀ (ms : List Nat), ms.Nodup → (∀ i ∈ ms, i < ops.size ∧ listed.getD i false = false) → ms.length ≤ fuel + 1 := fun ms hnd hms => by
          have h4 : ms.length ≤ ((List.range ops.size).filter fun i => !listed.getD i false).length := by
            refine nodup_le _ _ hnd fun i hi => ?_
            rw [List.mem_filter, List.mem_range]
            exact ⟨(hms i hi).1, by rw [(hms i hi).2]; rfl⟩
          omega
        have htl : ∀ i ∈ List.range' m (ops.size - m), i < ops.size ∧ listed.getD i false = false := fun i hi => by
          rw [List.mem_range'] at hi
          obtain ⟨j, hj, rfl⟩ := hi
          exact ⟨by omega, hI.tail _ (by omega)⟩
        cases hj : listed.getD j0 false
        · have hL : listed = frontJ ops.size m j0 := by
            apply Array.ext
            · simp [frontJ, hI.size]
            · intro i h1 h2
              have hi : i < ops.size := by rw [← hI.size]; exact h1
              have h3 : listed.getD i false = listed[i] := by simp [Array.getD, h1]
              simp only [frontJ, List.getElem_toArray, List.getElem_map, List.getElem_range]
              by_cases hij : i = j0
              · subst hij
                rw [← h3, hj]
                simp
              · by_cases him : i < m
                · rw [← h3, hall i him hij, decide_eq_true him]
                  simp [hij]
                · rw [← h3, hI.tail i (by omega), decide_eq_false him]
                  simp
          obtain ⟨S', hS', hd⟩ := hlate vs T W hSW hbs hT1 hT2 (fun i hi hij => hRW i (hall i hi hij))
          have hcnt : ((true, j0) :: l).length ≤ fuel + 1 := by
            have := hcnt0 (j0 :: List.range' m (ops.size - m)) (List.nodup_cons.2 ⟨fun h => by rw [List.mem_range'] at h; obtain ⟨q, _, hq⟩ := h; omega, List.nodup_range'⟩) (fun i hi => by
              rcases List.mem_cons.1 hi with rfl | hi
              · exact ⟨by omega, hj⟩
              · exact htl i hi)
            simp at this ⊢
            omega
          have := dyn_sound_more hsel (fuel + 1 - ((true, j0) :: l).length) ((true, j0) :: l) listed (F vs) W (by rw [hL]; exact hplanJ) hS' hd
          rw [show ((true, j0) :: l).length + (fuel + 1 - ((true, j0) :: l).length) = fuel + 1 by omega] at this
          exact wpAny_of_held _ _ _ _ this
        · have hL : listed = frontL ops.size m := by
            apply Array.ext
            · simp [frontL, hI.size]
            · intro i h1 h2
              have hi : i < ops.size := by rw [← hI.size]; exact h1
              have h3 : listed.getD i false = listed[i] := by simp [Array.getD, h1]
              simp only [frontL, List.getElem_toArray, List.getElem_map, List.getElem_range]
              by_cases him : i < m
              · by_cases hij : i = j0
                · subst hij
                  rw [← h3, hj, decide_eq_true him]
                · rw [← h3, hall i him hij, decide_eq_true him]
              · rw [← h3, hI.tail i (by omega), decide_eq_false him]
          obtain ⟨S', hS', hd⟩ := hlast vs T W hSW hbs hT1 hT2 (fun i hi => by
            by_cases hij : i = j0
            · subst hij; exact hRW i hj
            · exact hRW i (hall i hi hij))
          have hcnt : l.length ≤ fuel + 1 := by
            have := hcnt0 (List.range' m (ops.size - m)) List.nodup_range' htl
            simp at this
            omega
          have := dyn_sound_more hsel (fuel + 1 - l.length) l listed (F vs) W (by rw [hL]; exact hplan) hS' hd
          rw [show l.length + (fuel + 1 - l.length) = fuel + 1 by omega] at this
          exact wpAny_of_held _ _ _ _ this
      · refine ⟨fun hr => ?_, fun i hi => ?_⟩
        · exfalso
          have hall2 : ∀ i, i < m → listed.getD i false = true := by
           intro i
           induction i using Nat.strongRecOn with
           | _ i ihi =>
            intro him
            have hi : i < ops.size := by omega
            by_cases hl : listed.getD i false = true
            · exact hl
            · exfalso
              have hm2 : i ∈ Region.ready .any ops listed := by
                rw [mem_ready]
                refine ⟨by rw [getD_false hI.size hi]; simpa using hl, ops[i], Array.getElem?_eq_getElem hi, fun e he hb => ?_⟩
                have hlt := hbk i _ (Array.getElem?_eq_getElem hi) e he hb
                exact ihi e.on hlt (by omega)
              rw [hr] at hm2
              cases hm2
          exact hall fun i hi _ => hall2 i hi
        · rw [mem_ready] at hi
          obtain ⟨hl, o, ho, hdeps⟩ := hi
          have hin : i < ops.size := (Array.getElem?_eq_some_iff.1 ho).1
          rw [getD_false hI.size hin] at hl
          have him : i < m := by
            rcases Nat.lt_or_ge i m with h | h
            · exact h
            · exfalso
              apply hall
              intro k hk hkj
              have h1 := List.all_eq_true.1 htailAll i (List.mem_range.2 hin)
              rw [decide_eq_false (by omega), Bool.false_or, ho] at h1
              have h2 := List.all_eq_true.1 h1 k (List.mem_range.2 hk)
              rw [Bool.or_eq_true] at h2
              replace h2 := h2.resolve_left (fun h => hkj (by simpa using h))
              rw [Array.any_eq_true'] at h2
              obtain ⟨e, he, h3⟩ := h2
              simp only [Bool.and_eq_true, beq_iff_eq] at h3
              rw [← h3.2]
              exact hdeps e he h3.1
          obtain ⟨vs, T, hA, hSW, hbs, hT1, hT2, hRW⟩ := hI.ex
          rw [hF] at hA
          subst hA
          have hwant : Region.wanted o (yielded ops (F vs).tmps) = true := by unfold Region.wanted; rw [hguard i o him ho]
          unfold wpOp
          rw [ho]
          dsimp only
          rw [if_pos hwant]
          left
          have hless := (filter_less (p := fun j => !listed.getD j false) (p' := fun j => !(listed.setIfInBounds i true).getD j false) (fun j hj => by
            by_cases hji : i = j
            · subst hji; simp [hl]
            · rw [getD_set_ne false hji] at hj; exact hj) i (by simp [hl]) (by simp [hI.size, hin]) (List.range ops.size)).2 (List.mem_range.2 hin)
          refine Oper.wp_mono (fun a' W' h' => ?_) (hstep i o ho him vs T W hSW (fun e he hb => hRW e.on (hdeps e he hb)))
          obtain ⟨v, rfl, hb, hS', hRi⟩ := h'
          refine ih _ _ _ ⟨by simp [hI.size], ?_, ?_, upd vs i v, (fun l b => T l b ∨ (l = lab i ∧ W.heap.size ≤ b ∧ b < W'.heap.size)), ?_, hS', Nat.le_trans hbs hb.size, ?_, ?_, ?_⟩ (by omega)
          · intro k hk
            rw [getD_set_ne false (by omega)]; exact hI.tail k hk
          · intro k ok hk hlk e he hbe
            by_cases hik : i = k
            · subst hik
              rw [ho] at hk
              injection hk with hk
              subst hk
              exact getD_set_true (hdeps e he hbe)
            · rw [getD_set_ne false hik] at hlk
              exact getD_set_true (hI.closed k ok hk hlk e he hbe)
          · have h9 := fullOn_upd (ops := ops) vs i v (List.range ops.size) a0 List.nodup_range (List.mem_range.2 hin) (fun j hj hne => hdst i j hin (List.mem_range.1 hj) hne)
            have hdo : dstOf ops i = o.dst := by unfold dstOf; rw [ho]; rfl
            rw [hdo] at h9
            rw [← hF]
            exact h9
          · rintro l b (h1 | ⟨_, h2, h3⟩)
            · have := hT1 l b h1; have := hb.size; omega
            · omega
          · rintro l l' b (h1 | ⟨h1, h2, h3⟩) (k1 | ⟨k1, k2, k3⟩)
            · exact hT2 l l' b h1 k1
            · have := hT1 l b h1; omega
            · have := hT1 l' b k1; omega
            · rw [h1, k1]
          · intro k hlk
            by_cases hik : i = k
            · subst hik; exact hRi
            · rw [getD_set_ne false hik] at hlk
              refine hR k T _ vs _ W W' (fun j hj => ?_) (fun l b h1 => .inl h1) hb (hRW k hlk)
              refine upd_ne _ _ _ _ fun hji => ?_
              subst hji
              have hkm : k < m := by
                rcases Nat.lt_or_ge k m with h' | h'
                · exact h'
                · rw [hI.tail k h'] at hlk; cases hlk
              have hkn : k < ops.size := by omega
              have h1 := List.all_eq_true.1 (List.all_eq_true.1 hD k (List.mem_range.2 hkm)) j hj
              rw [Array.getElem?_eq_getElem hkn] at h1
              simp only [Bool.or_eq_true, beq_iff_eq] at h1
              rcases h1 with h1 | h1
              · exact hik h1
              · rw [Array.any_eq_true'] at h1
                obtain ⟨e, he, h2⟩ := h1
                simp only [Bool.and_eq_true, beq_iff_eq] at h2
                have := hI.closed k _ (Array.getElem?_eq_getElem hkn) hlk e he h2.1
                rw [h2.2, hl] at this
                cases this
  obtain ⟨vs0, hvs0⟩ := fullAct_start ops a0
  refine key ops.size _ _ _ ⟨by simp, fun i _ => rep_false _ _, ?_, vs0, fun _ _ => False, hvs0, hS, Nat.le_refl _, fun _ _ h => h.elim, fun _ _ _ h => h.elim, ?_⟩ ?_
  · intro i o _ h; rw [rep_false] at h; cases h
  · intro i h; rw [rep_false] at h; cases h
  · exact Nat.le_trans (List.length_filter_le _ _) (by simp)
end
end Go.Proofs.YtejieacdfjpfnaaGreat
namespace Go.Proofs.YtejieacdfjpfnaaGreat
open Go.ChangeShapes Go.WideShapes Go.ChangeAt Go.RowKit Go.Deep
set_option linter.unusedVariables false
set_option maxRecDepth 100000
set_option maxRecDepth 100000

def fitsD (s : StoreD) (env : Int) (nm : List UInt8) (v : VecD) : Bool := storeOk s && envU s env && isNameB nm && valFit s v
def slotV (v : VecD) : SlotD := ⟨1, v, 0, [], []⟩
def defAt (s : StoreD) (e : Nat) (nm : List UInt8) (x : SlotD) : StoreD := if h : e < s.envs.length then defS s e h nm x else s
theorem defAt_eq {s : StoreD} {e : Nat} (h : e < s.envs.length) (nm : List UInt8) (x : SlotD) : defAt s e nm x = defS s e h nm x := by unfold defAt; rw [dif_pos h]
def defIn (s : StoreD) (env : Int) (nm : List UInt8) (v : VecD) : StoreD × Bool := if fitsD s env nm v = true then (defAt s env.toNat nm (slotV v), true) else (stZ, false)
def RetSB (x : StoreD × Bool) (w : World) (e : Ending) (w' : World) : Prop := ∃ cs, e = .returned (.tuple #[.agg cs.toArray, .bool x.2]) ∧ StoreO (Rng w.heap.size w'.heap.size) w' cs x.1 ∧ Below w.heap.size w w'
theorem IntO.nil3 (S : Nat → Prop) (w : World) : IntO S w (.slice none 0 0) [] := ⟨FlO.nil_ _ _ _ _, fun _ h => by cases h⟩
theorem slotV_own {S : Nat → Prop} {w : World} {A1 A2 A3 A4 A5 : Option Addr} {a1 a2 a3 a4 a5 : Nat} {v : VecD} (h : VecO S w [.int .i64 v.kind, .slice A1 v.items.length a1, .slice A2 v.parts.length a2, .slice A3 v.names.length a3, .slice A4 v.cls.length a4, .slice A5 v.levels.length a5, .int .i64 v.code, .int .i64 v.env] v) : SlotO S w [.int .i64 1, .int .i64 v.kind, .slice A1 v.items.length a1, .slice A2 v.parts.length a2, .slice A3 v.names.length a3, .slice A4 v.cls.length a4, .slice A5 v.levels.length a5, .int .i64 v.code, .int .i64 v.env, .int .i64 0, .slice none 0 0, .slice none 0 0] (slotV v) :=
  ⟨A1, a1, A2, a2, A3, a3, A4, a4, A5, a5, none, 0, none, 0, fun _ => 1, rfl, by unfold slotV I64; simp, VecO.mono h (fun b hb => ⟨hb, rfl⟩), by unfold slotV I64; simp, IntO.nil3 _ _, ⟨FlO.nil_ _ _ _ _, fun _ h => by cases h⟩⟩
theorem env_lens {s : StoreD} (h : storeOk s = true) {e : Int} (hu : envU s e = true) : ∃ (k : Nat) (hk : k < s.envs.length), e = k ∧ s.envs[k].names.length = s.envs[k].slots.length := by
  unfold envU at hu
  rw [Bool.and_eq_true, decide_eq_true_eq] at hu
  obtain ⟨k, rfl⟩ := Int.eq_ofNat_of_zero_le hu.1
  by_cases hk : k < s.envs.length
  · refine ⟨k, hk, rfl, (slots_ok h k hk ?_).1⟩
    unfold envU
    rw [Bool.and_eq_true, decide_eq_true_eq]
    exact hu
  · rw [Int.toNat_natCast, List.getElem?_eq_none (by omega)] at hu
    simp at hu

/-- a store is stored into the result's box; a block of its range stays out -/
theorem put2s {w w3 : World} {d : StoreD} {r lo r6 : Nat} {t : TypeId} (c0 c1 : Value) {a0 a1 : Value} (hB : Blk w3 r t [a0, a1]) (ho : StoreO (fun b => Rng lo w3.heap.size b ∧ b ≠ r6) w3 [c0, c1] d) (hr : w.heap.size ≤ r) (hl : r < lo) (hb : Below w.heap.size w w3) :
    Ok (fun W => Blk W r t [c0, c1] ∧ StoreO (Rng w.heap.size W.heap.size) W [c0, c1] d ∧ Below w.heap.size w W) ((w3.setCell ⟨r, 0, none⟩ c0).setCell ⟨r, 1, none⟩ c1) :=
  put2 c0 c1 hB (ho.mono fun b h => h.1) hr hl hb

set_option maxHeartbeats 2000000 in
theorem impl_definable (s : StoreD) (env : Int) (nm : List UInt8) (v : VecD) (ss cs : List Value) (w : World) (hs : StoreR w ss s) (hv : VecR w cs v) (hnm : nm.length ≤ maxLen) (hz : szStore s ≤ 600000000000) (hzv : szVector v ≤ 600000000000) :
    Calls Tryz.prog 84 #[.agg ss.toArray, .int .i64 env, .string (str nm), .agg cs.toArray] w (RetB (fitsD s env nm v) w) := by
  have HS := Lib.hid hs
  have HV := Lib.hid hv
  obtain ⟨G, g0, HG, BX, BY⟩ := good2 w 33 ss 45 cs
  obtain ⟨E0, e0, E1, e1, rfl, _⟩ := hs.open_
  obtain ⟨_, A1, a1, A2, a2, A3, a3, A4, a4, A5, a5, rfl, _⟩ := hv.open_
  clear hs hv
  have HQ := Lib.hid (show fitsD s env nm v = (storeOk s && envU s env && isNameB nm && valFit s v) from rfl)
  have x0 := fun W (h : Ok G W) => (BX.out W h).cell 0 _ rfl
  have x1 := fun W (h : Ok G W) => (BX.out W h).cell 1 _ rfl
  have y0 := fun W (h : Ok G W) => (BY.out W h).cell 0 _ rfl
  have y1 := fun W (h : Ok G W) => (BY.out W h).cell 1 _ rfl
  have y2 := fun W (h : Ok G W) => (BY.out W h).cell 2 _ rfl
  have y3 := fun W (h : Ok G W) => (BY.out W h).cell 3 _ rfl
  have y4 := fun W (h : Ok G W) => (BY.out W h).cell 4 _ rfl
  have y5 := fun W (h : Ok G W) => (BY.out W h).cell 5 _ rfl
  have y6 := fun W (h : Ok G W) => (BY.out W h).cell 6 _ rfl
  have y7 := fun W (h : Ok G W) => (BY.out W h).cell 7 _ rfl
  go_enter Tryz.func84, Tryz.ntmps84
  go_upto_region 1 with fail
  refine gen_w g0 ?_
  clear g0
  intro W1 g1
  go_wp2_with fail
  refine Calls.mono (impl_IsStore s _ _ (HS.out.below (HG.out.below g1)) (by omega)) ?_
  rintro e w2 ⟨rfl, hb⟩
  replace g1 := HG.out.step g1 hb
  clear hb
  cases h1 : storeOk s
  · have HU := Lib.hid (show fitsD s env nm v = false by rw [HQ.out, h1]; rfl)
    clear h1
    go_wp2_with fail
    go_ret
    exact ⟨ret_bool HU.out.symm, HG.out.below g1⟩
  have H1 := Lib.hid h1
  clear h1
  go_wp2_with fail
  refine Calls.mono (impl_envUsed s env _ _ (HS.out.below (HG.out.below g1))) ?_
  rintro e w3 ⟨rfl, hb⟩
  replace g1 := HG.out.step g1 hb
  clear hb
  cases h2 : envU s env
  · have HU := Lib.hid (show fitsD s env nm v = false by rw [HQ.out, H1.out, h2]; rfl)
    clear h2
    go_wp2_with fail
    go_ret
    exact ⟨ret_bool HU.out.symm, HG.out.below g1⟩
  have H2 := Lib.hid h2
  clear h2
  go_wp2_with fail
  refine Calls.mono (impl_IsName nm _ hnm) ?_
  rintro e w4 ⟨rfl, rfl⟩
  cases h3 : isNameB nm
  · have HU := Lib.hid (show fitsD s env nm v = false by rw [HQ.out, H1.out, H2.out, h3]; rfl)
    clear h3
    go_wp2_with fail
    go_ret
    exact ⟨ret_bool HU.out.symm, HG.out.below g1⟩
  have H3 := Lib.hid h3
  clear h3
  go_wp2_with fail
  refine Calls.mono (impl_valueFits s v _ _ _ (HS.out.below (HG.out.below g1)) (HV.out.below (HG.out.below g1)) (by omega)) ?_
  rintro e w5 ⟨rfl, hb⟩
  replace g1 := HG.out.step g1 hb
  clear hb
  have HU := Lib.hid (show fitsD s env nm v = valFit s v by rw [HQ.out, H1.out, H2.out, H3.out]; rfl)
  go_wp2_with fail
  go_ret
  exact ⟨ret_bool HU.out.symm, HG.out.below g1⟩

set_option maxHeartbeats 8000000 in
theorem impl_DefineIn (s : StoreD) (env : Int) (nm : List UInt8) (v : VecD) (ss cs : List Value) (w : World) (hs : StoreR w ss s) (hv : VecR w cs v) (hnm : nm.length ≤ maxLen) (hz : szStore s ≤ 600000000000) (hzv : szVector v ≤ 600000000000) :
    Calls Tryz.prog 31 #[.agg ss.toArray, .int .i64 env, .string (str nm), .agg cs.toArray] w (RetSB (defIn s env nm v) w) := by
  have HS := Lib.hid hs
  have HV := Lib.hid hv
  have HZ := Lib.hid hz
  have s1 := szS_length szEnv s.envs
  have hz1 : szS szEnv s.envs ≤ 600000000000 := by unfold szStore at hz; omega
  obtain ⟨G, g0, HG, BX, BY, BZ⟩ := good3 w 33 ss 45 cs 33 zSt
  obtain ⟨E0, e0, E1, e1, rfl, _⟩ := hs.open_
  obtain ⟨_, A1, a1, A2, a2, A3, a3, A4, a4, A5, a5, rfl, _⟩ := hv.open_
  clear hs hv
  have x0 := fun W (h : Ok G W) => (BX.out W h).cell 0 _ rfl
  have x1 := fun W (h : Ok G W) => (BX.out W h).cell 1 _ rfl
  have u0 := fun W (h : Ok G W) => (BY.out W h).cell 0 _ rfl
  have u1 := fun W (h : Ok G W) => (BY.out W h).cell 1 _ rfl
  have u2 := fun W (h : Ok G W) => (BY.out W h).cell 2 _ rfl
  have u3 := fun W (h : Ok G W) => (BY.out W h).cell 3 _ rfl
  have u4 := fun W (h : Ok G W) => (BY.out W h).cell 4 _ rfl
  have u5 := fun W (h : Ok G W) => (BY.out W h).cell 5 _ rfl
  have u6 := fun W (h : Ok G W) => (BY.out W h).cell 6 _ rfl
  have u7 := fun W (h : Ok G W) => (BY.out W h).cell 7 _ rfl
  go_enter Tryz.func31, Tryz.ntmps31
  go_upto_region 1 with fail
  refine gen_w g0 ?_
  clear g0
  intro W1 g1
  go_wp2_with fail
  refine Calls.mono (impl_definable s env nm v _ _ _ (HS.out.below (HG.out.below g1)) (HV.out.below (HG.out.below g1)) hnm hz hzv) ?_
  rintro e w2 ⟨rfl, hb⟩
  replace g1 := HG.out.step g1 hb
  clear hb
  cases hfit : fitsD s env nm v
  · have HN := Lib.hid (show defIn s env nm v = (stZ, false) by unfold defIn; rw [if_neg (by simp [hfit])])
    have z0 := (BZ.out _ g1).frozen 0
    have z1 := (BZ.out _ g1).frozen 1
    have y0 := (BZ.out _ g1).cell 0 _ rfl
    have y1 := (BZ.out _ g1).cell 1 _ rfl
    have hltR := (BZ.out _ g1).lt
    go_wp2_with fail
    refine gen_w (put2 (w := w) (d := stZ) (lo := w.heap.size + 3) (.slice none 0 0) (.slice none 0 0) (BZ.out _ g1) (zeroSt _ _) (by omega) (by omega) (HG.out.below g1)) ?_
    clear z0 z1 y0 y1
    rintro V ⟨hblk, hv, hbv⟩
    have f0 := hblk.cell 0 _ rfl
    have f1 := hblk.cell 1 _ rfl
    refine bodyPost_ret (v := .tuple #[.agg #[.slice none 0 0, .slice none 0 0], .bool false]) (by simp [results, Tryz.results31, go_sem, f0, f1]) rfl ?_
    exact ⟨_, by rw [HN.out], by rw [HN.out]; exact hv, hbv⟩
  have HFIT := Lib.hid hfit
  clear hfit
  have HN := Lib.hid (show defIn s env nm v = (defAt s env.toNat nm (slotV v), true) by unfold defIn; rw [if_pos HFIT.out])
  have hf2 := HFIT.out
  unfold fitsD at hf2
  simp only [Bool.and_eq_true] at hf2
  have HOK := Lib.hid hf2.1.1.1
  have HVF := Lib.hid hf2.2
  obtain ⟨k, hk, rfl, hlen⟩ := env_lens hf2.1.1.1 hf2.1.1.2
  have hzs : s.envs[k].slots.length ≤ 600000000000 := by have h2 := szS_at szEnv s.envs k hk; unfold szEnv at h2 hz1; have := szS_length szSlot s.envs[k].slots; omega
  have HLEN := Lib.hid hlen
  clear hf2 hlen
  have HN2 := Lib.hid (show defAt s (k : Int).toNat nm (slotV v) = defS s k hk nm (slotV v) by rw [Int.toNat_natCast]; exact defAt_eq hk _ _)
  go_wp2_with fail
  refine Calls.mono (impl_copyStore s _ _ (HS.out.below (HG.out.below g1)) hz) ?_
  rintro e w6 ⟨cs6, rfl, ho, hb⟩
  obtain ⟨C0, c0, C1, c1, rfl⟩ := ho.shape2
  have hz6 := hb.size
  have hw5 := (BZ.out _ g1).lt
  have g6 := HG.out.step g1 hb
  have HB6 := Lib.hid hb
  have HO6 := Lib.hid ho
  obtain ⟨wl, hwl⟩ : ∃ wl : Nat, wl = w2.heap.size := ⟨_, rfl⟩
  rw [← hwl] at HO6 hz6 hw5
  have HWL := Lib.hid hwl
  clear g1 hb ho hwl
  obtain ⟨G7, g7, HG7, BP⟩ := good1 w6 33 [.slice C0 s.envs.length c0, .slice C1 s.promises.length c1]
  have hG7 := fun W (h : Ok G7 W) => HG.out.step g6 (HG7.out.below h)
  have HH7 := Lib.hid hG7
  go_upto_region 4 with fail
  refine gen_w g7 ?_
  clear g7 x0 x1 u0 u1 u2 u3 u4 u5 u6 u7 hG7
  intro W7 g7
  have hw7 := (BP.out _ g7).lt
  have gg := HH7.out _ g7
  have u0 := (BY.out _ gg).cell 0 _ rfl
  have u1 := (BY.out _ gg).cell 1 _ rfl
  have u2 := (BY.out _ gg).cell 2 _ rfl
  have u3 := (BY.out _ gg).cell 3 _ rfl
  have u4 := (BY.out _ gg).cell 4 _ rfl
  have u5 := (BY.out _ gg).cell 5 _ rfl
  have u6 := (BY.out _ gg).cell 6 _ rfl
  have u7 := (BY.out _ gg).cell 7 _ rfl
  go_wp2_with fail
  clear u0 u1 u2 u3 u4 u5 u6 u7
  refine Calls.mono (impl_copyVec v _ W7 (HV.out.below (HG.out.below gg)) (by omega)) ?_
  rintro e w8 ⟨cv, rfl, hov, hb⟩
  obtain ⟨B1, b1, B2, b2, B3, b3, B4, b4, B5, b5, rfl⟩ := hov.shape
  have HOV := Lib.hid hov
  have g8 := HG7.out.step g7 hb
  have hs8 := hb.size
  clear hov hb gg g7
  go_wp2_with fail
  have hO8 : StoreO (Rng wl w6.heap.size) w8 [.slice C0 s.envs.length c0, .slice C1 s.promises.length c1] s := HO6.out.keeps (Keeps.of_below _ (HG7.out.below g8))
  have hX8 := slotV_own (S := Rng (w6.heap.size + 1) w8.heap.size) (VecO.mono HOV.out fun b h => ⟨by have := h.1; omega, h.2⟩)
  refine Calls.mono (impl_define s k hk nm hnm (slotV v) _ _ wl w6.heap.size w8 (BP.out _ g8) hO8 hz6 hX8 HLEN.out hzs (by omega)) ?_
  rintro e w9 ⟨rfl, hb6, ho9, hb9⟩
  have HD := Lib.hid (show StoreO (fun b => Rng wl w9.heap.size b ∧ b ≠ w6.heap.size) w9 [.slice C0 s.envs.length c0, .slice C1 s.promises.length c1] (defS s k hk nm (slotV v)) from ho9)
  have HB9 := Lib.hid hb9
  have hgw := HH7.out _ g8
  have BZ9 := Lib.hid (show Blk w9 (w.heap.size + 1 + 1) 33 zSt from (hb9.block _ hw5).trans (BZ.out _ hgw))
  have HBW := Lib.hid (show Below w.heap.size w w9 from (HG.out.below hgw).trans (hb9.mono (by have := (HG.out.below hgw).size; omega)))
  have y0 := hb6.cell 0 _ rfl
  have y1 := hb6.cell 1 _ rfl
  have z0 := BZ9.out.frozen 0
  have z1 := BZ9.out.frozen 1
  have r0 := BZ9.out.cell 0 _ rfl
  have r1 := BZ9.out.cell 1 _ rfl
  clear hO8 hX8 ho9 hb9 hb6 g8 hgw
  go_wp2_with fail
  refine gen_w (put2s (w := w) (r6 := w6.heap.size) (.slice C0 s.envs.length c0) (.slice C1 s.promises.length c1) BZ9.out HD.out (by omega) (by omega) HBW.out) ?_
  clear y0 y1 z0 z1 r0 r1
  rintro V ⟨hblk, hv, hbv⟩
  have f0 := hblk.cell 0 _ rfl
  have f1 := hblk.cell 1 _ rfl
  refine bodyPost_ret (v := .tuple #[.agg #[.slice C0 s.envs.length c0, .slice C1 s.promises.length c1], .bool true]) (by simp [results, Tryz.results31, go_sem, f0, f1]) rfl ?_
  exact ⟨_, by rw [HN.out], by rw [HN.out, HN2.out]; exact hv, hbv⟩

set_option maxHeartbeats 8000000 in
theorem spec_DefineIn (s : StoreD) (env : Int) (nm : List UInt8) (v : VecD) (ss cs : List Value) (w : World) (hs : StoreR w ss s) (hv : VecR w cs v) (hnm : nm.length ≤ maxLen) (hz : szStore s ≤ 600000000000) (hzv : szVector v ≤ 600000000000) :
    Calls Tryz.prog 29 #[.agg ss.toArray, .int .i64 env, .string (str nm), .agg cs.toArray] w (RetSB (defIn s env nm v) w) := by
  have HS := Lib.hid hs
  have HV := Lib.hid hv
  have HZ := Lib.hid hz
  have s1 := szS_length szEnv s.envs
  have hz1 : szS szEnv s.envs ≤ 600000000000 := by unfold szStore at hz; omega
  obtain ⟨G, g0, HG, BX, BY, BZ⟩ := good3 w 33 ss 45 cs 33 zSt
  obtain ⟨E0, e0, E1, e1, rfl, _⟩ := hs.open_
  obtain ⟨_, A1, a1, A2, a2, A3, a3, A4, a4, A5, a5, rfl, _⟩ := hv.open_
  clear hs hv
  have x0 := fun W (h : Ok G W) => (BX.out W h).cell 0 _ rfl
  have x1 := fun W (h : Ok G W) => (BX.out W h).cell 1 _ rfl
  have u0 := fun W (h : Ok G W) => (BY.out W h).cell 0 _ rfl
  have u1 := fun W (h : Ok G W) => (BY.out W h).cell 1 _ rfl
  have u2 := fun W (h : Ok G W) => (BY.out W h).cell 2 _ rfl
  have u3 := fun W (h : Ok G W) => (BY.out W h).cell 3 _ rfl
  have u4 := fun W (h : Ok G W) => (BY.out W h).cell 4 _ rfl
  have u5 := fun W (h : Ok G W) => (BY.out W h).cell 5 _ rfl
  have u6 := fun W (h : Ok G W) => (BY.out W h).cell 6 _ rfl
  have u7 := fun W (h : Ok G W) => (BY.out W h).cell 7 _ rfl
  go_enter Tryz.func29, Tryz.ntmps29
  go_upto_region 1 with fail
  refine gen_w g0 ?_
  clear g0
  intro W1 g1
  go_wp2_with fail
  refine Calls.mono (spec_l26Used s env _ _ (HS.out.below (HG.out.below g1)) (by omega)) ?_
  rintro e w2 ⟨rfl, hb⟩
  replace g1 := HG.out.step g1 hb
  clear hb
  cases h1 : storeOk s && envU s env
  · have HN := Lib.hid (show defIn s env nm v = (stZ, false) by unfold defIn; rw [if_neg (by simp [fitsD, h1])])
    have z0 := (BZ.out _ g1).frozen 0
    have z1 := (BZ.out _ g1).frozen 1
    have y0 := (BZ.out _ g1).cell 0 _ rfl
    have y1 := (BZ.out _ g1).cell 1 _ rfl
    have hltR := (BZ.out _ g1).lt
    go_wp2_with fail
    refine gen_w (put2 (w := w) (d := stZ) (lo := w.heap.size + 3) (.slice none 0 0) (.slice none 0 0) (BZ.out _ g1) (zeroSt _ _) (by omega) (by omega) (HG.out.below g1)) ?_
    clear z0 z1 y0 y1
    rintro V ⟨hblk, hv, hbv⟩
    have f0 := hblk.cell 0 _ rfl
    have f1 := hblk.cell 1 _ rfl
    refine bodyPost_ret (v := .tuple #[.agg #[.slice none 0 0, .slice none 0 0], .bool false]) (by simp [results, Tryz.results29, go_sem, f0, f1]) rfl ?_
    exact ⟨_, by rw [HN.out], by rw [HN.out]; exact hv, hbv⟩
  have H1 := Lib.hid h1
  clear h1
  go_wp2_with fail
  refine Calls.mono (spec_IsName nm _ hnm) ?_
  rintro e w4 ⟨rfl, rfl⟩
  cases h3 : isNameB nm
  · have HN := Lib.hid (show defIn s env nm v = (stZ, false) by unfold defIn; rw [if_neg (by simp [fitsD, h3])])
    have z0 := (BZ.out _ g1).frozen 0
    have z1 := (BZ.out _ g1).frozen 1
    have y0 := (BZ.out _ g1).cell 0 _ rfl
    have y1 := (BZ.out _ g1).cell 1 _ rfl
    have hltR := (BZ.out _ g1).lt
    go_wp2_with fail
    refine gen_w (put2 (w := w) (d := stZ) (lo := w.heap.size + 3) (.slice none 0 0) (.slice none 0 0) (BZ.out _ g1) (zeroSt _ _) (by omega) (by omega) (HG.out.below g1)) ?_
    clear z0 z1 y0 y1
    rintro V ⟨hblk, hv, hbv⟩
    have f0 := hblk.cell 0 _ rfl
    have f1 := hblk.cell 1 _ rfl
    refine bodyPost_ret (v := .tuple #[.agg #[.slice none 0 0, .slice none 0 0], .bool false]) (by simp [results, Tryz.results29, go_sem, f0, f1]) rfl ?_
    exact ⟨_, by rw [HN.out], by rw [HN.out]; exact hv, hbv⟩
  have H3 := Lib.hid h3
  clear h3
  go_wp2_with fail
  refine Calls.mono (spec_l26Value s v _ _ _ (HS.out.below (HG.out.below g1)) (HV.out.below (HG.out.below g1)) (by omega)) ?_
  rintro e w5 ⟨rfl, hb⟩
  replace g1 := HG.out.step g1 hb
  clear hb
  cases h4 : valFit s v
  · have HN := Lib.hid (show defIn s env nm v = (stZ, false) by unfold defIn; rw [if_neg (by simp [fitsD, h4])])
    have z0 := (BZ.out _ g1).frozen 0
    have z1 := (BZ.out _ g1).frozen 1
    have y0 := (BZ.out _ g1).cell 0 _ rfl
    have y1 := (BZ.out _ g1).cell 1 _ rfl
    have hltR := (BZ.out _ g1).lt
    go_wp2_with fail
    refine gen_w (put2 (w := w) (d := stZ) (lo := w.heap.size + 3) (.slice none 0 0) (.slice none 0 0) (BZ.out _ g1) (zeroSt _ _) (by omega) (by omega) (HG.out.below g1)) ?_
    clear z0 z1 y0 y1
    rintro V ⟨hblk, hv, hbv⟩
    have f0 := hblk.cell 0 _ rfl
    have f1 := hblk.cell 1 _ rfl
    refine bodyPost_ret (v := .tuple #[.agg #[.slice none 0 0, .slice none 0 0], .bool false]) (by simp [results, Tryz.results29, go_sem, f0, f1]) rfl ?_
    exact ⟨_, by rw [HN.out], by rw [HN.out]; exact hv, hbv⟩
  have HFIT := Lib.hid (show fitsD s env nm v = true by unfold fitsD; rw [H1.out, H3.out, h4]; rfl)
  clear h4 H1 H3
  have HN := Lib.hid (show defIn s env nm v = (defAt s env.toNat nm (slotV v), true) by unfold defIn; rw [if_pos HFIT.out])
  have hf2 := HFIT.out
  unfold fitsD at hf2
  simp only [Bool.and_eq_true] at hf2
  have HOK := Lib.hid hf2.1.1.1
  have HVF := Lib.hid hf2.2
  obtain ⟨k, hk, rfl, hlen⟩ := env_lens hf2.1.1.1 hf2.1.1.2
  have hzs : s.envs[k].slots.length ≤ 600000000000 := by have h2 := szS_at szEnv s.envs k hk; unfold szEnv at h2 hz1; have := szS_length szSlot s.envs[k].slots; omega
  have HLEN := Lib.hid hlen
  clear hf2 hlen
  have HN2 := Lib.hid (show defAt s (k : Int).toNat nm (slotV v) = defS s k hk nm (slotV v) by rw [Int.toNat_natCast]; exact defAt_eq hk _ _)
  go_wp2_with fail
  refine Calls.mono (spec_l26Copy s _ _ (HS.out.below (HG.out.below g1)) (parts_ok HOK.out) hz) ?_
  rintro e w6 ⟨cs6, rfl, ho, hb⟩
  obtain ⟨C0, c0, C1, c1, rfl⟩ := ho.shape2
  have hz6 := hb.size
  have hw5 := (BZ.out _ g1).lt
  have g6 := HG.out.step g1 hb
  have HB6 := Lib.hid hb
  have HO6 := Lib.hid ho
  obtain ⟨wl, hwl⟩ : ∃ wl : Nat, wl = w5.heap.size := ⟨_, rfl⟩
  rw [← hwl] at HO6 hz6 hw5
  have HWL := Lib.hid hwl
  clear g1 hb ho hwl
  obtain ⟨G7, g7, HG7, BP⟩ := good1 w6 33 [.slice C0 s.envs.length c0, .slice C1 s.promises.length c1]
  have hG7 := fun W (h : Ok G7 W) => HG.out.step g6 (HG7.out.below h)
  have HH7 := Lib.hid hG7
  go_upto_region 4 with fail
  refine gen_w g7 ?_
  clear g7 x0 x1 u0 u1 u2 u3 u4 u5 u6 u7 hG7
  intro W7 g7
  have hw7 := (BP.out _ g7).lt
  have gg := HH7.out _ g7
  have u0 := (BY.out _ gg).cell 0 _ rfl
  have u1 := (BY.out _ gg).cell 1 _ rfl
  have u2 := (BY.out _ gg).cell 2 _ rfl
  have u3 := (BY.out _ gg).cell 3 _ rfl
  have u4 := (BY.out _ gg).cell 4 _ rfl
  have u5 := (BY.out _ gg).cell 5 _ rfl
  have u6 := (BY.out _ gg).cell 6 _ rfl
  have u7 := (BY.out _ gg).cell 7 _ rfl
  go_wp2_with fail
  clear u0 u1 u2 u3 u4 u5 u6 u7
  refine Calls.mono (spec_l4Copy v _ W7 (HV.out.below (HG.out.below gg)) (vecOk_okN (by have h := HVF.out; unfold valFit at h; rw [Bool.and_eq_true] at h; exact h.1)) (by omega)) ?_
  rintro e w8 ⟨cv, rfl, hov, hb⟩
  obtain ⟨B1, b1, B2, b2, B3, b3, B4, b4, B5, b5, rfl⟩ := hov.shape
  have HOV := Lib.hid hov
  have g8 := HG7.out.step g7 hb
  have hs8 := hb.size
  clear hov hb gg g7
  go_wp2_with fail
  have hO8 : StoreO (Rng wl w6.heap.size) w8 [.slice C0 s.envs.length c0, .slice C1 s.promises.length c1] s := HO6.out.keeps (Keeps.of_below _ (HG7.out.below g8))
  have hX8 := slotV_own (S := Rng (w6.heap.size + 1) w8.heap.size) (VecO.mono HOV.out fun b h => ⟨by have := h.1; omega, h.2⟩)
  refine Calls.mono (spec_l26Define s k hk nm hnm (slotV v) _ _ wl w6.heap.size w8 (BP.out _ g8) hO8 hz6 hX8 HLEN.out hzs (by omega)) ?_
  rintro e w9 ⟨rfl, hb6, ho9, hb9⟩
  have HD := Lib.hid (show StoreO (fun b => Rng wl w9.heap.size b ∧ b ≠ w6.heap.size) w9 [.slice C0 s.envs.length c0, .slice C1 s.promises.length c1] (defS s k hk nm (slotV v)) from ho9)
  have HB9 := Lib.hid hb9
  have hgw := HH7.out _ g8
  have BZ9 := Lib.hid (show Blk w9 (w.heap.size + 1 + 1) 33 zSt from (hb9.block _ hw5).trans (BZ.out _ hgw))
  have HBW := Lib.hid (show Below w.heap.size w w9 from (HG.out.below hgw).trans (hb9.mono (by have := (HG.out.below hgw).size; omega)))
  have y0 := hb6.cell 0 _ rfl
  have y1 := hb6.cell 1 _ rfl
  have z0 := BZ9.out.frozen 0
  have z1 := BZ9.out.frozen 1
  have r0 := BZ9.out.cell 0 _ rfl
  have r1 := BZ9.out.cell 1 _ rfl
  clear hO8 hX8 ho9 hb9 hb6 g8 hgw
  go_wp2_with fail
  refine gen_w (put2s (w := w) (r6 := w6.heap.size) (.slice C0 s.envs.length c0) (.slice C1 s.promises.length c1) BZ9.out HD.out (by omega) (by omega) HBW.out) ?_
  clear y0 y1 z0 z1 r0 r1
  rintro V ⟨hblk, hv, hbv⟩
  have f0 := hblk.cell 0 _ rfl
  have f1 := hblk.cell 1 _ rfl
  refine bodyPost_ret (v := .tuple #[.agg #[.slice C0 s.envs.length c0, .slice C1 s.promises.length c1], .bool true]) (by simp [results, Tryz.results29, go_sem, f0, f1]) rfl ?_
  exact ⟨_, by rw [HN.out], by rw [HN.out, HN2.out]; exact hv, hbv⟩
end Go.Proofs.YtejieacdfjpfnaaGreat
namespace Go.Proofs.YtejieacdfjpfnaaGreat
open Go.ChangeShapes Go.WideShapes Go.ChangeAt Go.RowKit Go.Deep
set_option linter.unusedVariables false
set_option maxRecDepth 100000
set_option maxRecDepth 100000

def parE (s : StoreD) (k : Nat) : Int := ((s.envs[k]?).map EnvD.parent).getD (-1)
theorem parE_at {s : StoreD} {k : Nat} (hk : k < s.envs.length) : parE s k = s.envs[k].parent := by unfold parE; rw [List.getElem?_eq_getElem hk]; rfl
def outS (s : StoreD) (k : Nat) (nm : List UInt8) : Int := max (findS s nm (s.envs.length + 1) (parE s k)).1 0
theorem findS_env {s : StoreD} (h : storeOk s = true) (nm : List UInt8) : ∀ (f : Nat) (e : Int), (e < 0 ∨ envU s e = true) → (findS s nm f e).1 < 0 ∨ envU s (findS s nm f e).1 = true := by
  intro f
  induction f with
  | zero => intro e _; left; show (-1 : Int) < 0; decide
  | succ f ih =>
    intro e he
    by_cases h0 : e < 0
    · rw [findS_neg h0]; left; show (-1 : Int) < 0; decide
    · have hu := he.resolve_left h0
      obtain ⟨k, rfl⟩ := Int.eq_ofNat_of_zero_le (show 0 ≤ e by omega)
      have hk : k < s.envs.length := by have := (envU_lt hu).2; omega
      by_cases hh : 0 ≤ findB s.envs[k].names nm
      · rw [findS_hit hk hh]; exact .inr hu
      · rw [findS_go hk hh]; exact ih _ (env_parent h k hk hu).2.2
theorem out_env {s : StoreD} (h : storeOk s = true) {k : Nat} (hk : k < s.envs.length) (hu : envU s k = true) (nm : List UInt8) : envU s (outS s k nm) = true := by
  have h1 := findS_env h nm (s.envs.length + 1) (parE s k) (by rw [parE_at hk]; exact (env_parent h k hk hu).2.2)
  have h0 : envU s 0 = true := by
    unfold storeOk at h
    simp only [Bool.and_eq_true, decide_eq_true_eq] at h
    unfold envU
    rw [Bool.and_eq_true]
    exact ⟨by decide, h.1.1.2⟩
  unfold outS
  rcases h1 with h1 | h1
  · rw [Int.max_eq_right (by omega)]; exact h0
  · have := (envU_lt h1).1
    rw [Int.max_eq_left this]; exact h1
def assignOut (s : StoreD) (env : Int) (nm : List UInt8) (v : VecD) : StoreD × Bool := if fitsD s env nm v = true then (defAt s (outS s env.toNat nm).toNat nm (slotV v), true) else (stZ, false)
theorem assign_def {s : StoreD} {k : Nat} (hk : k < s.envs.length) (h : storeOk s = true) (hu : envU s k = true) (nm : List UInt8) (v : VecD) : assignOut s k nm v = defIn s (outS s k nm) nm v := by
  unfold assignOut defIn fitsD
  rw [h, hu, out_env h hk hu nm, Int.toNat_natCast]

set_option maxHeartbeats 2000000 in
theorem impl_outer (s : StoreD) (k : Nat) (hk : k < s.envs.length) (nm : List UInt8) (g : Nat) (E0 : Option Addr) (e0 : Nat) (E1 : Option Addr) (e1 : Nat) (w : World) (hs : StoreR w [.slice E0 s.envs.length e0, .slice E1 s.promises.length e1] s) (hok : storeOk s = true) (hu : envU s k = true) (x0 : w.cell? ⟨g, 0, none⟩ = some (.slice E0 s.envs.length e0)) :
    Calls Tryz.prog 87 #[.pointer (some ⟨g, 0, none⟩), .int .i64 k, .string (str nm)] w fun e w' => e = .returned (.int .i64 (outS s k nm)) ∧ w = w' := by
  have HS := Lib.hid hs
  obtain ⟨F0, f0, F1, f1, he, l0, l1, HE, HP⟩ := hs.open_
  simp only [List.cons.injEq, Value.slice.injEq, and_true, true_and] at he
  obtain ⟨⟨rfl, rfl⟩, rfl, rfl⟩ := he
  have HOK := Lib.hid hok
  obtain ⟨b, off, cs, rfl, hbl, _, hat, hr⟩ := HE.out k hk
  obtain ⟨N, n, M, m, rfl, i0, i1, i2, HN, HM⟩ := hr.open_
  have y1 := hat 1 _ rfl
  have HO := Lib.hid (show outS s k nm = max (findS s nm (s.envs.length + 1) s.envs[k].parent).1 0 by unfold outS; rw [parE_at hk])
  have hp := (env_parent hok k hk hu).2.2
  have X0 := Lib.hid x0
  clear hs hok hu hat hr
  by_cases h0 : 0 ≤ s.envs[k].parent
  · have hd : decide (0 ≤ s.envs[k].parent) = true := decide_eq_true h0
    have hpu := hp.resolve_left (by omega)
    go_enter Tryz.func87, Tryz.ntmps87
    go_wp2_with fail
    refine Calls.mono (impl_find s nm g s.envs[k].parent _ e0 E1 e1 w HS.out HOK.out hpu X0.out) ?_
    rintro e w1 ⟨rfl, rfl⟩
    go_wp2_with fail
    all_goals go_ret
    all_goals exact ⟨ret_int (by rw [HO.out]; omega), rfl⟩
  · have hd : decide (0 ≤ s.envs[k].parent) = false := decide_eq_false h0
    have HF := Lib.hid (show (findS s nm (s.envs.length + 1) s.envs[k].parent).1 = -1 by rw [findS_neg (by omega)])
    go_enter Tryz.func87, Tryz.ntmps87
    go_wp2_with fail
    all_goals go_ret
    all_goals exact ⟨ret_int (by rw [HO.out, HF.out]; try rfl), rfl⟩
set_option maxHeartbeats 4000000 in
theorem spec_l26Outer (s : StoreD) (k : Nat) (hk : k < s.envs.length) (nm : List UInt8) (ss : List Value) (w : World) (hs : StoreR w ss s) (hok : storeOk s = true) (hu : envU s k = true) :
    Calls Tryz.prog 86 #[.agg ss.toArray, .int .i64 k, .string (str nm)] w fun e w' => e = .returned (.int .i64 (outS s k nm)) ∧ Below w.heap.size w w' := by
  have HS := Lib.hid hs
  obtain ⟨G, g0, HG, BX⟩ := good1 w 33 ss
  obtain ⟨E0, e0, E1, e1, rfl, l0, l1, HE, HP⟩ := hs.open_
  have HOK := Lib.hid hok
  obtain ⟨b, off, cs, rfl, hbl, _, hat, hr⟩ := HE.out k hk
  obtain ⟨N, n, M, m, rfl, i0, i1, i2, HN, HM⟩ := hr.open_
  have HAT := Lib.hid hat
  have y1 := fun V (h : Ok G V) => ((HG.out.below h).cell (p := ⟨b, off + k * 4 + 1, none⟩) hbl).trans (HAT.out 1 _ rfl)
  have HO := Lib.hid (show outS s k nm = max (findS s nm (s.envs.length + 1) s.envs[k].parent).1 0 by unfold outS; rw [parE_at hk])
  have hp := env_parent hok k hk hu
  have HPA := Lib.hid (show -1 ≤ s.envs[k].parent ∧ s.envs[k].parent < s.envs.length ∧ (s.envs[k].parent < 0 ∨ envU s s.envs[k].parent = true) from ⟨hp.1, by have := hp.2.1; omega, hp.2.2⟩)
  have x0 := fun W (h : Ok G W) => (BX.out W h).cell 0 _ rfl
  have x1 := fun W (h : Ok G W) => (BX.out W h).cell 1 _ rfl
  clear hs hok hu hat hr hp
  go_enter Tryz.func86, Tryz.ntmps86
  go_upto_region 1 with fail
  refine gen_w g0 ?_
  clear g0
  intro W1 g1
  generalize (Value.agg #[.slice (some ⟨b, off, none⟩) s.envs.length e0, .slice E1 s.promises.length e1]) = V0
  refine wp_region_plan (S := Ok G) (by kernel_rfl) [(true, 0), (true, 1), (true, 2), (true, 3), (true, 4), (true, 5), (true, 6), (true, 7), (false, 8), (true, 9), (true, 10), (true, 11), (true, 12), (true, 13)] (by kernel_rfl) (HG.out.drew g1) ?_
  replace g1 := HG.out.drew g1
  repeat ((first | (refine dyn_take rfl rfl (fun W g => by go_simp; rfl) ?_) | (refine dyn_skip rfl rfl ?_)); go_simp)
  refine dyn_act rfl rfl (fun K hK => ?_)
  go_wp2_with fail
  refine Calls.mono (spec_l26Find s nm s.envs[k].parent _ _ (HS.out.below (HG.out.below g1)) HOK.out HPA.out) ?_
  rintro e w2 ⟨rfl, hb⟩
  replace g1 := HG.out.step g1 hb
  clear hb
  simp only []
  refine hK.out _ _ g1 ?_
  clear hK
  repeat ((first | (refine dyn_take rfl rfl (fun W g => by go_simp; rfl) ?_) | (refine dyn_skip rfl rfl ?_)); go_simp)
  refine dyn_done ?_
  go_wp2_with fail
  all_goals go_ret
  all_goals exact ⟨ret_int (by rw [HO.out]; omega), HG.out.below g1⟩

set_option maxHeartbeats 8000000 in
theorem impl_AssignOuter (s : StoreD) (env : Int) (nm : List UInt8) (v : VecD) (ss cs : List Value) (w : World) (hs : StoreR w ss s) (hv : VecR w cs v) (hnm : nm.length ≤ maxLen) (hz : szStore s ≤ 600000000000) (hzv : szVector v ≤ 600000000000) :
    Calls Tryz.prog 33 #[.agg ss.toArray, .int .i64 env, .string (str nm), .agg cs.toArray] w (RetSB (assignOut s env nm v) w) := by
  have HS := Lib.hid hs
  have HV := Lib.hid hv
  have HZ := Lib.hid hz
  have s1 := szS_length szEnv s.envs
  have hz1 : szS szEnv s.envs ≤ 600000000000 := by unfold szStore at hz; omega
  obtain ⟨G, g0, HG, BX, BY, BZ⟩ := good3 w 33 ss 45 cs 33 zSt
  obtain ⟨E0, e0, E1, e1, rfl, _⟩ := hs.open_
  obtain ⟨_, A1, a1, A2, a2, A3, a3, A4, a4, A5, a5, rfl, _⟩ := hv.open_
  clear hs hv
  have x0 := fun W (h : Ok G W) => (BX.out W h).cell 0 _ rfl
  have x1 := fun W (h : Ok G W) => (BX.out W h).cell 1 _ rfl
  have u0 := fun W (h : Ok G W) => (BY.out W h).cell 0 _ rfl
  have u1 := fun W (h : Ok G W) => (BY.out W h).cell 1 _ rfl
  have u2 := fun W (h : Ok G W) => (BY.out W h).cell 2 _ rfl
  have u3 := fun W (h : Ok G W) => (BY.out W h).cell 3 _ rfl
  have u4 := fun W (h : Ok G W) => (BY.out W h).cell 4 _ rfl
  have u5 := fun W (h : Ok G W) => (BY.out W h).cell 5 _ rfl
  have u6 := fun W (h : Ok G W) => (BY.out W h).cell 6 _ rfl
  have u7 := fun W (h : Ok G W) => (BY.out W h).cell 7 _ rfl
  go_enter Tryz.func33, Tryz.ntmps33
  go_upto_region 1 with fail
  refine gen_w g0 ?_
  clear g0
  intro W1 g1
  go_wp2_with fail
  refine Calls.mono (impl_definable s env nm v _ _ _ (HS.out.below (HG.out.below g1)) (HV.out.below (HG.out.below g1)) hnm hz hzv) ?_
  rintro e w2 ⟨rfl, hb⟩
  replace g1 := HG.out.step g1 hb
  clear hb
  cases hfit : fitsD s env nm v
  · have HN := Lib.hid (show assignOut s env nm v = (stZ, false) by unfold assignOut; rw [if_neg (by simp [hfit])])
    have z0 := (BZ.out _ g1).frozen 0
    have z1 := (BZ.out _ g1).frozen 1
    have y0 := (BZ.out _ g1).cell 0 _ rfl
    have y1 := (BZ.out _ g1).cell 1 _ rfl
    have hltR := (BZ.out _ g1).lt
    go_wp2_with fail
    refine gen_w (put2 (w := w) (d := stZ) (lo := w.heap.size + 3) (.slice none 0 0) (.slice none 0 0) (BZ.out _ g1) (zeroSt _ _) (by omega) (by omega) (HG.out.below g1)) ?_
    clear z0 z1 y0 y1
    rintro V ⟨hblk, hv, hbv⟩
    have f0 := hblk.cell 0 _ rfl
    have f1 := hblk.cell 1 _ rfl
    refine bodyPost_ret (v := .tuple #[.agg #[.slice none 0 0, .slice none 0 0], .bool false]) (by simp [results, Tryz.results33, go_sem, f0, f1]) rfl ?_
    exact ⟨_, by rw [HN.out], by rw [HN.out]; exact hv, hbv⟩
  have HFIT := Lib.hid hfit
  clear hfit
  have HN := Lib.hid (show assignOut s env nm v = (defAt s (outS s env.toNat nm).toNat nm (slotV v), true) by unfold assignOut; rw [if_pos HFIT.out])
  have hf2 := HFIT.out
  unfold fitsD at hf2
  simp only [Bool.and_eq_true] at hf2
  have HOK := Lib.hid hf2.1.1.1
  have HVF := Lib.hid hf2.2
  obtain ⟨k0, hk0, rfl, _⟩ := env_lens hf2.1.1.1 hf2.1.1.2
  have HU0 := Lib.hid hf2.1.1.2
  obtain ⟨k, hk, hke, hlen⟩ := env_lens hf2.1.1.1 (out_env hf2.1.1.1 hk0 hf2.1.1.2 nm)
  have HKE := Lib.hid hke
  have hzs : s.envs[k].slots.length ≤ 600000000000 := by have h2 := szS_at szEnv s.envs k hk; unfold szEnv at h2 hz1; have := szS_length szSlot s.envs[k].slots; omega
  have HLEN := Lib.hid hlen
  clear hf2 hlen hke
  have HN2 := Lib.hid (show defAt s (outS s (k0 : Int).toNat nm).toNat nm (slotV v) = defS s k hk nm (slotV v) by rw [Int.toNat_natCast, HKE.out, Int.toNat_natCast]; exact defAt_eq hk _ _)
  go_wp2_with fail
  refine Calls.mono (impl_copyStore s _ _ (HS.out.below (HG.out.below g1)) hz) ?_
  rintro e w6 ⟨cs6, rfl, ho, hb⟩
  obtain ⟨C0, c0, C1, c1, rfl⟩ := ho.shape2
  have hz6 := hb.size
  have hw5 := (BZ.out _ g1).lt
  have g6 := HG.out.step g1 hb
  have HB6 := Lib.hid hb
  have HO6 := Lib.hid ho
  obtain ⟨wl, hwl⟩ : ∃ wl : Nat, wl = w2.heap.size := ⟨_, rfl⟩
  rw [← hwl] at HO6 hz6 hw5
  have HWL := Lib.hid hwl
  clear g1 hb ho hwl
  obtain ⟨G7, g7, HG7, BP⟩ := good1 w6 33 [.slice C0 s.envs.length c0, .slice C1 s.promises.length c1]
  have hG7 := fun W (h : Ok G7 W) => HG.out.step g6 (HG7.out.below h)
  have HH7 := Lib.hid hG7
  go_upto_region 4 with fail
  refine gen_w g7 ?_
  clear g7 x0 x1 u0 u1 u2 u3 u4 u5 u6 u7 hG7
  intro W7 g7
  have hw7 := (BP.out _ g7).lt
  have HY := Lib.hid (fun W (h : Ok (fun W => Blk W (w.heap.size + 1) 45 [.int .i64 v.kind, .slice A1 v.items.length a1, .slice A2 v.parts.length a2, .slice A3 v.names.length a3, .slice A4 v.cls.length a4, .slice A5 v.levels.length a5, .int .i64 v.code, .int .i64 v.env]) W) => show Blk W (w.heap.size + 1) 45 [.int .i64 v.kind, .slice A1 v.items.length a1, .slice A2 v.parts.length a2, .slice A3 v.names.length a3, .slice A4 v.cls.length a4, .slice A5 v.levels.length a5, .int .i64 v.code, .int .i64 v.env] from h)
  have gY : Ok (fun W => Blk W (w.heap.size + 1) 45 [.int .i64 v.kind, .slice A1 v.items.length a1, .slice A2 v.parts.length a2, .slice A3 v.names.length a3, .slice A4 v.cls.length a4, .slice A5 v.levels.length a5, .int .i64 v.code, .int .i64 v.env]) W7.drew := (BY.out _ (HH7.out _ g7)).below (Below.drew (Below.refl _ _))
  have u0 := fun W (h : Ok (fun W => Blk W (w.heap.size + 1) 45 [.int .i64 v.kind, .slice A1 v.items.length a1, .slice A2 v.parts.length a2, .slice A3 v.names.length a3, .slice A4 v.cls.length a4, .slice A5 v.levels.length a5, .int .i64 v.code, .int .i64 v.env]) W) => (HY.out W h).cell 0 _ rfl
  have u1 := fun W (h : Ok (fun W => Blk W (w.heap.size + 1) 45 [.int .i64 v.kind, .slice A1 v.items.length a1, .slice A2 v.parts.length a2, .slice A3 v.names.length a3, .slice A4 v.cls.length a4, .slice A5 v.levels.length a5, .int .i64 v.code, .int .i64 v.env]) W) => (HY.out W h).cell 1 _ rfl
  have u2 := fun W (h : Ok (fun W => Blk W (w.heap.size + 1) 45 [.int .i64 v.kind, .slice A1 v.items.length a1, .slice A2 v.parts.length a2, .slice A3 v.names.length a3, .slice A4 v.cls.length a4, .slice A5 v.levels.length a5, .int .i64 v.code, .int .i64 v.env]) W) => (HY.out W h).cell 2 _ rfl
  have u3 := fun W (h : Ok (fun W => Blk W (w.heap.size + 1) 45 [.int .i64 v.kind, .slice A1 v.items.length a1, .slice A2 v.parts.length a2, .slice A3 v.names.length a3, .slice A4 v.cls.length a4, .slice A5 v.levels.length a5, .int .i64 v.code, .int .i64 v.env]) W) => (HY.out W h).cell 3 _ rfl
  have u4 := fun W (h : Ok (fun W => Blk W (w.heap.size + 1) 45 [.int .i64 v.kind, .slice A1 v.items.length a1, .slice A2 v.parts.length a2, .slice A3 v.names.length a3, .slice A4 v.cls.length a4, .slice A5 v.levels.length a5, .int .i64 v.code, .int .i64 v.env]) W) => (HY.out W h).cell 4 _ rfl
  have u5 := fun W (h : Ok (fun W => Blk W (w.heap.size + 1) 45 [.int .i64 v.kind, .slice A1 v.items.length a1, .slice A2 v.parts.length a2, .slice A3 v.names.length a3, .slice A4 v.cls.length a4, .slice A5 v.levels.length a5, .int .i64 v.code, .int .i64 v.env]) W) => (HY.out W h).cell 5 _ rfl
  have u6 := fun W (h : Ok (fun W => Blk W (w.heap.size + 1) 45 [.int .i64 v.kind, .slice A1 v.items.length a1, .slice A2 v.parts.length a2, .slice A3 v.names.length a3, .slice A4 v.cls.length a4, .slice A5 v.levels.length a5, .int .i64 v.code, .int .i64 v.env]) W) => (HY.out W h).cell 6 _ rfl
  have u7 := fun W (h : Ok (fun W => Blk W (w.heap.size + 1) 45 [.int .i64 v.kind, .slice A1 v.items.length a1, .slice A2 v.parts.length a2, .slice A3 v.names.length a3, .slice A4 v.cls.length a4, .slice A5 v.levels.length a5, .int .i64 v.code, .int .i64 v.env]) W) => (HY.out W h).cell 7 _ rfl
  go_wp2_with fail
  refine wp_region_plan (S := Ok (fun W => Blk W (w.heap.size + 1) 45 [.int .i64 v.kind, .slice A1 v.items.length a1, .slice A2 v.parts.length a2, .slice A3 v.names.length a3, .slice A4 v.cls.length a4, .slice A5 v.levels.length a5, .int .i64 v.code, .int .i64 v.env])) (by kernel_rfl) [(true, 0), (true, 1), (true, 3), (true, 4), (false, 2), (false, 5), (true, 6), (false, 7)] (by kernel_rfl) gY ?_
  have g7d := HG7.out.drew g7
  have hdr : W7.drew.heap.size = W7.heap.size := rfl
  have p0 := (BP.out _ g7d).cell 0 _ rfl
  repeat ((first | (refine dyn_take rfl rfl (fun W g => by go_simp; rfl) ?_) | (refine dyn_skip rfl rfl ?_)); go_simp)
  refine dyn_act rfl rfl (fun K hK => ?_)
  go_wp2_with fail
  refine Calls.mono (impl_outer s k0 hk0 nm w6.heap.size C0 c0 C1 c1 _ (HO6.out.keeps (Keeps.of_below _ (HG7.out.below g7d))).read HOK.out HU0.out p0) ?_
  rintro e w7 ⟨rfl, rfl⟩
  rw [HKE.out]
  simp only []
  refine hK.out _ _ gY ?_
  clear hK
  repeat ((first | (refine dyn_take rfl rfl (fun W g => by go_simp; rfl) ?_) | (refine dyn_skip rfl rfl ?_)); go_simp)
  refine dyn_act rfl rfl (fun K hK => ?_)
  go_wp2_with fail
  refine Calls.mono (impl_copyVec v _ _ (HV.out.below (HG.out.below (HH7.out _ g7d))) (by omega)) ?_
  rintro e w8 ⟨cv, rfl, hov, hb⟩
  obtain ⟨B1, b1, B2, b2, B3, b3, B4, b4, B5, b5, rfl⟩ := hov.shape
  have HOV := Lib.hid hov
  have g8 := HG7.out.step g7d hb
  have hs8 := hb.size
  have gY8 : Ok (fun W => Blk W (w.heap.size + 1) 45 [.int .i64 v.kind, .slice A1 v.items.length a1, .slice A2 v.parts.length a2, .slice A3 v.names.length a3, .slice A4 v.cls.length a4, .slice A5 v.levels.length a5, .int .i64 v.code, .int .i64 v.env]) w8 := (HY.out _ gY).below hb
  clear hov hb
  simp only []
  refine hK.out _ _ gY8 ?_
  clear hK
  repeat ((first | (refine dyn_take rfl rfl (fun W g => by go_simp; rfl) ?_) | (refine dyn_skip rfl rfl ?_)); go_simp)
  refine dyn_act rfl rfl (fun K hK => ?_)
  go_wp2_with fail
  have hO8 : StoreO (Rng wl w6.heap.size) w8 [.slice C0 s.envs.length c0, .slice C1 s.promises.length c1] s := HO6.out.keeps (Keeps.of_below _ (HG7.out.below g8))
  have hX8 := slotV_own (S := Rng (w6.heap.size + 1) w8.heap.size) (VecO.mono HOV.out fun b h => ⟨by have := h.1; omega, h.2⟩)
  refine Calls.mono (impl_define s k hk nm hnm (slotV v) _ _ wl w6.heap.size w8 (BP.out _ g8) hO8 hz6 hX8 HLEN.out hzs (by omega)) ?_
  rintro e w9 ⟨rfl, hb6, ho9, hb9⟩
  have HD := Lib.hid (show StoreO (fun b => Rng wl w9.heap.size b ∧ b ≠ w6.heap.size) w9 [.slice C0 s.envs.length c0, .slice C1 s.promises.length c1] (defS s k hk nm (slotV v)) from ho9)
  have HB9 := Lib.hid hb9
  have hgw := HH7.out _ g8
  have BZ9 := Lib.hid (show Blk w9 (w.heap.size + 1 + 1) 33 zSt from (hb9.block _ hw5).trans (BZ.out _ hgw))
  have HBW := Lib.hid (show Below w.heap.size w w9 from (HG.out.below hgw).trans (hb9.mono (by have := (HG.out.below hgw).size; omega)))
  have y0 := hb6.cell 0 _ rfl
  have y1 := hb6.cell 1 _ rfl
  have z0 := BZ9.out.frozen 0
  have z1 := BZ9.out.frozen 1
  have r0 := BZ9.out.cell 0 _ rfl
  have r1 := BZ9.out.cell 1 _ rfl
  clear hO8 hX8 ho9 hb6 g8 hgw
  simp only []
  have gY9 : Ok (fun W => Blk W (w.heap.size + 1) 45 [.int .i64 v.kind, .slice A1 v.items.length a1, .slice A2 v.parts.length a2, .slice A3 v.names.length a3, .slice A4 v.cls.length a4, .slice A5 v.levels.length a5, .int .i64 v.code, .int .i64 v.env]) w9 := (hb9.block (w.heap.size + 1) (by omega)).trans (HY.out _ gY8)
  refine hK.out _ _ gY9 ?_
  clear hK hb9 gY9 gY8 gY
  repeat ((first | (refine dyn_take rfl rfl (fun W g => by go_simp; rfl) ?_) | (refine dyn_skip rfl rfl ?_)); go_simp)
  refine dyn_done ?_
  go_wp2_with fail
  refine gen_w (put2s (w := w) (r6 := w6.heap.size) (.slice C0 s.envs.length c0) (.slice C1 s.promises.length c1) BZ9.out HD.out (by omega) (by omega) HBW.out) ?_
  clear y0 y1 z0 z1 r0 r1
  rintro V ⟨hblk, hv, hbv⟩
  have f0 := hblk.cell 0 _ rfl
  have f1 := hblk.cell 1 _ rfl
  refine bodyPost_ret (v := .tuple #[.agg #[.slice C0 s.envs.length c0, .slice C1 s.promises.length c1], .bool true]) (by simp [results, Tryz.results33, go_sem, f0, f1]) rfl ?_
  exact ⟨_, by rw [HN.out], by rw [HN.out, HN2.out]; exact hv, hbv⟩

/-- what region 3's operations of the reference's AssignOuter yield -/
def aoR (o : Int) (nm : List UInt8) (x : StoreD × Bool) (V0 V1 : Value) (env : Int) : Nat → (Nat → Nat → Prop) → (Nat → Value) → World → Prop
  | 0, T, vs, W => vs 0 = V0
  | 1, T, vs, W => vs 1 = V0
  | 2, T, vs, W => vs 2 = .int .i64 env
  | 3, T, vs, W => vs 3 = .string (str nm)
  | 4, T, vs, W => vs 4 = .int .i64 o
  | 5, T, vs, W => vs 5 = .string (str nm)
  | 6, T, vs, W => vs 6 = V1
  | 7, T, vs, W => ∃ cs, vs 7 = .tuple #[.agg cs.toArray, .bool x.2] ∧ StoreO (T 1) W cs x.1
  | 8, T, vs, W => ∃ cs, vs 8 = .tuple #[.agg cs.toArray, .bool x.2] ∧ StoreO (T 1) W cs x.1
  | 9, T, vs, W => ∃ cs, vs 9 = .agg cs.toArray ∧ StoreO (T 1) W cs x.1
  | 10, T, vs, W => vs 10 = .bool x.2
  | 11, T, vs, W => ∃ g, vs 11 = .pointer (some ⟨g, 0, none⟩) ∧ Blk W g 33 zSt ∧ T 2 g
  | _, _, _, _ => True
def aoL : Nat → Nat
  | 7 => 1
  | 11 => 2
  | _ => 0
theorem aoK (o : Int) (nm : List UInt8) (x : StoreD × Bool) (V0 V1 : Value) (env : Int) (i : Nat) (T T' : Nat → Nat → Prop) (vs vs' : Nat → Value) (W W' : World) (hv : ∀ j ∈ [i], vs' j = vs j) (hT : ∀ l b, T l b → T' l b) (hb : Below W.heap.size W W') (h : aoR o nm x V0 V1 env i T vs W) : aoR o nm x V0 V1 env i T' vs' W' :=
  match i, hv, h with
  | 0, hv, h => (hv 0 List.mem_cons_self).trans h
  | 1, hv, h => (hv 1 List.mem_cons_self).trans h
  | 2, hv, h => (hv 2 List.mem_cons_self).trans h
  | 3, hv, h => (hv 3 List.mem_cons_self).trans h
  | 4, hv, h => (hv 4 List.mem_cons_self).trans h
  | 5, hv, h => (hv 5 List.mem_cons_self).trans h
  | 6, hv, h => (hv 6 List.mem_cons_self).trans h
  | 7, hv, h => by
    obtain ⟨cs, e, ho⟩ := h
    exact ⟨cs, (hv 7 List.mem_cons_self).trans e, (ho.keeps (Keeps.of_below _ hb)).mono (hT 1)⟩
  | 8, hv, h => by
    obtain ⟨cs, e, ho⟩ := h
    exact ⟨cs, (hv 8 List.mem_cons_self).trans e, (ho.keeps (Keeps.of_below _ hb)).mono (hT 1)⟩
  | 9, hv, h => by
    obtain ⟨cs, e, ho⟩ := h
    exact ⟨cs, (hv 9 List.mem_cons_self).trans e, (ho.keeps (Keeps.of_below _ hb)).mono (hT 1)⟩
  | 10, hv, h => (hv 10 List.mem_cons_self).trans h
  | 11, hv, h => by
    obtain ⟨g, e, hb2, ht⟩ := h
    exact ⟨g, (hv 11 List.mem_cons_self).trans e, hb2.below hb, hT _ _ ht⟩
  | _ + 12, _, _ => trivial

set_option maxHeartbeats 8000000 in
theorem spec_AssignOuter (s : StoreD) (env : Int) (nm : List UInt8) (v : VecD) (ss cs : List Value) (w : World) (hs : StoreR w ss s) (hv : VecR w cs v) (hnm : nm.length ≤ maxLen) (hz : szStore s ≤ 600000000000) (hzv : szVector v ≤ 600000000000) :
    Calls Tryz.prog 32 #[.agg ss.toArray, .int .i64 env, .string (str nm), .agg cs.toArray] w (RetSB (assignOut s env nm v) w) := by
  have HS := Lib.hid hs
  have HV := Lib.hid hv
  obtain ⟨G, g0, HG, BX, BY, BZ⟩ := good3 w 33 ss 45 cs 33 zSt
  obtain ⟨E0, e0, E1, e1, rfl, _⟩ := hs.open_
  obtain ⟨_, A1, a1, A2, a2, A3, a3, A4, a4, A5, a5, rfl, _⟩ := hv.open_
  clear hs hv
  have x0 := fun W (h : Ok G W) => (BX.out W h).cell 0 _ rfl
  have x1 := fun W (h : Ok G W) => (BX.out W h).cell 1 _ rfl
  have u0 := fun W (h : Ok G W) => (BY.out W h).cell 0 _ rfl
  have u1 := fun W (h : Ok G W) => (BY.out W h).cell 1 _ rfl
  have u2 := fun W (h : Ok G W) => (BY.out W h).cell 2 _ rfl
  have u3 := fun W (h : Ok G W) => (BY.out W h).cell 3 _ rfl
  have u4 := fun W (h : Ok G W) => (BY.out W h).cell 4 _ rfl
  have u5 := fun W (h : Ok G W) => (BY.out W h).cell 5 _ rfl
  have u6 := fun W (h : Ok G W) => (BY.out W h).cell 6 _ rfl
  have u7 := fun W (h : Ok G W) => (BY.out W h).cell 7 _ rfl
  go_enter Tryz.func32, Tryz.ntmps32
  go_upto_region 1 with fail
  refine gen_w g0 ?_
  clear g0
  intro W1 g1
  go_wp2_with fail
  refine Calls.mono (spec_l26Used s env _ _ (HS.out.below (HG.out.below g1)) (by omega)) ?_
  rintro e w2 ⟨rfl, hb⟩
  replace g1 := HG.out.step g1 hb
  clear hb
  cases h1 : storeOk s && envU s env
  · have HN := Lib.hid (show assignOut s env nm v = (stZ, false) by unfold assignOut; rw [if_neg (by simp [fitsD, h1])])
    have z0 := (BZ.out _ g1).frozen 0
    have z1 := (BZ.out _ g1).frozen 1
    have y0 := (BZ.out _ g1).cell 0 _ rfl
    have y1 := (BZ.out _ g1).cell 1 _ rfl
    have hltR := (BZ.out _ g1).lt
    go_wp2_with fail
    refine gen_w (put2 (w := w) (d := stZ) (lo := w.heap.size + 3) (.slice none 0 0) (.slice none 0 0) (BZ.out _ g1) (zeroSt _ _) (by omega) (by omega) (HG.out.below g1)) ?_
    clear z0 z1 y0 y1
    rintro V ⟨hblk, hv, hbv⟩
    have f0 := hblk.cell 0 _ rfl
    have f1 := hblk.cell 1 _ rfl
    refine bodyPost_ret (v := .tuple #[.agg #[.slice none 0 0, .slice none 0 0], .bool false]) (by simp [results, Tryz.results32, go_sem, f0, f1]) rfl ?_
    exact ⟨_, by rw [HN.out], by rw [HN.out]; exact hv, hbv⟩
  have hf2 := h1
  rw [Bool.and_eq_true] at hf2
  have HOK := Lib.hid hf2.1
  have HU0 := hf2.2
  obtain ⟨k, hk, rfl, _⟩ := env_lens hf2.1 hf2.2
  have HU := Lib.hid HU0
  have HN := Lib.hid (assign_def hk hf2.1 HU0 nm v)
  clear h1 hf2 HU0
  go_wp2_with fail
  refine wp_region_free3 (by kernel_rfl) 12 10 [(false, 12), (true, 13)] (by kernel_rfl) (Ok G) aoL (fun i => [i]) (aoR (outS s k nm) nm (defIn s (outS s k nm) nm v) (.agg #[.slice E0 s.envs.length e0, .slice E1 s.promises.length e1]) (.agg #[.int .i64 v.kind, .slice A1 v.items.length a1, .slice A2 v.parts.length a2, .slice A3 v.names.length a3, .slice A4 v.cls.length a4, .slice A5 v.levels.length a5, .int .i64 v.code, .int .i64 v.env]) k) (fun vs => ⟨#[.agg #[.slice E0 s.envs.length e0, .slice E1 s.promises.length e1], .int .i64 k, .string (str nm), .agg #[.int .i64 v.kind, .slice A1 v.items.length a1, .slice A2 v.parts.length a2, .slice A3 v.names.length a3, .slice A4 v.cls.length a4, .slice A5 v.levels.length a5, .int .i64 v.code, .int .i64 v.env], .pointer (some ⟨w.heap.size, 0, none⟩), undef, undef, .pointer (some ⟨w.heap.size + 1, 0, none⟩), .pointer (some ⟨w.heap.size + 1 + 1, 0, none⟩), .bool false, vs 11, vs 13, .agg #[.slice E0 s.envs.length e0, .slice E1 s.promises.length e1], .int .i64 k, .bool true, .bool false, undef, vs 8, vs 0, vs 1, vs 2, vs 3, vs 4, vs 5, vs 6, vs 7, vs 9, vs 10, undef, undef], []⟩) (fun vs => by kernel_rfl) (by kernel_rfl) (HG.out.drew g1) (aoK _ _ _ _ _ _) ?_ ?_ ?_
  · intro i o ho hi vs T W hS hd
    have hi' : i = 0 ∨ i = 1 ∨ i = 2 ∨ i = 3 ∨ i = 4 ∨ i = 5 ∨ i = 6 ∨ i = 7 ∨ i = 8 ∨ i = 9 ∨ i = 10 ∨ i = 11 := by omega
    clear hi
    rcases hi' with rfl | rfl | rfl | rfl | rfl | rfl | rfl | rfl | rfl | rfl | rfl | rfl
    · obtain rfl := Option.some.inj ho
      exact oper_ok (by first | (go_simp; done) | (go_simp; rfl) | (go_simp; exact ⟨rfl, rfl⟩) | (go_simp; exact ⟨rfl, rfl, rfl⟩)) ⟨_, rfl, Below.refl _ _, hS, upd_same _ _ _⟩
    · obtain rfl := Option.some.inj ho
      exact oper_ok (by first | (go_simp; done) | (go_simp; rfl) | (go_simp; exact ⟨rfl, rfl⟩) | (go_simp; exact ⟨rfl, rfl, rfl⟩)) ⟨_, rfl, Below.refl _ _, hS, upd_same _ _ _⟩
    · obtain rfl := Option.some.inj ho
      exact oper_ok (by first | (go_simp; done) | (go_simp; rfl) | (go_simp; exact ⟨rfl, rfl⟩) | (go_simp; exact ⟨rfl, rfl, rfl⟩)) ⟨_, rfl, Below.refl _ _, hS, upd_same _ _ _⟩
    · obtain rfl := Option.some.inj ho
      exact oper_ok (by first | (go_simp; done) | (go_simp; rfl) | (go_simp; exact ⟨rfl, rfl⟩) | (go_simp; exact ⟨rfl, rfl, rfl⟩)) ⟨_, rfl, Below.refl _ _, hS, upd_same _ _ _⟩
    · obtain rfl := Option.some.inj ho
      have d1 : vs 1 = _ := hd ⟨1, .data⟩ (by simp) rfl
      have d2 : vs 2 = _ := hd ⟨2, .data⟩ (by simp) rfl
      have d3 : vs 3 = _ := hd ⟨3, .data⟩ (by simp) rfl
      refine oper_call (by first | (go_simp; done) | (go_simp; rfl) | (go_simp; exact ⟨rfl, rfl⟩) | (go_simp; exact ⟨rfl, rfl, rfl⟩)) (spec_l26Outer s k hk nm _ W (HS.out.below (HG.out.below hS)) HOK.out HU.out) ?_
      rintro e W' ⟨rfl, hb⟩
      exact ⟨_, rfl, _, rfl, hb, HG.out.step hS hb, upd_same _ _ _⟩
    · obtain rfl := Option.some.inj ho
      exact oper_ok (by first | (go_simp; done) | (go_simp; rfl) | (go_simp; exact ⟨rfl, rfl⟩) | (go_simp; exact ⟨rfl, rfl, rfl⟩)) ⟨_, rfl, Below.refl _ _, hS, upd_same _ _ _⟩
    · obtain rfl := Option.some.inj ho
      exact oper_ok (by first | (go_simp; done) | (go_simp; rfl) | (go_simp; exact ⟨rfl, rfl⟩) | (go_simp; exact ⟨rfl, rfl, rfl⟩)) ⟨_, rfl, Below.refl _ _, hS, upd_same _ _ _⟩
    · obtain rfl := Option.some.inj ho
      have d0 : vs 0 = _ := hd ⟨0, .data⟩ (by simp) rfl
      have d4 : vs 4 = _ := hd ⟨4, .data⟩ (by simp) rfl
      have d5 : vs 5 = _ := hd ⟨5, .data⟩ (by simp) rfl
      have d6 : vs 6 = _ := hd ⟨6, .data⟩ (by simp) rfl
      refine oper_call (by first | (go_simp; done) | (go_simp; rfl) | (go_simp; exact ⟨rfl, rfl⟩) | (go_simp; exact ⟨rfl, rfl, rfl⟩)) (spec_DefineIn s (outS s k nm) nm v _ _ W (HS.out.below (HG.out.below hS)) (HV.out.below (HG.out.below hS)) hnm hz hzv) ?_
      rintro e W' ⟨cs, rfl, hos, hb⟩
      exact ⟨_, rfl, _, rfl, hb, HG.out.step hS hb, cs, upd_same _ _ _, hos.mono fun b hb => .inr ⟨rfl, hb.1, hb.2⟩⟩
    · obtain rfl := Option.some.inj ho
      obtain ⟨cs, d7, hos⟩ := (show aoR (outS s k nm) nm (defIn s (outS s k nm) nm v) (.agg #[.slice E0 s.envs.length e0, .slice E1 s.promises.length e1]) (.agg #[.int .i64 v.kind, .slice A1 v.items.length a1, .slice A2 v.parts.length a2, .slice A3 v.names.length a3, .slice A4 v.cls.length a4, .slice A5 v.levels.length a5, .int .i64 v.code, .int .i64 v.env]) k 7 T vs W from hd ⟨7, .data⟩ (by simp) rfl)
      exact oper_ok (by first | (go_simp; done) | (go_simp; rfl) | (go_simp; exact ⟨rfl, rfl⟩) | (go_simp; exact ⟨rfl, rfl, rfl⟩)) ⟨_, rfl, Below.refl _ _, hS, cs, upd_same _ _ _, hos.mono fun b hb => .inl hb⟩
    · obtain rfl := Option.some.inj ho
      obtain ⟨cs, d8, hos⟩ := (show aoR (outS s k nm) nm (defIn s (outS s k nm) nm v) (.agg #[.slice E0 s.envs.length e0, .slice E1 s.promises.length e1]) (.agg #[.int .i64 v.kind, .slice A1 v.items.length a1, .slice A2 v.parts.length a2, .slice A3 v.names.length a3, .slice A4 v.cls.length a4, .slice A5 v.levels.length a5, .int .i64 v.code, .int .i64 v.env]) k 8 T vs W from hd ⟨8, .data⟩ (by simp) rfl)
      exact oper_ok (by first | (go_simp; done) | (go_simp; rfl) | (go_simp; exact ⟨rfl, rfl⟩) | (go_simp; exact ⟨rfl, rfl, rfl⟩)) ⟨_, rfl, Below.refl _ _, hS, cs, upd_same _ _ _, hos.mono fun b hb => .inl hb⟩
    · obtain rfl := Option.some.inj ho
      obtain ⟨cs, d8, hos⟩ := (show aoR (outS s k nm) nm (defIn s (outS s k nm) nm v) (.agg #[.slice E0 s.envs.length e0, .slice E1 s.promises.length e1]) (.agg #[.int .i64 v.kind, .slice A1 v.items.length a1, .slice A2 v.parts.length a2, .slice A3 v.names.length a3, .slice A4 v.cls.length a4, .slice A5 v.levels.length a5, .int .i64 v.code, .int .i64 v.env]) k 8 T vs W from hd ⟨8, .data⟩ (by simp) rfl)
      exact oper_ok (by first | (go_simp; done) | (go_simp; rfl) | (go_simp; exact ⟨rfl, rfl⟩) | (go_simp; exact ⟨rfl, rfl, rfl⟩)) ⟨_, rfl, Below.refl _ _, hS, upd_same _ _ _⟩
    · obtain rfl := Option.some.inj ho
      exact oper_ok (by first | (go_simp; done) | (go_simp; rfl) | (go_simp; exact ⟨rfl, rfl⟩) | (go_simp; exact ⟨rfl, rfl, rfl⟩)) ⟨_, rfl, (Below.refl _ _).alloc (Nat.le_refl _) _, HG.out.alloc hS _, W.heap.size, upd_same _ _ _, Blk.new _ _ _, .inr ⟨rfl, Nat.le_refl _, by simp⟩⟩
  · intro vs T W hS hsz hT1 hT2 hR
    obtain ⟨cr, d9, hos⟩ := (show aoR (outS s k nm) nm (defIn s (outS s k nm) nm v) (.agg #[.slice E0 s.envs.length e0, .slice E1 s.promises.length e1]) (.agg #[.int .i64 v.kind, .slice A1 v.items.length a1, .slice A2 v.parts.length a2, .slice A3 v.names.length a3, .slice A4 v.cls.length a4, .slice A5 v.levels.length a5, .int .i64 v.code, .int .i64 v.env]) k 9 T vs W from hR 9 (by decide))
    obtain ⟨r, d11, hbr, t11⟩ := (show aoR (outS s k nm) nm (defIn s (outS s k nm) nm v) (.agg #[.slice E0 s.envs.length e0, .slice E1 s.promises.length e1]) (.agg #[.int .i64 v.kind, .slice A1 v.items.length a1, .slice A2 v.parts.length a2, .slice A3 v.names.length a3, .slice A4 v.cls.length a4, .slice A5 v.levels.length a5, .int .i64 v.code, .int .i64 v.env]) k 11 T vs W from hR 11 (by decide))
    have d10 : vs 10 = _ := hR 10 (by decide)
    obtain ⟨C0, c0, C1, c1, rfl⟩ := hos.shape2
    have hr := hT1 _ _ t11
    have hbW := HG.out.below hS
    have BZW := BZ.out _ hS
    have hw1 := BZ.out _ g1
    have hwl := hw1.lt
    have HOS := Lib.hid (StoreO.mono (S' := fun b => Rng w2.heap.size W.heap.size b ∧ b ≠ r) hos fun b hb => ⟨⟨(hT1 1 b hb).1, (hT1 1 b hb).2⟩, fun e => by have := hT2 1 2 b hb (e ▸ t11); omega⟩)
    clear hT1 hT2 hR hos t11 hw1
    refine ⟨Ok (fun _ => True), trivial, ?_⟩
    have y0 := hbr.cell 0 _ rfl
    have y1 := hbr.cell 1 _ rfl
    have z0 := hbr.frozen 0
    have z1 := hbr.frozen 1
    refine dyn_act rfl rfl (fun K hK => ?_)
    go_wp2_with fail
    refine hK.out _ _ trivial ?_
    clear hK y0 y1 z0 z1
    refine dyn_take rfl rfl (fun W g => by go_simp; rfl) ?_
    go_simp
    refine dyn_done ?_
    refine gen_w (G := fun V => Blk V r 33 [.slice C0 (defIn s (outS s k nm) nm v).1.envs.length c0, .slice C1 (defIn s (outS s k nm) nm v).1.promises.length c1] ∧ Blk V (w.heap.size + 1 + 1) 33 zSt ∧ StoreO (fun b => Rng w2.heap.size V.heap.size b ∧ b ≠ r) V [.slice C0 (defIn s (outS s k nm) nm v).1.envs.length c0, .slice C1 (defIn s (outS s k nm) nm v).1.promises.length c1] (defIn s (outS s k nm) nm v).1 ∧ Below w.heap.size w V)
      (show Ok _ _ from ⟨(hbr.set_ 0 _).set_ 1 _, (BZW.far ⟨r, 0, none⟩ (by show w.heap.size + 1 + 1 ≠ r; omega) _).far ⟨r, 1, none⟩ (by show w.heap.size + 1 + 1 ≠ r; omega) _, (StoreO.keeps HOS.out (((Keeps.refl _ _).sc (b := r) (o := 0) (fun h => h.2 rfl) _).sc (b := r) (o := 1) (fun h => h.2 rfl) _)).mono (fun b h => by simpa [World.setCell] using h), below_sc (b := r) (o := 1) (below_sc (b := r) (o := 0) hbW (by omega) _) (by omega) _⟩) ?_
    clear hbr BZW HOS hbW hS
    rintro V ⟨hbr, hbz, hos, hbv⟩
    have y0 := hbr.cell 0 _ rfl
    have y1 := hbr.cell 1 _ rfl
    have z0 := hbz.frozen 0
    have z1 := hbz.frozen 1
    have r0 := hbz.cell 0 _ rfl
    have r1 := hbz.cell 1 _ rfl
    have HOS := Lib.hid hos
    have HBV := Lib.hid hbv
    have HBZ := Lib.hid hbz
    clear hbr hbz hos hbv
    go_wp2_with fail
    refine gen_w (put2s (w := w) (r6 := r) (.slice C0 (defIn s (outS s k nm) nm v).1.envs.length c0) (.slice C1 (defIn s (outS s k nm) nm v).1.promises.length c1) HBZ.out HOS.out (by omega) (by omega) HBV.out) ?_
    clear y0 y1 z0 z1 r0 r1
    rintro V2 ⟨hblk, hv, hbv⟩
    have f0 := hblk.cell 0 _ rfl
    have f1 := hblk.cell 1 _ rfl
    refine bodyPost_ret (v := .tuple #[.agg #[.slice C0 (defIn s (outS s k nm) nm v).1.envs.length c0, .slice C1 (defIn s (outS s k nm) nm v).1.promises.length c1], .bool (defIn s (outS s k nm) nm v).2]) (by simp [results, Tryz.results32, go_sem, f0, f1]) rfl ?_
    exact ⟨_, by rw [HN.out], by rw [HN.out]; exact hv, hbv⟩
  · intro vs T W hS hsz hT1 hT2 hR
    obtain ⟨cr, d9, hos⟩ := (show aoR (outS s k nm) nm (defIn s (outS s k nm) nm v) (.agg #[.slice E0 s.envs.length e0, .slice E1 s.promises.length e1]) (.agg #[.int .i64 v.kind, .slice A1 v.items.length a1, .slice A2 v.parts.length a2, .slice A3 v.names.length a3, .slice A4 v.cls.length a4, .slice A5 v.levels.length a5, .int .i64 v.code, .int .i64 v.env]) k 9 T vs W from hR 9 (by decide) (by decide))
    obtain ⟨r, d11, hbr, t11⟩ := (show aoR (outS s k nm) nm (defIn s (outS s k nm) nm v) (.agg #[.slice E0 s.envs.length e0, .slice E1 s.promises.length e1]) (.agg #[.int .i64 v.kind, .slice A1 v.items.length a1, .slice A2 v.parts.length a2, .slice A3 v.names.length a3, .slice A4 v.cls.length a4, .slice A5 v.levels.length a5, .int .i64 v.code, .int .i64 v.env]) k 11 T vs W from hR 11 (by decide) (by decide))
    obtain ⟨cq, d8, _⟩ := (show aoR (outS s k nm) nm (defIn s (outS s k nm) nm v) (.agg #[.slice E0 s.envs.length e0, .slice E1 s.promises.length e1]) (.agg #[.int .i64 v.kind, .slice A1 v.items.length a1, .slice A2 v.parts.length a2, .slice A3 v.names.length a3, .slice A4 v.cls.length a4, .slice A5 v.levels.length a5, .int .i64 v.code, .int .i64 v.env]) k 8 T vs W from hR 8 (by decide) (by decide))
    obtain ⟨C0, c0, C1, c1, rfl⟩ := hos.shape2
    have hr := hT1 _ _ t11
    have hbW := HG.out.below hS
    have BZW := BZ.out _ hS
    have hw1 := BZ.out _ g1
    have hwl := hw1.lt
    have HOS := Lib.hid (StoreO.mono (S' := fun b => Rng w2.heap.size W.heap.size b ∧ b ≠ r) hos fun b hb => ⟨⟨(hT1 1 b hb).1, (hT1 1 b hb).2⟩, fun e => by have := hT2 1 2 b hb (e ▸ t11); omega⟩)
    clear hT1 hT2 hR hos t11 hw1
    refine ⟨Ok (fun _ => True), trivial, ?_⟩
    refine dyn_take rfl rfl (fun W g => by go_simp; rfl) ?_
    go_simp
    have y0 := hbr.cell 0 _ rfl
    have y1 := hbr.cell 1 _ rfl
    have z0 := hbr.frozen 0
    have z1 := hbr.frozen 1
    refine dyn_act rfl rfl (fun K hK => ?_)
    go_wp2_with fail
    refine hK.out _ _ trivial ?_
    clear hK y0 y1 z0 z1
    refine dyn_take rfl rfl (fun W g => by go_simp; rfl) ?_
    go_simp
    refine dyn_done ?_
    refine gen_w (G := fun V => Blk V r 33 [.slice C0 (defIn s (outS s k nm) nm v).1.envs.length c0, .slice C1 (defIn s (outS s k nm) nm v).1.promises.length c1] ∧ Blk V (w.heap.size + 1 + 1) 33 zSt ∧ StoreO (fun b => Rng w2.heap.size V.heap.size b ∧ b ≠ r) V [.slice C0 (defIn s (outS s k nm) nm v).1.envs.length c0, .slice C1 (defIn s (outS s k nm) nm v).1.promises.length c1] (defIn s (outS s k nm) nm v).1 ∧ Below w.heap.size w V)
      (show Ok _ _ from ⟨(hbr.set_ 0 _).set_ 1 _, (BZW.far ⟨r, 0, none⟩ (by show w.heap.size + 1 + 1 ≠ r; omega) _).far ⟨r, 1, none⟩ (by show w.heap.size + 1 + 1 ≠ r; omega) _, (StoreO.keeps HOS.out (((Keeps.refl _ _).sc (b := r) (o := 0) (fun h => h.2 rfl) _).sc (b := r) (o := 1) (fun h => h.2 rfl) _)).mono (fun b h => by simpa [World.setCell] using h), below_sc (b := r) (o := 1) (below_sc (b := r) (o := 0) hbW (by omega) _) (by omega) _⟩) ?_
    clear hbr BZW HOS hbW hS
    rintro V ⟨hbr, hbz, hos, hbv⟩
    have y0 := hbr.cell 0 _ rfl
    have y1 := hbr.cell 1 _ rfl
    have z0 := hbz.frozen 0
    have z1 := hbz.frozen 1
    have r0 := hbz.cell 0 _ rfl
    have r1 := hbz.cell 1 _ rfl
    have HOS := Lib.hid hos
    have HBV := Lib.hid hbv
    have HBZ := Lib.hid hbz
    clear hbr hbz hos hbv
    go_wp2_with fail
    refine gen_w (put2s (w := w) (r6 := r) (.slice C0 (defIn s (outS s k nm) nm v).1.envs.length c0) (.slice C1 (defIn s (outS s k nm) nm v).1.promises.length c1) HBZ.out HOS.out (by omega) (by omega) HBV.out) ?_
    clear y0 y1 z0 z1 r0 r1
    rintro V2 ⟨hblk, hv, hbv⟩
    have f0 := hblk.cell 0 _ rfl
    have f1 := hblk.cell 1 _ rfl
    refine bodyPost_ret (v := .tuple #[.agg #[.slice C0 (defIn s (outS s k nm) nm v).1.envs.length c0, .slice C1 (defIn s (outS s k nm) nm v).1.promises.length c1], .bool (defIn s (outS s k nm) nm v).2]) (by simp [results, Tryz.results32, go_sem, f0, f1]) rfl ?_
    exact ⟨_, by rw [HN.out], by rw [HN.out]; exact hv, hbv⟩
end Go.Proofs.YtejieacdfjpfnaaGreat
