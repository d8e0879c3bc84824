/-
  Copies of vectors in memory of their own; ValueIn, of the program and of the reference.
-/
import Derived.Test.YtjdimlhdkmkmbaaKGood
import Derived.Test.YtjdimlhdkmkmbaaKOk5
import Derived.Test.YtjdimlhdkmkmbaaKStore
import Derived.Deep.RegionHeld3
import Derived.Deep.DeepCutAuto
namespace Go.Proofs.Ytjdimlhdkmkmbaa
set_option maxRecDepth 100000
open Go.ChangeShapes Go.WideShapes Go.ChangeAt Go.RowKit Go.Deep
set_option linter.unusedVariables false
set_option maxRecDepth 100000

section
variable {P : Program} {ops : Array Oper} {Q : Exit → Act → World → Prop}

def dstOf (ops : Array Oper) (i : Nat) : Option Tmp := (ops[i]?).bind (·.dst)
/-- the frame in which each operation i of L has yielded vs i -/
def fullOn (ops : Array Oper) (vs : Nat → Value) (L : List Nat) (a : Act) : Act := L.foldl (fun a i => a.put (dstOf ops i) (vs i)) a
def upd (vs : Nat → Value) (i : Nat) (v : Value) : Nat → Value := fun j => if j = i then v else vs j
theorem upd_same (vs : Nat → Value) (i : Nat) (v : Value) : upd vs i v i = v := by simp [upd]
theorem upd_ne (vs : Nat → Value) (i j : Nat) (v : Value) (h : j ≠ i) : upd vs i v j = vs j := by simp [upd, h]

theorem put_put (a : Act) (x : Option Tmp) (u v : Value) : (a.put x u).put x v = a.put x v := by
  cases x with
  | none => rfl
  | some d => simp [Act.put]
theorem put_self (a : Act) (x : Option Tmp) : a.put x (match x with | some d => a.tmps.getD d undef | none => undef) = a := by
  cases x with
  | none => rfl
  | some d =>
    have : a.tmps.setIfInBounds d (a.tmps.getD d undef) = a.tmps := by
      apply Array.ext
      · simp
      · intro i h1 h2
        rw [Array.getElem_setIfInBounds]
        · by_cases h : d = i
          · subst h; simp [h2]
          · simp [h]
        · exact h2
    show Act.put a (some d) (a.tmps.getD d undef) = a
    simp only [Act.put, this]
theorem fullOn_after (vs : Nat → Value) (x : Option Tmp) (v : Value) : ∀ (L : List Nat) (a : Act), (∀ j ∈ L, ∀ d, x = some d → dstOf ops j ≠ some d) → (fullOn ops vs L a).put x v = fullOn ops vs L (a.put x v) := by
  intro L
  induction L with
  | nil => intro a _; rfl
  | cons j L ih =>
    intro a h
    show (fullOn ops vs L (a.put (dstOf ops j) (vs j))).put x v = fullOn ops vs L ((a.put x v).put (dstOf ops j) (vs j))
    rw [ih _ (fun k hk => h k (List.mem_cons_of_mem _ hk)), ← Act.put_comm a v (vs j) (h j List.mem_cons_self)]
theorem fullOn_congr (vs vs' : Nat → Value) : ∀ (L : List Nat) (a : Act), (∀ j ∈ L, vs j = vs' j) → fullOn ops vs L a = fullOn ops vs' L a := by
  intro L
  induction L with
  | nil => intro a _; rfl
  | cons j L ih =>
    intro a h
    show fullOn ops vs L (a.put (dstOf ops j) (vs j)) = fullOn ops vs' L (a.put (dstOf ops j) (vs' j))
    rw [h j List.mem_cons_self, ih _ (fun k hk => h k (List.mem_cons_of_mem _ hk))]
theorem fullOn_upd (vs : Nat → Value) (i : Nat) (v : Value) : ∀ (L : List Nat) (a : Act), L.Nodup → i ∈ L → (∀ j ∈ L, j ≠ i → ∀ d, dstOf ops i = some d → dstOf ops j ≠ some d) → (fullOn ops vs L a).put (dstOf ops i) v = fullOn ops (upd vs i v) L a := by
  intro L
  induction L with
  | nil => intro a _ h; cases h
  | cons j L ih =>
    intro a hn hi hd
    rw [List.nodup_cons] at hn
    show (fullOn ops vs L (a.put (dstOf ops j) (vs j))).put (dstOf ops i) v = fullOn ops (upd vs i v) L (a.put (dstOf ops j) (upd vs i v j))
    by_cases h : j = i
    · subst h
      rw [fullOn_after vs _ v L _ (fun k hk => hd k (List.mem_cons_of_mem _ hk) (fun e => hn.1 (e ▸ hk))), put_put, upd_same]
      exact fullOn_congr _ _ L _ (fun k hk => (upd_ne vs j k v (fun e => hn.1 (e ▸ hk))).symm)
    · rw [upd_ne _ _ _ _ h]
      exact ih _ hn.2 ((List.mem_cons.1 hi).resolve_left (fun e => h e.symm)) (fun k hk => hd k (List.mem_cons_of_mem _ hk))

def fullAct (ops : Array Oper) (vs : Nat → Value) (a : Act) : Act := fullOn ops vs (List.range ops.size) a
theorem fullAct_start (ops : Array Oper) (a : Act) : ∃ vs, a = fullAct ops vs a := by
  refine ⟨fun i => match dstOf ops i with | some d => a.tmps.getD d undef | none => undef, ?_⟩
  unfold fullAct
  generalize List.range ops.size = L
  induction L with
  | nil => rfl
  | cons j L ih =>
    show a = fullOn ops _ L (a.put (dstOf ops j) _)
    rw [put_self]
    exact ih

/-- what the way asks of a region: edges lead back, no guards, each yields into a slot of its own, the last comes after all -/
def freeOk (ops : Array Oper) : Bool :=
  decide (0 < ops.size) && ops.all (fun o => o.guard.isNone) &&
  (List.range ops.size).all (fun i => (List.range ops.size).all fun j => i == j || match dstOf ops i with | some d => dstOf ops j != some d | none => true) &&
  (List.range ops.size).all (fun i => match ops[i]? with | some o => o.after.all (fun e => decide (e.on < i)) | none => true) &&
  (match ops[ops.size - 1]? with | some o => (List.range (ops.size - 1)).all fun i => o.after.any fun e => Region.binds .any e && e.on == i | none => false)

theorem filter_less {p p' : Nat → Bool} (h : ∀ j, p' j = true → p j = true) (i : Nat) (h1 : p i = true) (h2 : p' i = false) : ∀ L : List Nat, (L.filter p').length ≤ (L.filter p).length ∧ (i ∈ L → (L.filter p').length < (L.filter p).length) := by
  intro L
  induction L with
  | nil => exact ⟨Nat.le_refl _, fun h => by cases h⟩
  | cons j L ih =>
    rw [List.filter_cons, List.filter_cons]
    by_cases hj' : p' j = true
    · rw [if_pos hj', if_pos (h j hj')]
      refine ⟨by simpa using ih.1, fun hi => ?_⟩
      rcases List.mem_cons.1 hi with rfl | hi
      · rw [h2] at hj'; cases hj'
      · simpa using ih.2 hi
    · rw [if_neg hj']
      by_cases hj : p j = true
      · rw [if_pos hj]
        exact ⟨by simp; omega, fun _ => by simp; omega⟩
      · rw [if_neg hj]
        refine ⟨ih.1, fun hi => ?_⟩
        rcases List.mem_cons.1 hi with rfl | hi
        · exact absurd h1 hj
        · exact ih.2 hi

/-- the state of a region in the midst -/
structure FInv (ops : Array Oper) (S : World → Prop) (R : Nat → (Nat → Nat → Prop) → (Nat → Value) → World → Prop) (base : Nat) (a0 : Act) (listed : Array Bool) (a : Act) (w : World) : Prop where
  size : listed.size = ops.size
  last : listed.getD (ops.size - 1) false = false
  closed : ∀ i o, ops[i]? = some o → listed.getD i false = true → ∀ e ∈ o.after, Region.binds .any e = true → listed.getD e.on false = true
  ex : ∃ (vs : Nat → Value) (T : Nat → Nat → Prop), a = fullAct ops vs a0 ∧ S w ∧ base ≤ w.heap.size ∧ (∀ l b, T l b → base ≤ b ∧ b < w.heap.size) ∧ (∀ l l' b, T l b → T l' b → l = l') ∧ ∀ i, listed.getD i false = true → R i T vs w

theorem getD_false {listed : Array Bool} {n i : Nat} (hs : listed.size = n) (hi : i < n) (d : Bool) : listed.getD i d = listed.getD i false := by
  simp [Array.getD, hs, hi]

theorem rep_false (n i : Nat) : (Array.replicate n false).getD i false = false := by
  unfold Array.getD
  split
  · simp
  · rfl

theorem wp_region_free {id : Nat} {a0 : Act} {w : World} (hm : P.follows .mixedOrders = true) (hc : freeOk ops = true) (S : World → Prop) (lab : Nat → Nat) (D : Nat → List Nat) (R : Nat → (Nat → Nat → Prop) → (Nat → Value) → World → Prop) (F : (Nat → Value) → Act) (hF : ∀ vs, fullAct ops vs a0 = F vs)
    (hD : ((List.range ops.size).all fun i => (D i).all fun j => j == i || match ops[i]? with | some o => o.after.any fun e => Region.binds .any e && e.on == j | none => false) = true)
    (hS : S w.drew)
    (hR : ∀ (i : Nat) (T T' : Nat → Nat → Prop) (vs vs' : Nat → Value) (W W' : World), (∀ j ∈ D i, vs' j = vs j) → (∀ l b, T l b → T' l b) → Below W.heap.size W W' → R i T vs W → R i T' vs' W')
    (hstep : ∀ i o, ops[i]? = some o → i + 1 < ops.size → ∀ (vs : Nat → Value) (T : Nat → Nat → Prop) (W : World), S W → (∀ e ∈ o.after, Region.binds .any e = true → R e.on T vs W) →
      Oper.wp P o (F vs) W (fun a' W' => ∃ v, a' = (F vs).put o.dst v ∧ Below W.heap.size W W' ∧ S W' ∧ R i (fun l b => T l b ∨ (l = lab i ∧ W.heap.size ≤ b ∧ b < W'.heap.size)) (upd vs i v) W') Q)
    (hlast : ∀ o, ops[ops.size - 1]? = some o → ∀ (vs : Nat → Value) (T : Nat → Nat → Prop) (W : World), S W → w.heap.size ≤ W.heap.size → (∀ l b, T l b → w.heap.size ≤ b ∧ b < W.heap.size) → (∀ l l' b, T l b → T l' b → l = l') → (∀ i, i + 1 < ops.size → R i T vs W) →
      Oper.wp P o (F vs) W (Q .normal) Q) :
    (Code.region id ops true).wp P Q a0 w := by
  simp only [freeOk, Bool.and_eq_true, decide_eq_true_eq] at hc
  obtain ⟨⟨⟨⟨hpos, hg⟩, hdist⟩, hback⟩, hlastAll⟩ := hc
  have hguard : ∀ (i : Nat) (o : Oper), ops[i]? = some o → o.guard = none := fun i o ho => by
    have := Array.all_eq_true_iff_forall_mem.1 hg o (Array.mem_of_getElem? ho)
    simpa using this
  have hdst : ∀ (i j : Nat), i < ops.size → j < ops.size → j ≠ i → ∀ d, dstOf ops i = some d → dstOf ops j ≠ some d := fun i j hi hj hne d hd => by
    have h1 := List.all_eq_true.1 (List.all_eq_true.1 hdist i (List.mem_range.2 hi)) j (List.mem_range.2 hj)
    rw [hd] at h1
    simp only [Bool.or_eq_true, beq_iff_eq, bne_iff_ne] at h1
    exact h1.resolve_left (fun e => hne e.symm)
  have hbk : ∀ (i : Nat) (o : Oper), ops[i]? = some o → ∀ e ∈ o.after, e.on < i := fun i o ho e he => by
    have hi : i < ops.size := (Array.getElem?_eq_some_iff.1 ho).1
    have h1 := List.all_eq_true.1 hback i (List.mem_range.2 hi)
    rw [ho] at h1
    have := Array.all_eq_true_iff_forall_mem.1 h1 e he
    simpa using this
  refine wp_region_any hm ?_
  have key : ∀ (fuel : Nat) (listed : Array Bool) (a : Act) (W : World), FInv ops S R w.heap.size a0 listed a W → ((List.range ops.size).filter fun i => !listed.getD i false).length ≤ fuel → wpAny P .any ops Q fuel listed a W := by
    intro fuel
    induction fuel with
    | zero =>
      intro listed a W hI hf
      exfalso
      have h1 : (ops.size - 1) ∈ (List.range ops.size).filter fun i => !listed.getD i false := by
        rw [List.mem_filter, List.mem_range]
        exact ⟨by omega, by rw [hI.last]; rfl⟩
      have := List.length_pos_of_mem h1
      omega
    | succ fuel ih =>
      intro listed a W hI hf
      refine ⟨fun hr => ?_, fun i hi => ?_⟩
      · exfalso
        have hall : ∀ i, i < ops.size → listed.getD i false = true := by
          intro i
          induction i using Nat.strongRecOn with
          | _ i ihi =>
            intro hi
            by_cases hl : listed.getD i false = true
            · exact hl
            · exfalso
              have hm2 : i ∈ Region.ready .any ops listed := by
                rw [mem_ready]
                refine ⟨by rw [getD_false hI.size hi]; simpa using hl, ops[i], Array.getElem?_eq_getElem hi, fun e he hb => ?_⟩
                have hlt := hbk i _ (Array.getElem?_eq_getElem hi) e he
                exact ihi e.on hlt (by omega)
              rw [hr] at hm2
              cases hm2
        have := hall (ops.size - 1) (by omega)
        rw [hI.last] at this
        cases this
      · rw [mem_ready] at hi
        obtain ⟨hl, o, ho, hdeps⟩ := hi
        have hin : i < ops.size := (Array.getElem?_eq_some_iff.1 ho).1
        rw [getD_false hI.size hin] at hl
        obtain ⟨vs, T, hA, hSW, hbs, hT1, hT2, hRW⟩ := hI.ex
        rw [hF] at hA
        subst hA
        have hwant : Region.wanted o (yielded ops (F vs).tmps) = true := by unfold Region.wanted; rw [hguard i o ho]
        unfold wpOp
        rw [ho]
        dsimp only
        rw [if_pos hwant]
        left
        have hless := (filter_less (p := fun j => !listed.getD j false) (p' := fun j => !(listed.setIfInBounds i true).getD j false) (fun j hj => by
          by_cases hji : i = j
          · subst hji; simp [hl]
          · rw [getD_set_ne false hji] at hj; exact hj) i (by simp [hl]) (by simp [hI.size, hin]) (List.range ops.size)).2 (List.mem_range.2 hin)
        by_cases hla : i + 1 < ops.size
        · refine Oper.wp_mono (fun a' W' h' => ?_) (hstep i o ho hla vs T W hSW (fun e he hb => hRW e.on (hdeps e he hb)))
          obtain ⟨v, rfl, hb, hS', hRi⟩ := h'
          refine ih _ _ _ ⟨by simp [hI.size], ?_, ?_, upd vs i v, (fun l b => T l b ∨ (l = lab i ∧ W.heap.size ≤ b ∧ b < W'.heap.size)), ?_, hS', Nat.le_trans hbs hb.size, ?_, ?_, ?_⟩ (by omega)
          · rw [getD_set_ne false (by omega)]; exact hI.last
          · intro k ok hk hlk e he hbe
            by_cases hik : i = k
            · subst hik
              rw [ho] at hk
              injection hk with hk
              subst hk
              exact getD_set_true (hdeps e he hbe)
            · rw [getD_set_ne false hik] at hlk
              exact getD_set_true (hI.closed k ok hk hlk e he hbe)
          · have h9 := fullOn_upd (ops := ops) vs i v (List.range ops.size) a0 List.nodup_range (List.mem_range.2 hin) (fun j hj hne => hdst i j hin (List.mem_range.1 hj) hne)
            have hdo : dstOf ops i = o.dst := by unfold dstOf; rw [ho]; rfl
            rw [hdo] at h9
            rw [← hF]
            exact h9
          · rintro l b (h1 | ⟨_, h2, h3⟩)
            · have := hT1 l b h1; have := hb.size; omega
            · omega
          · rintro l l' b (h1 | ⟨h1, h2, h3⟩) (k1 | ⟨k1, k2, k3⟩)
            · exact hT2 l l' b h1 k1
            · have := hT1 l b h1; omega
            · have := hT1 l' b k1; omega
            · rw [h1, k1]
          · intro k hlk
            by_cases hik : i = k
            · subst hik; exact hRi
            · rw [getD_set_ne false hik] at hlk
              refine hR k T _ vs _ W W' (fun j hj => ?_) (fun l b h1 => .inl h1) hb (hRW k hlk)
              refine upd_ne _ _ _ _ fun hji => ?_
              subst hji
              have hkn : k < ops.size := by
                rcases Nat.lt_or_ge k ops.size with h' | h'
                · exact h'
                · have : listed.getD k false = false := by simp [Array.getD, hI.size]; omega
                  rw [this] at hlk; cases hlk
              have h1 := List.all_eq_true.1 (List.all_eq_true.1 hD k (List.mem_range.2 hkn)) j hj
              rw [Array.getElem?_eq_getElem hkn] at h1
              simp only [Bool.or_eq_true, beq_iff_eq] at h1
              rcases h1 with h1 | h1
              · exact hik h1
              · rw [Array.any_eq_true'] at h1
                obtain ⟨e, he, h2⟩ := h1
                simp only [Bool.and_eq_true, beq_iff_eq] at h2
                have := hI.closed k _ (Array.getElem?_eq_getElem hkn) hlk e he h2.1
                rw [h2.2, hl] at this
                cases this
        · have hil : i = ops.size - 1 := by omega
          subst hil
          rw [ho] at hlastAll
          dsimp only at hlastAll
          have hall : ∀ k, k + 1 < ops.size → listed.getD k false = true := fun k hk => by
            have h1 := List.all_eq_true.1 hlastAll k (List.mem_range.2 (by omega))
            rw [Array.any_eq_true'] at h1
            obtain ⟨e, he, h2⟩ := h1
            simp only [Bool.and_eq_true, beq_iff_eq] at h2
            rw [← h2.2]
            exact hdeps e he h2.1
          refine Oper.wp_mono (fun a' W' h' => ?_) (hlast o ho vs T W hSW hbs hT1 hT2 (fun k hk => hRW k (hall k hk)))
          refine wpAny_done ?_ h' _
          rw [List.eq_nil_iff_forall_not_mem]
          intro k hk
          rw [mem_ready] at hk
          obtain ⟨hk1, ok, hok, _⟩ := hk
          have hkn : k < ops.size := (Array.getElem?_eq_some_iff.1 hok).1
          by_cases hkl : ops.size - 1 = k
          · subst hkl
            simp [hI.size, hkn] at hk1
          · rw [getD_set_ne true hkl, getD_false hI.size hkn, hall k (by omega)] at hk1
            cases hk1
  obtain ⟨vs0, hvs0⟩ := fullAct_start ops a0
  refine key ops.size _ _ _ ⟨by simp, ?_, ?_, vs0, fun _ _ => False, hvs0, hS, Nat.le_refl _, fun _ _ h => h.elim, fun _ _ _ h => h.elim, ?_⟩ ?_
  · exact rep_false _ _
  · intro i o _ h; rw [rep_false] at h; cases h
  · intro i h; rw [rep_false] at h; cases h
  · exact Nat.le_trans (List.length_filter_le _ _) (by simp)
end
end Go.Proofs.Ytjdimlhdkmkmbaa
namespace Go.Proofs.Ytjdimlhdkmkmbaa
open Go.ChangeShapes Go.WideShapes Go.ChangeAt Go.RowKit Go.Deep
set_option linter.unusedVariables false
set_option maxRecDepth 100000

section
variable {P : Program}
theorem oper_ok {o : Oper} {a : Act} {w w' : World} {v : Value} {K : Act → World → Prop} {Q : Exit → Act → World → Prop} (h : (execOp a.eval o).run P w = .ok (.value v) w') (hK : K (a.put o.dst v) w') : Oper.wp P o a w K Q := by
  unfold Oper.wp
  rw [h]
  exact hK
theorem oper_call {o : Oper} {a : Act} {w w' : World} {f : Nat} {args : Array Value} {φ : Ending → World → Prop} {K : Act → World → Prop} {Q : Exit → Act → World → Prop} (h : (execOp a.eval o).run P w = .ok (.enter f args) w') (hc : Calls P f args w' φ)
    (hK : ∀ e w'', φ e w'' → ∃ v, e = .returned v ∧ K (a.put o.dst v) w'') : Oper.wp P o a w K Q := by
  unfold Oper.wp
  rw [h]
  refine Calls.mono hc fun e w'' he => ?_
  obtain ⟨v, rfl, hv⟩ := hK e w'' he
  exact hv

theorem oper_gen {o : Oper} {a : Act} {w : World} {φ : Act → World → Prop} {Q : Exit → Act → World → Prop} (h : ∀ K : Act → World → Prop, Shut (∀ a w, φ a w → K a w) → Oper.wp P o a w K Q) : Oper.wp P o a w φ Q := h φ (fun _ _ h => h)
/-- 'append([]T{}, x...)' -/
theorem wp_cat0 {o : Oper} {a : Act} {K : Act → World → Prop} {Q : Exit → Act → World → Prop} (s x : Operand) (t : TypeId)
    (ho : o.op = .call { callee := .builtin .append, args := #[s, x], argTypes := #[t, t] })
    (e : TypeId) (z : Value) (size bytes : Nat) (ht : P.underlying t = some (.slice e)) (hi : (P.info? e).map (fun i => (i.zero, i.size, i.bytes)) = some (some z, size, bytes)) (hzs : z.cells.size = size) (hsz : 0 < size)
    (w : World) (g : Nat) (hs : a.eval s = .slice (some ⟨g, 0, none⟩) 0 0)
    (A : Option Addr) (m c : Nat) (news : List Value) (hx : a.eval x = .slice A m c) (hsrc : Src w size A m news)
    (h63 : m ≤ 1099511627776) (hbytes : m * bytes ≤ 140737488355328)
    (h : ∀ A' c' w', Below w.heap.size w w' → ((m = 0 ∧ news = [] ∧ A' = some ⟨g, 0, none⟩ ∧ c' = 0 ∧ w' = w) ∨ w'.ownsRow w.heap.size e size (.slice A' m c') m news) → K (a.put o.dst (.slice A' m c')) w') :
    o.wp P a w K Q := by
  obtain ⟨i, h2, h3, h4, h5⟩ := info_parts hi
  by_cases hm : m = 0
  · subst hm
    have hn : news = [] := List.eq_nil_of_length_eq_zero (by simpa using hsrc.1)
    subst hn
    have hrun : (Builtin.append_ #[t, t] o.type #[.slice (some ⟨g, 0, none⟩) 0 0, .slice A 0 c]).run P w = .ok (.slice (some ⟨g, 0, none⟩) 0 0) w := by
      rcases A with _ | ad
      · simp [Builtin.append_, run_underlying ht, sizeOf, typeInfo, h2, Builtin.lenOf, Builtin.firstCells, storeCells]
      · exact run_append_room_cells (P := P) w t o.type e i ht h2 g 0 0 0 ad 0 c [] (by simp) (by simp) (by simp) (by omega) (by simp) (by simp)
    unfold Oper.wp execOp
    simp only [ho, resolve, invoke, builtin, Sem.run_bind, Sem.run_pure, Result.andThen_ok, List.map_toArray, List.map_cons, List.map_nil, hs, hx, hrun]
    exact h _ _ _ (Below.refl _ _) (.inl ⟨rfl, rfl, rfl, rfl, rfl⟩)
  · obtain ⟨b, off, rfl, hat⟩ := hsrc.2.2 (by omega)
    obtain ⟨v', w', hrun, r1, r2⟩ := run_append_arg_grows (P := P) w t o.type e i z size bytes ht h2 h3 h4 h5 hzs hsz ⟨g, 0, none⟩ 0 0 [] (by simp) (by simp) ⟨b, off, none⟩ m c news hsrc.1 (fun j u hu => by rw [add_plain]; exact hat j u hu) (by omega) (by unfold maxLen; omega) (by simpa using hbytes)
    rw [Nat.zero_add, List.nil_append] at r1
    obtain ⟨A', c', rfl⟩ : ∃ A' c', v' = .slice A' m c' := by
      rcases r1.2 with ⟨rfl, h0⟩ | ⟨g, cap, cur, rfl, _⟩
      · exact absurd h0 hm
      · exact ⟨_, cap, rfl⟩
    unfold Oper.wp execOp
    simp only [ho, resolve, invoke, builtin, Sem.run_bind, Sem.run_pure, Result.andThen_ok, List.map_toArray, List.map_cons, List.map_nil, hs, hx, hrun]
    exact h _ _ _ ⟨r2.os, r2.tape, r2.output, r2.size, fun k hk => r2.block k hk (by simp)⟩ (.inr r1)
end

theorem info_strK : (Try.prog.info? 9).map (fun i => (i.zero, i.size, i.bytes)) = some (some (.string ByteArray.empty), 1, 16) := by kernel_rfl
/-- an empty slice that is not nil -/
def EmptyO (T : Nat → Prop) (w : World) (e : TypeId) (size : Nat) (v : Value) : Prop := ∃ g, v = .slice (some ⟨g, 0, none⟩) 0 0 ∧ FlO T w e size v 0 []
theorem EmptyO.keeps {T T' : Nat → Prop} {w w' : World} {e : TypeId} {size : Nat} {v : Value} (h : EmptyO T w e size v) (hb : Below w.heap.size w w') (hT : ∀ b, T b → T' b) : EmptyO T' w' e size v := by
  obtain ⟨g, h1, h2⟩ := h
  exact ⟨g, h1, (h2.keeps (Keeps.of_below _ hb)).mono hT⟩
theorem EmptyO.new (w : World) (e : TypeId) (size : Nat) : EmptyO (fun b => w.heap.size ≤ b ∧ b < (w.alloc (.cells #[] e)).heap.size) (w.alloc (.cells #[] e)) e size (.slice (some ⟨w.heap.size, 0, none⟩) 0 0) := by
  refine ⟨w.heap.size, rfl, ?_⟩
  have h := FlO.of_own (owns_new w e size 0 #[] 0 [] (by simp) (Nat.le_refl _) (by unfold maxLen; omega) (by simp) (by simp))
  exact h
/-- what wp_cat0 gives, in blocks of one label -/
theorem cat0_own {w w' : World} {e : TypeId} {size m g c' : Nat} {news : List Value} {A' : Option Addr} {T T' : Nat → Prop} (hE : FlO T w e size (.slice (some ⟨g, 0, none⟩) 0 0) 0 []) (hT : ∀ b, T b → T' b) (hN : ∀ b, w.heap.size ≤ b → b < w'.heap.size → T' b)
    (h : (m = 0 ∧ news = [] ∧ A' = some ⟨g, 0, none⟩ ∧ c' = 0 ∧ w' = w) ∨ w'.ownsRow w.heap.size e size (.slice A' m c') m news) : FlO T' w' e size (.slice A' m c') m news := by
  rcases h with ⟨rfl, rfl, rfl, rfl, rfl⟩ | h
  · exact hE.mono hT
  · exact ⟨own_base h (Nat.zero_le _), fun k hk => hN k (h.lt k hk).1 (h.lt k hk).2⟩

def itemCells (d : ItemD) : List Value := [.int .i64 d.num, .int .i64 d.den, .string (str d.text)]
theorem Items.src {w : World} {A : Option Addr} {m c : Nat} {l : List ItemD} (h : Items w (.slice A m c) l) : m = l.length ∧ Src w 3 A l.length (l.flatMap itemCells) :=
  SlR.src h itemCells (by omega) (fun cs x hc => hc.1) (fun x _ u hu => by
    simp only [itemCells, List.mem_cons, List.not_mem_nil, or_false] at hu
    rcases hu with rfl | rfl | rfl <;> rfl)
theorem Items.small {w : World} {v : Value} {l : List ItemD} (h : Items w v l) : ∀ x ∈ l, I64 x.num ∧ I64 x.den ∧ x.text.length ≤ maxLen := by
  intro x hx
  obtain ⟨k, hk, rfl⟩ := List.getElem_of_mem hx
  obtain ⟨A, c, _, _, _, HC⟩ := SlR.open_ h
  obtain ⟨b, off, cs, _, _, _, _, hr⟩ := HC.out k hk
  exact hr.2
theorem ItemsO.of_flat {S : Nat → Prop} {w : World} {v : Value} {l : List ItemD} (h : FlO S w 36 3 v l.length (l.flatMap itemCells)) (hs : ∀ x ∈ l, I64 x.num ∧ I64 x.den ∧ x.text.length ≤ maxLen) : ItemsO S w v l := by
  refine ⟨l.map itemCells, fun _ => 0, by simp, fun k h1 h2 => ?_, ?_⟩
  · rw [List.getElem_map]
    exact ⟨rfl, rfl, hs _ (List.getElem_mem h2)⟩
  · rw [← List.flatMap_def]
    exact h.mono fun b hb => ⟨hb, rfl⟩
/-- the labels as a function -/
theorem labels (T : Nat → Nat → Prop) (h : ∀ l l' b, T l b → T l' b → l = l') : ∃ f : Nat → Nat, ∀ l b, T l b → f b = l := by
  classical
  refine ⟨fun b => if h : ∃ l, T l b then h.choose else 0, fun l b hl => ?_⟩
  have hex : ∃ l, T l b := ⟨l, hl⟩
  show (if h : ∃ l, T l b then h.choose else 0) = l
  rw [dif_pos hex]
  exact h _ _ b hex.choose_spec hl
theorem okN_mono (n : Nat) : ∀ d, okN n d = true → okN (n + 1) d = true := by
  induction n with
  | zero =>
    intro d h
    simp only [okN, Bool.and_eq_true] at h ⊢
    refine ⟨h.1, ?_⟩
    rw [List.isEmpty_iff] at h
    rw [h.2]
    rfl
  | succ n ih =>
    intro d h
    rw [okN, Bool.and_eq_true, List.all_eq_true] at h ⊢
    exact ⟨h.1, fun p hp => ih p (h.2 p hp)⟩
theorem okN_parts {d : VecD} (h : okN 3 d = true) : d.parts.length ≤ 40 ∧ ∀ p ∈ d.parts, okN 3 p = true := by
  rw [okN, Bool.and_eq_true, List.all_eq_true] at h
  refine ⟨?_, fun p hp => okN_mono 2 p (h.2 p hp)⟩
  have h1 := h.1
  simp only [shapeOk, sA, Bool.and_eq_true, decide_eq_true_eq] at h1
  have h2 : lenV d ≤ 40 := by simp_all
  have h3 : (d.parts.isEmpty || d.kind == 4) = true := by simp_all [sD]
  unfold lenV at h2
  split at h2
  · rename_i h5
    rw [h5] at h3
    have : d.parts = [] := by simpa using h3
    rw [this]; simp
  · omega
end Go.Proofs.Ytjdimlhdkmkmbaa
namespace Go.Proofs.Ytjdimlhdkmkmbaa
open Go.ChangeShapes Go.WideShapes Go.ChangeAt Go.RowKit Go.Deep
set_option linter.unusedVariables false
set_option maxRecDepth 100000

def zV : List Value := [.int .i64 0, .slice none 0 0, .slice none 0 0, .slice none 0 0, .slice none 0 0, .slice none 0 0, .int .i64 0, .int .i64 0]
def L4CopyC (n : Nat) : Prop := ∀ (d : VecD) (cs : List Value) (w : World), VectorR n w cs d → okN 3 d = true → szVector d ≤ 1000000000000 → Calls Try.prog 47 #[.agg cs.toArray] w (RetVector n w d)
def RetVecs (n : Nat) (w : World) (l : List VecD) (e : Ending) (w' : World) : Prop := ∃ A c, e = .returned (.slice A l.length c) ∧ VectorsO n (Rng w.heap.size w'.heap.size) w' (.slice A l.length c) l ∧ Below w.heap.size w w'
def L4CopiesC (n : Nat) : Prop := ∀ (l : List VecD) (v : Value) (w : World), Vectors n w v l → l.length ≤ 40 → (∀ p ∈ l, okN 3 p = true) → szS szVector l ≤ 1000000000000 → Calls Try.prog 99 #[v] w (RetVecs n w l)

def l4cR (n B : Nat) (d : VecD) (A1 A2 A3 A4 A5 : Option Addr) (c1 c2 c3 c4 c5 : Nat) : Nat → (Nat → Nat → Prop) → (Nat → Value) → World → Prop
  | 0, T, vs, W => vs 0 = .pointer (some ⟨B, 0, none⟩)
  | 1, T, vs, W => vs 1 = .int .i64 d.kind
  | 2, T, vs, W => EmptyO (T 1) W 36 3 (vs 2)
  | 3, T, vs, W => vs 3 = .pointer (some ⟨B, 1, none⟩)
  | 4, T, vs, W => vs 4 = .slice A1 d.items.length c1
  | 5, T, vs, W => ∃ A c, vs 5 = .slice A d.items.length c ∧ ItemsO (T 1) W (.slice A d.items.length c) d.items
  | 6, T, vs, W => vs 6 = .pointer (some ⟨B, 2, none⟩)
  | 7, T, vs, W => vs 7 = .slice A2 d.parts.length c2
  | 8, T, vs, W => ∃ A c, vs 8 = .slice A d.parts.length c ∧ VectorsO n (T 2) W (.slice A d.parts.length c) d.parts
  | 9, T, vs, W => EmptyO (T 3) W 9 1 (vs 9)
  | 10, T, vs, W => vs 10 = .pointer (some ⟨B, 3, none⟩)
  | 11, T, vs, W => vs 11 = .slice A3 d.names.length c3
  | 12, T, vs, W => ∃ A c, vs 12 = .slice A d.names.length c ∧ TxtO (T 3) W (.slice A d.names.length c) d.names
  | 13, T, vs, W => EmptyO (T 4) W 9 1 (vs 13)
  | 14, T, vs, W => vs 14 = .pointer (some ⟨B, 4, none⟩)
  | 15, T, vs, W => vs 15 = .slice A4 d.cls.length c4
  | 16, T, vs, W => ∃ A c, vs 16 = .slice A d.cls.length c ∧ TxtO (T 4) W (.slice A d.cls.length c) d.cls
  | 17, T, vs, W => EmptyO (T 5) W 9 1 (vs 17)
  | 18, T, vs, W => vs 18 = .pointer (some ⟨B, 5, none⟩)
  | 19, T, vs, W => vs 19 = .slice A5 d.levels.length c5
  | 20, T, vs, W => ∃ A c, vs 20 = .slice A d.levels.length c ∧ TxtO (T 5) W (.slice A d.levels.length c) d.levels
  | 21, T, vs, W => vs 21 = .pointer (some ⟨B, 6, none⟩)
  | 22, T, vs, W => vs 22 = .int .i64 d.code
  | 23, T, vs, W => vs 23 = .pointer (some ⟨B, 7, none⟩)
  | 24, T, vs, W => vs 24 = .int .i64 d.env
  | 25, T, vs, W => vs 25 = .agg #[vs 1, vs 5, vs 8, vs 12, vs 16, vs 20, vs 22, vs 24]
  | _, _, _, _ => True
def l4cD : Nat → List Nat
  | 25 => [25, 1, 5, 8, 12, 16, 20, 22, 24]
  | i => [i]
def l4cL : Nat → Nat
  | 2 => 1
  | 5 => 1
  | 8 => 2
  | 9 => 3
  | 12 => 3
  | 13 => 4
  | 16 => 4
  | 17 => 5
  | 20 => 5
  | _ => 0
theorem l4cK (n B : Nat) (d : VecD) (A1 A2 A3 A4 A5 : Option Addr) (c1 c2 c3 c4 c5 : Nat) (i : Nat) (T T' : Nat → Nat → Prop) (vs vs' : Nat → Value) (W W' : World) (hv : ∀ j ∈ l4cD i, vs' j = vs j) (hT : ∀ l b, T l b → T' l b) (hb : Below W.heap.size W W') (h : l4cR n B d A1 A2 A3 A4 A5 c1 c2 c3 c4 c5 i T vs W) : l4cR n B d A1 A2 A3 A4 A5 c1 c2 c3 c4 c5 i T' vs' W' :=
  match i, hv, h with
  | 0, hv, h => (hv 0 (List.mem_cons_self)).trans h
  | 1, hv, h => (hv 1 (List.mem_cons_self)).trans h
  | 2, hv, h => by
    show EmptyO (T' 1) W' _ _ (vs' 2)
    rw [hv 2 List.mem_cons_self]
    exact EmptyO.keeps h hb (hT 1)
  | 3, hv, h => (hv 3 (List.mem_cons_self)).trans h
  | 4, hv, h => (hv 4 (List.mem_cons_self)).trans h
  | 5, hv, h => by
    obtain ⟨A, c, e, o⟩ := h
    exact ⟨A, c, (hv 5 List.mem_cons_self).trans e, (ItemsO.keeps o (Keeps.of_below _ hb)).mono (hT 1)⟩
  | 6, hv, h => (hv 6 (List.mem_cons_self)).trans h
  | 7, hv, h => (hv 7 (List.mem_cons_self)).trans h
  | 8, hv, h => by
    obtain ⟨A, c, e, o⟩ := h
    exact ⟨A, c, (hv 8 List.mem_cons_self).trans e, (VectorsO.keeps o (Keeps.of_below _ hb)).mono (hT 2)⟩
  | 9, hv, h => by
    show EmptyO (T' 3) W' _ _ (vs' 9)
    rw [hv 9 List.mem_cons_self]
    exact EmptyO.keeps h hb (hT 3)
  | 10, hv, h => (hv 10 (List.mem_cons_self)).trans h
  | 11, hv, h => (hv 11 (List.mem_cons_self)).trans h
  | 12, hv, h => by
    obtain ⟨A, c, e, o⟩ := h
    exact ⟨A, c, (hv 12 List.mem_cons_self).trans e, (TxtO.keeps o (Keeps.of_below _ hb)).mono (hT 3)⟩
  | 13, hv, h => by
    show EmptyO (T' 4) W' _ _ (vs' 13)
    rw [hv 13 List.mem_cons_self]
    exact EmptyO.keeps h hb (hT 4)
  | 14, hv, h => (hv 14 (List.mem_cons_self)).trans h
  | 15, hv, h => (hv 15 (List.mem_cons_self)).trans h
  | 16, hv, h => by
    obtain ⟨A, c, e, o⟩ := h
    exact ⟨A, c, (hv 16 List.mem_cons_self).trans e, (TxtO.keeps o (Keeps.of_below _ hb)).mono (hT 4)⟩
  | 17, hv, h => by
    show EmptyO (T' 5) W' _ _ (vs' 17)
    rw [hv 17 List.mem_cons_self]
    exact EmptyO.keeps h hb (hT 5)
  | 18, hv, h => (hv 18 (List.mem_cons_self)).trans h
  | 19, hv, h => (hv 19 (List.mem_cons_self)).trans h
  | 20, hv, h => by
    obtain ⟨A, c, e, o⟩ := h
    exact ⟨A, c, (hv 20 List.mem_cons_self).trans e, (TxtO.keeps o (Keeps.of_below _ hb)).mono (hT 5)⟩
  | 21, hv, h => (hv 21 (List.mem_cons_self)).trans h
  | 22, hv, h => (hv 22 (List.mem_cons_self)).trans h
  | 23, hv, h => (hv 23 (List.mem_cons_self)).trans h
  | 24, hv, h => (hv 24 (List.mem_cons_self)).trans h
  | 25, hv, h => by
    show vs' 25 = _
    rw [hv 25 (by decide), hv 1 (by decide), hv 5 (by decide), hv 8 (by decide), hv 12 (by decide), hv 16 (by decide), hv 20 (by decide), hv 22 (by decide), hv 24 (by decide)]
    exact h
  | _ + 26, _, _ => trivial

set_option maxHeartbeats 4000000 in
theorem spec_l4Copy_step (n : Nat) (hcopies : L4CopiesC n) : L4CopyC (n + 1) := by
  intro d cs w h hok hz
  obtain ⟨v1, v2, v3, v4, v5, rfl, i0, h1, h2, h3, h4, h5, i6, i7⟩ := h
  obtain ⟨A1, c1, rfl, la1, ma1, _⟩ := SlR.open_ h1
  obtain ⟨A2, c2, rfl, la2, ma2, _⟩ := SlR.open_ h2
  obtain ⟨A3, c3, rfl, la3, ma3, _⟩ := Txts.open_ h3
  obtain ⟨A4, c4, rfl, la4, ma4, _⟩ := Txts.open_ h4
  obtain ⟨A5, c5, rfl, la5, ma5, _⟩ := Txts.open_ h5
  have H1 := Lib.hid h1
  have H2 := Lib.hid h2
  have H3 := Lib.hid h3
  have H4 := Lib.hid h4
  have H5 := Lib.hid h5
  have HOK := Lib.hid hok
  rw [szVector_eq] at hz
  have s1 := szS_length szItem d.items
  have s2 := szS_length szVector d.parts
  have s3 := szL_length d.names
  have s4 := szL_length d.cls
  have s5 := szL_length d.levels
  clear h1 h2 h3 h4 h5 hok
  obtain ⟨G, g0, HG, BX, BY⟩ := good2 w 28 [.int .i64 d.kind, .slice A1 d.items.length c1, .slice A2 d.parts.length c2, .slice A3 d.names.length c3, .slice A4 d.cls.length c4, .slice A5 d.levels.length c5, .int .i64 d.code, .int .i64 d.env] 28 zV
  obtain ⟨x0, x1, x2, x3, x4, x5, x6, x7⟩ := pk_f8 BX
  go_enter Try.func47, Try.ntmps47
  go_upto_region 1 with fail
  refine gen_w g0 ?_
  clear g0
  intro W0 g0
  have hW0 := (HG.out.below g0).size
  have hlt0 := (BY.out W0 g0).lt
  refine wp_region_free (by kernel_rfl) (by kernel_rfl) (Ok G) l4cL l4cD (l4cR n w.heap.size d A1 A2 A3 A4 A5 c1 c2 c3 c4 c5) (fun vs => ⟨#[.agg #[.int .i64 d.kind, .slice A1 d.items.length c1, .slice A2 d.parts.length c2, .slice A3 d.names.length c3, .slice A4 d.cls.length c4, .slice A5 d.levels.length c5, .int .i64 d.code, .int .i64 d.env], .pointer (some ⟨w.heap.size, 0, none⟩), .pointer (some ⟨w.heap.size + 1, 0, none⟩), vs 0, vs 1, vs 2, vs 3, vs 4, vs 5, vs 6, vs 7, vs 8, vs 9, vs 10, vs 11, vs 12, vs 13, vs 14, vs 15, vs 16, vs 17, vs 18, vs 19, vs 20, vs 21, vs 22, vs 23, vs 24, vs 25], []⟩) (fun vs => by kernel_rfl) (by kernel_rfl) (HG.out.drew g0) (l4cK n w.heap.size d A1 A2 A3 A4 A5 c1 c2 c3 c4 c5) ?_ ?_
  · intro i o ho hi vs T W hS hd
    have h9 : i + 1 < 27 := by simpa using hi
    have hi' : i = 0 ∨ i = 1 ∨ i = 2 ∨ i = 3 ∨ i = 4 ∨ i = 5 ∨ i = 6 ∨ i = 7 ∨ i = 8 ∨ i = 9 ∨ i = 10 ∨ i = 11 ∨ i = 12 ∨ i = 13 ∨ i = 14 ∨ i = 15 ∨ i = 16 ∨ i = 17 ∨ i = 18 ∨ i = 19 ∨ i = 20 ∨ i = 21 ∨ i = 22 ∨ i = 23 ∨ i = 24 ∨ i = 25 := by omega
    clear h9 hi
    rcases hi' with rfl | rfl | rfl | rfl | rfl | rfl | rfl | rfl | rfl | rfl | rfl | rfl | rfl | rfl | rfl | rfl | rfl | rfl | rfl | rfl | rfl | rfl | rfl | rfl | rfl | rfl
    · obtain rfl := Option.some.inj ho
      exact oper_ok (by go_simp) ⟨_, rfl, Below.refl _ _, hS, upd_same _ _ _⟩
    · obtain rfl := Option.some.inj ho
      have d : vs 0 = _ := hd ⟨0, .data⟩ (by simp) rfl
      exact oper_ok (by go_simp) ⟨_, rfl, Below.refl _ _, hS, upd_same _ _ _⟩
    · obtain rfl := Option.some.inj ho
      refine oper_ok (by go_simp; exact ⟨rfl, rfl⟩) ⟨_, rfl, (Below.refl _ _).alloc (Nat.le_refl _) _, HG.out.alloc hS _, ?_⟩
      show EmptyO _ _ _ _ (upd vs 2 _ 2)
      rw [upd_same]
      exact EmptyO.keeps (EmptyO.new _ _ _) (Below.refl _ _) (fun b hb => .inr ⟨rfl, hb.1, hb.2⟩)
    · obtain rfl := Option.some.inj ho
      exact oper_ok (by go_simp) ⟨_, rfl, Below.refl _ _, hS, upd_same _ _ _⟩
    · obtain rfl := Option.some.inj ho
      have d : vs 3 = _ := hd ⟨3, .data⟩ (by simp) rfl
      exact oper_ok (by go_simp) ⟨_, rfl, Below.refl _ _, hS, upd_same _ _ _⟩
    · obtain rfl := Option.some.inj ho
      obtain ⟨g, e, o2⟩ := (show EmptyO (T 1) W _ _ (vs 2) from hd ⟨2, .data⟩ (by simp) rfl)
      have dx : vs 4 = _ := hd ⟨4, .data⟩ (by simp) rfl
      rw [e] at o2
      refine wp_cat0 (.tmp 5) (.tmp 7) 24 rfl 36 (.agg #[.int .i64 0, .int .i64 0, .string ByteArray.empty]) 3 32 Try.underlying24 info_Item rfl (by decide) W g (by exact e) A1 d.items.length c1 _ (by exact dx) (Items.src (H1.out.below (HG.out.below hS))).2 (by omega) (by omega) ?_
      intro A' c' W' hb hown
      refine ⟨_, rfl, hb, HG.out.step hS hb, A', c', upd_same _ _ _, ?_⟩
      exact ItemsO.of_flat (cat0_own o2 (fun b hb => .inl hb) (fun b h1 h2 => .inr ⟨rfl, h1, h2⟩) hown) (Items.small H1.out)
    · obtain rfl := Option.some.inj ho
      exact oper_ok (by go_simp) ⟨_, rfl, Below.refl _ _, hS, upd_same _ _ _⟩
    · obtain rfl := Option.some.inj ho
      have d : vs 6 = _ := hd ⟨6, .data⟩ (by simp) rfl
      exact oper_ok (by go_simp) ⟨_, rfl, Below.refl _ _, hS, upd_same _ _ _⟩
    · obtain rfl := Option.some.inj ho
      have dx : vs 7 = _ := hd ⟨7, .data⟩ (by simp) rfl
      refine oper_call (by go_simp) (hcopies d.parts _ W (SlR.below H2.out (HG.out.below hS) (fun _ _ h => h.below (HG.out.below hS))) (okN_parts HOK.out).1 (okN_parts HOK.out).2 (by omega)) ?_
      rintro e W' ⟨A, c, rfl, ho, hb⟩
      exact ⟨_, rfl, _, rfl, hb, HG.out.step hS hb, A, c, upd_same _ _ _, VectorsO.mono ho fun b hb => .inr ⟨rfl, hb.1, hb.2⟩⟩
    · obtain rfl := Option.some.inj ho
      refine oper_ok (by go_simp; exact ⟨rfl, rfl⟩) ⟨_, rfl, (Below.refl _ _).alloc (Nat.le_refl _) _, HG.out.alloc hS _, ?_⟩
      show EmptyO _ _ _ _ (upd vs 9 _ 9)
      rw [upd_same]
      exact EmptyO.keeps (EmptyO.new _ _ _) (Below.refl _ _) (fun b hb => .inr ⟨rfl, hb.1, hb.2⟩)
    · obtain rfl := Option.some.inj ho
      exact oper_ok (by go_simp) ⟨_, rfl, Below.refl _ _, hS, upd_same _ _ _⟩
    · obtain rfl := Option.some.inj ho
      have d : vs 10 = _ := hd ⟨10, .data⟩ (by simp) rfl
      exact oper_ok (by go_simp) ⟨_, rfl, Below.refl _ _, hS, upd_same _ _ _⟩
    · obtain rfl := Option.some.inj ho
      obtain ⟨g, e, o2⟩ := (show EmptyO (T 3) W _ _ (vs 9) from hd ⟨9, .data⟩ (by simp) rfl)
      have dx : vs 11 = _ := hd ⟨11, .data⟩ (by simp) rfl
      rw [e] at o2
      refine wp_cat0 (.tmp 12) (.tmp 14) 26 rfl 9 (.string ByteArray.empty) 1 16 Try.underlying26 info_strK rfl (by decide) W g (by exact e) A3 d.names.length c3 _ (by exact dx) (Txts.src (H3.out.below (HG.out.below hS))).2 (by omega) (by omega) ?_
      intro A' c' W' hb hown
      refine ⟨_, rfl, hb, HG.out.step hS hb, A', c', upd_same _ _ _, ?_⟩
      exact ⟨cat0_own o2 (fun b hb => .inl hb) (fun b h1 h2 => .inr ⟨rfl, h1, h2⟩) hown, Txts.small H3.out⟩
    · obtain rfl := Option.some.inj ho
      refine oper_ok (by go_simp; exact ⟨rfl, rfl⟩) ⟨_, rfl, (Below.refl _ _).alloc (Nat.le_refl _) _, HG.out.alloc hS _, ?_⟩
      show EmptyO _ _ _ _ (upd vs 13 _ 13)
      rw [upd_same]
      exact EmptyO.keeps (EmptyO.new _ _ _) (Below.refl _ _) (fun b hb => .inr ⟨rfl, hb.1, hb.2⟩)
    · obtain rfl := Option.some.inj ho
      exact oper_ok (by go_simp) ⟨_, rfl, Below.refl _ _, hS, upd_same _ _ _⟩
    · obtain rfl := Option.some.inj ho
      have d : vs 14 = _ := hd ⟨14, .data⟩ (by simp) rfl
      exact oper_ok (by go_simp) ⟨_, rfl, Below.refl _ _, hS, upd_same _ _ _⟩
    · obtain rfl := Option.some.inj ho
      obtain ⟨g, e, o2⟩ := (show EmptyO (T 4) W _ _ (vs 13) from hd ⟨13, .data⟩ (by simp) rfl)
      have dx : vs 15 = _ := hd ⟨15, .data⟩ (by simp) rfl
      rw [e] at o2
      refine wp_cat0 (.tmp 16) (.tmp 18) 26 rfl 9 (.string ByteArray.empty) 1 16 Try.underlying26 info_strK rfl (by decide) W g (by exact e) A4 d.cls.length c4 _ (by exact dx) (Txts.src (H4.out.below (HG.out.below hS))).2 (by omega) (by omega) ?_
      intro A' c' W' hb hown
      refine ⟨_, rfl, hb, HG.out.step hS hb, A', c', upd_same _ _ _, ?_⟩
      exact ⟨cat0_own o2 (fun b hb => .inl hb) (fun b h1 h2 => .inr ⟨rfl, h1, h2⟩) hown, Txts.small H4.out⟩
    · obtain rfl := Option.some.inj ho
      refine oper_ok (by go_simp; exact ⟨rfl, rfl⟩) ⟨_, rfl, (Below.refl _ _).alloc (Nat.le_refl _) _, HG.out.alloc hS _, ?_⟩
      show EmptyO _ _ _ _ (upd vs 17 _ 17)
      rw [upd_same]
      exact EmptyO.keeps (EmptyO.new _ _ _) (Below.refl _ _) (fun b hb => .inr ⟨rfl, hb.1, hb.2⟩)
    · obtain rfl := Option.some.inj ho
      exact oper_ok (by go_simp) ⟨_, rfl, Below.refl _ _, hS, upd_same _ _ _⟩
    · obtain rfl := Option.some.inj ho
      have d : vs 18 = _ := hd ⟨18, .data⟩ (by simp) rfl
      exact oper_ok (by go_simp) ⟨_, rfl, Below.refl _ _, hS, upd_same _ _ _⟩
    · obtain rfl := Option.some.inj ho
      obtain ⟨g, e, o2⟩ := (show EmptyO (T 5) W _ _ (vs 17) from hd ⟨17, .data⟩ (by simp) rfl)
      have dx : vs 19 = _ := hd ⟨19, .data⟩ (by simp) rfl
      rw [e] at o2
      refine wp_cat0 (.tmp 20) (.tmp 22) 26 rfl 9 (.string ByteArray.empty) 1 16 Try.underlying26 info_strK rfl (by decide) W g (by exact e) A5 d.levels.length c5 _ (by exact dx) (Txts.src (H5.out.below (HG.out.below hS))).2 (by omega) (by omega) ?_
      intro A' c' W' hb hown
      refine ⟨_, rfl, hb, HG.out.step hS hb, A', c', upd_same _ _ _, ?_⟩
      exact ⟨cat0_own o2 (fun b hb => .inl hb) (fun b h1 h2 => .inr ⟨rfl, h1, h2⟩) hown, Txts.small H5.out⟩
    · obtain rfl := Option.some.inj ho
      exact oper_ok (by go_simp) ⟨_, rfl, Below.refl _ _, hS, upd_same _ _ _⟩
    · obtain rfl := Option.some.inj ho
      have d : vs 21 = _ := hd ⟨21, .data⟩ (by simp) rfl
      exact oper_ok (by go_simp) ⟨_, rfl, Below.refl _ _, hS, upd_same _ _ _⟩
    · obtain rfl := Option.some.inj ho
      exact oper_ok (by go_simp) ⟨_, rfl, Below.refl _ _, hS, upd_same _ _ _⟩
    · obtain rfl := Option.some.inj ho
      have d : vs 23 = _ := hd ⟨23, .data⟩ (by simp) rfl
      exact oper_ok (by go_simp) ⟨_, rfl, Below.refl _ _, hS, upd_same _ _ _⟩
    · obtain rfl := Option.some.inj ho
      have e1 : vs 1 = _ := hd ⟨1, .data⟩ (by simp) rfl
      obtain ⟨_, _, e5, _⟩ := (show l4cR n w.heap.size d A1 A2 A3 A4 A5 c1 c2 c3 c4 c5 5 T vs W from hd ⟨5, .data⟩ (by simp) rfl)
      obtain ⟨_, _, e8, _⟩ := (show l4cR n w.heap.size d A1 A2 A3 A4 A5 c1 c2 c3 c4 c5 8 T vs W from hd ⟨8, .data⟩ (by simp) rfl)
      obtain ⟨_, _, e12, _⟩ := (show l4cR n w.heap.size d A1 A2 A3 A4 A5 c1 c2 c3 c4 c5 12 T vs W from hd ⟨12, .data⟩ (by simp) rfl)
      obtain ⟨_, _, e16, _⟩ := (show l4cR n w.heap.size d A1 A2 A3 A4 A5 c1 c2 c3 c4 c5 16 T vs W from hd ⟨16, .data⟩ (by simp) rfl)
      obtain ⟨_, _, e20, _⟩ := (show l4cR n w.heap.size d A1 A2 A3 A4 A5 c1 c2 c3 c4 c5 20 T vs W from hd ⟨20, .data⟩ (by simp) rfl)
      have e22 : vs 22 = _ := hd ⟨22, .data⟩ (by simp) rfl
      have e24 : vs 24 = _ := hd ⟨24, .data⟩ (by simp) rfl
      refine oper_ok (by go_simp; rfl) ⟨_, rfl, Below.refl _ _, hS, ?_⟩
      show upd vs 25 _ 25 = .agg #[upd vs 25 _ 1, upd vs 25 _ 5, upd vs 25 _ 8, upd vs 25 _ 12, upd vs 25 _ 16, upd vs 25 _ 20, upd vs 25 _ 22, upd vs 25 _ 24]
      simp [upd, e1, e5, e8, e12, e16, e20, e22, e24]
  · intro o ho vs T W hS hsz hT1 hT2 hR
    obtain ⟨od, oo, ot, opos, oa, og⟩ := o
    obtain ⟨rfl, rfl⟩ : od = none ∧ oo = .store 28 (.tmp 2) (.tmp 28) := ⟨(congrArg Oper.dst (Option.some.inj ho)).symm, (congrArg Oper.op (Option.some.inj ho)).symm⟩
    clear ho
    have e1 : vs 1 = _ := hR 1 (by decide)
    obtain ⟨P1, p1, e5, o1⟩ := hR 5 (by decide)
    obtain ⟨P2, p2, e8, o2⟩ := hR 8 (by decide)
    obtain ⟨P3, p3, e12, o3⟩ := hR 12 (by decide)
    obtain ⟨P4, p4, e16, o4⟩ := hR 16 (by decide)
    obtain ⟨P5, p5, e20, o5⟩ := hR 20 (by decide)
    have e22 : vs 22 = _ := hR 22 (by decide)
    have e24 : vs 24 = _ := hR 24 (by decide)
    have e25 : vs 25 = .agg #[vs 1, vs 5, vs 8, vs 12, vs 16, vs 20, vs 22, vs 24] := hR 25 (by decide)
    rw [e1, e5, e8, e12, e16, e20, e22, e24] at e25
    obtain ⟨f, hf⟩ := labels T hT2
    have hTr : ∀ l b, T l b → Rng W0.heap.size W.heap.size b ∧ f b = l := fun l b hb => ⟨hT1 l b hb, hf l b hb⟩
    have O1 := Lib.hid (ItemsO.mono o1 (hTr 1))
    have O2 := Lib.hid (VectorsO.mono o2 (hTr 2))
    have O3 := Lib.hid (TxtO.mono o3 (hTr 3))
    have O4 := Lib.hid (TxtO.mono o4 (hTr 4))
    have O5 := Lib.hid (TxtO.mono o5 (hTr 5))
    have HB := Lib.hid (HG.out.below hS)
    have BYW := Lib.hid (BY.out W hS)
    have HWB1 := Lib.hid (show w.heap.size + 1 < W0.heap.size from hlt0)
    clear o1 o2 o3 o4 o5 hR hT1 hT2 hTr hf
    have HKP := Lib.hid (fun (S : Nat → Prop) (hS : ¬ S (w.heap.size + 1)) => (((((((((Keeps.refl S W).sc (b := w.heap.size + 1) (o := 0) hS (.int .i64 d.kind)).sc (b := w.heap.size + 1) (o := 1) hS (.slice P1 d.items.length p1)).sc (b := w.heap.size + 1) (o := 2) hS (.slice P2 d.parts.length p2)).sc (b := w.heap.size + 1) (o := 3) hS (.slice P3 d.names.length p3)).sc (b := w.heap.size + 1) (o := 4) hS (.slice P4 d.cls.length p4)).sc (b := w.heap.size + 1) (o := 5) hS (.slice P5 d.levels.length p5)).sc (b := w.heap.size + 1) (o := 6) hS (.int .i64 d.code)).sc (b := w.heap.size + 1) (o := 7) hS (.int .i64 d.env)))
    have HBL := Lib.hid (show Blk _ _ _ [.int .i64 d.kind, .slice P1 d.items.length p1, .slice P2 d.parts.length p2, .slice P3 d.names.length p3, .slice P4 d.cls.length p4, .slice P5 d.levels.length p5, .int .i64 d.code, .int .i64 d.env] from ((((((((BYW.out.set_ 0 (.int .i64 d.kind)).set_ 1 (.slice P1 d.items.length p1)).set_ 2 (.slice P2 d.parts.length p2)).set_ 3 (.slice P3 d.names.length p3)).set_ 4 (.slice P4 d.cls.length p4)).set_ 5 (.slice P5 d.levels.length p5)).set_ 6 (.int .i64 d.code)).set_ 7 (.int .i64 d.env)))
    have HSC := Lib.hid (below_sc (b := w.heap.size + 1) (o := 7) (below_sc (b := w.heap.size + 1) (o := 6) (below_sc (b := w.heap.size + 1) (o := 5) (below_sc (b := w.heap.size + 1) (o := 4) (below_sc (b := w.heap.size + 1) (o := 3) (below_sc (b := w.heap.size + 1) (o := 2) (below_sc (b := w.heap.size + 1) (o := 1) (below_sc (b := w.heap.size + 1) (o := 0) HB.out (by omega) (.int .i64 d.kind)) (by omega) (.slice P1 d.items.length p1)) (by omega) (.slice P2 d.parts.length p2)) (by omega) (.slice P3 d.names.length p3)) (by omega) (.slice P4 d.cls.length p4)) (by omega) (.slice P5 d.levels.length p5)) (by omega) (.int .i64 d.code)) (by omega) (.int .i64 d.env))
    have y0 := BYW.out.cell 0 _ rfl
    have y1 := BYW.out.cell 1 _ rfl
    have y2 := BYW.out.cell 2 _ rfl
    have y3 := BYW.out.cell 3 _ rfl
    have y4 := BYW.out.cell 4 _ rfl
    have y5 := BYW.out.cell 5 _ rfl
    have y6 := BYW.out.cell 6 _ rfl
    have y7 := BYW.out.cell 7 _ rfl
    have z0 := BYW.out.frozen 0
    have z1 := BYW.out.frozen 1
    have z2 := BYW.out.frozen 2
    have z3 := BYW.out.frozen 3
    have z4 := BYW.out.frozen 4
    have z5 := BYW.out.frozen 5
    have z6 := BYW.out.frozen 6
    have z7 := BYW.out.frozen 7
    have hW1 := HWB1.out
    refine oper_gen (fun K hK => ?_)
    go_wp2_with fail
    refine hK.out _ _ ?_
    clear hK y0 y1 y2 y3 y4 y5 y6 y7 z0 z1 z2 z3 z4 z5 z6 z7
    refine gen_w (G := fun V => Blk V (w.heap.size + 1) 28 [.int .i64 d.kind, .slice P1 d.items.length p1, .slice P2 d.parts.length p2, .slice P3 d.names.length p3, .slice P4 d.cls.length p4, .slice P5 d.levels.length p5, .int .i64 d.code, .int .i64 d.env] ∧ Below w.heap.size w V ∧ W.heap.size ≤ V.heap.size ∧ ItemsO (fun b => Rng W0.heap.size W.heap.size b ∧ f b = 1) V (.slice P1 d.items.length p1) d.items ∧ VectorsO n (fun b => Rng W0.heap.size W.heap.size b ∧ f b = 2) V (.slice P2 d.parts.length p2) d.parts ∧ TxtO (fun b => Rng W0.heap.size W.heap.size b ∧ f b = 3) V (.slice P3 d.names.length p3) d.names ∧ TxtO (fun b => Rng W0.heap.size W.heap.size b ∧ f b = 4) V (.slice P4 d.cls.length p4) d.cls ∧ TxtO (fun b => Rng W0.heap.size W.heap.size b ∧ f b = 5) V (.slice P5 d.levels.length p5) d.levels)
      (show Ok _ _ from ⟨HBL.out, HSC.out, by simp [World.setCell], ItemsO.keeps O1.out (HKP.out _ (fun h => by have := h.1.1; omega)), VectorsO.keeps O2.out (HKP.out _ (fun h => by have := h.1.1; omega)), TxtO.keeps O3.out (HKP.out _ (fun h => by have := h.1.1; omega)), TxtO.keeps O4.out (HKP.out _ (fun h => by have := h.1.1; omega)), TxtO.keeps O5.out (HKP.out _ (fun h => by have := h.1.1; omega))⟩) ?_
    clear HKP HBL HSC O1 O2 O3 O4 O5 HB BYW
    rintro V ⟨hbl, hbv, hwv, o1, o2, o3, o4, o5⟩
    have hup : ∀ k b, (Rng W0.heap.size W.heap.size b ∧ f b = k) → (Rng w.heap.size V.heap.size b ∧ f b = k) := fun k b h => ⟨⟨by have := h.1.1; omega, by have := h.1.2; omega⟩, h.2⟩
    have HV := Lib.hid (show VectorO (n + 1) (Rng w.heap.size V.heap.size) V [.int .i64 d.kind, .slice P1 d.items.length p1, .slice P2 d.parts.length p2, .slice P3 d.names.length p3, .slice P4 d.cls.length p4, .slice P5 d.levels.length p5, .int .i64 d.code, .int .i64 d.env] d from ⟨P1, p1, P2, p2, P3, p3, P4, p4, P5, p5, f, rfl, i0, ItemsO.mono o1 (hup 1), VectorsO.mono o2 (hup 2), TxtO.mono o3 (hup 3), TxtO.mono o4 (hup 4), TxtO.mono o5 (hup 5), i6, i7⟩)
    have HBV := Lib.hid hbv
    have y0 := hbl.cell 0 _ rfl
    have y1 := hbl.cell 1 _ rfl
    have y2 := hbl.cell 2 _ rfl
    have y3 := hbl.cell 3 _ rfl
    have y4 := hbl.cell 4 _ rfl
    have y5 := hbl.cell 5 _ rfl
    have y6 := hbl.cell 6 _ rfl
    have y7 := hbl.cell 7 _ rfl
    clear o1 o2 o3 o4 o5 hbv hbl
    go_wp2_with fail
    refine bodyPost_ret (v := .agg #[.int .i64 d.kind, .slice P1 d.items.length p1, .slice P2 d.parts.length p2, .slice P3 d.names.length p3, .slice P4 d.cls.length p4, .slice P5 d.levels.length p5, .int .i64 d.code, .int .i64 d.env]) (by simp [results, Try.results47, go_sem, y0, y1, y2, y3, y4, y5, y6, y7]) rfl ?_
    exact ⟨_, rfl, HV.out, HBV.out⟩

set_option maxHeartbeats 4000000 in
theorem spec_l4Copies_step (n : Nat) (ih : L4CopyC n) : L4CopiesC n := by
  intro l v w h hlen hok hz
  obtain ⟨A, c, rfl, hlc, hm, HC⟩ := SlR.open_ h
  have HOK := Lib.hid hok
  clear h hok
  unfold maxLen at hm
  go_enter Try.func99, Try.ntmps99
  go_wp2_with fail
  go_loopw [3, 4] (fun q i wr => ∃ (j : Nat) (Q : Option Addr) (qc : Nat), j ≤ l.length ∧ i = .int .i64 j ∧ q = .slice Q j qc ∧ Hid (VectorsO n (Rng w.heap.size wr.heap.size) wr q (l.take j)) ∧ Hid (Below w.heap.size w wr)) (fun _ i _ => l.length - (intOf i).toNat)
  case atStart => exact ⟨0, some ⟨w.heap.size, 0, none⟩, 0, Nat.zero_le _, rfl, rfl, ⟨[], fun _ => 0, rfl, fun k h1 h2 => by simp at h2, (FlO.of_own (owns_new w _ 8 0 #[] 0 [] (by simp) (Nat.le_refl _) (by unfold maxLen; omega) (by simp) (by simp))).mono fun b hb => ⟨hb, rfl⟩⟩, (Below.refl _ _).alloc (Nat.le_refl _) _⟩
  case round =>
    obtain ⟨j, Q, qc, hj, rfl, rfl, HO, HB⟩ := hrel
    by_cases hlt : j < l.length
    · obtain ⟨b, off, cs, rfl, hbl, _, hat, hr⟩ := HC.out j hlt
      have HRK := Lib.hid hr
      have hpz : szVector l[j] ≤ 1000000000000 := by have := szS_at szVector l j hlt; omega
      obtain ⟨r1, r2, r3, r4, r5, rfl⟩ := hr.shape
      clear hr
      obtain ⟨G, g0, HG⟩ := good0 w
      replace g0 := HG.out.step g0 HB.out
      obtain ⟨p0, p1, p2, p3, p4, p5, p6, p7⟩ := pk_e8 HG hbl hat
      clear hat
      have hj40 : decide ((j : Int) ≤ 40) = true := decide_eq_true (by omega)
      go_wp2_with fail
      refine Calls.mono (spec_l4Is 3 (by omega) l[j] _ _ ⟨n, HRK.out.below (HG.out.below g0)⟩ hpz) ?_
      rw [HOK.out _ (List.getElem_mem hlt)]
      rintro e w1 ⟨rfl, hb⟩
      have hz1 := hb.size
      replace g0 := HG.out.step g0 hb
      have HO1 := Lib.hid (VectorsO.keeps HO.out (Keeps.of_below _ hb))
      have HB1 := Lib.hid hb
      clear hb
      go_wp2_with fail
      refine Calls.mono (ih l[j] _ _ (HRK.out.below (HG.out.below g0)) (HOK.out _ (List.getElem_mem hlt)) hpz) ?_
      rintro e w2 ⟨cs2, rfl, ho, hb⟩
      have hw2 : w.heap.size ≤ wr.heap.size := HB.out.size
      have hz2 := hb.size
      have hlast := ho.length
      obtain ⟨E1, e1, E2, e2, E3, e3, E4, e4, E5, e5, rfl⟩ := ho.shape
      obtain ⟨xs, hown, hpush⟩ := SlO.push (fun h k => h.keeps k) (fun h k => h.mono k) (show SlO (Rng w.heap.size wr.heap.size) wr 28 8 (VectorO n) _ (l.take j) from HO.out) hw2 (HB1.out.trans (hb.mono hz1)) l[j] _ hlast (ho.mono fun b hb => ⟨by have := hb.1; omega, hb.2⟩)
      rw [List.length_take, Nat.min_eq_left hj] at hown hpush
      have HPU := Lib.hid hpush
      have HB2 := Lib.hid ((HB.out.trans (HB1.out.mono hw2)).trans (hb.mono (by omega)))
      have hw22 : w.heap.size ≤ w2.heap.size := HB2.out.size
      clear hpush ho hb g0
      go_wp2_with (at_builtin; go_must (refine wpList_push rfl _ _ 25 rfl w.heap.size 28 (.agg #[.int .i64 0, .slice none 0 0, .slice none 0 0, .slice none 0 0, .slice none 0 0, .slice none 0 0, .int .i64 0, .int .i64 0]) 8 144 Try.underlying25 info_Vector rfl (by decide) _ _ _ _ _ rfl rfl (by exact hown) rfl (by simp [Value.oneCell']) (by omega) (by omega) hw22 ?_); intro v1 w3 ho1 hg1 hbk1 hb1)
      go_roundw
      case rel =>
        obtain ⟨A3, c3, rfl⟩ : ∃ A c, v1 = .slice A (j + 1) c := by
          rcases ho1.2 with ⟨rfl, h0⟩ | ⟨g, cap, cur, rfl, _⟩
          · omega
          · exact ⟨_, cap, rfl⟩
        refine ⟨j + 1, A3, c3, by omega, by go_num, rfl, ?_, HB2.out.trans hb1⟩
        have h9 := HPU.out _ _ ho1 hg1 hbk1
        rw [← List.take_succ_eq_append_getElem hlt] at h9
        exact h9
      case measure => simp [intOf]; omega
    · obtain rfl : j = l.length := by omega
      go_wp2_with fail
      go_ret
      rw [List.take_length] at HO
      exact ⟨_, _, rfl, HO.out, HB.out⟩
theorem spec_l4Copy_all : ∀ n, L4CopyC n
  | 0 => fun _ _ _ h => h.elim
  | n + 1 => spec_l4Copy_step n (spec_l4Copies_step n (spec_l4Copy_all n))
end Go.Proofs.Ytjdimlhdkmkmbaa
namespace Go.Proofs.Ytjdimlhdkmkmbaa
open Go.ChangeShapes Go.WideShapes Go.ChangeAt Go.RowKit Go.Deep
set_option linter.unusedVariables false
set_option maxRecDepth 100000

theorem Blk.far8 {w : World} {h : Nat} {t : TypeId} {cs : List Value} (hB : Blk w h t cs) (g : Nat) (hg : h ≠ g) (u0 u1 u2 u3 u4 u5 u6 u7 : Value) : Blk ((((((((w.setCell ⟨g, 0, none⟩ u0).setCell ⟨g, 1, none⟩ u1).setCell ⟨g, 2, none⟩ u2).setCell ⟨g, 3, none⟩ u3).setCell ⟨g, 4, none⟩ u4).setCell ⟨g, 5, none⟩ u5).setCell ⟨g, 6, none⟩ u6).setCell ⟨g, 7, none⟩ u7) h t cs :=
  (((((((hB.far ⟨g, 0, none⟩ hg _).far ⟨g, 1, none⟩ hg _).far ⟨g, 2, none⟩ hg _).far ⟨g, 3, none⟩ hg _).far ⟨g, 4, none⟩ hg _).far ⟨g, 5, none⟩ hg _).far ⟨g, 6, none⟩ hg _).far ⟨g, 7, none⟩ hg _
def RetOwn (Pr : (Nat → Prop) → World → Value → Prop) (n : Nat) (w : World) (e : Ending) (w' : World) : Prop := ∃ A c, e = .returned (.slice A n c) ∧ Pr (Rng w.heap.size w'.heap.size) w' (.slice A n c) ∧ Below w.heap.size w w'
theorem own_shapeC {w : World} {base n : Nat} {e : TypeId} {size : Nat} {v : Value} {xs : List Value} (h : w.ownsRow base e size v n xs) : ∃ A c, v = .slice A n c := by
  rcases h.2 with ⟨rfl, rfl⟩ | ⟨g, cap, cur, rfl, _⟩
  · exact ⟨none, 0, rfl⟩
  · exact ⟨_, cap, rfl⟩

set_option maxHeartbeats 1000000 in
theorem impl_copyItems (l : List ItemD) (v : Value) (w : World) (h : Items w v l) (hl : l.length ≤ 1000000000000) :
    Calls Try.prog 95 #[v] w (RetOwn (fun T W v => ItemsO T W v l) l.length w) := by
  obtain ⟨A, c, rfl, hlc, hm, _⟩ := SlR.open_ h
  have hb0 := (Below.refl w.heap.size w).alloc (Nat.le_refl _) (.cells #[] 36)
  have HB0 := Lib.hid hb0
  have HSM := Lib.hid (Items.small h)
  have HSR := Lib.hid (Items.src (h.below hb0)).2
  have HE := Lib.hid (owns_new w 36 3 0 #[] 0 [] (by simp) (Nat.le_refl _) (by unfold maxLen; omega) (by simp) (by simp))
  clear h hb0
  go_enter Try.func95, Try.ntmps95
  go_wp2_with (at_builtin; go_must (refine wpList_cat rfl _ _ 24 rfl w.heap.size 36 (.agg #[.int .i64 0, .int .i64 0, .string ByteArray.empty]) 3 32 Try.underlying24 info_Item rfl (by decide) _ _ 0 [] rfl (by exact HE.out) _ _ _ _ rfl (by exact HSR.out) (by omega) (by omega) (by simp) ?_); intro v1 w3 ho3 hg3 hbk3 hb3)
  rw [Nat.zero_add, List.nil_append] at ho3
  obtain ⟨A3, c3, rfl⟩ := own_shapeC ho3
  go_ret
  exact ⟨A3, c3, rfl, ItemsO.of_flat (FlO.of_own ho3) HSM.out, HB0.out.trans hb3⟩
set_option maxHeartbeats 1000000 in
theorem impl_copyTexts (l : List (List UInt8)) (v : Value) (w : World) (h : Txts w v l) (hl : l.length ≤ 1000000000000) :
    Calls Try.prog 82 #[v] w (RetOwn (fun T W v => TxtO T W v l) l.length w) := by
  obtain ⟨A, c, rfl, hlc, hm, _⟩ := Txts.open_ h
  have hb0 := (Below.refl w.heap.size w).alloc (Nat.le_refl _) (.cells #[] 9)
  have HB0 := Lib.hid hb0
  have HSM := Lib.hid (Txts.small h)
  have HSR := Lib.hid (Txts.src (h.below hb0)).2
  have HE := Lib.hid (owns_new w 9 1 0 #[] 0 [] (by simp) (Nat.le_refl _) (by unfold maxLen; omega) (by simp) (by simp))
  clear h hb0
  go_enter Try.func82, Try.ntmps82
  go_wp2_with (at_builtin; go_must (refine wpList_cat rfl _ _ 26 rfl w.heap.size 9 (.string ByteArray.empty) 1 16 Try.underlying26 info_strK rfl (by decide) _ _ 0 [] rfl (by exact HE.out) _ _ _ _ rfl (by exact HSR.out) (by omega) (by omega) (by simp) ?_); intro v1 w3 ho3 hg3 hbk3 hb3)
  rw [Nat.zero_add, List.nil_append] at ho3
  obtain ⟨A3, c3, rfl⟩ := own_shapeC ho3
  go_ret
  exact ⟨A3, c3, rfl, ⟨FlO.of_own ho3, HSM.out⟩, HB0.out.trans hb3⟩

def cpvR (B : Nat) (d : VecD) (A1 A3 A4 A5 : Option Addr) (c1 c3 c4 c5 : Nat) : Nat → (Nat → Nat → Prop) → (Nat → Value) → World → Prop
  | 0, T, vs, W => vs 0 = .pointer (some ⟨B, 0, none⟩)
  | 1, T, vs, W => vs 1 = .int .i64 d.kind
  | 2, T, vs, W => vs 2 = .pointer (some ⟨B, 1, none⟩)
  | 3, T, vs, W => vs 3 = .slice A1 d.items.length c1
  | 4, T, vs, W => ∃ A c, vs 4 = .slice A d.items.length c ∧ ItemsO (T 1) W (.slice A d.items.length c) d.items
  | 5, T, vs, W => vs 5 = .pointer (some ⟨B, 3, none⟩)
  | 6, T, vs, W => vs 6 = .slice A3 d.names.length c3
  | 7, T, vs, W => ∃ A c, vs 7 = .slice A d.names.length c ∧ TxtO (T 3) W (.slice A d.names.length c) d.names
  | 8, T, vs, W => vs 8 = .pointer (some ⟨B, 4, none⟩)
  | 9, T, vs, W => vs 9 = .slice A4 d.cls.length c4
  | 10, T, vs, W => ∃ A c, vs 10 = .slice A d.cls.length c ∧ TxtO (T 4) W (.slice A d.cls.length c) d.cls
  | 11, T, vs, W => vs 11 = .pointer (some ⟨B, 5, none⟩)
  | 12, T, vs, W => vs 12 = .slice A5 d.levels.length c5
  | 13, T, vs, W => ∃ A c, vs 13 = .slice A d.levels.length c ∧ TxtO (T 5) W (.slice A d.levels.length c) d.levels
  | 14, T, vs, W => vs 14 = .pointer (some ⟨B, 6, none⟩)
  | 15, T, vs, W => vs 15 = .int .i64 d.code
  | 16, T, vs, W => vs 16 = .pointer (some ⟨B, 7, none⟩)
  | 17, T, vs, W => vs 17 = .int .i64 d.env
  | 18, T, vs, W => vs 18 = .agg #[vs 1, vs 4, .slice none 0 0, vs 7, vs 10, vs 13, vs 15, vs 17]
  | 19, T, vs, W => ∃ g, vs 19 = .pointer (some ⟨g, 0, none⟩) ∧ T 9 g ∧ Blk W g 28 zV
  | _, _, _, _ => True
def cpvD : Nat → List Nat
  | 18 => [18, 1, 4, 7, 10, 13, 15, 17]
  | i => [i]
def cpvL : Nat → Nat
  | 4 => 1
  | 7 => 3
  | 10 => 4
  | 13 => 5
  | 19 => 9
  | _ => 0
theorem cpvK (B : Nat) (d : VecD) (A1 A3 A4 A5 : Option Addr) (c1 c3 c4 c5 : Nat) (i : Nat) (T T' : Nat → Nat → Prop) (vs vs' : Nat → Value) (W W' : World) (hv : ∀ j ∈ cpvD i, vs' j = vs j) (hT : ∀ l b, T l b → T' l b) (hb : Below W.heap.size W W') (h : cpvR B d A1 A3 A4 A5 c1 c3 c4 c5 i T vs W) : cpvR B d A1 A3 A4 A5 c1 c3 c4 c5 i T' vs' W' :=
  match i, hv, h with
  | 0, hv, h => (hv 0 (List.mem_cons_self)).trans h
  | 1, hv, h => (hv 1 (List.mem_cons_self)).trans h
  | 2, hv, h => (hv 2 (List.mem_cons_self)).trans h
  | 3, hv, h => (hv 3 (List.mem_cons_self)).trans h
  | 4, hv, h => by
    obtain ⟨A, c, e, o⟩ := h
    exact ⟨A, c, (hv 4 List.mem_cons_self).trans e, (ItemsO.keeps o (Keeps.of_below _ hb)).mono (hT 1)⟩
  | 5, hv, h => (hv 5 (List.mem_cons_self)).trans h
  | 6, hv, h => (hv 6 (List.mem_cons_self)).trans h
  | 7, hv, h => by
    obtain ⟨A, c, e, o⟩ := h
    exact ⟨A, c, (hv 7 List.mem_cons_self).trans e, (TxtO.keeps o (Keeps.of_below _ hb)).mono (hT 3)⟩
  | 8, hv, h => (hv 8 (List.mem_cons_self)).trans h
  | 9, hv, h => (hv 9 (List.mem_cons_self)).trans h
  | 10, hv, h => by
    obtain ⟨A, c, e, o⟩ := h
    exact ⟨A, c, (hv 10 List.mem_cons_self).trans e, (TxtO.keeps o (Keeps.of_below _ hb)).mono (hT 4)⟩
  | 11, hv, h => (hv 11 (List.mem_cons_self)).trans h
  | 12, hv, h => (hv 12 (List.mem_cons_self)).trans h
  | 13, hv, h => by
    obtain ⟨A, c, e, o⟩ := h
    exact ⟨A, c, (hv 13 List.mem_cons_self).trans e, (TxtO.keeps o (Keeps.of_below _ hb)).mono (hT 5)⟩
  | 14, hv, h => (hv 14 (List.mem_cons_self)).trans h
  | 15, hv, h => (hv 15 (List.mem_cons_self)).trans h
  | 16, hv, h => (hv 16 (List.mem_cons_self)).trans h
  | 17, hv, h => (hv 17 (List.mem_cons_self)).trans h
  | 18, hv, h => by
    show vs' 18 = _
    rw [hv 18 (by decide), hv 1 (by decide), hv 4 (by decide), hv 7 (by decide), hv 10 (by decide), hv 13 (by decide), hv 15 (by decide), hv 17 (by decide)]
    exact h
  | 19, hv, h => by
    obtain ⟨g, e, t, b⟩ := h
    exact ⟨g, (hv 19 List.mem_cons_self).trans e, hT 9 g t, b.below hb⟩
  | _ + 20, _, _ => trivial

/-- the boxes of copyVector in the midst: the argument, the result, the new vector with u for its parts -/
structure CV (w : World) (d : VecD) (C0 : List Value) (g lo Bp : Nat) (f : Nat → Nat) (P1 P3 P4 P5 : Option Addr) (p1 p3 p4 p5 : Nat) (u : Value) (W : World) : Prop where
  x : Blk W w.heap.size 28 C0
  r : Blk W (w.heap.size + 1) 28 zV
  o : Blk W g 28 [.int .i64 d.kind, .slice P1 d.items.length p1, u, .slice P3 d.names.length p3, .slice P4 d.cls.length p4, .slice P5 d.levels.length p5, .int .i64 d.code, .int .i64 d.env]
  o1 : ItemsO (fun b => Rng lo Bp b ∧ f b = 1) W (.slice P1 d.items.length p1) d.items
  o3 : TxtO (fun b => Rng lo Bp b ∧ f b = 3) W (.slice P3 d.names.length p3) d.names
  o4 : TxtO (fun b => Rng lo Bp b ∧ f b = 4) W (.slice P4 d.cls.length p4) d.cls
  o5 : TxtO (fun b => Rng lo Bp b ∧ f b = 5) W (.slice P5 d.levels.length p5) d.levels
  fg : f g = 9
  gin : lo ≤ g ∧ g < Bp
  low : w.heap.size + 1 < lo
  top : Bp ≤ W.heap.size
  below : Below w.heap.size w W
theorem CV.stepB {w : World} {d : VecD} {C0 : List Value} {g lo Bp : Nat} {f : Nat → Nat} {P1 P3 P4 P5 : Option Addr} {p1 p3 p4 p5 : Nat} {u : Value} {W W' : World} (h : CV w d C0 g lo Bp f P1 P3 P4 P5 p1 p3 p4 p5 u W) (hb : Below Bp W W') : CV w d C0 g lo Bp f P1 P3 P4 P5 p1 p3 p4 p5 u W' :=
  have hk : ∀ k : Nat, Keeps (fun b => Rng lo Bp b ∧ f b = k) W W' := fun k => ⟨hb.size, fun b _ hs => hb.block b hs.1.2⟩
  have h1 := h.low
  have h2 := h.gin
  ⟨(hb.block _ (by omega)).trans h.x, (hb.block _ (by omega)).trans h.r, (hb.block _ h.gin.2).trans h.o, ItemsO.keeps h.o1 (hk 1), TxtO.keeps h.o3 (hk 3), TxtO.keeps h.o4 (hk 4), TxtO.keeps h.o5 (hk 5), h.fg, h.gin, h.low, Nat.le_trans h.top hb.size, h.below.trans (hb.mono (by omega))⟩
theorem CV.step {w : World} {d : VecD} {C0 : List Value} {g lo Bp : Nat} {f : Nat → Nat} {P1 P3 P4 P5 : Option Addr} {p1 p3 p4 p5 : Nat} {u : Value} {W W' : World} (h : CV w d C0 g lo Bp f P1 P3 P4 P5 p1 p3 p4 p5 u W) (hb : Below W.heap.size W W') : CV w d C0 g lo Bp f P1 P3 P4 P5 p1 p3 p4 p5 u W' := h.stepB (hb.mono h.top)
theorem CV.put {w : World} {d : VecD} {C0 : List Value} {g lo Bp : Nat} {f : Nat → Nat} {P1 P3 P4 P5 : Option Addr} {p1 p3 p4 p5 : Nat} {u u' : Value} {W : World} (h : CV w d C0 g lo Bp f P1 P3 P4 P5 p1 p3 p4 p5 u W) : CV w d C0 g lo Bp f P1 P3 P4 P5 p1 p3 p4 p5 u' (W.setCell ⟨g, 2, none⟩ u') :=
  have hk : ∀ k : Nat, k ≠ 9 → Keeps (fun b => Rng lo Bp b ∧ f b = k) W (W.setCell ⟨g, 2, none⟩ u') := fun k hk => (Keeps.refl _ _).sc (fun hs => hk (hs.2.symm.trans h.fg)) _
  have h1 := h.low
  have h2 := h.gin
  ⟨h.x.far ⟨g, 2, none⟩ (by simp; omega) u', h.r.far ⟨g, 2, none⟩ (by simp; omega) u', h.o.set_ 2 u', ItemsO.keeps h.o1 (hk 1 (by decide)), TxtO.keeps h.o3 (hk 3 (by decide)), TxtO.keeps h.o4 (hk 4 (by decide)), TxtO.keeps h.o5 (hk 5 (by decide)), h.fg, h.gin, h.low, by simpa [World.setCell] using h.top, below_sc h.below (by omega) u'⟩

def CopyVecC (n : Nat) : Prop := ∀ (d : VecD) (cs : List Value) (w : World), VectorR n w cs d → szVector d ≤ 900000000000 → Calls Try.prog 42 #[.agg cs.toArray] w (RetVector n w d)

set_option maxHeartbeats 8000000 in
theorem impl_copyVector_step (n : Nat) (ih : CopyVecC n) : CopyVecC (n + 1) := by
  intro d cs w h hz
  obtain ⟨v1, v2, v3, v4, v5, rfl, i0, h1, h2, h3, h4, h5, i6, i7⟩ := h
  obtain ⟨A1, c1, rfl, la1, ma1, _⟩ := SlR.open_ h1
  obtain ⟨A2, c2, rfl, la2, ma2, HC⟩ := SlR.open_ h2
  obtain ⟨A3, c3, rfl, la3, ma3, _⟩ := Txts.open_ h3
  obtain ⟨A4, c4, rfl, la4, ma4, _⟩ := Txts.open_ h4
  obtain ⟨A5, c5, rfl, la5, ma5, _⟩ := Txts.open_ h5
  have H1 := Lib.hid h1
  have H3 := Lib.hid h3
  have H4 := Lib.hid h4
  have H5 := Lib.hid h5
  rw [szVector_eq] at hz
  have s1 := szS_length szItem d.items
  have s2 := szS_length szVector d.parts
  have s3 := szL_length d.names
  have s4 := szL_length d.cls
  have s5 := szL_length d.levels
  unfold maxLen at ma2
  clear h1 h2 h3 h4 h5
  obtain ⟨G, g0, HG, BX, BY⟩ := good2 w 28 [.int .i64 d.kind, .slice A1 d.items.length c1, .slice A2 d.parts.length c2, .slice A3 d.names.length c3, .slice A4 d.cls.length c4, .slice A5 d.levels.length c5, .int .i64 d.code, .int .i64 d.env] 28 zV
  obtain ⟨x0, x1, x2, x3, x4, x5, x6, x7⟩ := pk_f8 BX
  go_enter Try.func42, Try.ntmps42
  go_upto_region 1 with fail
  refine gen_w g0 ?_
  clear g0
  intro W0 g0
  have hW0 := (HG.out.below g0).size
  have hlt0 := (BY.out W0 g0).lt
  refine wp_region_free (by kernel_rfl) (by kernel_rfl) (Ok G) cpvL cpvD (cpvR w.heap.size d A1 A3 A4 A5 c1 c3 c4 c5) (fun vs => ⟨#[.agg #[.int .i64 d.kind, .slice A1 d.items.length c1, .slice A2 d.parts.length c2, .slice A3 d.names.length c3, .slice A4 d.cls.length c4, .slice A5 d.levels.length c5, .int .i64 d.code, .int .i64 d.env], .pointer (some ⟨w.heap.size, 0, none⟩), .pointer (some ⟨w.heap.size + 1, 0, none⟩), vs 19, undef, undef, vs 0, vs 1, vs 2, vs 3, vs 4, vs 5, vs 6, vs 7, vs 8, vs 9, vs 10, vs 11, vs 12, vs 13, vs 14, vs 15, vs 16, vs 17, vs 18, undef, undef, undef, undef, undef, undef, undef, undef, undef, undef, undef, undef, undef, undef, undef, undef], []⟩) (fun vs => by kernel_rfl) (by kernel_rfl) (HG.out.drew g0) (cpvK w.heap.size d A1 A3 A4 A5 c1 c3 c4 c5) ?_ ?_
  · intro i o ho hi vs T W hS hd
    have h9 : i + 1 < 21 := by simpa using hi
    have hi' : i = 0 ∨ i = 1 ∨ i = 2 ∨ i = 3 ∨ i = 4 ∨ i = 5 ∨ i = 6 ∨ i = 7 ∨ i = 8 ∨ i = 9 ∨ i = 10 ∨ i = 11 ∨ i = 12 ∨ i = 13 ∨ i = 14 ∨ i = 15 ∨ i = 16 ∨ i = 17 ∨ i = 18 ∨ i = 19 := by omega
    clear h9 hi
    rcases hi' with rfl | rfl | rfl | rfl | rfl | rfl | rfl | rfl | rfl | rfl | rfl | rfl | rfl | rfl | rfl | rfl | rfl | rfl | rfl | rfl
    · obtain rfl := Option.some.inj ho
      exact oper_ok (by go_simp) ⟨_, rfl, Below.refl _ _, hS, upd_same _ _ _⟩
    · obtain rfl := Option.some.inj ho
      have d : vs 0 = _ := hd ⟨0, .data⟩ (by simp) rfl
      exact oper_ok (by go_simp) ⟨_, rfl, Below.refl _ _, hS, upd_same _ _ _⟩
    · obtain rfl := Option.some.inj ho
      exact oper_ok (by go_simp) ⟨_, rfl, Below.refl _ _, hS, upd_same _ _ _⟩
    · obtain rfl := Option.some.inj ho
      have d : vs 2 = _ := hd ⟨2, .data⟩ (by simp) rfl
      exact oper_ok (by go_simp) ⟨_, rfl, Below.refl _ _, hS, upd_same _ _ _⟩
    · obtain rfl := Option.some.inj ho
      have dx : vs 3 = _ := hd ⟨3, .data⟩ (by simp) rfl
      refine oper_call (by go_simp) (impl_copyItems d.items _ W (H1.out.below (HG.out.below hS)) (by omega)) ?_
      rintro e W' ⟨A, c, rfl, ho, hb⟩
      exact ⟨_, rfl, _, rfl, hb, HG.out.step hS hb, A, c, upd_same _ _ _, ItemsO.mono ho fun b hb => .inr ⟨rfl, hb.1, hb.2⟩⟩
    · obtain rfl := Option.some.inj ho
      exact oper_ok (by go_simp) ⟨_, rfl, Below.refl _ _, hS, upd_same _ _ _⟩
    · obtain rfl := Option.some.inj ho
      have d : vs 5 = _ := hd ⟨5, .data⟩ (by simp) rfl
      exact oper_ok (by go_simp) ⟨_, rfl, Below.refl _ _, hS, upd_same _ _ _⟩
    · obtain rfl := Option.some.inj ho
      have dx : vs 6 = _ := hd ⟨6, .data⟩ (by simp) rfl
      refine oper_call (by go_simp) (impl_copyTexts d.names _ W (H3.out.below (HG.out.below hS)) (by omega)) ?_
      rintro e W' ⟨A, c, rfl, ho, hb⟩
      exact ⟨_, rfl, _, rfl, hb, HG.out.step hS hb, A, c, upd_same _ _ _, TxtO.mono ho fun b hb => .inr ⟨rfl, hb.1, hb.2⟩⟩
    · obtain rfl := Option.some.inj ho
      exact oper_ok (by go_simp) ⟨_, rfl, Below.refl _ _, hS, upd_same _ _ _⟩
    · obtain rfl := Option.some.inj ho
      have d : vs 8 = _ := hd ⟨8, .data⟩ (by simp) rfl
      exact oper_ok (by go_simp) ⟨_, rfl, Below.refl _ _, hS, upd_same _ _ _⟩
    · obtain rfl := Option.some.inj ho
      have dx : vs 9 = _ := hd ⟨9, .data⟩ (by simp) rfl
      refine oper_call (by go_simp) (impl_copyTexts d.cls _ W (H4.out.below (HG.out.below hS)) (by omega)) ?_
      rintro e W' ⟨A, c, rfl, ho, hb⟩
      exact ⟨_, rfl, _, rfl, hb, HG.out.step hS hb, A, c, upd_same _ _ _, TxtO.mono ho fun b hb => .inr ⟨rfl, hb.1, hb.2⟩⟩
    · obtain rfl := Option.some.inj ho
      exact oper_ok (by go_simp) ⟨_, rfl, Below.refl _ _, hS, upd_same _ _ _⟩
    · obtain rfl := Option.some.inj ho
      have d : vs 11 = _ := hd ⟨11, .data⟩ (by simp) rfl
      exact oper_ok (by go_simp) ⟨_, rfl, Below.refl _ _, hS, upd_same _ _ _⟩
    · obtain rfl := Option.some.inj ho
      have dx : vs 12 = _ := hd ⟨12, .data⟩ (by simp) rfl
      refine oper_call (by go_simp) (impl_copyTexts d.levels _ W (H5.out.below (HG.out.below hS)) (by omega)) ?_
      rintro e W' ⟨A, c, rfl, ho, hb⟩
      exact ⟨_, rfl, _, rfl, hb, HG.out.step hS hb, A, c, upd_same _ _ _, TxtO.mono ho fun b hb => .inr ⟨rfl, hb.1, hb.2⟩⟩
    · obtain rfl := Option.some.inj ho
      exact oper_ok (by go_simp) ⟨_, rfl, Below.refl _ _, hS, upd_same _ _ _⟩
    · obtain rfl := Option.some.inj ho
      have d : vs 14 = _ := hd ⟨14, .data⟩ (by simp) rfl
      exact oper_ok (by go_simp) ⟨_, rfl, Below.refl _ _, hS, upd_same _ _ _⟩
    · obtain rfl := Option.some.inj ho
      exact oper_ok (by go_simp) ⟨_, rfl, Below.refl _ _, hS, upd_same _ _ _⟩
    · obtain rfl := Option.some.inj ho
      have d : vs 16 = _ := hd ⟨16, .data⟩ (by simp) rfl
      exact oper_ok (by go_simp) ⟨_, rfl, Below.refl _ _, hS, upd_same _ _ _⟩
    · obtain rfl := Option.some.inj ho
      have e1 : vs 1 = _ := hd ⟨1, .data⟩ (by simp) rfl
      obtain ⟨_, _, e4, _⟩ := (show cpvR w.heap.size d A1 A3 A4 A5 c1 c3 c4 c5 4 T vs W from hd ⟨4, .data⟩ (by simp) rfl)
      obtain ⟨_, _, e7, _⟩ := (show cpvR w.heap.size d A1 A3 A4 A5 c1 c3 c4 c5 7 T vs W from hd ⟨7, .data⟩ (by simp) rfl)
      obtain ⟨_, _, e10, _⟩ := (show cpvR w.heap.size d A1 A3 A4 A5 c1 c3 c4 c5 10 T vs W from hd ⟨10, .data⟩ (by simp) rfl)
      obtain ⟨_, _, e13, _⟩ := (show cpvR w.heap.size d A1 A3 A4 A5 c1 c3 c4 c5 13 T vs W from hd ⟨13, .data⟩ (by simp) rfl)
      have e15 : vs 15 = _ := hd ⟨15, .data⟩ (by simp) rfl
      have e17 : vs 17 = _ := hd ⟨17, .data⟩ (by simp) rfl
      refine oper_ok (by go_simp; rfl) ⟨_, rfl, Below.refl _ _, hS, ?_⟩
      show upd vs 18 _ 18 = .agg #[upd vs 18 _ 1, upd vs 18 _ 4, .slice none 0 0, upd vs 18 _ 7, upd vs 18 _ 10, upd vs 18 _ 13, upd vs 18 _ 15, upd vs 18 _ 17]
      simp [upd, e1, e4, e7, e10, e13, e15, e17]
    · obtain rfl := Option.some.inj ho
      exact oper_ok (by go_simp; first | exact ⟨rfl, rfl⟩ | rfl) ⟨_, rfl, (Below.refl _ _).alloc (Nat.le_refl _) _, HG.out.alloc hS _, W.heap.size, upd_same _ _ _, .inr ⟨rfl, Nat.le_refl _, by simp⟩, Blk.new W _ zV⟩
  · intro o ho vs T W hS hsz hT1 hT2 hR
    obtain ⟨od, oo, ot, opos, oa, og⟩ := o
    obtain ⟨rfl, rfl⟩ : od = none ∧ oo = .store 28 (.tmp 3) (.tmp 24) := ⟨(congrArg Oper.dst (Option.some.inj ho)).symm, (congrArg Oper.op (Option.some.inj ho)).symm⟩
    clear ho
    have e1 : vs 1 = _ := hR 1 (by decide)
    obtain ⟨P1, p1, e4, o1⟩ := hR 4 (by decide)
    obtain ⟨P3, p3, e7, o3⟩ := hR 7 (by decide)
    obtain ⟨P4, p4, e10, o4⟩ := hR 10 (by decide)
    obtain ⟨P5, p5, e13, o5⟩ := hR 13 (by decide)
    have e15 : vs 15 = _ := hR 15 (by decide)
    have e17 : vs 17 = _ := hR 17 (by decide)
    have e18 : vs 18 = .agg #[vs 1, vs 4, .slice none 0 0, vs 7, vs 10, vs 13, vs 15, vs 17] := hR 18 (by decide)
    obtain ⟨g, e19, tg, bg⟩ := hR 19 (by decide)
    rw [e1, e4, e7, e10, e13, e15, e17] at e18
    obtain ⟨f, hf⟩ := labels T hT2
    have hg1 := hT1 9 g tg
    have hTr : ∀ l b, T l b → Rng W0.heap.size W.heap.size b ∧ f b = l := fun l b hb => ⟨hT1 l b hb, hf l b hb⟩
    have FG := Lib.hid (hf 9 g tg)
    have O1 := Lib.hid (ItemsO.mono o1 (hTr 1))
    have O3 := Lib.hid (TxtO.mono o3 (hTr 3))
    have O4 := Lib.hid (TxtO.mono o4 (hTr 4))
    have O5 := Lib.hid (TxtO.mono o5 (hTr 5))
    have HB := Lib.hid (HG.out.below hS)
    have BXW := Lib.hid (BX.out W hS)
    have BYW := Lib.hid (BY.out W hS)
    have BG := Lib.hid bg
    clear o1 o3 o4 o5 hR hT1 hT2 hTr hf tg bg
    have HKP := Lib.hid (fun (S : Nat → Prop) (hS : ¬ S g) => (((((((((Keeps.refl S W).sc (b := g) (o := 0) hS (.int .i64 d.kind)).sc (b := g) (o := 1) hS (.slice P1 d.items.length p1)).sc (b := g) (o := 2) hS (.slice none 0 0)).sc (b := g) (o := 3) hS (.slice P3 d.names.length p3)).sc (b := g) (o := 4) hS (.slice P4 d.cls.length p4)).sc (b := g) (o := 5) hS (.slice P5 d.levels.length p5)).sc (b := g) (o := 6) hS (.int .i64 d.code)).sc (b := g) (o := 7) hS (.int .i64 d.env)))
    have HBL := Lib.hid (show Blk _ _ _ [.int .i64 d.kind, .slice P1 d.items.length p1, .slice none 0 0, .slice P3 d.names.length p3, .slice P4 d.cls.length p4, .slice P5 d.levels.length p5, .int .i64 d.code, .int .i64 d.env] from ((((((((BG.out.set_ 0 (.int .i64 d.kind)).set_ 1 (.slice P1 d.items.length p1)).set_ 2 (.slice none 0 0)).set_ 3 (.slice P3 d.names.length p3)).set_ 4 (.slice P4 d.cls.length p4)).set_ 5 (.slice P5 d.levels.length p5)).set_ 6 (.int .i64 d.code)).set_ 7 (.int .i64 d.env)))
    have HSC := Lib.hid (below_sc (b := g) (o := 7) (below_sc (b := g) (o := 6) (below_sc (b := g) (o := 5) (below_sc (b := g) (o := 4) (below_sc (b := g) (o := 3) (below_sc (b := g) (o := 2) (below_sc (b := g) (o := 1) (below_sc (b := g) (o := 0) HB.out (by omega) (.int .i64 d.kind)) (by omega) (.slice P1 d.items.length p1)) (by omega) (.slice none 0 0)) (by omega) (.slice P3 d.names.length p3)) (by omega) (.slice P4 d.cls.length p4)) (by omega) (.slice P5 d.levels.length p5)) (by omega) (.int .i64 d.code)) (by omega) (.int .i64 d.env))
    have y0 := BG.out.cell 0 _ rfl
    have z0 := BG.out.frozen 0
    have y1 := BG.out.cell 1 _ rfl
    have z1 := BG.out.frozen 1
    have y2 := BG.out.cell 2 _ rfl
    have z2 := BG.out.frozen 2
    have y3 := BG.out.cell 3 _ rfl
    have z3 := BG.out.frozen 3
    have y4 := BG.out.cell 4 _ rfl
    have z4 := BG.out.frozen 4
    have y5 := BG.out.cell 5 _ rfl
    have z5 := BG.out.frozen 5
    have y6 := BG.out.cell 6 _ rfl
    have z6 := BG.out.frozen 6
    have y7 := BG.out.cell 7 _ rfl
    have z7 := BG.out.frozen 7
    refine oper_gen (fun K hK => ?_)
    go_wp2_with fail
    refine hK.out _ _ ?_
    clear hK y0 y1 y2 y3 y4 y5 y6 y7 z0 z1 z2 z3 z4 z5 z6 z7
    refine gen_w (G := CV w d [.int .i64 d.kind, .slice A1 d.items.length c1, .slice A2 d.parts.length c2, .slice A3 d.names.length c3, .slice A4 d.cls.length c4, .slice A5 d.levels.length c5, .int .i64 d.code, .int .i64 d.env] g W0.heap.size W.heap.size f P1 P3 P4 P5 p1 p3 p4 p5 (.slice none 0 0))
      (show Ok _ _ from ⟨Blk.far8 BXW.out g (by omega) _ _ _ _ _ _ _ _, Blk.far8 BYW.out g (by omega) _ _ _ _ _ _ _ _, HBL.out, ItemsO.keeps O1.out (HKP.out _ (fun h => by have := h.2; have := FG.out; omega)), TxtO.keeps O3.out (HKP.out _ (fun h => by have := h.2; have := FG.out; omega)), TxtO.keeps O4.out (HKP.out _ (fun h => by have := h.2; have := FG.out; omega)), TxtO.keeps O5.out (HKP.out _ (fun h => by have := h.2; have := FG.out; omega)), FG.out, hg1, hlt0, by simp [World.setCell], HSC.out⟩) ?_
    have hWs := HB.out.size
    clear HKP HBL HSC O1 O3 O4 O5 HB BYW BXW BG FG hS e1 e4 e7 e10 e13 e15 e17
    intro V hv
    have HV := Lib.hid hv
    have y0 := hv.x.cell 2 _ rfl
    clear hv
    go_wp2_with fail
    clear g0
    go_loopw [28] (fun i wr => ∃ (j : Nat) (U : Option Addr) (q : Nat), j ≤ d.parts.length ∧ i = .int .i64 j ∧ Hid (CV w d [.int .i64 d.kind, .slice A1 d.items.length c1, .slice A2 d.parts.length c2, .slice A3 d.names.length c3, .slice A4 d.cls.length c4, .slice A5 d.levels.length c5, .int .i64 d.code, .int .i64 d.env] g W0.heap.size W.heap.size f P1 P3 P4 P5 p1 p3 p4 p5 (.slice U j q) wr) ∧ Hid (VectorsO n (Rng W.heap.size wr.heap.size) wr (.slice U j q) (d.parts.take j))) (fun i _ => d.parts.length - (intOf i).toNat)
    case atStart => exact ⟨0, none, 0, Nat.zero_le _, rfl, HV.out, SlO.nil_ _ _ _ _ _⟩
    case round =>
      clear HV y0
      obtain ⟨j, U, q, hj, rfl, HT, HO⟩ := hrel
      have htop := HT.out.top
      have hgin := HT.out.gin
      have hlow := HT.out.low
      by_cases hlt : j < d.parts.length
      · obtain ⟨b, off, cs, rfl, hbl, _, hat, hr⟩ := HC.out j hlt
        have HRK := Lib.hid hr
        have hpz : szVector d.parts[j] ≤ 900000000000 := by have := szS_at szVector d.parts j hlt; omega
        obtain ⟨k1, k2, k3, k4, k5, hcs⟩ := hr.shape
        obtain ⟨n9, K1, l1, K2, l2, K3, l3, K4, l4, K5, l5, hcs2, _⟩ := VecR.open_ ⟨n, hr⟩
        rw [hcs2] at hcs HRK hat
        clear hcs hr k1 k2 k3 k4 k5
        obtain ⟨G, g0, HG⟩ := good0 w
        replace g0 := HG.out.step g0 HT.out.below
        obtain ⟨e0, e1, e2, e3, e4, e5, e6, e7⟩ := pk_e8 HG hbl hat
        clear hat
        go_upto_region 5 with fail
        obtain ⟨T, hTdef⟩ : ∃ T : World → Prop, T = fun W' => CV w d [.int .i64 d.kind, .slice A1 d.items.length c1, .slice (some ⟨b, off, none⟩) d.parts.length c2, .slice A3 d.names.length c3, .slice A4 d.cls.length c4, .slice A5 d.levels.length c5, .int .i64 d.code, .int .i64 d.env] g W0.heap.size W.heap.size f P1 P3 P4 P5 p1 p3 p4 p5 (.slice U j q) W' ∧ Blk W' wr.heap.size 28 [.int .i64 d.parts[j].kind, .slice K1 d.parts[j].items.length l1, .slice K2 d.parts[j].parts.length l2, .slice K3 d.parts[j].names.length l3, .slice K4 d.parts[j].cls.length l4, .slice K5 d.parts[j].levels.length l5, .int .i64 d.parts[j].code, .int .i64 d.parts[j].env] := ⟨_, rfl⟩
        have hTi : ∀ W' : World, Ok T W' → CV w d [.int .i64 d.kind, .slice A1 d.items.length c1, .slice (some ⟨b, off, none⟩) d.parts.length c2, .slice A3 d.names.length c3, .slice A4 d.cls.length c4, .slice A5 d.levels.length c5, .int .i64 d.code, .int .i64 d.env] g W0.heap.size W.heap.size f P1 P3 P4 P5 p1 p3 p4 p5 (.slice U j q) W' ∧ Blk W' wr.heap.size 28 [.int .i64 d.parts[j].kind, .slice K1 d.parts[j].items.length l1, .slice K2 d.parts[j].parts.length l2, .slice K3 d.parts[j].names.length l3, .slice K4 d.parts[j].cls.length l4, .slice K5 d.parts[j].levels.length l5, .int .i64 d.parts[j].code, .int .i64 d.parts[j].env] := fun W' h => by rw [hTdef] at h; exact h
        have hTo : ∀ W' : World, CV w d [.int .i64 d.kind, .slice A1 d.items.length c1, .slice (some ⟨b, off, none⟩) d.parts.length c2, .slice A3 d.names.length c3, .slice A4 d.cls.length c4, .slice A5 d.levels.length c5, .int .i64 d.code, .int .i64 d.env] g W0.heap.size W.heap.size f P1 P3 P4 P5 p1 p3 p4 p5 (.slice U j q) W' → Blk W' wr.heap.size 28 [.int .i64 d.parts[j].kind, .slice K1 d.parts[j].items.length l1, .slice K2 d.parts[j].parts.length l2, .slice K3 d.parts[j].names.length l3, .slice K4 d.parts[j].cls.length l4, .slice K5 d.parts[j].levels.length l5, .int .i64 d.parts[j].code, .int .i64 d.parts[j].env] → Ok T W' := fun W' h1 h2 => by rw [hTdef]; exact ⟨h1, h2⟩
        clear hTdef
        have HTI := Lib.hid hTi
        have HTO := Lib.hid hTo
        clear hTi hTo
        have hbA := (Below.refl wr.heap.size wr).alloc (Nat.le_refl _) (.cells [.int .i64 d.parts[j].kind, .slice K1 d.parts[j].items.length l1, .slice K2 d.parts[j].parts.length l2, .slice K3 d.parts[j].names.length l3, .slice K4 d.parts[j].cls.length l4, .slice K5 d.parts[j].levels.length l5, .int .i64 d.parts[j].code, .int .i64 d.parts[j].env].toArray 28)
        refine gen_w (G := fun W' => Ok T W' ∧ Below wr.heap.size wr W') (show Ok _ _ from ⟨HTO.out _ (HT.out.step hbA) (Blk.new wr _ _), hbA⟩) ?_
        clear g0 hbA e0 e1 e2 e3 e4 e5 e6 e7
        rintro W1 ⟨g1, hbW1⟩
        have HBW1 := Lib.hid hbW1
        have hzW1 := hbW1.size
        clear hbW1
        have t2 := fun W' (h : Ok T W') => (HTI.out _ h).1.o.cell 2 _ rfl
        have q0 := fun W' (h : Ok T W') => (HTI.out _ h).2.cell 0 _ rfl
        have q1 := fun W' (h : Ok T W') => (HTI.out _ h).2.cell 1 _ rfl
        have q2 := fun W' (h : Ok T W') => (HTI.out _ h).2.cell 2 _ rfl
        have q3 := fun W' (h : Ok T W') => (HTI.out _ h).2.cell 3 _ rfl
        have q4 := fun W' (h : Ok T W') => (HTI.out _ h).2.cell 4 _ rfl
        have q5 := fun W' (h : Ok T W') => (HTI.out _ h).2.cell 5 _ rfl
        have q6 := fun W' (h : Ok T W') => (HTI.out _ h).2.cell 6 _ rfl
        have q7 := fun W' (h : Ok T W') => (HTI.out _ h).2.cell 7 _ rfl
        have stepT := Lib.hid (fun (W2 W3 : World) (h : Ok T W2) (hb : Below W2.heap.size W2 W3) => HTO.out _ ((HTI.out _ h).1.step hb) ((HTI.out _ h).2.below hb))
        replace g1 := stepT.out _ _ g1 (Below.drew (Below.refl _ _))
        refine wp_region_phase (T := Ok T) (by kernel_rfl) [(2, 0), (1, 1), (1, 2), (0, 3), (0, 4), (0, 5), (2, 6), (0, 7)] [7] (by kernel_rfl) g1 ?_
        repeat ((first | (refine dynL_take rfl rfl (fun W g => by go_simp; rfl) ?_) | (refine dynL_pure rfl rfl (fun W => by go_simp; rfl) ?_)); go_simp)
        refine dynL_act rfl rfl (fun K hK => ?_)
        go_wp2_with fail
        refine Calls.mono (ih d.parts[j] _ _ (HRK.out.below (HTI.out _ g1).1.below) hpz) ?_
        rintro e w2 ⟨cs2, rfl, ho, hb⟩
        have hlen2 := ho.length
        obtain ⟨E1, m1, E2, m2, E3, m3, E4, m4, E5, m5, rfl⟩ := ho.shape
        have hzd : W1.heap.size ≤ w2.heap.size := hb.size
        have g2 := stepT.out _ _ g1 hb
        obtain ⟨xs, hown, hpush⟩ := SlO.push (fun h k => h.keeps k) (fun h k => h.mono k) (show SlO (Rng W.heap.size wr.heap.size) wr 28 8 (VectorO n) _ (d.parts.take j) from HO.out) htop ((Below.drew HBW1.out).trans (hb.mono hzW1)) d.parts[j] _ hlen2 (ho.mono fun b hb => ⟨by have h8 : W1.heap.size ≤ b := hb.1; omega, hb.2⟩)
        rw [List.length_take, Nat.min_eq_left hj] at hown hpush
        have HPU := Lib.hid hpush
        have hown2 := Lib.hid hown
        have hUb : ∀ k, (Value.slice U j q).ownBlock = some k → k < wr.heap.size := by
          obtain ⟨_, _, _, _, h8⟩ := HO.out
          exact fun k hk => (h8.2 k hk).1.2
        have HUB := Lib.hid hUb
        clear hpush hown ho hb hUb
        simp only []
        refine hK.out _ _ g2 ?_
        clear hK
        repeat ((first | (refine dynL_take rfl rfl (fun W g => by go_simp; rfl) ?_) | (refine dynL_pure rfl rfl (fun W => by go_simp; rfl) ?_)); go_simp)
        refine dynL_act rfl rfl (fun K hK => ?_)
        go_wp2_with fail
        refine hK.out _ _ (stepT.out _ _ g2 ((Below.refl _ _).alloc (Nat.le_refl _) _)) ?_
        clear hK
        refine dynL_act rfl rfl (fun K hK => ?_)
        refine wp_push (.tmp 33) (.tmp 36) 25 rfl W.heap.size 28 (.agg #[.int .i64 0, .slice none 0 0, .slice none 0 0, .slice none 0 0, .slice none 0 0, .slice none 0 0, .int .i64 0, .int .i64 0]) 8 144 Try.underlying25 info_Vector rfl (by decide) w2 (.slice U j q) j xs #[.int .i64 d.parts[j].kind, .slice E1 d.parts[j].items.length m1, .slice E2 d.parts[j].parts.length m2, .slice E3 d.parts[j].names.length m3, .slice E4 d.parts[j].cls.length m4, .slice E5 d.parts[j].levels.length m5, .int .i64 d.parts[j].code, .int .i64 d.parts[j].env] rfl rfl hown2.out rfl (by simp [Value.oneCell']) (by omega) (by omega) (by have := (HTI.out _ g2).1.top; omega) ?_
        intro v1 w3 ho3 hg3 hbk3 hb3
        have g3 : Ok T w3 := HTO.out _ ((HTI.out _ g2).1.stepB hb3) ((hg3.block _ (HTI.out _ g2).2.lt (fun e9 => absurd (HUB.out _ e9.symm) (Nat.lt_irrefl _))).trans (HTI.out _ g2).2)
        obtain ⟨A9, c9, rfl⟩ := own_shapeC ho3
        have hp3 := HPU.out _ _ ho3 hg3 hbk3
        rw [← List.take_succ_eq_append_getElem hlt] at hp3
        have HP3 := Lib.hid hp3
        clear hown2 HPU ho3 hg3 hbk3 hb3 hp3 HUB
        refine hK.out _ _ g3 ?_
        clear hK
        go_simp
        repeat ((first | (refine dynL_take rfl rfl (fun W g => by go_simp; rfl) ?_) | (refine dynL_pure rfl rfl (fun W => by go_simp; rfl) ?_)); go_simp)
        have y2 := (HTI.out _ g3).1.o.cell 2 _ rfl
        have f2 := (HTI.out _ g3).1.o.frozen 2
        refine dynL_last rfl (by simp) rfl (fun K hK => ?_)
        go_wp2_with fail
        refine hK.out _ _ ?_
        clear hK
        refine dynL_done ?_
        go_wp2_with fail
        exact ⟨⟨j + 1, A9, c9, by omega, by go_num, (HTI.out _ g3).1.put, VectorsO.mono (VectorsO.keeps HP3.out ((Keeps.refl _ _).sc (fun h => by have := h.1; omega) _)) (fun b h => ⟨h.1, by simpa [World.setCell] using h.2⟩)⟩, by simp [intOf]; omega⟩
      · obtain rfl : j = d.parts.length := by omega
        rw [List.take_length] at HO
        have HB := Lib.hid HT.out.below
        have HKP := Lib.hid (fun (S : Nat → Prop) (hS : ¬ S (w.heap.size + 1)) => (((((((((Keeps.refl S wr).sc (b := w.heap.size + 1) (o := 0) hS (.int .i64 d.kind)).sc (b := w.heap.size + 1) (o := 1) hS (.slice P1 d.items.length p1)).sc (b := w.heap.size + 1) (o := 2) hS (.slice U d.parts.length q)).sc (b := w.heap.size + 1) (o := 3) hS (.slice P3 d.names.length p3)).sc (b := w.heap.size + 1) (o := 4) hS (.slice P4 d.cls.length p4)).sc (b := w.heap.size + 1) (o := 5) hS (.slice P5 d.levels.length p5)).sc (b := w.heap.size + 1) (o := 6) hS (.int .i64 d.code)).sc (b := w.heap.size + 1) (o := 7) hS (.int .i64 d.env)))
        have HBL := Lib.hid (show Blk _ _ _ [.int .i64 d.kind, .slice P1 d.items.length p1, .slice U d.parts.length q, .slice P3 d.names.length p3, .slice P4 d.cls.length p4, .slice P5 d.levels.length p5, .int .i64 d.code, .int .i64 d.env] from ((((((((HT.out.r.set_ 0 (.int .i64 d.kind)).set_ 1 (.slice P1 d.items.length p1)).set_ 2 (.slice U d.parts.length q)).set_ 3 (.slice P3 d.names.length p3)).set_ 4 (.slice P4 d.cls.length p4)).set_ 5 (.slice P5 d.levels.length p5)).set_ 6 (.int .i64 d.code)).set_ 7 (.int .i64 d.env)))
        have HSC := Lib.hid (below_sc (b := w.heap.size + 1) (o := 7) (below_sc (b := w.heap.size + 1) (o := 6) (below_sc (b := w.heap.size + 1) (o := 5) (below_sc (b := w.heap.size + 1) (o := 4) (below_sc (b := w.heap.size + 1) (o := 3) (below_sc (b := w.heap.size + 1) (o := 2) (below_sc (b := w.heap.size + 1) (o := 1) (below_sc (b := w.heap.size + 1) (o := 0) HB.out (by omega) (.int .i64 d.kind)) (by omega) (.slice P1 d.items.length p1)) (by omega) (.slice U d.parts.length q)) (by omega) (.slice P3 d.names.length p3)) (by omega) (.slice P4 d.cls.length p4)) (by omega) (.slice P5 d.levels.length p5)) (by omega) (.int .i64 d.code)) (by omega) (.int .i64 d.env))
        have y0 := HT.out.o.cell 0 _ rfl
        have r0 := HT.out.r.cell 0 _ rfl
        have z0 := HT.out.r.frozen 0
        have y1 := HT.out.o.cell 1 _ rfl
        have r1 := HT.out.r.cell 1 _ rfl
        have z1 := HT.out.r.frozen 1
        have y2 := HT.out.o.cell 2 _ rfl
        have r2 := HT.out.r.cell 2 _ rfl
        have z2 := HT.out.r.frozen 2
        have y3 := HT.out.o.cell 3 _ rfl
        have r3 := HT.out.r.cell 3 _ rfl
        have z3 := HT.out.r.frozen 3
        have y4 := HT.out.o.cell 4 _ rfl
        have r4 := HT.out.r.cell 4 _ rfl
        have z4 := HT.out.r.frozen 4
        have y5 := HT.out.o.cell 5 _ rfl
        have r5 := HT.out.r.cell 5 _ rfl
        have z5 := HT.out.r.frozen 5
        have y6 := HT.out.o.cell 6 _ rfl
        have r6 := HT.out.r.cell 6 _ rfl
        have z6 := HT.out.r.frozen 6
        have y7 := HT.out.o.cell 7 _ rfl
        have r7 := HT.out.r.cell 7 _ rfl
        have z7 := HT.out.r.frozen 7
        have HK := Lib.hid (fun k : Nat => HKP.out (fun b => Rng W0.heap.size W.heap.size b ∧ f b = k) (fun h => by have := h.1.1; omega))
        have HK2 := Lib.hid (HKP.out (Rng W.heap.size wr.heap.size) (fun h => by have := h.1; omega))
        go_wp2_with fail
        refine gen_w (G := fun V => Blk V (w.heap.size + 1) 28 [.int .i64 d.kind, .slice P1 d.items.length p1, .slice U d.parts.length q, .slice P3 d.names.length p3, .slice P4 d.cls.length p4, .slice P5 d.levels.length p5, .int .i64 d.code, .int .i64 d.env] ∧ Below w.heap.size w V ∧ wr.heap.size ≤ V.heap.size ∧ ItemsO (fun b => Rng W0.heap.size W.heap.size b ∧ f b = 1) V (.slice P1 d.items.length p1) d.items ∧ VectorsO n (Rng W.heap.size wr.heap.size) V (.slice U d.parts.length q) d.parts ∧ TxtO (fun b => Rng W0.heap.size W.heap.size b ∧ f b = 3) V (.slice P3 d.names.length p3) d.names ∧ TxtO (fun b => Rng W0.heap.size W.heap.size b ∧ f b = 4) V (.slice P4 d.cls.length p4) d.cls ∧ TxtO (fun b => Rng W0.heap.size W.heap.size b ∧ f b = 5) V (.slice P5 d.levels.length p5) d.levels)
          (show Ok _ _ from ⟨HBL.out, HSC.out, by simp [World.setCell], ItemsO.keeps HT.out.o1 (HK.out 1), VectorsO.keeps HO.out HK2.out, TxtO.keeps HT.out.o3 (HK.out 3), TxtO.keeps HT.out.o4 (HK.out 4), TxtO.keeps HT.out.o5 (HK.out 5)⟩) ?_
        clear HKP HBL HSC HK HK2 HB y0 y1 y2 y3 y4 y5 y6 y7 r0 r1 r2 r3 r4 r5 r6 r7 z0 z1 z2 z3 z4 z5 z6 z7
        rintro V ⟨hbl, hbv, hwv, o1, o2, o3, o4, o5⟩
        have hup : ∀ k b, (Rng W0.heap.size W.heap.size b ∧ f b = k) → (Rng w.heap.size V.heap.size b ∧ (if b < W.heap.size then f b else 2) = k) := fun k b h => ⟨⟨by have := h.1.1; omega, by have := h.1.2; omega⟩, by rw [if_pos h.1.2]; exact h.2⟩
        have HV := Lib.hid (show VectorO (n + 1) (Rng w.heap.size V.heap.size) V [.int .i64 d.kind, .slice P1 d.items.length p1, .slice U d.parts.length q, .slice P3 d.names.length p3, .slice P4 d.cls.length p4, .slice P5 d.levels.length p5, .int .i64 d.code, .int .i64 d.env] d from ⟨P1, p1, U, q, P3, p3, P4, p4, P5, p5, fun b => if b < W.heap.size then f b else 2, rfl, i0, ItemsO.mono o1 (hup 1), VectorsO.mono o2 (fun b h => ⟨⟨by have := h.1; omega, by have := h.2; omega⟩, if_neg (by have := h.1; omega)⟩), TxtO.mono o3 (hup 3), TxtO.mono o4 (hup 4), TxtO.mono o5 (hup 5), i6, i7⟩)
        have HBV := Lib.hid hbv
        have y0 := hbl.cell 0 _ rfl
        have y1 := hbl.cell 1 _ rfl
        have y2 := hbl.cell 2 _ rfl
        have y3 := hbl.cell 3 _ rfl
        have y4 := hbl.cell 4 _ rfl
        have y5 := hbl.cell 5 _ rfl
        have y6 := hbl.cell 6 _ rfl
        have y7 := hbl.cell 7 _ rfl
        clear o1 o2 o3 o4 o5 hbv hbl
        refine bodyPost_ret (v := .agg #[.int .i64 d.kind, .slice P1 d.items.length p1, .slice U d.parts.length q, .slice P3 d.names.length p3, .slice P4 d.cls.length p4, .slice P5 d.levels.length p5, .int .i64 d.code, .int .i64 d.env]) (by simp [results, Try.results42, go_sem, y0, y1, y2, y3, y4, y5, y6, y7]) rfl ?_
        exact ⟨_, rfl, HV.out, HBV.out⟩
theorem impl_copyVector_all : ∀ n, CopyVecC n
  | 0 => fun _ _ _ h => h.elim
  | n + 1 => impl_copyVector_step n (impl_copyVector_all n)
end Go.Proofs.Ytjdimlhdkmkmbaa
namespace Go.Proofs.Ytjdimlhdkmkmbaa
open Go.ChangeShapes Go.WideShapes Go.ChangeAt Go.RowKit Go.Deep
set_option linter.unusedVariables false
set_option maxRecDepth 100000

def zD : VecD := .mk 0 [] [] [] [] [] 0 0
theorem i64_0' : I64 0 := ⟨by decide, by decide⟩
theorem zeroOD (S : Nat → Prop) (w : World) : VecO S w zV zD :=
  ⟨1, none, 0, none, 0, none, 0, none, 0, none, 0, fun _ => 0, rfl, i64_0', SlO.nil_ _ _ _ _ _, SlO.nil_ _ _ _ _ _, ⟨FlO.nil_ _ _ _ _, fun _ h => by cases h⟩, ⟨FlO.nil_ _ _ _ _, fun _ h => by cases h⟩, ⟨FlO.nil_ _ _ _ _, fun _ h => by cases h⟩, i64_0', i64_0'⟩

end Go.Proofs.Ytjdimlhdkmkmbaa
namespace Go.Proofs.Ytjdimlhdkmkmbaa
open Go.ChangeShapes Go.WideShapes Go.ChangeAt Go.RowKit Go.Deep
set_option linter.unusedVariables false
set_option maxRecDepth 100000

end Go.Proofs.Ytjdimlhdkmkmbaa
