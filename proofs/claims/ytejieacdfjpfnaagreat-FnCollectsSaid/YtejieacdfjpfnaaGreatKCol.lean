/-
  Merged texts: ColPure, SameVec, ColFacts.
-/
import Derived.Test.YtejieacdfjpfnaaGreatCollect
import Derived.Test.YtejieacdfjpfnaaGreatKOk5
import Derived.Test.YtejieacdfjpfnaaGreatKGood
import Derived.StillTailTactics
namespace Go.Proofs.YtejieacdfjpfnaaGreat
set_option maxRecDepth 100000
set_option maxRecDepth 100000
open Go.RowKit
set_option linter.unusedVariables false

/-! ### A store that is swept -/
theorem sw_get {α : Type} (z : α) (E : List Bool) (k : Nat) (l : List α) (i : Nat) : (sw z E k l)[i]? = if i < k ∧ gB E i = false then l[i]?.map (fun _ => z) else l[i]? := by
  induction k with
  | zero => simp [sw]
  | succ k ih =>
    unfold sw
    by_cases hk : gB E k = true
    · rw [if_pos hk, ih]
      by_cases hi : i < k ∧ gB E i = false
      · rw [if_pos hi, if_pos ⟨by omega, hi.2⟩]
      · rw [if_neg hi, if_neg (fun h => hi ⟨?_, h.2⟩)]
        rcases Nat.lt_succ_iff_lt_or_eq.1 h.1 with h1 | h1
        · exact h1
        · subst h1
          rw [hk] at h
          cases h.2
    · have hk' : gB E k = false := by simpa using hk
      rw [if_neg hk, List.getElem?_set, ih]
      by_cases he : k = i
      · subst he
        rw [if_pos rfl, if_pos (show k < k + 1 ∧ gB E k = false from ⟨by omega, hk'⟩), sw_len]
        by_cases hl : k < l.length
        · rw [if_pos hl, List.getElem?_eq_getElem hl]
          rfl
        · rw [if_neg hl, List.getElem?_eq_none (by omega)]
          rfl
      · rw [if_neg he]
        by_cases hi : i < k ∧ gB E i = false
        · rw [if_pos hi, if_pos ⟨by omega, hi.2⟩]
        · rw [if_neg hi, if_neg (fun h => hi ⟨by omega, h.2⟩)]
section
variable {s : StoreD} {roots : List Int} {E P : List Bool}
theorem col_env (i : Nat) (h : gB E i = true) : (colS s E P).envs[i]? = s.envs[i]? := by
  show (sw zEn E s.envs.length s.envs)[i]? = _
  rw [sw_get, if_neg (fun h2 => by rw [h] at h2; cases h2.2)]
theorem col_prom (i : Nat) (h : gB P i = true) : (colS s E P).promises[i]? = s.promises[i]? := by
  show (sw zPr P s.promises.length s.promises)[i]? = _
  rw [sw_get, if_neg (fun h2 => by rw [h] at h2; cases h2.2)]
theorem col_env0 (i : Nat) (h : gB E i = false) (hi : i < s.envs.length) : (colS s E P).envs[i]? = some zEn := by
  show (sw zEn E s.envs.length s.envs)[i]? = _
  rw [sw_get, if_pos ⟨hi, h⟩, List.getElem?_eq_getElem hi]
  rfl
theorem col_prom0 (i : Nat) (h : gB P i = false) (hi : i < s.promises.length) : (colS s E P).promises[i]? = some zPr := by
  show (sw zPr P s.promises.length s.promises)[i]? = _
  rw [sw_get, if_pos ⟨hi, h⟩, List.getElem?_eq_getElem hi]
  rfl
theorem col_lenE : (colS s E P).envs.length = s.envs.length := sw_len _ _ _ _
theorem col_lenP : (colS s E P).promises.length = s.promises.length := sw_len _ _ _ _
theorem slot_proms {y : SlotD} (h : slotOk s y = true) (p : Int) (hp : p ∈ y.promises) : promU s p = true := by
  unfold slotOk slC slD at h
  simp only [Bool.and_eq_true, decide_eq_true_eq] at h
  obtain ⟨j, hj, rfl⟩ := List.getElem_of_mem hp
  exact (h.2 j hj (by omega)).1
theorem slot_funs {y : SlotD} (h : slotOk s y = true) (f : Int) (hf : f ∈ funs y.value) : envU s f = true := by
  unfold slotOk slA valFit at h
  simp only [Bool.and_eq_true] at h
  exact funFit_funs _ h.1.1.1.1.2.2 f hf
theorem envU_cast {e : Int} (h : envU s e = true) : envU s (e.toNat : Int) = true := by rw [Int.toNat_of_nonneg (envU_in h).1]; exact h
theorem promU_cast {e : Int} (h : promU s e = true) : promU s (e.toNat : Int) = true := by rw [Int.toNat_of_nonneg (promU_in h).1]; exact h
theorem prom_used (h : storeOk s = true) (k : Nat) (p : PromD) (hp : s.promises[k]? = some p) (hu : promU s k = true) : p.used = true ∧ prA s p = true ∧ (if p.state = 2 then p.env == 0 else zeroV p.value) = true := by
  have h1 := prom_at h k p hp
  have hi := (List.getElem?_eq_some_iff.1 hp).1
  have he := (List.getElem?_eq_some_iff.1 hp).2
  rw [promU_at k hi, he] at hu
  unfold prOk at h1
  rw [if_pos hu, Bool.and_eq_true] at h1
  exact ⟨hu, h1⟩
theorem rn_used (h : storeOk s = true) (hr : ∀ e ∈ roots, envU s e = true) {b : Bool} {i : Nat} (hn : RN s roots b i) : if b then promU s i = true else envU s i = true := by
  induction hn with
  | zero =>
    have h5 : ((s.envs[0]?).map EnvD.used).getD false = true := by unfold storeOk at h; simp only [Bool.and_eq_true] at h; exact h.1.1.2
    show envU s 0 = true
    simpa [envU] using h5
  | root e he => exact envU_cast (hr e he)
  | parent i x _ hx h0 ih =>
    have hi := (List.getElem?_eq_some_iff.1 hx).1
    have he := (List.getElem?_eq_some_iff.1 hx).2
    have h3 := (env_parent h i hi ih).2.2
    rw [he] at h3
    exact envU_cast (h3.resolve_left (by omega))
  | func i x y f _ hx hy hf ih => exact envU_cast (slot_funs (env_slots h i x hx y hy) f hf)
  | prom i x y _ hx hy hk ih => exact promU_cast ((slot_val (env_slots h i x hx y hy)).2.2 hk)
  | proms i x y p _ hx hy hp ih => exact promU_cast (slot_proms (env_slots h i x hx y hy) p hp)
  | penv k p _ hp hs ih =>
    have h2 := (prom_used h k p hp ih).2.1
    unfold prA at h2
    rw [Bool.and_eq_true] at h2
    exact envU_cast h2.2
  | pfunc k p f _ hp hf ih =>
    have h2 := (prom_used h k p hp ih).2.1
    unfold prA valFit at h2
    simp only [Bool.and_eq_true] at h2
    exact envU_cast (funFit_funs _ h2.1.2.2 f hf)
mutual
theorem funFit_of {s : StoreD} : ∀ (d : VecD), (∀ f ∈ funs d, envU s f = true) → funFit s d = true
  | .mk k _ p _ _ _ _ en, h => by
    rw [funFit, Bool.and_eq_true, Bool.or_eq_true]
    rw [funs] at h
    refine ⟨?_, funFits_of p fun f hf => h f (List.mem_append_right _ hf)⟩
    by_cases hk : k = 5
    · exact .inr (h en (List.mem_append_left _ (by rw [if_pos hk]; exact List.mem_singleton.2 rfl)))
    · exact .inl (by simpa using hk)
theorem funFits_of {s : StoreD} : ∀ (l : List VecD), (∀ f ∈ funss l, envU s f = true) → funFits s l = true
  | [], _ => rfl
  | d :: l, h => by
    rw [funss] at h
    rw [funFits, Bool.and_eq_true]
    exact ⟨funFit_of d fun f hf => h f (List.mem_append_left _ hf), funFits_of l fun f hf => h f (List.mem_append_right _ hf)⟩
end
theorem col_envU {e : Int} (h : envU s e = true) (hg : gB E e.toNat = true) : envU (colS s E P) e = true := by
  unfold envU at h ⊢
  rw [col_env _ hg]
  exact h
theorem col_promU {e : Int} (h : promU s e = true) (hg : gB P e.toNat = true) : promU (colS s E P) e = true := by
  unfold promU at h ⊢
  rw [col_prom _ hg]
  exact h
theorem col_fit {d : VecD} (h : valFit s d = true) (hc : ∀ f ∈ funs d, gB E f.toNat = true) : valFit (colS s E P) d = true := by
  unfold valFit at h ⊢
  rw [Bool.and_eq_true] at h ⊢
  exact ⟨h.1, funFit_of d fun f hf => col_envU (funFit_funs d h.2 f hf) (hc f hf)⟩
theorem col_slot {y : SlotD} (h : slotOk s y = true) (hc : ClS y E P) : slotOk (colS s E P) y = true := by
  have hp := slot_proms h
  have hk := (slot_val h).2.2
  unfold slotOk at h ⊢
  simp only [Bool.and_eq_true] at h ⊢
  obtain ⟨⟨⟨h1, h2⟩, h3⟩, h4⟩ := h
  refine ⟨⟨⟨?_, ?_⟩, h3⟩, ?_⟩
  · unfold slA at h1 ⊢
    simp only [Bool.and_eq_true] at h1 ⊢
    exact ⟨⟨h1.1.1, col_fit h1.1.2 hc.1⟩, h1.2⟩
  · unfold slB at h2 ⊢
    simp only [Bool.and_eq_true, Bool.or_eq_true, bne_iff_ne] at h2 ⊢
    refine ⟨?_, h2.2⟩
    by_cases h9 : y.kind = 2
    · exact .inr (col_promU (hk h9) (hc.2.1 h9))
    · exact .inl h9
  · unfold slD at h4 ⊢
    rw [decide_eq_true_eq] at h4 ⊢
    intro j hj hj'
    exact ⟨col_promU (h4 j hj hj').1 (hc.2.2 _ (List.getElem_mem hj)), (h4 j hj hj').2⟩
theorem col_ok (h : storeOk s = true) (hr : ∀ e ∈ roots, envU s e = true) (hM : Marked s roots E P) : storeOk (colS s E P) = true := by
  have hU : ∀ i, gB E i = true → envU s i = true := fun i hi => by simpa using rn_used h hr (hM.snd i hi)
  have hV : ∀ i, gB P i = true → promU s i = true := fun i hi => by simpa using rn_used h hr (hM.sndP i hi)
  have hpos := storeOk_pos h
  have h0 : ((s.envs[0]?).map EnvD.used).getD false = true := by unfold storeOk at h; simp only [Bool.and_eq_true] at h; exact h.1.1.2
  unfold storeOk
  simp only [Bool.and_eq_true, decide_eq_true_eq]
  refine ⟨⟨⟨by rw [col_lenE]; exact hpos, by rw [col_env 0 hM.zero]; exact h0⟩, ?_⟩, ?_⟩
  · apply decide_eq_true
    intro k hk
    have hk' : k < s.envs.length := by rw [col_lenE] at hk; exact hk
    cases hg : gB E k
    · have he : (colS s E P).envs[k] = zEn := Option.some.inj ((List.getElem?_eq_getElem hk).symm.trans (col_env0 k hg hk'))
      rw [he]
      rfl
    · have hx : s.envs[k]? = some s.envs[k] := List.getElem?_eq_getElem hk'
      have he : (colS s E P).envs[k] = s.envs[k] := Option.some.inj ((List.getElem?_eq_getElem hk).symm.trans ((col_env k hg).trans hx))
      rw [he]
      have hu : s.envs[k].used = true := by rw [← envU_at k hk']; exact hU k hg
      have h2 := (env_ok h k _ hx).2
      have hcl := hM.clE k hg _ hx
      unfold envOk at h2 ⊢
      rw [if_pos hu] at h2 ⊢
      rw [Bool.and_eq_true] at h2 ⊢
      refine ⟨?_, ?_⟩
      · have h3 := h2.1
        unfold enA at h3 ⊢
        simp only [Bool.and_eq_true, Bool.or_eq_true] at h3 ⊢
        refine ⟨⟨h3.1.1, ?_⟩, h3.2⟩
        rcases h3.1.2 with h4 | h4
        · exact .inl h4
        · exact .inr ⟨h4.1, col_envU h4.2 (hcl.1 (envU_in h4.2).1)⟩
      · apply decide_eq_true
        intro j hj hj'
        have h5 : enT s s.envs[k] j hj hj' = true := of_decide_eq_true (show enB s s.envs[k] = true from h2.2) j hj hj'
        unfold enT at h5 ⊢
        rw [Bool.and_eq_true] at h5 ⊢
        exact ⟨h5.1, col_slot h5.2 (hcl.2 _ (List.getElem_mem hj'))⟩
  · apply decide_eq_true
    intro k hk
    have hk' : k < s.promises.length := by rw [col_lenP] at hk; exact hk
    cases hg : gB P k
    · have he : (colS s E P).promises[k] = zPr := Option.some.inj ((List.getElem?_eq_getElem hk).symm.trans (col_prom0 k hg hk'))
      rw [he]
      rfl
    · have hx : s.promises[k]? = some s.promises[k] := List.getElem?_eq_getElem hk'
      have he : (colS s E P).promises[k] = s.promises[k] := Option.some.inj ((List.getElem?_eq_getElem hk).symm.trans ((col_prom k hg).trans hx))
      rw [he]
      obtain ⟨hu, hA, hB⟩ := prom_used h k _ hx (hV k hg)
      have hcl := hM.clP k hg _ hx
      unfold prOk
      rw [if_pos hu, Bool.and_eq_true]
      refine ⟨?_, hB⟩
      unfold prA at hA ⊢
      rw [Bool.and_eq_true, Bool.and_eq_true] at hA ⊢
      refine ⟨⟨hA.1.1, col_fit hA.1.2 hcl.2⟩, col_envU hA.2 ?_⟩
      by_cases h2 : s.promises[k].state = 2
      · rw [if_pos h2, beq_iff_eq] at hB
        rw [hB]
        exact hM.zero
      · exact hcl.1 h2
theorem col_find (hM : Marked s roots E P) (name : List UInt8) : ∀ (f : Nat) (e : Int), (e < 0 ∨ gB E e.toNat = true) → findS (colS s E P) name f e = findS s name f e ∧ ((findS s name f e).1 < 0 ∨ gB E (findS s name f e).1.toNat = true) := by
  intro f
  induction f with
  | zero => intro e _; exact ⟨rfl, .inl (by show (-1 : Int) < 0; omega)⟩
  | succ f ih =>
    intro e he
    rw [findS, findS]
    by_cases h0 : e < 0
    · rw [if_pos h0, if_pos h0]
      exact ⟨rfl, .inl (by show (-1 : Int) < 0; omega)⟩
    · rw [if_neg h0, if_neg h0]
      have hg := he.resolve_left h0
      rw [col_env _ hg]
      cases hx : s.envs[e.toNat]? with
      | none => exact ⟨rfl, .inl (by show (-1 : Int) < 0; omega)⟩
      | some x =>
        dsimp only
        by_cases hf : 0 ≤ findB x.names name
        · simp only [if_pos hf]
          exact ⟨trivial, .inr hg⟩
        · simp only [if_neg hf]
          refine ih x.parent ?_
          by_cases hp : x.parent < 0
          · exact .inl hp
          · exact .inr ((hM.clE _ hg x hx).1 (by omega))
theorem col_valIn (h : storeOk s = true) (hr : ∀ e ∈ roots, envU s e = true) (hM : Marked s roots E P) (e : Int) (name : List UInt8) (he : envU s e = true) (hg : gB E e.toNat = true) : valIn (colS s E P) e name = valIn s e name := by
  have h1 := col_ok h hr hM
  have h2 := col_envU (P := P) he hg
  obtain ⟨h3, h4⟩ := col_find hM name (s.envs.length + 1) e (.inr hg)
  have h5 : findIn (colS s E P) e name = findIn s e name := by
    unfold findIn
    rw [h1, h2, h, he, col_lenE]
    exact h3
  have h6 : findIn s e name = findS s name (s.envs.length + 1) e := by
    unfold findIn
    rw [h, he]
    rfl
  unfold valIn
  rw [h5]
  by_cases hn : (findIn s e name).1 < 0
  · rw [if_pos hn, if_pos hn]
  · rw [if_neg hn, if_neg hn]
    have hg2 : gB E (findIn s e name).1.toNat = true := by
      rw [h6] at hn ⊢
      exact h4.resolve_left hn
    rw [col_env _ hg2]
    cases hx : s.envs[(findIn s e name).1.toNat]? with
    | none => rfl
    | some x =>
      dsimp only
      cases hy : x.slots[(findIn s e name).2.toNat]? with
      | none => rfl
      | some y =>
        dsimp only
        unfold slotVal
        by_cases k1 : y.kind = 1
        · rw [if_pos k1, if_pos k1]
        · rw [if_neg k1, if_neg k1]
          by_cases k2 : y.kind = 2
          · rw [if_pos k2, if_pos k2, col_prom _ (((hM.clE _ hg2 x hx).2 y (List.mem_of_getElem? hy)).2.1 k2)]
          · rw [if_neg k2, if_neg k2]
theorem col_rn (hM : Marked s roots E P) {b : Bool} {i : Nat} (hn : RN s roots b i) : RN (colS s E P) roots b i := by
  induction hn with
  | zero => exact .zero
  | root e he => exact .root e he
  | parent i x h hx h0 ih => exact .parent i x ih ((col_env i (by simpa using hM.all h)).trans hx) h0
  | func i x y f h hx hy hf ih => exact .func i x y f ih ((col_env i (by simpa using hM.all h)).trans hx) hy hf
  | prom i x y h hx hy hk ih => exact .prom i x y ih ((col_env i (by simpa using hM.all h)).trans hx) hy hk
  | proms i x y p h hx hy hp ih => exact .proms i x y p ih ((col_env i (by simpa using hM.all h)).trans hx) hy hp
  | penv k p h hp hs ih => exact .penv k p ih ((col_prom k (by simpa using hM.all h)).trans hp) hs
  | pfunc k p f h hp hf ih => exact .pfunc k p f ih ((col_prom k (by simpa using hM.all h)).trans hp) hf
theorem col_marked (hM : Marked s roots E P) : Marked (colS s E P) roots E P where
  lenE := hM.lenE.trans col_lenE.symm
  lenP := hM.lenP.trans col_lenP.symm
  snd i hi := col_rn hM (hM.snd i hi)
  sndP i hi := col_rn hM (hM.sndP i hi)
  clE i hi x hx := hM.clE i hi x ((col_env i hi).symm.trans hx)
  clP k hk p hp := hM.clP k hk p ((col_prom k hk).symm.trans hp)
  zero := hM.zero
  root := hM.root
theorem col_usedE (h : storeOk s = true) (hr : ∀ e ∈ roots, envU s e = true) (hM : Marked s roots E P) (i : Nat) (hi : i < (colS s E P).envs.length) : (colS s E P).envs[i].used = gB E i := by
  have hk' : i < s.envs.length := by rw [col_lenE] at hi; exact hi
  cases hg : gB E i
  · rw [Option.some.inj ((List.getElem?_eq_getElem hi).symm.trans (col_env0 i hg hk'))]
    rfl
  · rw [Option.some.inj ((List.getElem?_eq_getElem hi).symm.trans ((col_env i hg).trans (List.getElem?_eq_getElem hk'))), ← envU_at i hk']
    simpa using rn_used h hr (hM.snd i hg)
theorem col_usedP (h : storeOk s = true) (hr : ∀ e ∈ roots, envU s e = true) (hM : Marked s roots E P) (i : Nat) (hi : i < (colS s E P).promises.length) : (colS s E P).promises[i].used = gB P i := by
  have hk' : i < s.promises.length := by rw [col_lenP] at hi; exact hi
  cases hg : gB P i
  · rw [Option.some.inj ((List.getElem?_eq_getElem hi).symm.trans (col_prom0 i hg hk'))]
    rfl
  · rw [Option.some.inj ((List.getElem?_eq_getElem hi).symm.trans ((col_prom i hg).trans (List.getElem?_eq_getElem hk'))), ← promU_at i hk']
    simpa using rn_used h hr (hM.sndP i hg)
end
end Go.Proofs.YtejieacdfjpfnaaGreat
namespace Go.Proofs.YtejieacdfjpfnaaGreat
set_option maxRecDepth 100000
open Go.ChangeShapes Go.WideShapes Go.ChangeAt Go.RowKit Go.Deep
set_option linter.unusedVariables false

set_option maxHeartbeats 400000 in
theorem spec_l4Strings_same (l : List (List UInt8)) (v u : Value) (w : World) (h : Txts w v l) (h' : Txts w u l) :
    Calls Tryz.prog 132 #[v, u] w fun e w' => e = .returned (.bool true) ∧ Below w.heap.size w w' := by
  obtain ⟨A, c, rfl, hlc, hm, HC⟩ := h.open_
  obtain ⟨A', c', rfl, hlc', hm', HC'⟩ := h'.open_
  clear h h'
  unfold maxLen at hm hm'
  go_enter Tryz.func132, Tryz.ntmps132
  go_wp2
  go_loopw [5] (fun i wr => ∃ k : Nat, k ≤ l.length ∧ i = .int .i64 k ∧ ∃ n, wr = w.drewN n) (fun i _ => l.length - (intOf i).toNat)
  case atStart => exact ⟨0, Nat.zero_le _, rfl, 0, rfl⟩
  case round =>
    obtain ⟨k, hk, rfl, n, rfl⟩ := hrel
    by_cases hlt : k < l.length
    · obtain ⟨b, off, rfl, hbl, hcell, _⟩ := HC.out k hlt
      obtain ⟨b', off', rfl, hbl', hcell', _⟩ := HC'.out k hlt
      go_wp2
      go_quiet (fail)
      go_wp2
      go_roundw
      case rel => exact ⟨k + 1, by omega, by go_num, _, rfl⟩
      case measure => simp [intOf]; omega
    · go_wp2
      go_ret
      exact ⟨rfl, below_drewN (Below.refl _ _) _⟩

set_option maxHeartbeats 400000 in
theorem laws_sameInts_same (l : List Int) (v u : Value) (w : World) (h : Ints w v l) (h' : Ints w u l) :
    Calls Tryz.prog 42 #[v, u] w fun e w' => e = .returned (.bool true) ∧ Below w.heap.size w w' := by
  obtain ⟨A, c, rfl, hlc, hm, HC⟩ := h.open_
  obtain ⟨A', c', rfl, hlc', hm', HC'⟩ := h'.open_
  clear h h'
  unfold maxLen at hm hm'
  go_enter Tryz.func42, Tryz.ntmps42
  go_wp2
  go_loopw [5] (fun i wr => ∃ k : Nat, k ≤ l.length ∧ i = .int .i64 k ∧ ∃ n, wr = w.drewN n) (fun i _ => l.length - (intOf i).toNat)
  case atStart => exact ⟨0, Nat.zero_le _, rfl, 0, rfl⟩
  case round =>
    obtain ⟨k, hk, rfl, n, rfl⟩ := hrel
    by_cases hlt : k < l.length
    · obtain ⟨b, off, rfl, hbl, hcell, _, _⟩ := HC.out k hlt
      obtain ⟨b', off', rfl, hbl', hcell', _, _⟩ := HC'.out k hlt
      go_wp2
      go_quiet (fail)
      go_wp2
      go_roundw
      case rel => exact ⟨k + 1, by omega, by go_num, _, rfl⟩
      case measure => simp [intOf]; omega
    · go_wp2
      go_ret
      exact ⟨rfl, below_drewN (Below.refl _ _) _⟩

def L4SameC (n : Nat) : Prop := ∀ (d : VecD) (cs cs' : List Value) (w : World), VectorR n w cs d → VectorR n w cs' d →
    Calls Tryz.prog 94 #[.agg cs.toArray, .agg cs'.toArray] w fun e w' => e = .returned (.bool true) ∧ Below w.heap.size w w'

set_option maxHeartbeats 4000000 in
theorem l4Same_step (n : Nat) (ih : L4SameC n) : L4SameC (n + 1) := by
  intro d cs cs' w h h'
  obtain ⟨v1, v2, v3, v4, v5, rfl, _, h1, h2, h3, h4, h5, _, _⟩ := h
  obtain ⟨u1, u2, u3, u4, u5, rfl, _, k1, k2, k3, k4, k5, _, _⟩ := h'
  obtain ⟨A1, a1, rfl, la1, ma1, HI⟩ := SlR.open_ h1
  obtain ⟨A2, a2, rfl, la2, ma2, HP⟩ := SlR.open_ h2
  obtain ⟨B1, b1, rfl, lb1, mb1, KI⟩ := SlR.open_ k1
  obtain ⟨B2, b2, rfl, lb2, mb2, KP⟩ := SlR.open_ k2
  have H3 := Lib.hid h3
  have H4 := Lib.hid h4
  have H5 := Lib.hid h5
  have K3 := Lib.hid k3
  have K4 := Lib.hid k4
  have K5 := Lib.hid k5
  clear h1 h2 h3 h4 h5 k1 k2 k3 k4 k5
  unfold maxLen at ma1 ma2 mb1 mb2
  obtain ⟨G, g0, HG, BX, BY⟩ := good2 w 45 [.int .i64 d.kind, .slice A1 d.items.length a1, .slice A2 d.parts.length a2, v3, v4, v5, .int .i64 d.code, .int .i64 d.env] 45 [.int .i64 d.kind, .slice B1 d.items.length b1, .slice B2 d.parts.length b2, u3, u4, u5, .int .i64 d.code, .int .i64 d.env]
  obtain ⟨x0, x1, x2, x3, x4, x5, x6, x7⟩ := pk_f8 BX
  obtain ⟨y0, y1, y2, y3, y4, y5, y6, y7⟩ := pk_f8 BY
  go_enter Tryz.func94, Tryz.ntmps94
  go_upto_region 1 with fail
  refine gen_w g0 ?_
  clear g0
  intro W0 g0
  go_wp2_with fail
  refine Calls.mono (spec_l4Strings_same d.names _ _ _ (H3.out.below (HG.out.below g0)) (K3.out.below (HG.out.below g0))) ?_
  rintro e w1 ⟨rfl, hb⟩
  replace g0 := HG.out.step g0 hb
  clear hb
  go_wp2_with fail
  refine Calls.mono (spec_l4Strings_same d.cls _ _ _ (H4.out.below (HG.out.below g0)) (K4.out.below (HG.out.below g0))) ?_
  rintro e w2 ⟨rfl, hb⟩
  replace g0 := HG.out.step g0 hb
  clear hb
  go_wp2_with fail
  refine Calls.mono (spec_l4Strings_same d.levels _ _ _ (H5.out.below (HG.out.below g0)) (K5.out.below (HG.out.below g0))) ?_
  rintro e w3 ⟨rfl, hb⟩
  replace g0 := HG.out.step g0 hb
  clear hb
  go_wp2_with fail
  go_loopw [5] (fun i wr => ∃ k : Nat, k ≤ d.items.length ∧ i = .int .i64 k ∧ Ok G wr) (fun i _ => d.items.length - (intOf i).toNat)
  case atStart => exact ⟨0, Nat.zero_le _, rfl, g0⟩
  case round =>
    clear g0
    obtain ⟨k, hk, rfl, g0⟩ := hrel
    by_cases hlt : k < d.items.length
    · obtain ⟨b, off, cs, rfl, hbl, _, hat, hr⟩ := HI.out k hlt
      obtain ⟨rfl, _⟩ := hr
      obtain ⟨p0, p1, p2⟩ := pk_e3 HG hbl hat
      clear hat
      obtain ⟨b', off', cs', rfl, hbl2, _, hat2, hr⟩ := KI.out k hlt
      obtain ⟨rfl, _⟩ := hr
      obtain ⟨q0, q1, q2⟩ := pk_e3 HG hbl2 hat2
      clear hat2
      go_wp2_with fail
      go_quiet (fail)
      replace g0 := HG.out.step g0 (below_drewN (Below.refl _ _) nq)
      go_wp2_with fail
      go_roundw
      case rel => exact ⟨k + 1, by omega, by go_num, g0⟩
      case measure => simp [intOf]; omega
    · obtain rfl : k = d.items.length := by omega
      clear hlt hk
      go_wp2_with fail
      go_loopw [6] (fun i wr => ∃ k : Nat, k ≤ d.parts.length ∧ i = .int .i64 k ∧ Ok G wr) (fun i _ => d.parts.length - (intOf i).toNat)
      case atStart => exact ⟨0, Nat.zero_le _, rfl, g0⟩
      case round =>
        clear g0
        obtain ⟨k, hk, rfl, g0⟩ := hrel
        by_cases hlt : k < d.parts.length
        · obtain ⟨b, off, cs, rfl, hbl, _, hat, hr⟩ := HP.out k hlt
          have HRK := Lib.hid hr
          obtain ⟨r1, r2, r3, r4, r5, rfl⟩ := hr.shape
          clear hr
          obtain ⟨p0, p1, p2, p3, p4, p5, p6, p7⟩ := pk_e8 HG hbl hat
          clear hat
          obtain ⟨b', off', cs', rfl, hbl2, _, hat2, hr⟩ := KP.out k hlt
          have HRL := Lib.hid hr
          obtain ⟨s1, s2, s3, s4, s5, rfl⟩ := hr.shape
          clear hr
          obtain ⟨q0, q1, q2, q3, q4, q5, q6, q7⟩ := pk_e8 HG hbl2 hat2
          clear hat2
          go_wp2_with fail
          go_still_tail 10, (by kernel_rfl)
          change wpList _ _ _ _ _ wr.drew
          replace g0 := HG.out.drew g0
          generalize wr.drew = w4 at g0 ⊢
          go_wp2_with fail
          refine Calls.mono (ih d.parts[k] _ _ _ (HRK.out.below (HG.out.below g0)) (HRL.out.below (HG.out.below g0))) ?_
          rintro e w5 ⟨rfl, hb⟩
          replace g0 := HG.out.step g0 hb
          clear hb
          go_wp2_with fail
          go_roundw
          case rel => exact ⟨k + 1, by omega, by go_num, g0⟩
          case measure => simp [intOf]; omega
        · obtain rfl : k = d.parts.length := by omega
          go_wp2_with fail
          go_ret
          exact ⟨rfl, HG.out.below g0⟩
theorem l4Same_all : ∀ n, L4SameC n
  | 0 => fun _ _ _ _ h => h.elim
  | n + 1 => l4Same_step n (l4Same_all n)
theorem spec_l4Same_same (d : VecD) (cs cs' : List Value) (w : World) (h : VecR w cs d) (h' : VecR w cs' d) :
    Calls Tryz.prog 94 #[.agg cs.toArray, .agg cs'.toArray] w fun e w' => e = .returned (.bool true) ∧ Below w.heap.size w w' := by
  obtain ⟨n, h⟩ := h
  obtain ⟨m, h'⟩ := h'
  exact l4Same_all (max n m) d cs cs' w (h.le (Nat.le_max_left _ _)) (h'.le (Nat.le_max_right _ _))

set_option maxHeartbeats 2000000 in
theorem spec_EqualVectors_same (d : VecD) (cs cs' : List Value) (w : World) (h : VecR w cs d) (h' : VecR w cs' d) (hv : vecOk d = true) (hz : szVector d ≤ 1000000000000) :
    Calls Tryz.prog 41 #[.agg cs.toArray, .agg cs'.toArray] w fun e w' => e = .returned (.bool true) ∧ Below w.heap.size w w' := by
  obtain ⟨v1, v2, v3, v4, v5, rfl⟩ := h.shape
  obtain ⟨u1, u2, u3, u4, u5, rfl⟩ := h'.shape
  have HR := Lib.hid h
  have HQ := Lib.hid h'
  clear h h'
  obtain ⟨G, g0, HG, BX, BY⟩ := good2 w 45 [.int .i64 d.kind, v1, v2, v3, v4, v5, .int .i64 d.code, .int .i64 d.env] 45 [.int .i64 d.kind, u1, u2, u3, u4, u5, .int .i64 d.code, .int .i64 d.env]
  obtain ⟨x0, x1, x2, x3, x4, x5, x6, x7⟩ := pk_f8 BX
  obtain ⟨y0, y1, y2, y3, y4, y5, y6, y7⟩ := pk_f8 BY
  go_enter Tryz.func41, Tryz.ntmps41
  go_upto_region 1 with fail
  refine gen_w g0 ?_
  clear g0
  intro W0 g0
  go_wp2_with fail
  refine Calls.mono (spec_IsVector d _ _ (HR.out.below (HG.out.below g0)) hz) ?_
  rw [hv]
  rintro e w1 ⟨rfl, hb⟩
  replace g0 := HG.out.step g0 hb
  clear hb
  go_wp2_with fail
  refine Calls.mono (spec_IsVector d _ _ (HQ.out.below (HG.out.below g0)) hz) ?_
  rw [hv]
  rintro e w2 ⟨rfl, hb⟩
  replace g0 := HG.out.step g0 hb
  clear hb
  go_wp2_with fail
  refine Calls.mono (spec_l4Same_same d _ _ _ (HR.out.below (HG.out.below g0)) (HQ.out.below (HG.out.below g0))) ?_
  rintro e w3 ⟨rfl, hb⟩
  replace g0 := HG.out.step g0 hb
  clear hb
  go_wp2_with fail
  go_ret
  exact ⟨rfl, HG.out.below g0⟩
end Go.Proofs.YtejieacdfjpfnaaGreat
namespace Go.Proofs.YtejieacdfjpfnaaGreat
set_option maxRecDepth 100000
open Go.ChangeShapes Go.WideShapes Go.ChangeAt Go.RowKit Go.Deep
set_option linter.unusedVariables false

theorem mem_posF (p : Nat → Bool) (n i : Nat) : (i : Int) ∈ posF p n ↔ i < n ∧ p i = true := by
  unfold posF
  rw [List.mem_map]
  constructor
  · rintro ⟨k, h1, h3⟩
    obtain rfl : k = i := by omega
    rw [List.mem_filter, List.mem_range] at h1
    exact h1
  · rintro ⟨h1, h2⟩
    exact ⟨i, by rw [List.mem_filter, List.mem_range]; exact ⟨h1, h2⟩, rfl⟩
theorem gB_big {l : List Bool} {i : Nat} (h : l.length ≤ i) : gB l i = false := by
  unfold gB
  rw [List.getD_eq_getElem?_getD, List.getElem?_eq_none h]
  rfl
theorem mem_posF_gB (E : List Bool) (i : Nat) : decide ((i : Int) ∈ posF (gB E) E.length) = gB E i := by
  rw [Bool.eq_iff_iff, decide_eq_true_iff, mem_posF]
  by_cases h : i < E.length
  · exact ⟨fun k => k.2, fun k => ⟨h, k⟩⟩
  · rw [gB_big (by omega)]
    exact ⟨fun k => k.2, fun k => by cases k⟩
theorem szS_sw {α : Type} (f : α → Nat) (z : α) (hz : f z = 0) (E : List Bool) (k : Nat) (l : List α) : szS f (sw z E k l) ≤ szS f l := by
  induction k with
  | zero => simp [sw]
  | succ k ih =>
    unfold sw
    split
    · exact ih
    · refine Nat.le_trans ?_ ih
      generalize sw z E k l = m
      by_cases hk : k < m.length
      · have h : ∀ (l : List α) (k : Nat) (hk : k < l.length), szS f (l.set k z) ≤ szS f l := by
          intro l
          induction l with
          | nil => intro k hk; exact absurd hk (by simp)
          | cons a l ihl =>
            intro k hk
            cases k with
            | zero => simp [szS, hz]
            | succ k =>
              have := ihl k (by simpa using hk)
              simp only [szS, List.length_set, List.set_cons_succ, List.map_cons, List.sum_cons, List.length_cons] at this ⊢
              omega
        exact h m k hk
      · rw [List.set_eq_of_length_le (by omega)]
        exact Nat.le_refl _
theorem sz_col {s : StoreD} {E P : List Bool} : szStore (colS s E P) ≤ szStore s := by
  have h1 := szS_sw szEnv zEn rfl E s.envs.length s.envs
  have h2 := szS_sw szPromise zPr rfl P s.promises.length s.promises
  unfold szStore colS
  dsimp only
  omega
section
variable {s : StoreD}
theorem valFit_ok {d : VecD} (h : valFit s d = true) : vecOk d = true := by
  unfold valFit at h
  simp only [Bool.and_eq_true] at h
  exact h.1
theorem slotOk_fit {y : SlotD} (h : slotOk s y = true) : valFit s y.value = true := by
  unfold slotOk slA at h
  simp only [Bool.and_eq_true] at h
  exact h.1.1.1.1.2
theorem vecOk_zD : vecOk zD = true := by decide +kernel
theorem sz_zD : szVector zD = 0 := by rw [szVector_eq]; rfl
theorem valIn_ok (h : storeOk s = true) (e : Int) (name : List UInt8) : vecOk (valIn s e name).1 = true ∧ szVector (valIn s e name).1 ≤ szStore s := by
  have hz : vecOk zD = true ∧ szVector zD ≤ szStore s := ⟨vecOk_zD, by rw [sz_zD]; omega⟩
  unfold valIn
  split
  · exact hz
  · cases hx : s.envs[(findIn s e name).1.toNat]? with
    | none => exact hz
    | some x =>
      dsimp only
      cases hy : x.slots[(findIn s e name).2.toNat]? with
      | none => exact hz
      | some y =>
        dsimp only
        have hs := env_slots h _ x hx y (List.mem_of_getElem? hy)
        have hxi := (List.getElem?_eq_some_iff.1 hx)
        have hyi := (List.getElem?_eq_some_iff.1 hy)
        have z1 : szEnv x ≤ szStore s := by
          obtain ⟨h1, rfl⟩ := hxi
          exact sz_env _ h1
        have z2 : szSlot y ≤ szEnv x := by
          obtain ⟨h1, rfl⟩ := hyi
          have := szS_at szSlot x.slots _ h1
          unfold szEnv; omega
        have z3 : szVector y.value ≤ szSlot y := by unfold szSlot; omega
        unfold slotVal
        split
        · exact ⟨valFit_ok (slotOk_fit hs), by dsimp only; omega⟩
        · split
          · rename_i h1 h2
            cases hp : s.promises[y.promise.toNat]? with
            | none => exact hz
            | some p =>
              dsimp only
              have hu := (slot_val hs).2.2 h2
              have hpi := (List.getElem?_eq_some_iff.1 hp)
              have hpr := prom_used h y.promise.toNat p hp (promU_cast hu)
              have z4 : szVector p.value ≤ szStore s := by
                obtain ⟨h1, rfl⟩ := hpi
                exact sz_prom _ h1
              refine ⟨valFit_ok (s := s) ?_, z4⟩
              have h3 := hpr.2.1
              unfold prA at h3
              simp only [Bool.and_eq_true] at h3
              exact h3.1.2
          · exact hz
end

set_option maxHeartbeats 400000 in
theorem laws_hasB (l : List Int) (x : Int) (v : Value) (w : World) (h : Ints w v l) :
    Calls Tryz.prog 40 #[v, .int .i64 x] w fun e w' => e = .returned (.bool (decide (x ∈ l))) ∧ w = w' := by
  obtain ⟨A, c, rfl, hlc, hm, HC⟩ := h.open_
  clear h
  unfold maxLen at hm
  go_enter Tryz.func40, Tryz.ntmps40
  go_wp2
  go_loop [5] (fun i => ∃ k : Nat, k ≤ l.length ∧ i = .int .i64 k ∧ Hid (∀ j (h : j < l.length), j < k → l[j] ≠ x)) (fun i => l.length - (intOf i).toNat)
  case atStart => exact ⟨0, Nat.zero_le _, rfl, fun j h hj => absurd hj (by omega)⟩
  case round =>
    obtain ⟨k, hk, rfl, hn⟩ := hrel
    by_cases hlt : k < l.length
    · obtain ⟨b, off, rfl, hbl, hcell, _⟩ := HC.out k hlt
      by_cases he : l[k] = x
      · have hb1 : (l[k] == x) = true := by simp [he]
        have HE := Lib.hid (show decide (x ∈ l) = true by rw [decide_eq_true_eq]; exact he ▸ List.getElem_mem hlt)
        go_wp2
        go_ret
        rw [HE.out]
        exact ⟨rfl, rfl⟩
      · have hb1 : (l[k] == x) = false := by simp [he]
        go_wp2
        go_round
        case rel => exact ⟨k + 1, by omega, by go_num, fun j h hj => by rcases Nat.lt_succ_iff_lt_or_eq.1 hj with h1 | rfl; exact hn.out j h h1; exact he⟩
        case measure => simp [intOf]; omega
    · have HE := Lib.hid (show decide (x ∈ l) = false by
        rw [decide_eq_false_iff_not]
        intro hx
        obtain ⟨j, hj, rfl⟩ := List.getElem_of_mem hx
        exact hn.out j hj (by omega) rfl)
      go_wp2
      go_ret
      rw [HE.out]
      exact ⟨rfl, rfl⟩
end Go.Proofs.YtejieacdfjpfnaaGreat
