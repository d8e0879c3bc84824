/-
  The machine's operations against the model's: those that write.
-/
import Derived.Test.YtkdlekonfjeidaaGreatEngOps6
namespace Go.Proofs.YtkdlekonfjeidaaGreat.Eng
open Go.RowKit
set_option linter.unusedVariables false

/-- how an operation may end -/
def Res (r : Result Next) (v : Value) (w' : World) : Prop := r = .ok (.value v) w' ∨ (r = .ok .skip w' ∧ v = undef)
/-- an operation that writes -/
def ActOk (P : Program) (o : Oper) (f : Tm → Hp → Option (CV × Hp)) : Prop :=
  ∀ (ρ : Rn) (a : Tm) (act : Act) (h : Hp) (B : Nat) (w : World) (c : CV) (h' : Hp), TRel ρ a act.tmps → HRel ρ h B w → B ≤ w.heap.size → f a h = some (c, h') → Fresh ρ h.next h'.next →
    ∃ v w' ρ', Res ((execOp act.eval o).run P w) v w' ∧ HRel ρ' h' B w' ∧ Step h.next h'.next ρ h w ρ' h' w' ∧ VRel ρ' c v
/-- the number of the next block does not fall -/
def Grows (f : Tm → Hp → Option (CV × Hp)) : Prop := ∀ (a : Tm) (h : Hp) (c : CV) (h' : Hp), f a h = some (c, h') → h.next ≤ h'.next

section
variable {P : Program} {dst : Option Tmp} {ty : TypeId} {pos : String} {after : Array Edge} {guard : Option (Nat × Bool)}

theorem killL_next (e but : Nat) (l : List (Nat × Nat)) (h : Hp) : (killL e but l h).1.next = h.next := by
  induction l with
  | nil => rfl
  | cons p l ih =>
    have hk : killL e but (p :: l) h = bc (keepP e but p) ((killL e but l h).1, consS p (killL e but l h).2) ((killL e but l h).1.del p.1, (killL e but l h).2) := rfl
    rw [hk]
    cases keepP e but p with
    | true => exact ih
    | false => exact (Hp.next_setO _ _ _).trans ih
theorem wr_next {h h' : Hp} {id off : Nat} {vs : List CV} (e : wr h id off vs = some h') : h'.next = h.next := by
  obtain ⟨c, h1, h2⟩ := oc_inv e
  cases c with
  | map l => cases h2
  | box cs =>
    obtain ⟨_, h3⟩ := bc_inv (show bc _ (some (h.put id (.box (lput vs cs off)))) none = some h' from h2)
    injection h3 with h3; subst h3; exact Hp.put_next _ _ _
  | row cs fam =>
    obtain ⟨_, h3⟩ := bc_inv (show bc _ (wrF h id off vs cs fam) none = some h' from h2)
    obtain ⟨l, h4, h5⟩ := oc_inv h3
    injection h5 with h5; subst h5
    show ((((killL off id l h).1.put id (.row (lput vs cs off) fam)).putF fam (killL off id l h).2).next = h.next)
    rw [Hp.next_putF, Hp.put_next]
    exact killL_next off id l h
theorem storeAt_run (t : TypeId) (b o : Nat) (v : Value) (w : World) (ht : w.there b o v.cells.toList.length) (hi : szT P t = some v.cells.size) (h1 : ∀ u ∈ v.cells.toList, u.oneCell' = true) :
    (Instr.storeAt t (.pointer (some ⟨b, o, none⟩)) v).run P w = .ok () (w.setCells b o v.cells.toList) := by
  have hst := run_storeCells_cells (P := P) b o v.cells.toList 0 w (by simpa using fun j hj => (ht j (by simpa using hj)).1) (by simpa using fun j hj => (ht j (by simpa using hj)).2) h1
  simp only [Nat.add_zero] at hst
  simp [Instr.storeAt, Instr.sureAddr, storeVar, run_size hi, hst]
theorem one_of {ρ : Rn} {cs : List CV} {vs : List Value} (h : VRels ρ cs vs) (h1 : ∀ c ∈ cs, c.one = true) : ∀ u ∈ vs, u.oneCell' = true := by
  intro u hu
  obtain ⟨i, hi, rfl⟩ := List.getElem_of_mem hu
  have hlt : i < cs.length := by rw [h.1]; exact hi
  have g := List.getElem?_eq_getElem hlt
  exact (h.2 i _ _ g (List.getElem?_eq_getElem hi)).oneCell (h1 _ (List.mem_of_getElem? g))
theorem store_ok (t : TypeId) (x y : Operand) : ActOk P ⟨dst, .store t x y, ty, pos, after, guard⟩ (fun a h => ev a x fun x => ev a y fun y => un1 (storeC P h t x y)) := by
  intro ρ a act h B w c h' hT H hB e hF
  obtain ⟨c1, h1, r1⟩ := ev_some e
  obtain ⟨c2, h2, r2⟩ := ev_some h1
  obtain ⟨h3', h3, h4⟩ := oc_inv h2
  injection h4 with h4
  injection h4 with e1 e2
  subst e1 e2
  obtain ⟨id, off, rfl, h5⟩ := asPtr_some h3
  obtain ⟨n, h6, h7⟩ := oc_inv h5
  obtain ⟨vs, h8, h9⟩ := cellsK_some h7
  obtain ⟨h10, h11⟩ := bc_inv h8
  obtain ⟨ri, k1, k2⟩ := (r1 ρ act hT).ptrI
  obtain ⟨k3, k4⟩ := h9 ρ _ (r2 ρ act hT)
  obtain ⟨m1, m2, m3, m4⟩ := wr_some H k1 h11 k3 k4
  have hsz : szT P t = some (act.eval y).cells.size := by
    have := Nat.eq_of_beq_eq_true h10
    rw [llen_eq, k3.1] at this
    rw [h6, ← this]
    simp
  refine ⟨undef, w.setCells ri.b off (act.eval y).cells.toList, ρ, .inr ⟨?_, rfl⟩, m2, m3 _ _, undef_rel ρ⟩
  simp [execOp, k2, storeAt_run t ri.b off (act.eval y) w m1 hsz (one_of k3 k4)]
theorem store_grows (t : TypeId) (x y : Operand) : Grows (fun a h => ev a x fun x => ev a y fun y => un1 (storeC P h t x y)) := by
  intro a h c h' e
  obtain ⟨c1, h1, _⟩ := ev_some e
  obtain ⟨c2, h2, _⟩ := ev_some h1
  obtain ⟨h3', h3, h4⟩ := oc_inv h2
  injection h4 with h4
  injection h4 with e1 e2
  subst e1 e2
  obtain ⟨id, off, rfl, h5⟩ := asPtr_some h3
  obtain ⟨n, h6, h7⟩ := oc_inv h5
  obtain ⟨vs, h8, _⟩ := cellsK_some h7
  obtain ⟨h10, h11⟩ := bc_inv h8
  rw [wr_next h11]
  exact Nat.le_refl _

/-! ### Maps -/
theorem setM_rel {ρ : Rn} (i : IntKind) (k : Int) (c : CV) (v : Value) (hv : VRel ρ c v) (clock : Nat) : ∀ (l : List (Int × CV)) (es : List MapEntry) (n : Nat), EntR ρ es l →
    match Instr.findNow (.int i) (.int .i64 k) es n with
    | some none => EntR ρ (es ++ [{ key := .int .i64 k, val := v, born := clock }]) (setM k c l)
    | some (some (j, _)) => n ≤ j ∧ ∃ e, es[j - n]? = some e ∧ e.key = .int .i64 k ∧ EntR ρ (es.modify (j - n) fun e => { e with key := .int .i64 k, val := v }) (setM k c l)
    | none => False := by
  intro l
  induction l with
  | nil =>
    intro es n h
    have : es = [] := List.eq_nil_of_length_eq_zero h.1
    subst this
    simp only [Instr.findNow]
    refine ⟨rfl, fun j k' c' hj => ?_⟩
    have hs : setM k c [] = [(k, c)] := rfl
    rw [hs] at hj
    cases j with
    | zero => simp at hj; obtain ⟨rfl, rfl⟩ := hj; exact ⟨_, rfl, rfl, hv⟩
    | succ j => simp at hj
  | cons p l ih =>
    intro es n h
    cases es with
    | nil => have := h.1; simp at this
    | cons e es =>
      obtain ⟨h1, h2⟩ := h.head
      have hs : setM k c (p :: l) = bc (ieq p.1 k) ((p.1, c) :: l) (consS p (setM k c l)) := rfl
      have hsn : Instr.sameNow (.int i) (.int .i64 k) e.key = some (k == p.1) := by rw [h1]; simp [Instr.sameNow]
      rw [hs, ieq_eq]
      by_cases hk : p.1 = k
      · rw [decide_eq_true hk, bc_true]
        have hf : Instr.findNow (.int i) (.int .i64 k) (e :: es) n = some (some (n, e.val)) := by rw [Instr.findNow, hsn]; simp [hk]
        rw [hf]
        refine ⟨Nat.le_refl _, e, by simp, by rw [h1, hk], ?_⟩
        refine ⟨by simpa using h.1, fun j k' c' hj => ?_⟩
        cases j with
        | zero =>
          simp at hj
          obtain ⟨rfl, rfl⟩ := hj
          exact ⟨{ e with key := .int .i64 k, val := v }, by simp, by rw [hk], hv⟩
        | succ j =>
          simp at hj
          simpa using h.tail.2 j k' c' hj
      · rw [decide_eq_false hk, bc_false, consS_eq]
        have hk' : (k == p.1) = false := by simpa using Ne.symm hk
        have hf : Instr.findNow (.int i) (.int .i64 k) (e :: es) n = Instr.findNow (.int i) (.int .i64 k) es (n + 1) := by rw [Instr.findNow, hsn, hk']
        rw [hf]
        have hcons : ∀ {es' : List MapEntry} {l' : List (Int × CV)}, EntR ρ es' l' → EntR ρ (e :: es') (p :: l') := fun {es' l'} hE => ⟨by simp [hE.1], fun j k' c' hj => by
          cases j with
          | zero => simp at hj; subst hj; exact ⟨e, rfl, h1, h2⟩
          | succ j => simpa using hE.2 j k' c' (by simpa using hj)⟩
        have := ih es (n + 1) h.tail
        cases hr : Instr.findNow (.int i) (.int .i64 k) es (n + 1) with
        | none => rw [hr] at this; exact this
        | some r =>
          rw [hr] at this
          cases r with
          | none => exact hcons this
          | some q =>
            obtain ⟨j, u⟩ := q
            obtain ⟨g1, e', g2, g3, g4⟩ := this
            have hj : j - n = (j - (n + 1)) + 1 := by omega
            refine ⟨by omega, e', by rw [hj]; simpa using g2, g3, ?_⟩
            rw [hj]
            simpa using hcons g4
theorem map_put {ρ : Rn} {h : Hp} {B : Nat} {w : World} (H : HRel ρ h B w) {id : Nat} {ri : RI} (hid : ρ id = some ri) {es : List (Int × CV)} (hg : h.get id = some (.map es)) (l : List (Int × CV)) (es' : Array MapEntry) (clock : Nat) (hE : EntR ρ es'.toList l) :
    HRel ρ (h.put id (.map l)) B { w with heap := w.heap.setIfInBounds ri.b (.map es' clock) } ∧ ∀ lo hi, Step lo hi ρ h w ρ (h.put id (.map l)) { w with heap := w.heap.setIfInBounds ri.b (.map es' clock) } := by
  have hlt := H.lt id ri hid
  obtain ⟨hB, hO⟩ := H.at hid hg
  have hb := hO.lt
  have hget : ∀ j, j < 32768 → (h.put id (.map l)).get j = if id = j then some (.map l) else h.get j := fun j hj => Hp.get_setO h id j _ hlt hj
  have hold : ∀ j c, j < 32768 → j ≠ id → (h.put id (.map l)).get j = some c → h.get j = some c := fun j c hj hne hc => by
    rw [hget j hj, if_neg (Ne.symm hne)] at hc
    exact hc
  have hfar : ∀ b, b < w.heap.size → b ≠ ri.b → ({ w with heap := w.heap.setIfInBounds ri.b (.map es' clock) } : World).heap[b]? = w.heap[b]? := fun b _ hne => by simp [Array.getElem?_setIfInBounds_ne (Ne.symm hne)]
  refine ⟨H.change id ri (.map l) hlt (Sub.refl _) hid (fun _ _ => rfl) hB hfar (by rw [hget id hlt, if_pos rfl]) hold ?_ ?_ ?_ (fun f l p hf hl hp => by rw [Hp.put_fam] at hl; exact H.famlt f l p hf hl hp) (fun cs' f hc => by cases hc), fun lo hi => ⟨fun _ _ => rfl, fun b ⟨j, c, rj, m1, m2, m3, m4⟩ => .inl ?_, fun b hb' hno => hfar b hb' (fun he => hno ⟨id, _, ri, hlt, hg, hid, he.symm⟩), by simp, rfl, rfl, rfl, fun f hf _ hno i cs' hi hc => ?_⟩⟩
  · exact ⟨es', clock, by simp [hb], by have := hE.1; simpa using this, fun j k c hj => by obtain ⟨e, n1, n2, n3⟩ := hE.2 j k c hj; exact ⟨e, by simpa using n1, n2, n3⟩⟩
  · intro j c rj hj hne hc hr hb'
    obtain ⟨f, k1, k2⟩ := H.apart j id c (.map es) rj ri hj hlt hne (hold j c hj hne hc) hg hr hid hb'
    cases k2
  · intro j cs' f hj hc
    by_cases ej : j = id
    · subst ej
      rw [hget j hj, if_pos rfl] at hc
      cases hc
    · rw [Hp.put_fam]; exact H.fam j cs' f hj (hold j _ hj ej hc)
  · by_cases ej : j = id
    · subst ej
      exact ⟨j, _, rj, m1, hg, m3, m4⟩
    · exact ⟨j, c, rj, m1, hold j c m1 ej m2, m3, m4⟩
  · by_cases ej : i = id
    · subst ej
      rw [hget i hi, if_pos rfl] at hc
      cases hc
    · exact hno i cs' hi (hold i _ hi ej hc)
theorem update_ok (t : TypeId) (m k v : Operand) : ActOk P ⟨dst, .mapUpdate t m k v, ty, pos, after, guard⟩ (fun a h => ev a m fun m => ev a k fun k => ev a v fun v => un1 (updC P h t m k v)) := by
  intro ρ a act h B w c h' hT H hB e hF
  obtain ⟨c1, h1, r1⟩ := ev_some e
  obtain ⟨c2, h2, r2⟩ := ev_some h1
  obtain ⟨c3, h3, r3⟩ := ev_some h2
  obtain ⟨h4', h4, h5⟩ := oc_inv h3
  injection h5 with h5
  injection h5 with e1 e2
  subst e1 e2
  obtain ⟨el, h6, h7⟩ := oc_inv h4
  obtain ⟨n, rfl, h8⟩ := asKey_some h7
  obtain ⟨kt, ik, hu, hk⟩ := mapW_some h6
  have q1 := r1 ρ act hT
  have e2 := (r2 ρ act hT).intI
  have q3 := r3 ρ act hT
  cases c1 <;> first | (cases h8; done) | skip
  rename_i id
  obtain ⟨co, h9, h10⟩ := oc_inv (show oc (h.get id) none _ = some h4' from h8)
  obtain ⟨es, rfl, h11⟩ := coMap_some h10
  injection h11 with h11; subst h11
  obtain ⟨ri, k1, e1⟩ := q1.mapI
  obtain ⟨_, es', clock, m1, m2, m3⟩ := H.at k1 h9
  have hE : EntR ρ es'.toList es := ⟨by simpa using m2, fun j k c hj => by obtain ⟨e, n1, n2, n3⟩ := m3 j k c hj; exact ⟨e, by simpa using n1, n2, n3⟩⟩
  have hs := setM_rel ik n c3 (act.eval v) q3 clock es es'.toList 0 hE
  cases hf : Instr.findNow (.int ik) (.int .i64 n) es'.toList 0 with
  | none => rw [hf] at hs; exact hs.elim
  | some r =>
    rw [hf] at hs
    cases r with
    | none =>
      obtain ⟨p1, p2⟩ := map_put H k1 h9 (setM n c3 es) (es'.push { key := .int .i64 n, val := act.eval v, born := clock }) (clock + 1) (by simpa using hs)
      refine ⟨undef, _, ρ, .inr ⟨?_, rfl⟩, p1, p2 _ _, undef_rel ρ⟩
      simp [execOp, Instr.mapUpdate, e1, e2, run_underlying hu, getObj, setObj, Sem.run, m1, checkKey_run hk, Instr.findKey, run_underlying hk, hf]
    | some q =>
      obtain ⟨j, u⟩ := q
      obtain ⟨_, en, g2, g3, g4⟩ := hs
      simp only [Nat.sub_zero] at g2 g4
      obtain ⟨p1, p2⟩ := map_put H k1 h9 (setM n c3 es) (es'.modify j fun e => { e with key := .int .i64 n, val := act.eval v }) clock (by simpa using g4)
      refine ⟨undef, _, ρ, .inr ⟨?_, rfl⟩, p1, p2 _ _, undef_rel ρ⟩
      have g2' : es'[j]? = some en := by simpa using g2
      have hb : Instr.sameBits 10000 (Value.int .i64 n) (Value.int .i64 n) = true := by simp [Instr.sameBits]
      simp [execOp, Instr.mapUpdate, e1, e2, run_underlying hu, getObj, setObj, Sem.run, m1, checkKey_run hk, Instr.findKey, run_underlying hk, hf, g2', g3, Instr.keyThatStays, hb]
theorem update_grows (t : TypeId) (m k v : Operand) : Grows (fun a h => ev a m fun m => ev a k fun k => ev a v fun v => un1 (updC P h t m k v)) := by
  intro a h c h' e
  obtain ⟨c1, h1, _⟩ := ev_some e
  obtain ⟨c2, h2, _⟩ := ev_some h1
  obtain ⟨c3, h3, _⟩ := ev_some h2
  obtain ⟨h4', h4, h5⟩ := oc_inv h3
  injection h5 with h5
  injection h5 with e1 e2
  subst e1 e2
  obtain ⟨el, h6, h7⟩ := oc_inv h4
  obtain ⟨n, rfl, h8⟩ := asKey_some h7
  cases c1 with
  | map id =>
    obtain ⟨co, h9, h10⟩ := oc_inv (show oc (h.get id) none _ = some h4' from h8)
    obtain ⟨es, rfl, h11⟩ := coMap_some h10
    injection h11 with h11; subst h11
    rw [Hp.put_next]
    exact Nat.le_refl _
  | _ => cases h8
end
end Go.Proofs.YtkdlekonfjeidaaGreat.Eng
