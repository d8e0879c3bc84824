/-
  The machine's operations against the model's: parts of values, slice expressions.
-/
import Derived.Test.YtkdlekonfjeidaaGreatEngOps3
namespace Go.Proofs.YtkdlekonfjeidaaGreat.Eng
open Go.RowKit
set_option linter.unusedVariables false
section
variable {P : Program} {dst : Option Tmp} {ty : TypeId} {pos : String} {after : Array Edge} {guard : Option (Nat × Bool)}

theorem convInt_ok {s d : TypeId} {j k : IntKind} (hs : P.underlying s = some (.int j)) (hd : P.underlying d = some (.int k)) (x : Operand) : PureOk P ⟨dst, .convert s d x, ty, pos, after, guard⟩ (fun a => ev a x fun v => asInt v fun _ n => intO k (wrapF k n)) := by
  intro ρ a act c hT h w
  obtain ⟨c1, h1, r1⟩ := ev_some h
  obtain ⟨j', n, rfl, h2⟩ := asInt_some h1
  have e := (r1 ρ act hT).intI
  refine ⟨.int k (k.wrap n), ?_, by have := intO_rel (ρ := ρ) h2; rwa [wrapF_eq] at this⟩
  simp [execOp, convert, e, run_underlying hs, run_underlying hd, Conv.intToInt]
theorem convStr_ok {s d : TypeId} (hs : P.underlying s = some .string) (hd : P.underlying d = some .string) (x : Operand) : PureOk P ⟨dst, .convert s d x, ty, pos, after, guard⟩ (fun a => ev a x fun v => asStr v fun l => some (.str l)) := by
  intro ρ a act c hT h w
  obtain ⟨c1, h1, r1⟩ := ev_some h
  obtain ⟨l, rfl, h2⟩ := asStr_some h1
  injection h2 with h2; subst h2
  have r2 := r1 ρ act hT
  obtain ⟨u, e, hu⟩ := r2.strI
  exact ⟨.string u, by simp [execOp, convert, e, run_underlying hs, run_underlying hd], .str _ _ hu⟩

theorem loadW_agg {t : TypeId} {n : Nat} (h : loadW P t = .agg n) : isAggT P t = some true ∧ szT P t = some n := by
  unfold loadW at h
  split at h
  · rename_i h1
    split at h
    · rename_i m h2; injection h with h; subst h; exact ⟨h1, h2⟩
    · cases h
  · cases h
  · cases h
theorem loadW_one {t : TypeId} (h : loadW P t = .one) : isAggT P t = some false := by
  unfold loadW at h
  split at h
  · split at h <;> cases h
  · assumption
  · cases h
theorem part_some {t : TypeId} {cs : List CV} {off : Nat} {c : CV} (h : partC P t cs off = some c) {ρ : Rn} {xs : Array Value} (hx : VRels ρ cs xs.toList) (h1 : ∀ c ∈ cs, c.one = true) (w : World) : ∃ v, (part t xs off).run P w = .ok v w ∧ VRel ρ c v := by
  unfold partC at h
  cases hw : loadW P t with
  | bad => rw [hw] at h; cases h
  | one =>
    rw [hw] at h
    obtain ⟨v, k1, k2⟩ := hx.at (rd1L_some h)
    have k1' : xs[off]? = some v := by simpa using k1
    exact ⟨v, by simp [part, isAggT_some (loadW_one hw), k1'], k2⟩
  | agg n =>
    rw [hw] at h
    obtain ⟨l, h2, h3⟩ := oc_inv (show oc (rdL cs off n) none (fun l => some (.agg l)) = some c from h)
    injection h3 with h3; subst h3
    obtain ⟨h4, rfl⟩ := rdL_some h2
    obtain ⟨h5, h6⟩ := loadW_agg hw
    refine ⟨.agg (xs.extract off (off + n)), by simp [part, isAggT_some h5, run_size h6], ?_⟩
    have := VRel.mkAgg ((hx.drop off).take n) (fun c hc => h1 c (List.mem_of_mem_drop (List.mem_of_mem_take hc)))
    have e : ((xs.toList.drop off).take n).toArray = xs.extract off (off + n) := by
      apply Array.ext'
      simp [List.take_drop]
    rw [e] at this
    exact this
theorem field_ok (t : TypeId) (x : Operand) (f : Nat) : PureOk P ⟨dst, .field t x f, ty, pos, after, guard⟩ (fun a => ev a x fun x => fieldC P t x f) := by
  intro ρ a act c hT h w
  obtain ⟨c1, h1, r1⟩ := ev_some h
  obtain ⟨cs, rfl, h2⟩ := asAgg_some h1
  obtain ⟨q, h3, h4⟩ := oc_inv h2
  obtain ⟨xs, e, h5, h6⟩ := (r1 ρ act hT).aggI
  unfold fieldT at h3
  split at h3
  · rename_i fields hu
    split at h3
    · rename_i fd hfd
      injection h3 with h3; subst h3
      obtain ⟨v, h7, h8⟩ := part_some h4 h5 h6 w
      exact ⟨v, by simp [execOp, e, Instr.field, run_underlying hu, hfd, Go.asAgg, h7], h8⟩
    · cases h3
  · cases h3

/-! ### Slice expressions -/
theorem boundC_some {x : Option CV} {d n : Nat} (h : boundC x d = some n) : (x = none ∧ n = d) ∨ ∃ k, x = some (.int k (.ofNat n)) := by
  unfold boundC at h
  cases x with
  | none => injection h with h; exact .inl ⟨rfl, h.symm⟩
  | some v =>
    obtain ⟨k, m, rfl, h1⟩ := asNat_some (show asNat v some = some n from h)
    injection h1 with h1; subst h1
    exact .inr ⟨k, rfl⟩
/-- an operand that may be left out -/
def OptRel (ρ : Rn) (x : Option CV) (u : Option Value) : Prop := match x, u with | none, none => True | some c, some v => VRel ρ c v | _, _ => False
theorem evO_some {a : Tm} {x : Option Operand} {k : Option CV → Option CV} {r : CV} (h : evO a x k = some r) : ∃ c, k c = some r ∧ ∀ (ρ : Rn) (act : Act), TRel ρ a act.tmps → OptRel ρ c (x.map act.eval) := by
  unfold evO at h
  cases x with
  | none => exact ⟨none, h, fun _ _ _ => trivial⟩
  | some x =>
    obtain ⟨c, h1, h2⟩ := ev_some (show ev a x (fun v => k (some v)) = some r from h)
    exact ⟨some c, h1, h2⟩
theorem bound_run {x : Option CV} {u : Option Value} {ρ : Rn} (hr : OptRel ρ x u) {d n : Nat} (h : boundC x d = some n) : (u = none ∧ n = d) ∨ ∃ v, u = some v ∧ ∀ (y : Nat) (code : BoundsCode) (w : World), n ≤ y → (Instr.sliceBound v y code).run P w = .ok n w := by
  rcases boundC_some h with ⟨rfl, rfl⟩ | ⟨k, rfl⟩
  · cases u with
    | none => exact .inl ⟨rfl, rfl⟩
    | some v => exact hr.elim
  · cases u with
    | none => exact hr.elim
    | some v =>
      have e := VRel.intI hr
      subst e
      refine .inr ⟨_, rfl, fun y code w hy => ?_⟩
      simp [Instr.sliceBound, asIntOf, hy]
theorem bounds_run {lo hi : Option CV} {ul uh : Option Value} {ρ : Rn} (hl : OptRel ρ lo ul) (hh : OptRel ρ hi uh) {a b len cap : Nat} (h1 : boundC lo 0 = some a) (h2 : boundC hi len = some b) (isS : Bool) (hab : a ≤ b) (hb : b ≤ len) (hc : len ≤ cap) (w : World) :
    (Instr.sliceBounds isS len cap ul uh none).run P w = .ok (a, b, cap) w := by
  rcases bound_run (P := P) hl h1 with ⟨rfl, rfl⟩ | ⟨v, rfl, k1⟩
  · rcases bound_run (P := P) hh h2 with ⟨rfl, rfl⟩ | ⟨v', rfl, k2⟩
    · simp [Instr.sliceBounds]
    · simp [Instr.sliceBounds, k2 _ _ w (by omega : b ≤ cap)]
  · rcases bound_run (P := P) hh h2 with ⟨rfl, rfl⟩ | ⟨v', rfl, k2⟩
    · simp [Instr.sliceBounds, k1 _ _ w hab]
    · simp [Instr.sliceBounds, k2 _ _ w (by omega : b ≤ cap), k1 _ _ w hab]
theorem elemSz_some {t : TypeId} {s : Nat} (h : elemSz P t = some s) : ∃ e, P.underlying t = some (.slice e) ∧ szT P e = some s := by
  unfold elemSz at h
  split at h
  · rename_i e he; exact ⟨e, elemT_some he, h⟩
  · cases h
theorem slice_ok (t : TypeId) (x : Operand) (lo hi : Option Operand) : PureOk P ⟨dst, .slice t x lo hi none, ty, pos, after, guard⟩ (fun a => ev a x fun x => evO a lo fun lo => evO a hi fun hi => sliceC P t x lo hi) := by
  intro ρ a act c hT h w
  obtain ⟨c1, h1, r1⟩ := ev_some h
  obtain ⟨c2, h2, r2⟩ := evO_some h1
  obtain ⟨c3, h3, r3⟩ := evO_some h2
  have q1 := r1 ρ act hT
  have q2 := r2 ρ act hT
  have q3 := r3 ρ act hT
  obtain ⟨al, h4, h5⟩ := oc_inv (show oc (boundC c2 0) none _ = some c from h3)
  cases c1 <;> first | (cases h5; done) | skip
  case str l =>
    obtain ⟨h6, h7⟩ := bc_inv h5
    obtain ⟨b, h8, h9⟩ := oc_inv h7
    unfold subS at h9
    obtain ⟨g1, g2⟩ := bc_inv h9
    injection g2 with g2; subst g2
    rw [llen_eq] at g1 h8
    simp only [Bool.and_eq_true] at g1
    have a1 := Nat.le_of_ble_eq_true g1.1
    have a2 := Nat.le_of_ble_eq_true g1.2
    obtain ⟨s, e, hs⟩ := q1.strI
    have hsz : l.length = s.size := by rw [← hs]; simp
    unfold isStrT at h6
    split at h6
    · rename_i hu
      refine ⟨.string (s.extract al b), ?_, ?_⟩
      · have := bounds_run (P := P) q2 q3 h4 h8 false a1 a2 (Nat.le_refl _) w
        rw [hsz] at this
        simp [execOp, e, Instr.sliceAt, run_underlying hu, Instr.slice, this]
      · refine .str _ _ ?_
        rw [ltake_eq, ldrop_eq, ← hs, ← List.map_drop, ← List.map_take]
        congr 1
        simp [List.take_drop]
    · cases h6
  case nils =>
    obtain ⟨s, h6, h7⟩ := oc_inv h5
    obtain ⟨b, h8, h9⟩ := oc_inv h7
    obtain ⟨g1, g2⟩ := bc_inv h9
    injection g2 with g2; subst g2
    simp only [Bool.and_eq_true] at g1
    have e1 := Nat.eq_of_beq_eq_true g1.1
    have e2 := Nat.eq_of_beq_eq_true g1.2
    subst e1 e2
    have e := q1.nilsI
    obtain ⟨el, hu, hs⟩ := elemSz_some h6
    have := bounds_run (P := P) q2 q3 h4 h8 true (Nat.le_refl _) (Nat.le_refl _) (Nat.le_refl _) w
    exact ⟨.slice none 0 0, by simp [execOp, e, Instr.sliceAt, run_underlying hu, Instr.slice, this, run_size hs], .nils⟩
  case sl id off len z =>
    obtain ⟨s, h6, h7⟩ := oc_inv h5
    obtain ⟨b, h8, h9⟩ := oc_inv h7
    obtain ⟨g1, g2⟩ := bc_inv h9
    have es := Nat.eq_of_beq_eq_true g1
    subst es
    unfold subL at g2
    obtain ⟨g3, g4⟩ := bc_inv g2
    rw [force_eq, force_eq] at g4
    injection g4 with g4; subst g4
    simp only [Bool.and_eq_true] at g3
    have a1 := Nat.le_of_ble_eq_true g3.1
    have a2 := Nat.le_of_ble_eq_true g3.2
    obtain ⟨ri, ad, cap, k1, e, k2, k3⟩ := q1.slI
    obtain ⟨el, hu, hs⟩ := elemSz_some h6
    have := bounds_run (P := P) q2 q3 h4 h8 true a1 a2 k2 w
    by_cases hm : cap = al
    · subst hm
      refine ⟨.slice (some ad) (b - cap) (cap - cap), by simp [execOp, e, Instr.sliceAt, run_underlying hu, Instr.slice, this, run_size hs], ?_⟩
      exact .sl id _ (b - cap) s ri ad (cap - cap) k1 (by omega) (.inr (by omega))
    · rcases k3 with ⟨rfl, k4⟩ | k4
      · refine ⟨.slice (some ⟨ri.b, off + al * s, none⟩) (b - al) (cap - al), by simp [execOp, e, Instr.sliceAt, run_underlying hu, Instr.slice, this, run_size hs, hm, Addr.add_mid], ?_⟩
        refine .sl id _ (b - al) s ri _ (cap - al) k1 (by omega) (.inl ⟨rfl, ?_⟩)
        have : al * s + (cap - al) * s = cap * s := by rw [← Nat.add_mul]; congr 1; omega
        show off + al * s + (cap - al) * s ≤ ri.tot
        omega
      · omega

/-! ### Structs -/
theorem foldl_put (vs : List Value) : ∀ (cells : Array Value) (off k : Nat), (vs.zipIdx k).foldl (fun cs (x : Value × Nat) => cs.setIfInBounds (off + x.2) x.1) cells = (lput vs cells.toList (off + k)).toArray := by
  induction vs with
  | nil => intro cells off k; simp [lput_nil]
  | cons v vs ih =>
    intro cells off k
    rw [List.zipIdx_cons, List.foldl_cons, ih, lput_cons]
    simp [Nat.add_assoc]
theorem fill_rel {pl : Nat → Option (Nat × Nat)} {ρ : Rn} : ∀ (ps : List (Nat × CV)) (qs : List (Nat × Value)) (cs r : List CV) (cells : Array Value), fillC pl ps cs = some r → ps.length = qs.length →
    (∀ (i : Nat) (p : Nat × CV) (q : Nat × Value), ps[i]? = some p → qs[i]? = some q → p.1 = q.1 ∧ VRel ρ p.2 q.2) → VRels ρ cs cells.toList → (∀ c ∈ cs, c.one = true) →
    ∃ x, Instr.fill pl cells qs = some x ∧ VRels ρ r x.toList ∧ (∀ c ∈ r, c.one = true) := by
  intro ps
  induction ps with
  | nil =>
    intro qs cs r cells h hl _ hv h1
    cases qs with
    | nil => injection h with h; subst h; exact ⟨cells, rfl, hv, h1⟩
    | cons q qs => simp at hl
  | cons p ps ih =>
    intro qs cs r cells h hl hp hv h1
    cases qs with
    | nil => simp at hl
    | cons q qs =>
      obtain ⟨e1, e2⟩ := hp 0 p q rfl rfl
      have h' : (oc (pl p.1) none fun z => cellsK p.2 fun vs => bc (Nat.beq (llen vs) z.2 && Nat.ble (Nat.add z.1 z.2) (llen cs)) (fillC pl ps (lput vs cs z.1)) none) = some r := h
      obtain ⟨z, h2, h3⟩ := oc_inv h'
      obtain ⟨vs, h4, h5⟩ := cellsK_some h3
      obtain ⟨h6, h7⟩ := bc_inv h4
      rw [llen_eq, llen_eq] at h6
      simp only [Bool.and_eq_true] at h6
      have a1 := Nat.eq_of_beq_eq_true h6.1
      have a2 : z.1 + z.2 ≤ cs.length := Nat.le_of_ble_eq_true h6.2
      obtain ⟨k1, k2⟩ := h5 ρ q.2 e2
      have k3 := k1.1
      have k4 := hv.1
      have hsz : q.2.cells.size = z.2 := by rw [← a1, k3]; simp
      have hcs : cells.size = cs.length := by rw [k4]; simp
      have hput : VRels ρ (lput vs cs z.1) (lput q.2.cells.toList cells.toList z.1) := by
        refine ⟨by simp [lput_length, k4], fun i c v g1 g2 => ?_⟩
        rw [lput_get _ _ _ _ (by omega)] at g1
        rw [lput_get _ _ _ _ (by rw [← k3, ← k4]; omega)] at g2
        rw [← k3] at g2
        split at g1
        · rename_i hc; rw [if_pos hc] at g2; exact k1.2 _ c v g1 g2
        · rename_i hc; rw [if_neg hc] at g2; exact hv.2 _ c v g1 g2
      have hone : ∀ c ∈ lput vs cs z.1, c.one = true := by
        intro c hc
        obtain ⟨i, hi, rfl⟩ := List.getElem_of_mem hc
        have g1 := List.getElem?_eq_getElem hi
        rw [lput_get _ _ _ _ (by omega)] at g1
        split at g1
        · exact k2 _ (List.mem_of_getElem? g1)
        · exact h1 _ (List.mem_of_getElem? g1)
      have hf : (q.2.cells.zipIdx.foldl (fun cs (x : Value × Nat) => cs.setIfInBounds (z.1 + x.2) x.1) cells) = (lput q.2.cells.toList cells.toList z.1).toArray := by
        rw [← Array.foldl_toList, Array.toList_zipIdx, foldl_put]
        rfl
      obtain ⟨x, g1, g2, g3⟩ := ih qs (lput vs cs z.1) r (lput q.2.cells.toList cells.toList z.1).toArray h7 (by simpa using hl) (fun i p q hp' hq' => hp (i + 1) p q hp' hq') (by simpa using hput) hone
      refine ⟨x, ?_, g2, g3⟩
      obtain ⟨qi, qv⟩ := q
      rw [Instr.fill]
      simp only at e1 hf hsz
      rw [← e1, h2]
      obtain ⟨z1, z2⟩ := z
      simp only at hf hsz a2
      have hno : ¬ (decide (qv.cells.size ≠ z2) || decide (z1 + qv.cells.size > cells.size)) = true := by
        rw [hsz]
        simp
        omega
      simp only [hno]
      rw [hf]
      exact g1
theorem pairs_rel {a : Tm} : ∀ (l : List (Nat × Operand)) (ps : List (Nat × CV)), pairsC a l = some ps → ∀ (ρ : Rn) (act : Act), TRel ρ a act.tmps → ps.length = l.length ∧
    ∀ (i : Nat) (p : Nat × CV) (q : Nat × Value), ps[i]? = some p → (l.map fun x => (x.1, act.eval x.2))[i]? = some q → p.1 = q.1 ∧ VRel ρ p.2 q.2 := by
  intro l
  induction l with
  | nil =>
    intro ps h ρ act hT
    injection h with h; subst h
    exact ⟨rfl, fun i p q hp => by simp at hp⟩
  | cons x l ih =>
    intro ps h ρ act hT
    obtain ⟨c, h1, r1⟩ := ev_some (show ev a x.2 (fun v => oc (pairsC a l) none fun m => some ((x.1, v) :: m)) = some ps from h)
    obtain ⟨m, h2, h3⟩ := oc_inv h1
    injection h3 with h3; subst h3
    obtain ⟨k1, k2⟩ := ih m h2 ρ act hT
    refine ⟨by simp [k1], fun i p q hp hq => ?_⟩
    cases i with
    | zero =>
      simp at hp hq
      subst hp hq
      exact ⟨rfl, r1 ρ act hT⟩
    | succ i => exact k2 i p q (by simpa using hp) (by simpa using hq)
theorem places_run (fields : List Field) : ∀ (pl : List (Nat × Nat)), lmapO (placeF P) fields = some pl → ∀ w : World, (fields.mapM (m := Sem) fun f => do pure (f.offset, ← sizeOf f.type)).run P w = .ok pl w := by
  induction fields with
  | nil => intro pl h w; injection h with h; subst h; simp
  | cons f l ih =>
    intro pl h w
    rw [lmapO_cons] at h
    obtain ⟨b, h1, h2⟩ := oc_inv h
    obtain ⟨m, h3, h4⟩ := oc_inv h2
    injection h4 with h4; subst h4
    unfold placeF at h1
    split at h1
    · rename_i s hs
      injection h1 with h1; subst h1
      have := ih m h3 w
      rw [List.mapM_cons]
      simp only [Sem.run_bind, run_size hs, Result.andThen_ok, Sem.run_pure, this]
    · cases h1
theorem build_ok (t : TypeId) (ps : Array (Nat × Operand)) : PureOk P ⟨dst, .build t ps, ty, pos, after, guard⟩ (fun a => oc (pairsC a ps.toList) none fun l => buildC P t l) := by
  intro ρ a act c hT h w
  obtain ⟨l, h1, h2⟩ := oc_inv h
  obtain ⟨z, h3, h4⟩ := oc_inv h2
  obtain ⟨cs, rfl, h5⟩ := asAgg_some h4
  obtain ⟨pl, h6, h7⟩ := oc_inv h5
  obtain ⟨r, h8, h9⟩ := oc_inv h7
  injection h9 with h9; subst h9
  obtain ⟨k1, k2⟩ := pairs_rel _ _ h1 ρ act hT
  obtain ⟨zv, g1, g2⟩ := run_zero h3
  obtain ⟨xs, rfl, g3, g4⟩ := (cvOf_rel ρ g1).aggI
  unfold placesT at h6
  split at h6
  · rename_i fields hu
    have hpl := places_run fields.toList pl h6 w
    have hfill : fillC (fun i => pl.toArray[i]?) l cs = some r := by
      have : (fun i => pl.toArray[i]?) = lnth pl := by
        funext i
        unfold lnth
        rw [ldrop_eq]
        cases hd : pl.drop i with
        | nil => simp; exact List.drop_eq_nil_iff.1 hd
        | cons b t =>
          have : (pl.drop i)[0]? = some b := by rw [hd]; rfl
          rw [List.getElem?_drop] at this
          simpa using this
      rw [this]; exact h8
    obtain ⟨x, m1, m2, m3⟩ := fill_rel l (ps.toList.map fun x => (x.1, act.eval x.2)) cs r xs hfill (by simp [k1]) k2 g3 g4
    refine ⟨.agg x, ?_, by have := VRel.mkAgg m2 m3; simpa using this⟩
    have hpa : (fields.mapM (m := Sem) fun f => do pure (f.offset, ← sizeOf f.type)).run P w = .ok pl.toArray w := by
      rw [Array.mapM_eq_mapM_toList]
      simp only [Sem.run_map, hpl, Result.andThen_ok]
    have e : (ps.map fun (x : Nat × Operand) => (x.1, act.eval x.2)).toList = ps.toList.map fun x => (x.1, act.eval x.2) := by simp
    simp only [execOp, Instr.build, Sem.run_bind, g2, Result.andThen_ok, run_underlying hu, hpa, e, m1, Sem.run_pure, Value.cells]
  · cases h6
end
end Go.Proofs.YtkdlekonfjeidaaGreat.Eng
