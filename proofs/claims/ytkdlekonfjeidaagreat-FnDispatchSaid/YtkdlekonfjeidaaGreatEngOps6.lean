/-
  The machine's operations against the model's: those that make a block.
-/
import Derived.Test.YtkdlekonfjeidaaGreatEngOps5
import Derived.Lib.ConvBytes
namespace Go.Proofs.YtkdlekonfjeidaaGreat.Eng
open Go.RowKit
set_option linter.unusedVariables false

/-- an operation that makes a block -/
def NewOk (P : Program) (o : Oper) (f : Tm → Option NW) : Prop :=
  ∀ (ρ : Rn) (a : Tm) (act : Act) (n : NW), TRel ρ a act.tmps → f a = some n → ∀ w : World, ∃ v w' tot, (execOp act.eval o).run P w = .ok (.value v) w' ∧ NewCells ρ w w' n tot ∧ ∀ id, VRel (updR ρ id ⟨w.heap.size, tot⟩) (n.val id) v

section
variable {P : Program} {dst : Option Tmp} {ty : TypeId} {pos : String} {after : Array Edge} {guard : Option (Nat × Bool)}

theorem boxN_some {c : CV} {n : NW} (h : boxN c = some n) : ∃ l, n = .box l ∧ ∀ (ρ : Rn) (u : Value), VRel ρ c u → VRels ρ l u.cells.toList ∧ (∀ c ∈ l, c.one = true) := by
  obtain ⟨l, h1, h2⟩ := cellsK_some h
  injection h1 with h1
  exact ⟨l, h1.symm, h2⟩
theorem newVar_run (t : TypeId) (v : Value) (w : World) : (newVar t v).run P w = .ok ⟨w.heap.size, 0, none⟩ { w with heap := w.heap.push (.cells v.cells t) } := by
  simp [newVar, newRow, newObj, Sem.run]
theorem alloc_ok (t : TypeId) : NewOk P ⟨dst, .alloc t, ty, pos, after, guard⟩ (fun _ => oc (zeroT P t) none boxN) := by
  intro ρ a act n hT h w
  obtain ⟨z, h1, h2⟩ := oc_inv h
  obtain ⟨l, rfl, h3⟩ := boxN_some h2
  obtain ⟨zv, g1, g2⟩ := run_zero h1
  obtain ⟨k1, k2⟩ := h3 ρ zv (cvOf_rel ρ g1)
  refine ⟨.pointer (some ⟨w.heap.size, 0, none⟩), { w with heap := w.heap.push (.cells zv.cells t) }, zv.cells.size, ?_, ⟨rfl, rfl, rfl, zv.cells.toList, t, by simp, k1, k2, by simp⟩, fun id => .ptr id 0 _ (updR_same _ _ _)⟩
  simp [execOp, Instr.alloc, g2, newVar_run]
theorem box_ok (t : TypeId) (x : Operand) : NewOk P ⟨dst, .box t x, ty, pos, after, guard⟩ (fun a => ev a x boxN) := by
  intro ρ a act n hT h w
  obtain ⟨c1, h1, r1⟩ := ev_some h
  obtain ⟨l, rfl, h3⟩ := boxN_some h1
  obtain ⟨k1, k2⟩ := h3 ρ _ (r1 ρ act hT)
  refine ⟨.pointer (some ⟨w.heap.size, 0, none⟩), { w with heap := w.heap.push (.cells (act.eval x).cells t) }, (act.eval x).cells.size, ?_, ⟨rfl, rfl, rfl, (act.eval x).cells.toList, t, by simp, k1, k2, by simp⟩, fun id => .ptr id 0 _ (updR_same _ _ _)⟩
  simp [execOp, Instr.box, newVar_run]
theorem makeMap_ok (t : TypeId) : NewOk P ⟨dst, .makeMap t none, ty, pos, after, guard⟩ (fun _ => some .map) := by
  intro ρ a act n hT h w
  injection h with h; subst h
  refine ⟨.map (some w.heap.size), { w with heap := w.heap.push (.map #[] 0) }, 0, ?_, ⟨rfl, rfl, rfl, 0, rfl⟩, fun id => .map id _ (updR_same _ _ _)⟩
  simp [execOp, Instr.makeMap, newObj, Sem.run]

/-! ### Rows -/
theorem rep_eq {α : Type} (n : Nat) (l : List α) : rep n l = (List.replicate n l).flatten := by
  induction n with
  | zero => rfl
  | succ n ih => show lapp l (rep n l) = _; rw [lapp_eq, ih]; rfl
theorem rep_length {α : Type} (n : Nat) (l : List α) : (rep n l).length = n * l.length := by rw [rep_eq]; simp
theorem rep_get {α : Type} (l : List α) : ∀ (n i : Nat), i < n * l.length → (rep n l)[i]? = l[i % l.length]? := by
  intro n
  induction n with
  | zero => intro i hi; simp at hi
  | succ n ih =>
    intro i hi
    show (lapp l (rep n l))[i]? = _
    rw [lapp_eq]
    by_cases h : i < l.length
    · rw [List.getElem?_append_left h, Nat.mod_eq_of_lt h]
    · rw [List.getElem?_append_right (by omega), ih _ (by rw [Nat.add_mul] at hi; omega)]
      congr 1
      rw [← Nat.mod_eq_sub_mod (by omega)]
theorem zeros_rel {ρ : Rn} {zc : List CV} {zv : Array Value} (hz : VRels ρ zc zv.toList) (n : Nat) : VRels ρ (rep n zc) (((Array.range (n * zv.size)).map (zv[· % zv.size]!)).toList) := by
  have hl : zc.length = zv.size := by rw [hz.1]; simp
  refine ⟨by simp [rep_length, hl], fun i c v g1 g2 => ?_⟩
  have hi : i < n * zc.length := by
    have := (List.getElem?_eq_some_iff.1 g1).1
    rwa [rep_length] at this
  rw [rep_get _ _ _ hi] at g1
  have hpos : 0 < zv.size := by
    rcases Nat.eq_zero_or_pos zv.size with e | e
    · rw [hl, e] at hi; simp at hi
    · exact e
  have hm : i % zv.size < zv.size := Nat.mod_lt _ hpos
  have g2' : v = zv[i % zv.size]! := by
    rw [Array.getElem?_toList, Array.getElem?_map] at g2
    have : (Array.range (n * zv.size))[i]? = some i := by
      rw [hl] at hi
      simp [hi]
    rw [this] at g2
    simpa using g2.symm
  refine hz.2 (i % zc.length) c v g1 ?_
  rw [g2', hl, Array.getElem?_toList, Array.getElem?_eq_getElem hm]
  simp [hm]
theorem rep_one {zc : List CV} (h : ∀ c ∈ zc, c.one = true) (n : Nat) : ∀ c ∈ rep n zc, c.one = true := by
  intro c hc
  rw [rep_eq] at hc
  obtain ⟨l, h1, h2⟩ := List.mem_flatten.1 hc
  rw [List.eq_of_mem_replicate h1] at h2
  exact h c h2
theorem fillC_length {pl : Nat → Option (Nat × Nat)} : ∀ (ps : List (Nat × CV)) (cs r : List CV), fillC pl ps cs = some r → r.length = cs.length := by
  intro ps
  induction ps with
  | nil => intro cs r h; injection h with h; rw [h]
  | cons p ps ih =>
    intro cs r h
    obtain ⟨z, h2, h3⟩ := oc_inv (show (oc (pl p.1) none fun z => cellsK p.2 fun vs => bc (Nat.beq (llen vs) z.2 && Nat.ble (Nat.add z.1 z.2) (llen cs)) (fillC pl ps (lput vs cs z.1)) none) = some r from h)
    obtain ⟨vs, h4, h5⟩ := cellsK_some h3
    obtain ⟨h6, h7⟩ := bc_inv h4
    rw [ih _ _ h7, lput_length]
theorem rowSz_some {t e : TypeId} {s : Nat} (h : rowSz P t = some s) (he : elemT P t = some e) : ∃ i z, P.info? e = some i ∧ i.zero = some z ∧ i.size = s ∧ z.cells.size = s ∧ i.bytes ≤ 1048576 ∧ 1 ≤ s := by
  unfold rowSz at h
  rw [he] at h
  simp only at h
  split at h
  · rename_i i hi
    obtain ⟨h1, h2⟩ := bc_inv h
    split at h2
    · rename_i z hz
      obtain ⟨h3, h4⟩ := bc_inv h2
      injection h4 with h4
      simp only [Bool.and_eq_true] at h1
      exact ⟨i, z, hi, hz, h4, by rw [← h4]; exact Nat.eq_of_beq_eq_true h3, Nat.le_of_ble_eq_true h1.1, by rw [← h4]; exact Nat.le_of_ble_eq_true h1.2⟩
    · cases h2
  · cases h
theorem mapB_eq (l : List Nat) : mapB l = l.map (fun n : Nat => CV.int .u8 (n : Int)) := by
  induction l with
  | nil => rfl
  | cons n l ih => show consS _ (mapB l) = _; rw [consS_eq, ih]; rfl
theorem mapB_one (l : List Nat) : ∀ c ∈ mapB l, c.one = true := by
  intro c hc
  rw [mapB_eq] at hc
  obtain ⟨n, _, rfl⟩ := List.mem_map.1 hc
  rfl
theorem mapB_rel (ρ : Rn) (s : ByteArray) : VRels ρ (mapB (s.data.toList.map UInt8.toNat)) (byteCells s) := by
  rw [mapB_eq]
  refine ⟨by simp [byteCells], fun i c v g1 g2 => ?_⟩
  rw [byteCells, List.getElem?_map] at g2
  rw [List.getElem?_map, List.getElem?_map] at g1
  cases hb : s.data.toList[i]? with
  | none => rw [hb] at g1; cases g1
  | some b =>
    rw [hb] at g1 g2
    injection g1 with g1
    injection g2 with g2
    subst g1 g2
    exact .int _ _
theorem bytesWorld_heap (w : World) (e : TypeId) (s : ByteArray) : (Lib.bytesWorld w e s).heap = w.heap.push (.cells (byteCells s ++ List.replicate (grownCap w s.size 0 e - s.size) (Value.int .u8 0)).toArray e (grownCap w s.size 0 e, grownCap w s.size 0 e + 1)) := by
  have hge := grownCap_ge w s.size 0 e
  have hc : Lib.bytesCells w e s = (byteCells s ++ List.replicate (grownCap w s.size 0 e - s.size) (Value.int .u8 0)).toArray := by
    unfold Lib.bytesCells byteCells
    apply Array.ext'
    simp
  have hsz : (Lib.bytesCells w e s).size = grownCap w s.size 0 e := by
    rw [hc]
    simp [byteCells_length]
    omega
  apply Array.ext_getElem?
  intro i
  rw [Array.getElem?_push]
  by_cases hi : i = w.heap.size
  · subst hi
    rw [if_pos rfl, Lib.bytesWorld_at_new, hsz, hc]
  · rw [if_neg hi]
    by_cases hlt : i < w.heap.size
    · rw [Lib.bytesWorld_at_old _ _ _ _ hlt]
    · rw [Array.getElem?_eq_none (by rw [Lib.bytesWorld_size]; omega), Array.getElem?_eq_none (by omega)]
theorem row_new (elem : TypeId) (cells : Array Value) (w : World) : (newRow elem cells).run P w = .ok ⟨w.heap.size, 0, none⟩ { w with heap := w.heap.push (.cells cells elem) } := by
  simp [newRow, newObj, Sem.run]
theorem buildSlice_ok (t : TypeId) (len : Nat) (ps : Array (Nat × Operand)) : NewOk P ⟨dst, .buildSlice t len ps, ty, pos, after, guard⟩ (fun a => oc (pairsC a ps.toList) none fun l => buildSliceC P t len l) := by
  intro ρ a act n hT h w
  obtain ⟨l, h1, h2⟩ := oc_inv h
  obtain ⟨e, h3, h4⟩ := oc_inv h2
  obtain ⟨s, h5, h6⟩ := oc_inv h4
  obtain ⟨z, h7, h8⟩ := oc_inv h6
  obtain ⟨zc, h8, hzc⟩ := cellsK_some h8
  obtain ⟨h9, h10⟩ := bc_inv h8
  obtain ⟨cs, h11, h12⟩ := oc_inv h10
  injection h12 with h12; subst h12
  simp only [Bool.and_eq_true] at h9
  have a1 : len * s ≤ 65536 := Nat.le_of_ble_eq_true h9.1
  have hu := elemT_some h3
  obtain ⟨zv, g1, g2⟩ := run_zero h7
  obtain ⟨hz, hz1⟩ := hzc ρ zv (cvOf_rel ρ g1)
  have hs : zv.cells.size = s := by
    have := Nat.eq_of_beq_eq_true h9.2
    rw [llen_eq, hz.1] at this
    simpa using this
  obtain ⟨k1, k2⟩ := pairs_rel _ _ h1 ρ act hT
  have hfill : fillC (fun i => some (i * s, s)) l (rep len zc) = some cs := by
    have : placeA s = (fun i => some (i * s, s)) := by funext i; unfold placeA; rw [force_eq]; rfl
    rw [← this]; exact h11
  obtain ⟨x, m1, m2, m3⟩ := fill_rel l (ps.toList.map fun x => (x.1, act.eval x.2)) _ cs _ hfill (by simp [k1]) k2 (zeros_rel hz len) (rep_one hz1 len)
  have hxs : x.size = len * s := by
    have := fillC_length _ _ _ hfill
    rw [m2.1] at this
    rw [rep_length, hz.1] at this
    simpa [hs] using this
  refine ⟨.slice (some ⟨w.heap.size, 0, none⟩) len len, { w with heap := w.heap.push (.cells x e) }, x.size, ?_, ⟨rfl, rfl, rfl, x.toList, [], e, (0, 0), by simp, fun o _ => by simp, m2, m3, by simp⟩, fun id => .sl id 0 len s _ _ len (updR_same _ _ _) (Nat.le_refl _) (.inl ⟨rfl, by simp [hxs]⟩)⟩
  have e1 : (ps.map fun (x : Nat × Operand) => (x.1, act.eval x.2)).toList = ps.toList.map fun x => (x.1, act.eval x.2) := by simp
  rw [hs] at m1
  have hno : ¬ (len * s > 2 ^ 24) := by omega
  have hno' : ¬ (16777216 < len * s) := by omega
  by_cases h0 : len * s = 0
  · rw [h0] at m1
    have : (Array.map (fun x => (#[] : Array Value)[x % (#[] : Array Value).size]!) (Array.range 0)) = Array.map (fun x => zv.cells[x % s]!) (Array.range 0) := by simp
    rw [← this] at m1
    simp only [execOp, Instr.buildSlice, Sem.run_bind, run_underlying hu, Result.andThen_ok, run_size h5, h0, e1]
    simp only [gt_iff_lt, Nat.not_lt_zero, if_false, if_true, Sem.run_bind, Sem.run_pure, Result.andThen_ok, m1, row_new]
  · simp only [execOp, Instr.buildSlice, Sem.run_bind, run_underlying hu, Result.andThen_ok, run_size h5, hno, h0, e1, if_false, Sem.run_pure, g2, hs, m1, row_new]
theorem makeSlice_ok (t : TypeId) (x y : Operand) : NewOk P ⟨dst, .makeSlice t x y, ty, pos, after, guard⟩ (fun a => ev a x fun l => ev a y fun c => asNat l fun l => asNat c fun c => makeRow P t l c) := by
  intro ρ a act n hT h w
  obtain ⟨c1, h1, r1⟩ := ev_some h
  obtain ⟨c2, h2, r2⟩ := ev_some h1
  obtain ⟨k1, l, rfl, h3⟩ := asNat_some h2
  obtain ⟨k2, c, rfl, h4⟩ := asNat_some h3
  have e1 := (r1 ρ act hT).intI
  have e2 := (r2 ρ act hT).intI
  unfold makeRow at h4
  obtain ⟨h5, h6⟩ := bc_inv h4
  obtain ⟨s, h7, h8⟩ := oc_inv h6
  obtain ⟨e, h9, h10⟩ := oc_inv h8
  obtain ⟨z, h11, h12⟩ := oc_inv h10
  obtain ⟨zc, h12, hzc⟩ := cellsK_some h12
  injection h12 with h12; subst h12
  simp only [Bool.and_eq_true] at h5
  have ec : l = c := Nat.eq_of_beq_eq_true h5.1
  subst ec
  have hl : l ≤ 65536 := Nat.le_of_ble_eq_true h5.2
  have hu := elemT_some h9
  obtain ⟨i, zv, q1, q2, q3, q4, q5⟩ := rowSz_some h7 h9
  obtain ⟨zv', g1, g2⟩ := run_zero h11
  obtain ⟨i', zv'', q6, q7, q8⟩ := zeroT_some h11
  have g3 := g2 w
  simp [zeroValue, run_info q6, q7] at g3
  subst g3
  rw [q1] at q6
  injection q6 with q6
  subst q6
  rw [q2] at q7
  injection q7 with q7
  subst q7
  obtain ⟨hz, hz1⟩ := hzc ρ zv (cvOf_rel ρ g1)
  have hin : IntKind.i64.wrap (l : Int) = l := IntWalk.i64_in _ (by omega)
  refine ⟨.slice (some ⟨w.heap.size, 0, none⟩) l l, { w with heap := w.heap.push (.cells ((Array.range (l * zv.cells.size)).map (zv.cells[· % zv.cells.size]!)) e) }, l * zv.cells.size, ?_, ⟨rfl, rfl, rfl, ((Array.range (l * zv.cells.size)).map (zv.cells[· % zv.cells.size]!)).toList, [], e, (0, 0), by rw [List.append_nil, Array.toArray_toList], fun o _ => by simp, zeros_rel hz l, rep_one hz1 l, by simp⟩, fun id => .sl id 0 l s _ _ l (updR_same _ _ _) (Nat.le_refl _) (.inl ⟨rfl, by simp [q4]⟩)⟩
  have hsz : szT P e = some zv.cells.size := by unfold szT; rw [q1]; simp [q3, q4]
  have hb : ¬ ((i.bytes : Int) * (l : Int) > 2 ^ 48) := by
    have h9 : (i.bytes : Int) * (l : Int) ≤ 1048576 * 65536 := Int.mul_le_mul (by omega) (by omega) (by omega) (by omega)
    omega
  have hroom : ¬ (roomBytes < l * i.bytes) := by
    have : l * i.bytes ≤ 65536 * 1048576 := Nat.mul_le_mul hl (by omega)
    unfold roomBytes
    omega
  have h0l : ¬ ((l : Int) < 0) := by omega
  simp only [execOp, Instr.makeSlice, Sem.run_bind, run_underlying hu, Result.andThen_ok, e1, e2, Go.asInt, asIntOf, Sem.run_pure, run_info q1, Int.ofNat_eq_natCast, hin]
  simp only [h0l, hb, decide_false, Bool.or_self, gt_iff_lt, Int.lt_irrefl, Bool.false_eq_true, if_false, askRoom, hroom, Int.toNat_natCast, Sem.run_bind, Sem.run_pure, Result.andThen_ok, run_size hsz]
  by_cases h0 : l * zv.cells.size = 0
  · rw [if_pos h0, h0]
    simp only [Sem.run_bind, Sem.run_pure, Result.andThen_ok, row_new, show Array.range 0 = #[] from rfl, Array.map_empty]
  · rw [if_neg h0]
    simp only [Sem.run_bind, g2, Result.andThen_ok, Sem.run_pure, row_new]
theorem strBytes_ok {s d e : TypeId} (hs : P.underlying s = some .string) (hd : P.underlying d = some (.slice e)) (he : P.underlying e = some (.int .u8)) (x : Operand) : NewOk P ⟨dst, .convert s d x, ty, pos, after, guard⟩ (fun a => ev a x fun v => asStr v bytesN) := by
  intro ρ a act n hT h w
  obtain ⟨c1, h1, r1⟩ := ev_some h
  obtain ⟨l, rfl, h2⟩ := asStr_some h1
  unfold bytesN at h2
  rw [force_eq, llen_eq] at h2
  obtain ⟨h3, h4⟩ := bc_inv h2
  injection h4 with h4; subst h4
  obtain ⟨sv, e1, hsv⟩ := (r1 ρ act hT).strI
  have hlen : l.length = sv.size := by rw [← hsv]; simp
  have hge := grownCap_ge w sv.size 0 e
  have hheap := bytesWorld_heap w e sv
  refine ⟨.slice (some ⟨w.heap.size, 0, none⟩) sv.size (grownCap w sv.size 0 e), Lib.bytesWorld w e sv, grownCap w sv.size 0 e, ?_, ⟨rfl, rfl, rfl, byteCells sv, List.replicate (grownCap w sv.size 0 e - sv.size) (.int .u8 0), e, _, hheap, ?_, ?_, ?_, ?_⟩, fun id => ?_⟩
  · simp [execOp, e1, Lib.run_convert_string_bytes w s d e sv hs hd he]
  · intro o ho
    simp [byteCells_length] at ho
    simp
    omega
  · rw [← hsv]; exact mapB_rel ρ sv
  · exact mapB_one l
  · simp [byteCells_length]
    omega
  · show VRel _ (.sl id 0 l.length 1) _
    rw [hlen]
    exact .sl id 0 sv.size 1 _ _ _ (updR_same _ _ _) hge (.inl ⟨rfl, by simp⟩)
end
end Go.Proofs.YtkdlekonfjeidaaGreat.Eng
