/-
  The machine's memory against the model's: what is read, written and made.
-/
import Derived.Test.YtkdlekonfjeidaaGreatEngRel
namespace Go.Proofs.YtkdlekonfjeidaaGreat.Eng
open Go.RowKit
set_option linter.unusedVariables false

theorem Hp.setO_eq (h : Hp) (i : Nat) (c : Option CO) : h.setO i c = ⟨HO.set h.o i c, h.fm, h.next⟩ := by cases h; exact HO.setM_eq _ _ _ _
theorem Hp.putF_eq (h : Hp) (i : Nat) (c : List (Nat × Nat)) : h.putF i c = ⟨h.o, HF.set h.fm i (some c), h.next⟩ := by cases h; exact HF.setM_eq _ _ _ _
theorem Hp.newAt_eq (h : Hp) (n : Nat) (c : CO) : h.newAt n c = ⟨HO.set h.o n (some c), h.fm, n + 1⟩ := by cases h; exact HO.setM_eq _ _ _ _
theorem Hp.get_setO (h : Hp) (i j : Nat) (c : Option CO) (hi : i < 32768) (hj : j < 32768) : (h.setO i c).get j = if i = j then c else h.get j := by rw [Hp.setO_eq]; exact HO.get_set h.o i j c hi hj
theorem Hp.fam_setO (h : Hp) (i f : Nat) (c : Option CO) : (h.setO i c).fam f = h.fam f := by rw [Hp.setO_eq]; exact rfl
theorem Hp.next_setO (h : Hp) (i : Nat) (c : Option CO) : (h.setO i c).next = h.next := by rw [Hp.setO_eq]
theorem Hp.get_putF (h : Hp) (i j : Nat) (c : List (Nat × Nat)) : (h.putF i c).get j = h.get j := by rw [Hp.putF_eq]; exact rfl
theorem Hp.fam_putF (h : Hp) (i j : Nat) (c : List (Nat × Nat)) (hi : i < 32768) (hj : j < 32768) : (h.putF i c).fam j = if i = j then some c else h.fam j := by rw [Hp.putF_eq]; exact HF.get_set h.fm i j (some c) hi hj
theorem Hp.next_putF (h : Hp) (i : Nat) (c : List (Nat × Nat)) : (h.putF i c).next = h.next := by rw [Hp.putF_eq]
theorem Hp.get_newAt (h : Hp) (n j : Nat) (c : CO) (hi : n < 32768) (hj : j < 32768) : (h.newAt n c).get j = if n = j then some c else h.get j := by rw [Hp.newAt_eq]; exact HO.get_set h.o n j (some c) hi hj
theorem Hp.fam_newAt (h : Hp) (n f : Nat) (c : CO) : (h.newAt n c).fam f = h.fam f := by rw [Hp.newAt_eq]; exact rfl
theorem Hp.next_newAt (h : Hp) (n : Nat) (c : CO) : (h.newAt n c).next = n + 1 := by rw [Hp.newAt_eq]

theorem Hp.put_fam (h : Hp) (i : Nat) (c : CO) (f : Nat) : (h.put i c).fam f = h.fam f := Hp.fam_setO h i f (some c)
theorem Hp.put_next (h : Hp) (i : Nat) (c : CO) : (h.put i c).next = h.next := Hp.next_setO h i (some c)
theorem Hp.put_get (h : Hp) (i j : Nat) (c : CO) (hi : i < 32768) (hj : j < 32768) : (h.put i c).get j = if i = j then some c else h.get j := Hp.get_setO h i j (some c) hi hj
/-- the cells of a block that may be written -/
def CellsAt (w : World) (b : Nat) (cells : Array Value) : Prop := ∃ t fr, w.heap[b]? = some (.cells cells t fr) ∧ ∀ o, o < cells.size → (decide (fr.1 ≤ o) && decide (o < fr.2)) = false
theorem CellsAt.cell {w : World} {b : Nat} {cells : Array Value} (h : CellsAt w b cells) (o : Nat) : w.cell? ⟨b, o, none⟩ = cells[o]? := by
  obtain ⟨t, fr, h1, _⟩ := h
  simp [World.cell?, h1]
theorem CellsAt.frozen {w : World} {b : Nat} {cells : Array Value} (h : CellsAt w b cells) (o : Nat) (ho : o < cells.size) : w.frozen? ⟨b, o, none⟩ = false := by
  obtain ⟨t, ⟨lo, hi⟩, h1, h2⟩ := h
  simp only [World.frozen?, h1]
  exact h2 o ho
theorem CellsAt.lt {w : World} {b : Nat} {cells : Array Value} (h : CellsAt w b cells) : b < w.heap.size := by
  obtain ⟨t, fr, h1, _⟩ := h
  exact (Array.getElem?_eq_some_iff.1 h1).1
theorem CellsAt.keep {w w' : World} {b : Nat} {cells : Array Value} (h : CellsAt w b cells) (hk : w'.heap[b]? = w.heap[b]?) : CellsAt w' b cells := by
  obtain ⟨t, fr, h1, h2⟩ := h
  exact ⟨t, fr, hk.trans h1, h2⟩

/-! ### Stores of many cells -/
theorem heap_setCell_at {w : World} {b o : Nat} {u : Value} {cells : Array Value} {t : TypeId} {fr : Nat × Nat} (h : w.heap[b]? = some (.cells cells t fr)) : (w.setCell ⟨b, o, none⟩ u).heap[b]? = some (.cells (cells.setIfInBounds o u) t fr) := by
  simp only [World.setCell, Array.getElem?_modify, h]
  simp
theorem heap_setCell_far {w : World} {b o b' : Nat} {u : Value} (hb : b' ≠ b) : (w.setCell ⟨b, o, none⟩ u).heap[b']? = w.heap[b']? := Below.heap_setCell w ⟨b, o, none⟩ u b' hb
theorem CellsAt.setCells {b : Nat} : ∀ (us : List Value) (o : Nat) (w : World) (cells : Array Value), CellsAt w b cells → CellsAt (w.setCells b o us) b (lput us cells.toList o).toArray
  | [], o, w, cells, h => by simpa [World.setCells, lput_nil] using h
  | u :: us, o, w, cells, h => by
    rw [World.setCells, lput_cons]
    have h1 : CellsAt (w.setCell ⟨b, o, none⟩ u) b (cells.setIfInBounds o u) := by
      obtain ⟨t, fr, h1, h2⟩ := h
      exact ⟨t, fr, heap_setCell_at h1, fun o' ho' => h2 o' (by simpa using ho')⟩
    have h2 := CellsAt.setCells us (o + 1) _ _ h1
    simpa using h2
theorem heap_setCells_far {b b' : Nat} (hb : b' ≠ b) : ∀ (us : List Value) (o : Nat) (w : World), (w.setCells b o us).heap[b']? = w.heap[b']?
  | [], o, w => rfl
  | u :: us, o, w => by rw [World.setCells, heap_setCells_far hb us, heap_setCell_far hb]
theorem size_setCells {b : Nat} : ∀ (us : List Value) (o : Nat) (w : World), (w.setCells b o us).heap.size = w.heap.size
  | [], o, w => rfl
  | u :: us, o, w => by rw [World.setCells, size_setCells us]; simp [World.setCell]
theorem rest_setCells {b : Nat} : ∀ (us : List Value) (o : Nat) (w : World), (w.setCells b o us).os = w.os ∧ (w.setCells b o us).tape = w.tape ∧ (w.setCells b o us).output = w.output
  | [], o, w => ⟨rfl, rfl, rfl⟩
  | u :: us, o, w => by rw [World.setCells]; exact rest_setCells us (o + 1) _

/-! ### The relation of memories -/
def RowR (ρ : Rn) (w : World) (ri : RI) (cs : List CV) : Prop := ∃ cells, CellsAt w ri.b cells ∧ cells.size = ri.tot ∧ cs.length ≤ cells.size ∧ ∀ (j : Nat) (c : CV), cs[j]? = some c → c.one = true ∧ ∃ v, cells[j]? = some v ∧ VRel ρ c v
def MapR (ρ : Rn) (w : World) (ri : RI) (l : List (Int × CV)) : Prop := ∃ es clock, w.heap[ri.b]? = some (.map es clock) ∧ es.size = l.length ∧ ∀ (j : Nat) (k : Int) (c : CV), l[j]? = some (k, c) → ∃ e : MapEntry, es[j]? = some e ∧ e.key = .int .i64 k ∧ VRel ρ c e.val
def ORel (ρ : Rn) (w : World) (ri : RI) : CO → Prop
  | .box cs => RowR ρ w ri cs
  | .row cs _ => RowR ρ w ri cs
  | .map l => MapR ρ w ri l
def famOf : CO → Option Nat
  | .row _ f => some f
  | _ => none
theorem RowR.mono {ρ ρ' : Rn} (H : Sub ρ ρ') {w w' : World} {ri : RI} {cs : List CV} (h : RowR ρ w ri cs) (hk : w'.heap[ri.b]? = w.heap[ri.b]?) : RowR ρ' w' ri cs := by
  obtain ⟨cells, h1, h2, h3, h4⟩ := h
  exact ⟨cells, h1.keep hk, h2, h3, fun j c hj => let ⟨g1, v, g2, g3⟩ := h4 j c hj; ⟨g1, v, g2, g3.mono H⟩⟩
theorem MapR.mono {ρ ρ' : Rn} (H : Sub ρ ρ') {w w' : World} {ri : RI} {l : List (Int × CV)} (h : MapR ρ w ri l) (hk : w'.heap[ri.b]? = w.heap[ri.b]?) : MapR ρ' w' ri l := by
  obtain ⟨es, clock, h1, h2, h3⟩ := h
  exact ⟨es, clock, hk.trans h1, h2, fun j k c hj => let ⟨e, g1, g2, g3⟩ := h3 j k c hj; ⟨e, g1, g2, g3.mono H⟩⟩
theorem ORel.mono {ρ ρ' : Rn} (H : Sub ρ ρ') {w w' : World} {ri : RI} {c : CO} (h : ORel ρ w ri c) (hk : w'.heap[ri.b]? = w.heap[ri.b]?) : ORel ρ' w' ri c := by
  cases c with
  | box cs => exact RowR.mono H h hk
  | row cs f => exact RowR.mono H h hk
  | map l => exact MapR.mono H h hk
theorem ORel.lt {ρ : Rn} {w : World} {ri : RI} {c : CO} (h : ORel ρ w ri c) : ri.b < w.heap.size := by
  cases c with
  | box cs => obtain ⟨cells, h1, _⟩ := h; exact h1.lt
  | row cs f => obtain ⟨cells, h1, _⟩ := h; exact h1.lt
  | map l => obtain ⟨es, clock, h1, _⟩ := h; exact (Array.getElem?_eq_some_iff.1 h1).1

structure HRel (ρ : Rn) (h : Hp) (B : Nat) (w : World) : Prop where
  lt : ∀ id ri, ρ id = some ri → id < 32768
  obj : ∀ id c, id < 32768 → h.get id = some c → ∃ ri, ρ id = some ri ∧ B ≤ ri.b ∧ ORel ρ w ri c
  apart : ∀ i j ci cj ri rj, i < 32768 → j < 32768 → i ≠ j → h.get i = some ci → h.get j = some cj → ρ i = some ri → ρ j = some rj → ri.b = rj.b → ∃ f, famOf ci = some f ∧ famOf cj = some f
  fam : ∀ i cs f, i < 32768 → h.get i = some (.row cs f) → f < 32768 ∧ ∃ l, h.fam f = some l ∧ (i, cs.length) ∈ l
  famlt : ∀ f l p, f < 32768 → h.fam f = some l → p ∈ l → p.1 < 32768
  known : ∀ i cs f, i < 32768 → h.get i = some (.row cs f) → ρ f ≠ none

/-- the blocks that the machine's memory lies in -/
def Own (ρ : Rn) (h : Hp) (b : Nat) : Prop := ∃ id c ri, id < 32768 ∧ h.get id = some c ∧ ρ id = some ri ∧ ri.b = b

/-- no row of a family -/
def NoFam (h : Hp) (f : Nat) : Prop := ∀ i cs, i < 32768 → h.get i ≠ some (.row cs f)

/-- what a run may do that makes blocks of the numbers from lo to hi -/
structure Step (lo hi : Nat) (ρ : Rn) (h : Hp) (w : World) (ρ' : Rn) (h' : Hp) (w' : World) : Prop where
  agree : ∀ id, ¬ (lo ≤ id ∧ id < hi) → ρ' id = ρ id
  own : ∀ b, Own ρ' h' b → Own ρ h b ∨ w.heap.size ≤ b
  keep : ∀ b, b < w.heap.size → ¬ Own ρ h b → w'.heap[b]? = w.heap[b]?
  size : w.heap.size ≤ w'.heap.size
  os : w'.os = w.os
  tape : w'.tape = w.tape
  output : w'.output = w.output
  fk : ∀ f, f < 32768 → ¬ (lo ≤ f ∧ f < hi) → NoFam h f → NoFam h' f

theorem Step.refl (lo hi : Nat) (ρ : Rn) (h : Hp) (w : World) : Step lo hi ρ h w ρ h w :=
  ⟨fun _ _ => rfl, fun _ hb => .inl hb, fun _ _ _ => rfl, Nat.le_refl _, rfl, rfl, rfl, fun _ _ _ h => h⟩
theorem Step.trans {lo hi : Nat} {ρ ρ1 ρ2 : Rn} {h h1 h2 : Hp} {w w1 w2 : World} (a : Step lo hi ρ h w ρ1 h1 w1) (b : Step lo hi ρ1 h1 w1 ρ2 h2 w2) : Step lo hi ρ h w ρ2 h2 w2 := by
  refine ⟨fun id hid => ?_, fun k hk => ?_, fun k hk hn => ?_, Nat.le_trans a.size b.size, b.os.trans a.os, b.tape.trans a.tape, b.output.trans a.output, fun f hf hn h => b.fk f hf hn (a.fk f hf hn h)⟩
  · rw [b.agree id hid, a.agree id hid]
  · rcases b.own k hk with h3 | h3
    · exact a.own k h3
    · exact .inr (Nat.le_trans a.size h3)
  · rw [b.keep k (Nat.lt_of_lt_of_le hk a.size) (fun ho => by
      rcases a.own k ho with h3 | h3
      · exact hn h3
      · omega), a.keep k hk hn]
theorem Step.widen {lo hi lo' hi' : Nat} {ρ ρ' : Rn} {h h' : Hp} {w w' : World} (s : Step lo hi ρ h w ρ' h' w') (h1 : lo' ≤ lo) (h2 : hi ≤ hi') : Step lo' hi' ρ h w ρ' h' w' :=
  ⟨fun id hid => s.agree id (by omega), s.own, s.keep, s.size, s.os, s.tape, s.output, fun f hf hn => s.fk f hf (by omega)⟩
theorem Step.heapEq {lo hi : Nat} {ρ ρ' : Rn} {h h' h0 h0' : Hp} {w w' : World} (s : Step lo hi ρ h w ρ' h' w') (e : ∀ i, i < 32768 → h0.get i = h.get i) (e' : ∀ i, i < 32768 → h0'.get i = h'.get i) : Step lo hi ρ h0 w ρ' h0' w' := by
  have o1 : ∀ b, Own ρ h0 b ↔ Own ρ h b := fun b => ⟨fun ⟨id, c, ri, k1, k2, k3, k4⟩ => ⟨id, c, ri, k1, by rw [← e id k1]; exact k2, k3, k4⟩, fun ⟨id, c, ri, k1, k2, k3, k4⟩ => ⟨id, c, ri, k1, by rw [e id k1]; exact k2, k3, k4⟩⟩
  refine ⟨s.agree, fun b ⟨id, c, ri, k1, k2, k3, k4⟩ => ?_, fun b hb hn => s.keep b hb (fun ho => hn ((o1 b).2 ho)), s.size, s.os, s.tape, s.output, fun f hf hn h i cs hi => ?_⟩
  · rcases s.own b ⟨id, c, ri, k1, by rw [← e' id k1]; exact k2, k3, k4⟩ with h1 | h1
    · exact .inl ((o1 b).2 h1)
    · exact .inr h1
  · rw [e' i hi]
    exact s.fk f hf hn (fun j cs hj => by rw [← e j hj]; exact h j cs hj) i cs hi
def Fresh (ρ : Rn) (n n' : Nat) : Prop := ∀ id, n ≤ id → id < n' → ρ id = none
theorem Step.sub {lo hi : Nat} {ρ ρ' : Rn} {h h' : Hp} {w w' : World} (s : Step lo hi ρ h w ρ' h' w') (hf : Fresh ρ lo hi) : Sub ρ ρ' := fun id ri e => by
  rw [s.agree id (fun hc => by rw [hf id hc.1 hc.2] at e; cases e)]
  exact e
theorem Fresh.left {ρ : Rn} {n m k : Nat} (h : Fresh ρ n k) (hm : m ≤ k) : Fresh ρ n m := fun id h1 h2 => h id h1 (by omega)
theorem Fresh.right {lo hi : Nat} {ρ ρ' : Rn} {h h' : Hp} {w w' : World} (s : Step lo hi ρ h w ρ' h' w') {k : Nat} (hlo : lo ≤ hi) (hf : Fresh ρ lo k) : Fresh ρ' hi k := fun id h1 h2 => by
  rw [s.agree id (by omega)]
  exact hf id (by omega) h2
theorem Step.below {lo hi : Nat} {ρ ρ' : Rn} {h h' : Hp} {w w' : World} {B : Nat} (s : Step lo hi ρ h w ρ' h' w') (H : HRel ρ h B w) (hB : B ≤ w.heap.size) : Below B w w' :=
  ⟨s.os, s.tape, s.output, s.size, fun k hk => s.keep k (Nat.lt_of_lt_of_le hk hB) (fun ⟨id, c, ri, h1, h2, h3, h4⟩ => by
    obtain ⟨ri', g1, g2, _⟩ := H.obj id c h1 h2
    rw [h3] at g1
    injection g1 with g1
    subst g1
    omega)⟩
/-- draws change nothing -/
theorem HRel.drew {ρ : Rn} {h : Hp} {B : Nat} {w : World} (H : HRel ρ h B w) (n : Nat) : HRel ρ h B { w with drawn := n } := ⟨H.lt, H.obj, H.apart, H.fam, H.famlt, H.known⟩
theorem Step.drew {lo hi : Nat} {ρ : Rn} {h : Hp} {w : World} (n : Nat) : Step lo hi ρ h w ρ h { w with drawn := n } :=
  ⟨fun _ _ => rfl, fun _ hb => .inl hb, fun _ _ _ => rfl, Nat.le_refl _, rfl, rfl, rfl, fun _ _ _ h => h⟩
/-- fewer blocks -/
theorem HRel.less {ρ : Rn} {h h' : Hp} {B : Nat} {w : World} (H : HRel ρ h B w) (hg : ∀ id c, id < 32768 → h'.get id = some c → h.get id = some c) (hf : ∀ i cs f l, i < 32768 → h'.get i = some (.row cs f) → h.fam f = some l → (i, cs.length) ∈ l → ∃ l', h'.fam f = some l' ∧ (i, cs.length) ∈ l')
    (hl : ∀ f l p, f < 32768 → h'.fam f = some l → p ∈ l → p.1 < 32768) : HRel ρ h' B w :=
  ⟨H.lt, fun id c hid hc => H.obj id c hid (hg id c hid hc), fun i j ci cj ri rj hi hj hij h1 h2 => H.apart i j ci cj ri rj hi hj hij (hg i ci hi h1) (hg j cj hj h2),
   fun i cs f hi hc => let ⟨g1, l, g2, g3⟩ := H.fam i cs f hi (hg i _ hi hc); ⟨g1, hf i cs f l hi hc g2 g3⟩, hl, fun i cs f hi hc => H.known i cs f hi (hg i _ hi hc)⟩
theorem HRel.heapEq {ρ : Rn} {h h' : Hp} {B : Nat} {w : World} (H : HRel ρ h B w) (hg : ∀ id, id < 32768 → h'.get id = h.get id) (hf : ∀ f, f < 32768 → h'.fam f = h.fam f) : HRel ρ h' B w :=
  H.less (fun id c hid hc => by rw [← hg id hid]; exact hc) (fun i cs f l hi hc hl hm => ⟨l, by rw [hf f (H.fam i cs f hi (by rw [← hg i hi]; exact hc)).1]; exact hl, hm⟩) (fun f l p hf' hl => H.famlt f l p hf' (by rw [← hf f hf']; exact hl))

/-! ### Reading -/
theorem rdL_some {cs l : List CV} {off n : Nat} (h : rdL cs off n = some l) : off + n ≤ cs.length ∧ l = (cs.drop off).take n := by
  unfold rdL at h
  rw [llen_eq, ltake_eq, ldrop_eq] at h
  cases hb : Nat.ble (Nat.add off n) cs.length with
  | false => rw [hb] at h; cases h
  | true =>
    rw [hb, bc_true] at h
    injection h with h
    exact ⟨Nat.le_of_ble_eq_true hb, h.symm⟩
theorem row_of {ρ : Rn} {h : Hp} {B : Nat} {w : World} (H : HRel ρ h B w) {id : Nat} {ri : RI} (hid : ρ id = some ri) {β : Type} {k : List CV → Option β} {r : β} (e : (oc (h.get id) none fun c => coCells c k) = some r) :
    ∃ cs, k cs = some r ∧ RowR ρ w ri cs := by
  cases hg : h.get id with
  | none => rw [hg] at e; cases e
  | some c =>
    rw [hg, oc_some] at e
    obtain ⟨ri', g1, _, g3⟩ := H.obj id c (H.lt id ri hid) hg
    rw [hid] at g1
    injection g1 with g1
    subst g1
    cases c with
    | box cs => exact ⟨cs, e, g3⟩
    | row cs f => exact ⟨cs, e, g3⟩
    | map l => cases e
theorem RowR.range {ρ : Rn} {w : World} {ri : RI} {cs : List CV} (h : RowR ρ w ri cs) {off n : Nat} (hn : off + n ≤ cs.length) :
    ∃ vs, VRels ρ ((cs.drop off).take n) vs ∧ vs.length = n ∧ (∀ c ∈ (cs.drop off).take n, c.one = true) ∧ w.rangeAt ri.b off vs := by
  obtain ⟨cells, h1, h2, h3, h4⟩ := h
  refine ⟨(cells.toList.drop off).take n, ⟨by simp; omega, fun i c v g1 g2 => ?_⟩, by simp; omega, fun c hc => ?_, fun j v hv => ?_⟩
  · rw [List.getElem?_take] at g1 g2
    split at g1
    · rename_i hi
      rw [if_pos hi] at g2
      rw [List.getElem?_drop] at g1 g2
      obtain ⟨_, u, g3, g4⟩ := h4 _ c g1
      rw [Array.getElem?_toList, g3] at g2
      injection g2 with g2
      subst g2
      exact g4
    · cases g1
  · have hc' := List.mem_of_mem_drop (List.mem_of_mem_take hc)
    obtain ⟨j, hj, rfl⟩ := List.getElem_of_mem hc'
    exact (h4 j _ (List.getElem?_eq_getElem hj)).1
  · rw [h1.cell]
    rw [List.getElem?_take] at hv
    split at hv
    · rw [List.getElem?_drop, Array.getElem?_toList] at hv
      exact hv
    · cases hv
theorem rd_some {ρ : Rn} {h : Hp} {B : Nat} {w : World} (H : HRel ρ h B w) {id off n : Nat} {l : List CV} {ri : RI} (hid : ρ id = some ri) (e : rd h id off n = some l) :
    ∃ vs, VRels ρ l vs ∧ vs.length = n ∧ (∀ c ∈ l, c.one = true) ∧ w.rangeAt ri.b off vs := by
  obtain ⟨cs, h1, h2⟩ := row_of H hid e
  obtain ⟨h3, rfl⟩ := rdL_some h1
  exact h2.range h3
theorem rd1L_some {cs : List CV} {off : Nat} {v : CV} (h : rd1L cs off = some v) : cs[off]? = some v := by
  unfold rd1L at h
  rw [ldrop_eq] at h
  cases hd : cs.drop off with
  | nil => rw [hd] at h; cases h
  | cons a t =>
    rw [hd] at h
    injection h with h
    have : (cs.drop off)[0]? = some a := by rw [hd]; rfl
    rw [List.getElem?_drop] at this
    rw [← h]
    simpa using this
theorem rd1_some {ρ : Rn} {h : Hp} {B : Nat} {w : World} (H : HRel ρ h B w) {id off : Nat} {c : CV} {ri : RI} (hid : ρ id = some ri) (e : rd1 h id off = some c) :
    ∃ v, VRel ρ c v ∧ c.one = true ∧ w.cell? ⟨ri.b, off, none⟩ = some v := by
  obtain ⟨cs, h1, cells, g1, g2, g3, g4⟩ := row_of H hid e
  obtain ⟨g5, v, g6, g7⟩ := g4 off c (rd1L_some h1)
  exact ⟨v, g7, g5, by rw [g1.cell]; exact g6⟩
end Go.Proofs.YtkdlekonfjeidaaGreat.Eng
