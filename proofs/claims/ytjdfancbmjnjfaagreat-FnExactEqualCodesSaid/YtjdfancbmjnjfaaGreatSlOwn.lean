/-
  Slices of structs of a value's own: a row of cells in blocks of its own, each element's slices in further blocks of their own. Sizes of slices of structs.
-/
import Derived.Test.YtjdfancbmjnjfaaGreatOwn
namespace Go.Proofs.YtjdfancbmjnjfaaGreat
set_option maxRecDepth 100000
open Go.ChangeShapes Go.WideShapes Go.ChangeAt Go.RowKit Go.Deep

/-! ### sizes -/
def szS {α : Type} (f : α → Nat) (l : List α) : Nat := l.length + (l.map f).sum
theorem szS_take_succ {α : Type} (f : α → Nat) (l : List α) (k : Nat) (h : k < l.length) : szS f (l.take (k + 1)) = szS f (l.take k) + 1 + f l[k] := by
  unfold szS
  rw [List.take_succ_eq_append_getElem h]
  simp only [List.map_append, List.length_append, List.sum_append, List.map_cons, List.map_nil, List.length_cons, List.length_nil, List.sum_cons, List.sum_nil]
  omega
theorem szS_take_le {α : Type} (f : α → Nat) (l : List α) (k : Nat) : szS f (l.take k) + (l.drop k).length ≤ szS f l := by
  unfold szS
  have h : l = l.take k ++ l.drop k := (List.take_append_drop k l).symm
  conv => rhs; rw [h]
  simp only [List.map_append, List.length_append, List.sum_append]
  omega
theorem szS_length {α : Type} (f : α → Nat) (l : List α) : l.length ≤ szS f l := by unfold szS; omega
theorem szS_at {α : Type} (f : α → Nat) (l : List α) (k : Nat) (h : k < l.length) : f l[k] ≤ szS f l := by
  have h1 := szS_take_succ f l k h
  have h2 := szS_take_le f l (k + 1)
  omega
theorem szS_zero {α : Type} (f : α → Nat) (l : List α) : szS f (l.take 0) = 0 := by simp [szS]

/-! ### ownership -/
section
variable {α : Type}

def SlO (S : Nat → Prop) (w : World) (e : TypeId) (size : Nat) (RO : (Nat → Prop) → World → List Value → α → Prop) (v : Value) (l : List α) : Prop :=
  ∃ (xss : List (List Value)) (f : Nat → Nat), xss.length = l.length ∧
    (∀ k (h1 : k < xss.length) (h2 : k < l.length), xss[k].length = size ∧ RO (fun b => S b ∧ f b = k + 1) w xss[k] l[k]) ∧
    FlO (fun b => S b ∧ f b = 0) w e size v l.length xss.flatten

theorem SlO.keeps {S : Nat → Prop} {w w' : World} {e : TypeId} {size : Nat} {RO : (Nat → Prop) → World → List Value → α → Prop} {v : Value} {l : List α}
    (hRO : ∀ {T : Nat → Prop} {cs : List Value} {x : α}, x ∈ l → RO T w cs x → Keeps T w w' → RO T w' cs x) (h : SlO S w e size RO v l) (hk : Keeps S w w') : SlO S w' e size RO v l := by
  obtain ⟨xss, f, h1, h2, h3⟩ := h
  exact ⟨xss, f, h1, fun k a b => ⟨(h2 k a b).1, hRO (List.getElem_mem b) (h2 k a b).2 (hk.mono fun _ h => h.1)⟩, h3.keeps (hk.mono fun _ h => h.1)⟩

theorem SlO.mono {S S' : Nat → Prop} {w : World} {e : TypeId} {size : Nat} {RO : (Nat → Prop) → World → List Value → α → Prop} {v : Value} {l : List α}
    (hRO : ∀ {T T' : Nat → Prop} {cs : List Value} {x : α}, x ∈ l → RO T w cs x → (∀ b, T b → T' b) → RO T' w cs x) (h : SlO S w e size RO v l) (hs : ∀ b, S b → S' b) : SlO S' w e size RO v l := by
  obtain ⟨xss, f, h1, h2, h3⟩ := h
  exact ⟨xss, f, h1, fun k a b => ⟨(h2 k a b).1, hRO (List.getElem_mem b) (h2 k a b).2 (fun b h => ⟨hs b h.1, h.2⟩)⟩, h3.mono (fun b h => ⟨hs b h.1, h.2⟩)⟩

theorem flatten_at (size : Nat) : ∀ (xss : List (List Value)), (∀ x ∈ xss, x.length = size) → ∀ (k j : Nat) (hk : k < xss.length), j < size → xss.flatten[k * size + j]? = xss[k][j]? := by
  intro xss h k j hk hj
  have := flat_at (fun x : List Value => x) size xss h k j hk hj
  rwa [List.flatMap_id'] at this

theorem SlO.read {S : Nat → Prop} {w : World} {e : TypeId} {size : Nat} {RO : (Nat → Prop) → World → List Value → α → Prop} {R : List Value → α → Prop} {v : Value} {l : List α}
    (hR : ∀ {T : Nat → Prop} {cs : List Value} {x : α}, x ∈ l → RO T w cs x → R cs x) (h : SlO S w e size RO v l) : SlR w size R v l := by
  obtain ⟨xss, f, h1, h2, h3, _⟩ := h
  rcases h3.2 with ⟨rfl, h0⟩ | ⟨g, cap, cur, rfl, hb, hg, hn, hc, hs, ht⟩
  · exact ⟨none, 0, by rw [h0], by omega, by unfold maxLen; omega, fun h => absurd h (by omega)⟩
  · refine ⟨_, cap, rfl, hn, hc, fun _ => ⟨g, 0, rfl, (Array.getElem?_eq_some_iff.1 hg).1, fun k hk => ?_⟩⟩
    obtain ⟨q1, q2⟩ := h2 k (by omega) hk
    refine ⟨xss[k]'(by omega), q1, fun j u hu => ?_, hR (List.getElem_mem hk) q2⟩
    have hj : j < size := by have := (List.getElem?_eq_some_iff.1 hu).1; omega
    have h4 := flatten_at size xss (fun x hx => by
      obtain ⟨i, hi, rfl⟩ := List.getElem_of_mem hx
      exact (h2 i hi (by omega)).1) k j (by omega) hj
    rw [hu, ← ht, List.getElem?_take] at h4
    split at h4
    · simp only [World.cell?, hg, Nat.zero_add]
      simpa using h4
    · cases h4

theorem SlO.nil_ (S : Nat → Prop) (w : World) (e : TypeId) (size : Nat) (RO : (Nat → Prop) → World → List Value → α → Prop) : SlO S w e size RO (.slice none 0 0) [] :=
  ⟨[], fun _ => 0, rfl, fun k h => absurd h (by simp), FlO.nil_ _ _ _ _⟩

/-- the first k elements are copied -/
def CopyO (w : World) (g : Nat) (e : TypeId) (size n k : Nat) (RO : (Nat → Prop) → World → List Value → α → Prop) (l : List α) : Prop :=
  ∃ (xss : List (List Value)) (f : Nat → Nat), xss.length = k ∧ Fill w g e size n k xss.flatten ∧
    ∀ j (h1 : j < xss.length) (h2 : j < l.length), xss[j].length = size ∧ RO (fun b => Rng (g + 1) w.heap.size b ∧ f b = j + 1) w xss[j] l[j]

theorem CopyO.start (w : World) (e : TypeId) (size n : Nat) (RO : (Nat → Prop) → World → List Value → α → Prop) (l : List α) (cs : Array Value) (h : cs.size = n * size) : CopyO (w.alloc (.cells cs e)) w.heap.size e size n 0 RO l :=
  ⟨[], fun _ => 0, rfl, Fill.start w e size n cs h, fun j h => absurd h (by simp)⟩

theorem CopyO.step {w w1 : World} {g : Nat} {e : TypeId} {size n k : Nat} {RO : (Nat → Prop) → World → List Value → α → Prop} {l : List α}
    (hRK : ∀ {T : Nat → Prop} {w w' : World} {cs : List Value} {x : α}, x ∈ l → RO T w cs x → Keeps T w w' → RO T w' cs x)
    (hRM : ∀ {T T' : Nat → Prop} {w : World} {cs : List Value} {x : α}, x ∈ l → RO T w cs x → (∀ b, T b → T' b) → RO T' w cs x)
    (h : CopyO w g e size n k RO l) (hb : Below w.heap.size w w1) (hk : k < n) (hl : k < l.length) (cs : List Value) (hcs : cs.length = size)
    (hx : RO (Rng w.heap.size w1.heap.size) w1 cs l[k]) : CopyO (putCells w1 g (k * size) cs) g e size n (k + 1) RO l := by
  obtain ⟨xss, f, h1, h2, h3⟩ := h
  have hg := h2.lt
  have hf1 := h2.keep (hb.block g hg)
  have hsz : (putCells w1 g (k * size) cs).heap.size = w1.heap.size := putCells_size cs w1 _
  have hkp : ∀ T : Nat → Prop, ¬ T g → Keeps T w1 (putCells w1 g (k * size) cs) := fun T hT => ⟨by rw [hsz]; exact Nat.le_refl _, fun b _ hT' => putCells_other g cs w1 _ b (fun e => hT (e ▸ hT'))⟩
  refine ⟨xss ++ [cs], fun b => if b < w.heap.size then f b else k + 1, by simp [h1], ?_, fun j a b => ?_⟩
  · have := hf1.step hk cs hcs
    rw [List.flatten_append]
    simpa using this
  · by_cases hj : j < k
    · rw [List.getElem_append_left (by omega)]
      obtain ⟨q1, q2⟩ := h3 j (by omega) b
      refine ⟨q1, hRM (List.getElem_mem b) (hRK (List.getElem_mem b) (hRK (List.getElem_mem b) q2 (Keeps.of_below _ hb)) (hkp _ (fun h => by have := h.1.1; omega))) (fun x hx => ?_)⟩
      obtain ⟨⟨y1, y2⟩, y3⟩ := hx
      exact ⟨⟨y1, by rw [hsz]; exact Nat.lt_of_lt_of_le y2 hb.size⟩, by dsimp only; rw [if_pos y2]; exact y3⟩
    · have : j = k := by simp at a; omega
      subst this
      rw [List.getElem_append_right (by omega)]
      simp only [h1, Nat.sub_self, List.getElem_cons_zero]
      refine ⟨hcs, hRM (List.getElem_mem b) (hRK (List.getElem_mem b) hx (hkp _ (fun h => by have := h.1; omega))) (fun x hx => ?_)⟩
      obtain ⟨y1, y2⟩ := hx
      exact ⟨⟨by omega, by rw [hsz]; exact y2⟩, by rw [if_neg (by omega)]⟩

theorem CopyO.own {w : World} {g : Nat} {e : TypeId} {size : Nat} {RO : (Nat → Prop) → World → List Value → α → Prop} {l : List α}
    (hRM : ∀ {T T' : Nat → Prop} {w : World} {cs : List Value} {x : α}, x ∈ l → RO T w cs x → (∀ b, T b → T' b) → RO T' w cs x)
    (h : CopyO w g e size l.length l.length RO l) (hn : l.length ≤ maxLen) : SlO (Rng g w.heap.size) w e size RO (.slice (some ⟨g, 0, none⟩) l.length l.length) l := by
  obtain ⟨xss, f, h1, h2, h3⟩ := h
  have hg := h2.lt
  refine ⟨xss, fun b => if b = g then 0 else f b, h1, fun k a b => ?_, h2.own (Nat.zero_le _) hn, fun k hk => ?_⟩
  · obtain ⟨q1, q2⟩ := h3 k a b
    refine ⟨q1, hRM (List.getElem_mem b) q2 (fun x hx => ?_)⟩
    obtain ⟨⟨y1, y2⟩, y3⟩ := hx
    exact ⟨⟨by omega, y2⟩, by dsimp only; rw [if_neg (by omega)]; exact y3⟩
  · simp only [Value.ownBlock, Option.some.injEq] at hk
    subst hk
    exact ⟨⟨Nat.le_refl _, hg⟩, by dsimp only; rw [if_pos rfl]⟩
end
end Go.Proofs.YtjdfancbmjnjfaaGreat
