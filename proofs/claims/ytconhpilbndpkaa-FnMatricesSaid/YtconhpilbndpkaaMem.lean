/-
  Words for memory that a call makes: a new row that is filled element by element, and lists of cells stored one behind the other.
-/
import Derived.Test.YtconhpilbndpkaaBase
import Derived.Maps.AppendAt
import Derived.Deep.AppendLies
namespace Go.Proofs.Ytconhpilbndpkaa
set_option maxRecDepth 100000
open Go.ChangeShapes Go.WideShapes Go.ChangeAt Go.RowKit Go.Deep

/-- make([]T, n), n a variable -/
theorem run_mk {P : Program} (w : World) (t e : TypeId) (z : Value) (size bytes : Nat) (ht : P.underlying t = some (.slice e))
    (hi : (P.info? e).map (fun i => (i.zero, i.size, i.bytes)) = some (some z, size, bytes)) (n : Nat) (hb : bytes * n ≤ 281474976710656) (h63 : n ≤ 9223372036854775807) :
    (Instr.makeSlice t (.int .i64 n) (.int .i64 n)).run P w = .ok (.slice (some ⟨w.heap.size, 0, none⟩) n n) (w.alloc (.cells (madeCells z.cells (n * size)) e)) := by
  obtain ⟨i, h1, h2, h3, h4⟩ := info_parts hi
  have h5 : (bytes : Int) * (n : Int) ≤ 281474976710656 := by
    rw [← Int.natCast_mul]
    omega
  have := run_make (P := P) w t e i z ht h1 h2 .i64 .i64 (n : Int) (n : Int) (by omega) (by omega) (by rw [h4]; exact h5) (by omega)
  rw [this, h3, Int.toNat_natCast]

/-- block g is a row of n elements of 'size' cells each, of which the first k hold xs -/
def Fill (w : World) (g : Nat) (e : TypeId) (size n k : Nat) (xs : List Value) : Prop :=
  ∃ cur, w.heap[g]? = some (.cells cur e (0, 0)) ∧ cur.size = n * size ∧ cur.toList.take (k * size) = xs

theorem Fill.lt {w : World} {g : Nat} {e : TypeId} {size n k : Nat} {xs : List Value} (h : Fill w g e size n k xs) : g < w.heap.size := by
  obtain ⟨cur, h1, _⟩ := h
  exact (Array.getElem?_eq_some_iff.1 h1).1

theorem Fill.start (w : World) (e : TypeId) (size n : Nat) (cs : Array Value) (h : cs.size = n * size) : Fill (w.alloc (.cells cs e)) w.heap.size e size n 0 [] :=
  ⟨_, heap_alloc_new w _, h, by simp⟩

theorem Fill.keep {w w' : World} {g : Nat} {e : TypeId} {size n k : Nat} {xs : List Value} (h : Fill w g e size n k xs) (hk : w'.heap[g]? = w.heap[g]?) : Fill w' g e size n k xs := by
  obtain ⟨cur, h1, h2, h3⟩ := h
  exact ⟨cur, hk.trans h1, h2, h3⟩

theorem Fill.cell {w : World} {g : Nat} {e : TypeId} {size n k : Nat} {xs : List Value} (h : Fill w g e size n k xs) (j : Nat) (hj : j < n * size) : ∃ u, w.cell? ⟨g, j, none⟩ = some u := by
  obtain ⟨cur, h1, h2, h3⟩ := h
  exact ⟨cur[j]'(by omega), by simp [World.cell?, h1, Array.getElem?_eq_getElem (show j < cur.size by omega)]⟩

theorem Fill.frozen {w : World} {g : Nat} {e : TypeId} {size n k : Nat} {xs : List Value} (h : Fill w g e size n k xs) (j : Nat) : w.frozen? ⟨g, j, none⟩ = false := by
  obtain ⟨cur, h1, h2, h3⟩ := h
  simp [World.frozen?, h1]

/-- the cells us stored at block g from off on -/
def putCells (w : World) (g : Nat) : Nat → List Value → World
  | _, [] => w
  | off, u :: us => putCells (w.setCell ⟨g, off, none⟩ u) g (off + 1) us

theorem putCells_block (g : Nat) (e : TypeId) (us : List Value) : ∀ (w : World) (off : Nat) (cur : Array Value), w.heap[g]? = some (.cells cur e (0, 0)) → off + us.length ≤ cur.size →
    ∃ cur', (putCells w g off us).heap[g]? = some (.cells cur' e (0, 0)) ∧ cur'.size = cur.size ∧ cur'.toList = cur.toList.take off ++ us ++ cur.toList.drop (off + us.length) := by
  induction us with
  | nil => intro w off cur h _; exact ⟨cur, h, rfl, by simp⟩
  | cons u us ih =>
    intro w off cur h hl
    simp only [List.length_cons] at hl
    obtain ⟨cur', h1, h2, h3⟩ := ih (w.setCell ⟨g, off, none⟩ u) (off + 1) (cur.setIfInBounds off u) (heap_setCell_same w g off cur e u h) (by simp; omega)
    refine ⟨cur', h1, by simpa using h2, h3.trans ?_⟩
    simp only [Array.toList_setIfInBounds, List.length_cons]
    apply List.ext_getElem?
    intro i
    rcases Nat.lt_trichotomy i off with hi | hi | hi
    · rw [List.getElem?_append_left (by simp; omega), List.getElem?_append_left (by simp; omega), List.getElem?_append_left (by simp; omega), List.getElem?_append_left (by simp; omega), List.getElem?_take_of_lt (by omega), List.getElem?_take_of_lt hi, List.getElem?_set_ne (by omega)]
    · subst hi
      rw [List.getElem?_append_left (by simp; omega), List.getElem?_append_left (by simp; omega), List.getElem?_take_of_lt (by omega), List.getElem?_set_self (by simp; omega), List.getElem?_append_left (by simp; omega), List.getElem?_append_right (by simp; omega)]
      simp [List.length_take, Nat.min_eq_left (show i ≤ cur.size by omega)]
    · by_cases hi2 : i < off + 1 + us.length
      · rw [List.getElem?_append_left (by simp; omega), List.getElem?_append_right (by simp; omega), List.getElem?_append_left (by simp; omega), List.getElem?_append_right (by simp; omega)]
        simp only [List.length_take, List.length_set, Array.length_toList]
        rw [Nat.min_eq_left (by omega), Nat.min_eq_left (by omega), show i - off = (i - (off + 1)) + 1 by omega, List.getElem?_cons_succ]
      · rw [List.getElem?_append_right (by simp; omega), List.getElem?_append_right (by simp; omega)]
        simp only [List.length_append, List.length_take, List.length_set, Array.length_toList, List.length_cons, List.getElem?_drop]
        rw [Nat.min_eq_left (by omega), Nat.min_eq_left (by omega), List.getElem?_set_ne (by omega)]
        congr 1
        omega

theorem putCells_other (g : Nat) (us : List Value) : ∀ (w : World) (off b : Nat), b ≠ g → (putCells w g off us).heap[b]? = w.heap[b]? := by
  induction us with
  | nil => intro w off b _; rfl
  | cons u us ih => intro w off b hb; exact (ih _ _ _ hb).trans (Below.heap_setCell w ⟨g, off, none⟩ u b hb)

theorem putCells_below {B g : Nat} (us : List Value) (hg : B ≤ g) : ∀ {a w : World} {off : Nat}, Below B a w → Below B a (putCells w g off us) := by
  induction us with
  | nil => intro a w off h; exact h
  | cons u us ih => intro a w off h; exact ih (h.setCell (p := ⟨g, off, none⟩) hg u)

theorem putCells_size {g : Nat} (us : List Value) : ∀ (w : World) (off : Nat), (putCells w g off us).heap.size = w.heap.size := by
  induction us with
  | nil => intro w off; rfl
  | cons u us ih => intro w off; exact (ih _ _).trans (by simp [World.setCell])

theorem Fill.step {w : World} {g : Nat} {e : TypeId} {size n k : Nat} {xs : List Value} (h : Fill w g e size n k xs) (hk : k < n) (us : List Value) (hu : us.length = size) :
    Fill (putCells w g (k * size) us) g e size n (k + 1) (xs ++ us) := by
  obtain ⟨cur, h1, h2, h3⟩ := h
  have hle : k * size + size ≤ n * size := by rw [← Nat.succ_mul]; exact Nat.mul_le_mul_right size hk
  obtain ⟨cur', g1, g2, g3⟩ := putCells_block g e us w (k * size) cur h1 (by omega)
  refine ⟨cur', g1, g2.trans h2, ?_⟩
  have hlen : (xs ++ us).length = (k + 1) * size := by
    rw [← h3, List.length_append, hu, List.length_take, Array.length_toList, Nat.min_eq_left (by omega), Nat.succ_mul]
  rw [g3, h3, ← hlen, List.take_left]

theorem Fill.own {w : World} {g base : Nat} {e : TypeId} {size n : Nat} {xs : List Value} (h : Fill w g e size n n xs) (hg : base ≤ g) (hn : n ≤ maxLen) : w.ownsRow base e size (.slice (some ⟨g, 0, none⟩) n n) n xs := by
  obtain ⟨cur, h1, h2, h3⟩ := h
  refine ⟨by rw [← h3, List.length_take, Array.length_toList, h2, Nat.min_self], .inr ⟨g, n, cur, rfl, hg, h1, Nat.le_refl _, hn, h2, h3⟩⟩

theorem grown_of_below {a w : World} (h : Below a.heap.size a w) (row : Option Nat) : a.grownBy w row := ⟨h.os, h.tape, h.output, h.size, fun i hi _ => h.block i hi⟩
theorem own_below {w w' : World} {base : Nat} {e : TypeId} {size n : Nat} {v : Value} {xs : List Value} (h : w.ownsRow base e size v n xs) (hb : Below w.heap.size w w') : w'.ownsRow base e size v n xs := by
  refine ⟨h.1, ?_⟩
  rcases h.2 with hn | ⟨g, cap, cur, rfl, hb0, hg, rest⟩
  · exact .inl hn
  · exact .inr ⟨g, cap, cur, rfl, hb0, (hb.block g (Array.getElem?_eq_some_iff.1 hg).1).trans hg, rest⟩
theorem own_base {w : World} {base base' : Nat} {e : TypeId} {size n : Nat} {v : Value} {xs : List Value} (h : w.ownsRow base e size v n xs) (hb : base' ≤ base) : w.ownsRow base' e size v n xs := by
  refine ⟨h.1, ?_⟩
  rcases h.2 with hn | ⟨g, cap, cur, rfl, hb0, rest⟩
  · exact .inl hn
  · exact .inr ⟨g, cap, cur, rfl, by omega, rest⟩

theorem own_apart {w w' : World} {b1 : Nat} {e1 e2 : TypeId} {s1 s2 n1 n2 : Nat} {v1 v2 : Value} {x1 x2 : List Value} (h1 : w.ownsRow b1 e1 s1 v1 n1 x1) (h2 : w'.ownsRow w.heap.size e2 s2 v2 n2 x2) : v2.ownBlock = none ∨ v2.ownBlock ≠ v1.ownBlock := by
  cases hv : v2.ownBlock with
  | none => exact .inl rfl
  | some k =>
    right
    intro he
    have := (h2.lt k hv).1
    have := (h1.lt k he.symm).2
    omega
theorem own_apart' {w w' : World} {b1 : Nat} {e1 e2 : TypeId} {s1 s2 n1 n2 : Nat} {v1 v2 : Value} {x1 x2 : List Value} (h1 : w.ownsRow b1 e1 s1 v1 n1 x1) (h2 : w'.ownsRow w.heap.size e2 s2 v2 n2 x2) : v1.ownBlock = none ∨ v1.ownBlock ≠ v2.ownBlock := by
  cases hv : v1.ownBlock with
  | none => exact .inl rfl
  | some k =>
    right
    intro he
    have := (h2.lt k he.symm).1
    have := (h1.lt k hv).2
    omega

theorem grown_setCell (w : World) (p : Addr) (u : Value) : w.grownBy (w.setCell p u) (some p.block) :=
  ⟨rfl, rfl, rfl, by simp [World.setCell], fun k _ hk => Below.heap_setCell w p u k (fun e => hk (by rw [e]))⟩
theorem own_setCell {w : World} {base : Nat} {e : TypeId} {size n : Nat} {v : Value} {xs : List Value} (h : w.ownsRow base e size v n xs) (p : Addr) (u : Value) (hp : p.block < base) : (w.setCell p u).ownsRow base e size v n xs := by
  refine h.kept (grown_setCell w p u) ?_
  cases hv : v.ownBlock with
  | none => exact .inl rfl
  | some k =>
    right
    intro he
    have := (h.lt k hv).1
    injection he with he
    omega

/-- the new cells of one element, laid in a new block -/
theorem news_new (w : World) (cs : Array Value) (e : TypeId) : ∀ j u, cs.toList[j]? = some u → (w.alloc (.cells cs e)).cell? ((⟨w.heap.size, 0, none⟩ : Addr).add j) = some u :=
  World.news_of_block (heap_alloc_new w (.cells cs e))

section
variable {P : Program}

/-- 'out = append(out, x)': x lies in the block that was made last -/
theorem wpList_push {ops : Array Oper} {rest : List Oper} {o : Oper} {a : Act} {Q : Exit → Act → World → Prop} (hgd : o.guard = none) (s x : Operand) (t : TypeId)
    (ho : o.op = .call { callee := .builtin .append, args := #[s, x], argTypes := #[t, t] })
    (base : Nat) (e : TypeId) (z : Value) (size bytes : Nat) (ht : P.underlying t = some (.slice e)) (hi : (P.info? e).map (fun i => (i.zero, i.size, i.bytes)) = some (some z, size, bytes)) (hzs : z.cells.size = size) (hsz : 0 < size)
    (w : World) (v : Value) (n : Nat) (xs : List Value) (cs : Array Value) (hs : a.eval s = v) (hx : a.eval x = .slice (some ⟨w.heap.size, 0, none⟩) 1 1)
    (hown : w.ownsRow base e size v n xs) (hcs : cs.size = size) (h1 : ∀ u ∈ cs.toList, u.oneCell' = true)
    (h63 : n + 1 ≤ 1099511627776) (hbytes : (n + 1) * bytes ≤ 140737488355328) (hbase : base ≤ w.heap.size)
    (h : ∀ v' w', w'.ownsRow base e size v' (n + 1) (xs ++ cs.toList) → w.grownBy w' v.ownBlock → (v'.ownBlock = v.ownBlock ∨ v'.ownBlock = some (w.heap.size + 1)) → Below base w w' → wpList P ops Q rest (a.put o.dst v') w') :
    wpList P ops Q (o :: rest) a (w.alloc (.cells cs e)) := by
  obtain ⟨i, h2, h3, h4, h5⟩ := info_parts hi
  have hbl : Below w.heap.size w (w.alloc (.cells cs e)) := (Below.refl _ _).alloc (Nat.le_refl _) _
  refine wpList_append_own_at (P := P) (w.alloc (.cells cs e)) hgd s x t ho base e i z size bytes ht h2 h3 h4 h5 hzs hsz v n xs hs (own_below hown hbl) ⟨w.heap.size, 0, none⟩ 1 1 cs.toList hx (by simpa using hcs) (news_new w cs e) h1
    (by unfold maxLen; omega) hbytes (by simp; omega) ?_
  intro v' w' g1 g2 _ g3
  have hrow : ∀ k, v.ownBlock = some k → base ≤ k := fun k hk => (hown.lt k hk).1
  refine h v' w' g1 ?_ (by simpa using g3) ((hbl.mono hbase).grown g2 (by simp; omega) hrow)
  exact (grown_of_below hbl v.ownBlock).trans g2

/-- the cells of a slice that is appended from -/
def Src (w : World) (size : Nat) (A : Option Addr) (m : Nat) (news : List Value) : Prop :=
  news.length = m * size ∧ (∀ u ∈ news, u.oneCell' = true) ∧ (0 < m → ∃ b off, A = some ⟨b, off, none⟩ ∧ At w b off news)

theorem Src.below {w w' : World} {size m : Nat} {A : Option Addr} {news : List Value} (h : Src w size A m news) (hsz : 0 < size) (hb : Below w.heap.size w w') : Src w' size A m news := by
  refine ⟨h.1, h.2.1, fun hm => ?_⟩
  obtain ⟨b, off, rfl, hat⟩ := h.2.2 hm
  have hl : 0 < news.length := by rw [h.1]; exact Nat.mul_pos hm hsz
  have hlt : b < w.heap.size := World.block_lt_of_cell? w ⟨b, off + 0, none⟩ (hat 0 _ (List.getElem?_eq_getElem hl))
  exact ⟨b, off, rfl, hat.keep (hb.block b hlt)⟩

theorem add_plain (b off j : Nat) : (⟨b, off, none⟩ : Addr).add j = ⟨b, off + j, none⟩ := by unfold Addr.add; split <;> simp_all

/-- 'out = append(out, xs...)' -/
theorem wpList_cat {ops : Array Oper} {rest : List Oper} {o : Oper} {a : Act} {Q : Exit → Act → World → Prop} (hgd : o.guard = none) (s x : Operand) (t : TypeId)
    (ho : o.op = .call { callee := .builtin .append, args := #[s, x], argTypes := #[t, t] })
    (base : Nat) (e : TypeId) (z : Value) (size bytes : Nat) (ht : P.underlying t = some (.slice e)) (hi : (P.info? e).map (fun i => (i.zero, i.size, i.bytes)) = some (some z, size, bytes)) (hzs : z.cells.size = size) (hsz : 0 < size)
    (w : World) (v : Value) (n : Nat) (xs : List Value) (hs : a.eval s = v) (hown : w.ownsRow base e size v n xs)
    (A : Option Addr) (m c : Nat) (news : List Value) (hx : a.eval x = .slice A m c) (hsrc : Src w size A m news)
    (h63 : n + m ≤ 1099511627776) (hbytes : (n + m) * bytes ≤ 140737488355328) (hbase : base ≤ w.heap.size)
    (h : ∀ v' w', w'.ownsRow base e size v' (n + m) (xs ++ news) → w.grownBy w' v.ownBlock → (v'.ownBlock = v.ownBlock ∨ v'.ownBlock = some w.heap.size) → Below base w w' → wpList P ops Q rest (a.put o.dst v') w') :
    wpList P ops Q (o :: rest) a w := by
  obtain ⟨i, h2, h3, h4, h5⟩ := info_parts hi
  have hrow : ∀ k, v.ownBlock = some k → base ≤ k := fun k hk => (hown.lt k hk).1
  rcases A with _ | ad
  · have hm : m = 0 := by
      rcases Nat.eq_zero_or_pos m with h0 | h0
      · exact h0
      · obtain ⟨b, off, h, _⟩ := hsrc.2.2 h0
        cases h
    subst hm
    have hn : news = [] := List.eq_nil_of_length_eq_zero (by simpa using hsrc.1)
    subst hn
    have hrun : (Builtin.append_ #[t, t] o.type #[v, .slice none 0 c]).run P w = .ok v w := by
      rcases hown.2 with ⟨rfl, rfl⟩ | ⟨g, cap, cur, rfl, _, _, hnc, _⟩
      · simp [Builtin.append_, run_underlying ht, sizeOf, typeInfo, h2, Builtin.lenOf, Builtin.firstCells]
      · simp [Builtin.append_, run_underlying ht, sizeOf, typeInfo, h2, Builtin.lenOf, Builtin.firstCells, hnc, storeCells]
    refine wpList_plain hgd fun K hK => ?_
    unfold Oper.wp execOp
    simp only [ho, resolve, invoke, builtin, Sem.run_bind, Sem.run_pure, Result.andThen_ok, List.map_toArray, List.map_cons, List.map_nil, hs, hx, hrun]
    exact hK _ _ (h v w (by simpa using hown) (World.grownBy.refl w _) (.inl rfl) (Below.refl _ _))
  · refine wpList_append_own_at (P := P) w hgd s x t ho base e i z size bytes ht h2 h3 h4 h5 hzs hsz v n xs hs hown ad m c news hx hsrc.1 ?_ hsrc.2.1 (by unfold maxLen; omega) hbytes hbase ?_
    · intro j u hu
      have hj := (List.getElem?_eq_some_iff.1 hu).1
      have hm : 0 < m := by
        rcases Nat.eq_zero_or_pos m with h0 | h0
        · have h9 := hsrc.1
          rw [h0, Nat.zero_mul] at h9
          omega
        · exact h0
      obtain ⟨b, off, hA, hat⟩ := hsrc.2.2 hm
      injection hA with hA
      subst hA
      rw [add_plain]
      exact hat j u hu
    · intro v' w' g1 g2 _ g3
      exact h v' w' g1 g2 g3 ((Below.refl _ _).grown g2 hbase hrow)
end

theorem flat_split {α : Type} (f : α → List Value) (size : Nat) (l : List α) (hf : ∀ x ∈ l, (f x).length = size) (hsz : 0 < size) (j : Nat) (u : Value) (hu : (l.flatMap f)[j]? = some u) :
    ∃ k i, ∃ hk : k < l.length, i < size ∧ j = k * size + i ∧ (f l[k])[i]? = some u := by
  have hj := (List.getElem?_eq_some_iff.1 hu).1
  rw [flat_length f size l hf] at hj
  have hk : j / size < l.length := (Nat.div_lt_iff_lt_mul hsz).2 hj
  have hi : j % size < size := Nat.mod_lt _ hsz
  have he : j = (j / size) * size + j % size := by rw [Nat.mul_comm]; exact (Nat.div_add_mod j size).symm
  refine ⟨j / size, j % size, hk, hi, he, ?_⟩
  rw [← flat_at f size l hf (j / size) (j % size) hk hi, ← he]
  exact hu

/-- a slice that reads by closed cells can be appended from -/
theorem SlR.src {α : Type} {w : World} {size : Nat} {R : List Value → α → Prop} {A : Option Addr} {m c : Nat} {l : List α} (h : SlR w size R (.slice A m c) l) (f : α → List Value) (hsz : 0 < size)
    (hf : ∀ cs x, R cs x → cs = f x) (h1 : ∀ x ∈ l, ∀ u ∈ f x, u.oneCell' = true) : m = l.length ∧ Src w size A l.length (l.flatMap f) := by
  obtain ⟨A', c', hv, hn, hc, hx⟩ := h
  injection hv with e1 e2 e3
  subst e1 e2 e3
  refine ⟨rfl, ?_⟩
  have hlen : ∀ x ∈ l, (f x).length = size := by
    intro x hx'
    obtain ⟨k, hk, rfl⟩ := List.getElem_of_mem hx'
    obtain ⟨b, off, _, _, hat⟩ := hx (by omega)
    obtain ⟨cs, g1, _, g3⟩ := hat k hk
    rw [← hf _ _ g3]
    exact g1
  refine ⟨flat_length f size l hlen, ?_, ?_⟩
  · intro u hu
    obtain ⟨x, hx', hu'⟩ := List.mem_flatMap.1 hu
    exact h1 x hx' u hu'
  · intro hm
    obtain ⟨b, off, rfl, _, hat⟩ := hx hm
    refine ⟨b, off, rfl, fun j u hu => ?_⟩
    obtain ⟨k, i, hk, hi, rfl, hu'⟩ := flat_split f size l hlen hsz j u hu
    obtain ⟨cs, g1, g2, g3⟩ := hat k hk
    rw [← hf _ _ g3] at hu'
    rw [← Nat.add_assoc]
    exact g2 i u hu'

theorem Txts.src {w : World} {A : Option Addr} {m c : Nat} {l : List (List UInt8)} (h : Txts w (.slice A m c) l) : m = l.length ∧ Src w 1 A l.length (l.map fun s => Value.string (str s)) := by
  rw [map_flat]
  exact SlR.src h (fun s => [Value.string (str s)]) (by omega) (fun cs x hc => hc.1) (fun x _ u hu => by simp at hu; subst hu; rfl)
theorem Ints.src {w : World} {A : Option Addr} {m c : Nat} {l : List Int} (h : Ints w (.slice A m c) l) : m = l.length ∧ Src w 1 A l.length (l.map fun n => Value.int .i64 n) := by
  rw [map_flat]
  exact SlR.src h (fun n => [Value.int .i64 n]) (by omega) (fun cs x hc => hc.1) (fun x _ u hu => by simp at hu; subst hu; rfl)
end Go.Proofs.Ytconhpilbndpkaa
