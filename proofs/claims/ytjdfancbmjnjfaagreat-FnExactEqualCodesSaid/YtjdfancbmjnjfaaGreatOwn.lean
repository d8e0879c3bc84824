/-
  Memory of a value's own: the blocks that satisfy S; what is kept where those blocks are kept. A block that is known whole.
-/
import Derived.Test.YtjdfancbmjnjfaaGreatStrs
import Derived.Test.YtjdfancbmjnjfaaGreatOpen
import Derived.StillTailTactics
namespace Go.Proofs.YtjdfancbmjnjfaaGreat
set_option maxRecDepth 100000
open Go.ChangeShapes Go.WideShapes Go.ChangeAt Go.RowKit Go.Deep

/-- the blocks in S are as they were -/
def Keeps (S : Nat → Prop) (w w' : World) : Prop := w.heap.size ≤ w'.heap.size ∧ ∀ b, b < w.heap.size → S b → w'.heap[b]? = w.heap[b]?

theorem Keeps.refl (S : Nat → Prop) (w : World) : Keeps S w w := ⟨Nat.le_refl _, fun _ _ _ => rfl⟩
theorem Keeps.trans {S : Nat → Prop} {a b c : World} (h : Keeps S a b) (k : Keeps S b c) : Keeps S a c :=
  ⟨Nat.le_trans h.1 k.1, fun i hi hs => (k.2 i (Nat.lt_of_lt_of_le hi h.1) hs).trans (h.2 i hi hs)⟩
theorem Keeps.of_below (S : Nat → Prop) {w w' : World} (h : Below w.heap.size w w') : Keeps S w w' := ⟨h.size, fun b hb _ => h.block b hb⟩
theorem Keeps.setCell {S : Nat → Prop} (w : World) (p : Addr) (u : Value) (hp : ¬ S p.block) : Keeps S w (w.setCell p u) :=
  ⟨by simp [World.setCell], fun b _ hs => Below.heap_setCell w p u b (fun e => hp (e ▸ hs))⟩
theorem Keeps.sc {S : Nat → Prop} {a w : World} (h : Keeps S a w) {b o : Nat} (hp : ¬ S b) (u : Value) : Keeps S a (w.setCell ⟨b, o, none⟩ u) := h.trans (Keeps.setCell w ⟨b, o, none⟩ u hp)
theorem Keeps.mono {S S' : Nat → Prop} {w w' : World} (h : Keeps S w w') (hs : ∀ b, S' b → S b) : Keeps S' w w' := ⟨h.1, fun b hb hb' => h.2 b hb (hs b hb')⟩

theorem below_sc {B : Nat} {a w : World} (h : Below B a w) {b o : Nat} (hp : B ≤ b) (u : Value) : Below B a (w.setCell ⟨b, o, none⟩ u) := h.setCell (p := ⟨b, o, none⟩) hp u
theorem size_sc (w : World) (p : Addr) (u : Value) : (w.setCell p u).heap.size = w.heap.size := by simp [World.setCell]

/-- blocks from lo on, before hi -/
def Rng (lo hi : Nat) (b : Nat) : Prop := lo ≤ b ∧ b < hi

/-- a flat row of a value's own -/
def FlO (S : Nat → Prop) (w : World) (e : TypeId) (size : Nat) (v : Value) (n : Nat) (xs : List Value) : Prop :=
  w.ownsRow 0 e size v n xs ∧ ∀ k, v.ownBlock = some k → S k

theorem FlO.keeps {S : Nat → Prop} {w w' : World} {e : TypeId} {size n : Nat} {v : Value} {xs : List Value} (h : FlO S w e size v n xs) (hk : Keeps S w w') : FlO S w' e size v n xs := by
  refine ⟨⟨h.1.1, ?_⟩, h.2⟩
  rcases h.1.2 with hn | ⟨g, cap, cur, rfl, hb0, hg, rest⟩
  · exact .inl hn
  · exact .inr ⟨g, cap, cur, rfl, hb0, (hk.2 g (Array.getElem?_eq_some_iff.1 hg).1 (h.2 g rfl)).trans hg, rest⟩
theorem FlO.mono {S S' : Nat → Prop} {w : World} {e : TypeId} {size n : Nat} {v : Value} {xs : List Value} (h : FlO S w e size v n xs) (hs : ∀ b, S b → S' b) : FlO S' w e size v n xs := ⟨h.1, fun k hk => hs k (h.2 k hk)⟩
theorem FlO.of_own {w : World} {base : Nat} {e : TypeId} {size n : Nat} {v : Value} {xs : List Value} (h : w.ownsRow base e size v n xs) : FlO (Rng base w.heap.size) w e size v n xs :=
  ⟨own_base h (Nat.zero_le _), fun k hk => h.lt k hk⟩
theorem FlO.nil_ (S : Nat → Prop) (w : World) (e : TypeId) (size : Nat) : FlO S w e size (.slice none 0 0) 0 [] := ⟨World.ownsRow_nil _ _ _ _, fun k hk => by simp [Value.ownBlock] at hk⟩

/-- strings of a value's own -/
def TxtO (S : Nat → Prop) (w : World) (v : Value) (l : List (List UInt8)) : Prop := FlO S w 9 1 v l.length (l.map fun s => Value.string (str s)) ∧ ∀ s ∈ l, s.length ≤ maxLen
theorem TxtO.keeps {S : Nat → Prop} {w w' : World} {v : Value} {l : List (List UInt8)} (h : TxtO S w v l) (hk : Keeps S w w') : TxtO S w' v l := ⟨h.1.keeps hk, h.2⟩
theorem TxtO.mono {S S' : Nat → Prop} {w : World} {v : Value} {l : List (List UInt8)} (h : TxtO S w v l) (hs : ∀ b, S b → S' b) : TxtO S' w v l := ⟨h.1.mono hs, h.2⟩
theorem TxtO.read {S : Nat → Prop} {w : World} {v : Value} {l : List (List UInt8)} (h : TxtO S w v l) : Txts w v l := Txts.of_own h.1.1 h.2

/-- block g is just the cells cs -/
def Blk (w : World) (g : Nat) (t : TypeId) (cs : List Value) : Prop := w.heap[g]? = some (.cells cs.toArray t (0, 0))
theorem Blk.lt {w : World} {g : Nat} {t : TypeId} {cs : List Value} (h : Blk w g t cs) : g < w.heap.size := (Array.getElem?_eq_some_iff.1 h).1
theorem Blk.cell {w : World} {g : Nat} {t : TypeId} {cs : List Value} (h : Blk w g t cs) (j : Nat) (u : Value) (hj : cs[j]? = some u) : w.cell? ⟨g, j, none⟩ = some u := by
  unfold Blk at h
  simp [World.cell?, h, hj]
theorem Blk.frozen {w : World} {g : Nat} {t : TypeId} {cs : List Value} (h : Blk w g t cs) (j : Nat) : w.frozen? ⟨g, j, none⟩ = false := by
  unfold Blk at h
  simp [World.frozen?, h]
theorem Blk.new (w : World) (t : TypeId) (cs : List Value) : Blk (w.alloc (.cells cs.toArray t)) w.heap.size t cs := heap_alloc_new w _
theorem Blk.new_at (w : World) (t : TypeId) (cs : List Value) (g : Nat) (hg : g = w.heap.size) : Blk (w.alloc (.cells cs.toArray t)) g t cs := by
  subst hg
  exact Blk.new w t cs
theorem Blk.alloc {w : World} {g : Nat} {t : TypeId} {cs : List Value} (h : Blk w g t cs) (o : Obj) : Blk (w.alloc o) g t cs := (Below.heap_alloc w o g h.lt).trans h
theorem Blk.set_ {w : World} {g : Nat} {t : TypeId} {cs : List Value} (h : Blk w g t cs) (i : Nat) (u : Value) : Blk (w.setCell ⟨g, i, none⟩ u) g t (cs.set i u) := by
  unfold Blk at h ⊢
  rw [heap_setCell_same w g i _ t u h]
  simp
theorem Blk.below {w w' : World} {g : Nat} {t : TypeId} {cs : List Value} (h : Blk w g t cs) (hb : Below w.heap.size w w') : Blk w' g t cs := (hb.block g h.lt).trans h
theorem Blk.far {w : World} {g : Nat} {t : TypeId} {cs : List Value} (h : Blk w g t cs) (p : Addr) (hp : g ≠ p.block) (u : Value) : Blk (w.setCell p u) g t cs := (Below.heap_setCell w p u g hp).trans h

theorem laws_toStringS_own (l : List (List UInt8)) (v : Value) (w : World) (h : Txts w v l) (hl : szL l ≤ 1048576) :
    Calls Tryz.prog 87 #[v] w fun e w' => ∃ A c, e = .returned (.slice A l.length c) ∧ TxtO (Rng w.heap.size w'.heap.size) w' (.slice A l.length c) l ∧ Below w.heap.size w w' :=
  (laws_toStringS l v w h (Nat.le_trans (szL_length l) hl)).mono fun e w' ⟨v', he, ho, ht, hb⟩ => by
    obtain ⟨A, c, rfl⟩ := SlR.shape ht
    exact ⟨A, c, he, ⟨FlO.of_own ho, ht.small⟩, hb⟩

theorem laws_szStringS_b (l : List (List UInt8)) (v : Value) (left : Int) (w : World) (h : Txts w v l) (h0 : 0 ≤ left) (h1 : left ≤ 1048576) :
    Calls Tryz.prog 78 #[v, .int .i64 left] w fun e w' => e = .returned (.int .i64 (szR left (szL l))) ∧ Below w.heap.size w w' :=
  (laws_szStringS l v left w h h0 h1).mono fun _ _ ⟨he, hw⟩ => ⟨he, by rw [← hw]; exact Below.refl _ _⟩
theorem cells_slice_string : Tryz.prog.cellsOf 46 = 1 := by kernel_rfl

/-- two blocks known whole, and nothing below B has changed -/
def Ex2 (w : World) (B g t : Nat) (cs : List Value) (g' t' : Nat) (cs' : List Value) (W : World) : Prop := Blk W g t cs ∧ Blk W g' t' cs' ∧ Below B w W ∧ B ≤ W.heap.size
theorem Ex2.below {w W W' : World} {B g t g' t' : Nat} {cs cs' : List Value} (h : Ex2 w B g t cs g' t' cs' W) (hb : Below W.heap.size W W') : Ex2 w B g t cs g' t' cs' W' :=
  ⟨h.1.below hb, h.2.1.below hb, h.2.2.1.trans (hb.mono h.2.2.2), Nat.le_trans h.2.2.2 hb.size⟩
theorem Ex2.drew {w W : World} {B g t g' t' : Nat} {cs cs' : List Value} (h : Ex2 w B g t cs g' t' cs' W) : Ex2 w B g t cs g' t' cs' W.drew := ⟨h.1, h.2.1, h.2.2.1.drew, h.2.2.2⟩

/-- some blocks known whole, and nothing below B has changed -/
def ExL (w : World) (B : Nat) (bs : List (Nat × Nat × List Value)) (W : World) : Prop := (∀ p ∈ bs, Blk W p.1 p.2.1 p.2.2) ∧ Below B w W ∧ B ≤ W.heap.size
theorem ExL.below {w W W' : World} {B : Nat} {bs : List (Nat × Nat × List Value)} (h : ExL w B bs W) (hb : Below W.heap.size W W') : ExL w B bs W' :=
  ⟨fun p hp => (h.1 p hp).below hb, h.2.1.trans (hb.mono h.2.2), Nat.le_trans h.2.2 hb.size⟩
theorem ExL.drew {w W : World} {B : Nat} {bs : List (Nat × Nat × List Value)} (h : ExL w B bs W) : ExL w B bs W.drew := ⟨h.1, h.2.1.drew, h.2.2⟩
theorem ExL.push {w W : World} {B : Nat} {bs : List (Nat × Nat × List Value)} (h : ExL w B bs W) (t : Nat) (cs : List Value) : ExL w B ((W.heap.size, t, cs) :: bs) (W.alloc (.cells cs.toArray t)) :=
  ⟨fun p hp => by
    rcases List.mem_cons.1 hp with rfl | hp
    · exact Blk.new W t cs
    · exact (h.1 p hp).alloc _, h.2.1.alloc h.2.2 _, by simp; have := h.2.2; omega⟩
theorem ExL.start (w : World) : ExL w w.heap.size [] w := ⟨fun p hp => by simp at hp, Below.refl _ _, Nat.le_refl _⟩
theorem ExL.b0 {w W : World} {B : Nat} {p : Nat × Nat × List Value} {bs : List (Nat × Nat × List Value)} (h : ExL w B (p :: bs) W) : Blk W p.1 p.2.1 p.2.2 := h.1 p (.head _)
theorem ExL.tail {w W : World} {B : Nat} {p : Nat × Nat × List Value} {bs : List (Nat × Nat × List Value)} (h : ExL w B (p :: bs) W) : ExL w B bs W := ⟨fun q hq => h.1 q (.tail _ hq), h.2⟩

/-- a call in a world of which only Q is known -/
theorem abs_w {P : Program} {f : FuncId} {args : Array Value} {W : World} {R : Ending → World → Prop} (Q : World → Prop) (hQ : Q W) (h : ∀ w', Q w' → Calls P f args w' R) : Calls P f args W R := h W hQ
end Go.Proofs.YtjdfancbmjnjfaaGreat
