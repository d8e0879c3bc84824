/-
  A vector that is being drawn: the boxes of the draw, the vector in memory of its own below a mark.
-/
import Derived.Test.YtjdimlhdkmkmbaaDrawVec
import Derived.Test.YtjdimlhdkmkmbaaKStE
namespace Go.Proofs.Ytjdimlhdkmkmbaa
set_option maxRecDepth 100000
open Go.ChangeShapes Go.WideShapes Go.ChangeAt Go.RowKit Go.Deep
set_option linter.unusedVariables false

/-- the boxes of a draw: the result's, the vector's -/
structure BV (g : Nat) (v : Value) (l : List Nat) (w : World) (b : Nat) (cs : List Value) (W : World) : Prop where
  cur : Cur W g v l
  res : Blk W w.heap.size 28 nvZ
  bx : Blk W b 28 cs
  only : Only g w W
  lo : w.heap.size + 1 ≤ b
section
variable {g : Nat} {v : Value} {l : List Nat} {w : World} {b : Nat} {cs : List Value} {W W' : World}
theorem BV.next (h : Ok (BV g v l w b cs) W) (hg : g < w.heap.size) (hc : Cur W' g v l) (ho : Only g W W') : Ok (BV g v l w b cs) W' :=
  have hl := BV.lo h
  ⟨hc, (ho.block _ (BV.res h).lt (fun e => by injection e with e; omega)).trans (BV.res h), (ho.block _ (BV.bx h).lt (fun e => by injection e with e; omega)).trans (BV.bx h), (BV.only h).trans ho, hl⟩
theorem BV.step (h : Ok (BV g v l w b cs) W) (hb : Below W.heap.size W W') : Ok (BV g v l w b cs) W' :=
  ⟨Cur.below_ (BV.cur h) hb, (BV.res h).below hb, (BV.bx h).below hb, (BV.only h).trans (Only.of_below hb), BV.lo h⟩
theorem BV.far (h : Ok (BV g v l w b cs) W) (hg : g < w.heap.size) (hy : Bytes w v l) (ha : Apart l.length g v) (hb : Below (w.heap.size + 1) W W') : Cur W' g v l ∧ Blk W' w.heap.size 28 nvZ ∧ Only g w W' :=
  have ho := (BV.only h).belowB (hb.mono (by omega))
  ⟨Cur.next (BV.cur h) (hb.mono (B' := w.heap.size) (by omega)) hg (hy.only ha ho), (hb.block _ (by omega)).trans (BV.res h), ho⟩
theorem BV.grow {row : Option Nat} (h : Ok (BV g v l w b cs) W) (hg : g < w.heap.size) (hy : Bytes w v l) (ha : Apart l.length g v) (hb : Below (w.heap.size + 1) W W') (hgr : W.grownBy W' row) (hne : ∀ x, row = some x → x ≠ b) : Ok (BV g v l w b cs) W' :=
  have h3 := BV.far h hg hy ha hb
  ⟨h3.1, h3.2.1, (hgr.block b (BV.bx h).lt (fun e => hne b e.symm rfl)).trans (BV.bx h), h3.2.2, BV.lo h⟩
theorem BV.put (h : Ok (BV g v l w b cs) W) (hg : g < w.heap.size) (hy : Bytes w v l) (ha : Apart l.length g v) (i : Nat) (u : Value) : Ok (BV g v l w b (cs.set i u)) (W.setCell ⟨b, i, none⟩ u) :=
  have h3 := BV.far h hg hy ha (below_sc (Below.refl _ _) (BV.lo h) u (o := i))
  ⟨h3.1, h3.2.1, (BV.bx h).set_ i u, h3.2.2, BV.lo h⟩
end
/-- the boxes and the vector, which lies below q -/
structure SV (g : Nat) (v : Value) (l : List Nat) (w : World) (b : Nat) (cs : List Value) (q : Nat) (d : VecD) (W : World) : Prop where
  bc : Ok (BV g v l w b cs) W
  st : VecO (fun x => Rng (w.heap.size + 1) q x ∧ x ≠ b) W cs d
  rq : b < q
  qs : q ≤ W.heap.size
section
variable {g : Nat} {v : Value} {l : List Nat} {w : World} {b : Nat} {cs : List Value} {q : Nat} {d : VecD} {W W' : World}
theorem SV.next (h : SV g v l w b cs q d W) (hg : g < w.heap.size) (hc : Cur W' g v l) (ho : Only g W W') : SV g v l w b cs q d W' :=
  ⟨BV.next h.bc hg hc ho, h.st.keeps (Keeps.grown ho fun x hb e => by injection e with e; have := hb.1.1; omega), h.rq, Nat.le_trans h.qs ho.size⟩
theorem SV.step (h : SV g v l w b cs q d W) (hb : Below W.heap.size W W') : SV g v l w b cs q d W' :=
  ⟨BV.step h.bc hb, h.st.keeps (Keeps.of_below _ hb), h.rq, Nat.le_trans h.qs hb.size⟩
theorem SV.above (h : SV g v l w b cs q d W) (hg : g < w.heap.size) (hy : Bytes w v l) (ha : Apart l.length g v) (hb : Below q W W') : SV g v l w b cs q d W' :=
  have hl := BV.lo h.bc
  have hr := h.rq
  have h3 := BV.far h.bc hg hy ha (hb.mono (by omega))
  ⟨⟨h3.1, h3.2.1, (hb.block _ hr).trans (BV.bx h.bc), h3.2.2, hl⟩, h.st.keeps ⟨hb.size, fun x _ hx => hb.block x hx.1.2⟩, hr, Nat.le_trans h.qs hb.size⟩
theorem SV.rebase (h : SV g v l w b cs q d W) : SV g v l w b cs W.heap.size d W :=
  ⟨h.bc, h.st.mono fun x hb => ⟨⟨hb.1.1, Nat.lt_of_lt_of_le hb.1.2 h.qs⟩, hb.2⟩, Nat.lt_of_lt_of_le h.rq h.qs, Nat.le_refl _⟩
/-- a cell of the box is written; the vector is then another one -/
theorem SV.put (h : Ok (BV g v l w b cs) W) (hg : g < w.heap.size) (hy : Bytes w v l) (ha : Apart l.length g v) (i : Nat) (u : Value) {d' : VecD} (hv : VecO (fun x => Rng (w.heap.size + 1) W.heap.size x ∧ x ≠ b) W (cs.set i u) d') :
    SV g v l w b (cs.set i u) W.heap.size d' (W.setCell ⟨b, i, none⟩ u) :=
  ⟨BV.put h hg hy ha i u, hv.keeps ((Keeps.refl _ _).sc (fun hb => hb.2 rfl) _), (BV.bx h).lt, by rw [size_sc]; exact Nat.le_refl _⟩
/-- a box of its own for a vector that has just been made -/
theorem SV.make {w1 : World} (hC : Cur w1 g v l) (hr : Blk w1 w.heap.size 28 nvZ) (ho : Only g w w1) (hV : VecO (Rng (w.heap.size + 1) w1.heap.size) w1 cs d) (hs : w.heap.size + 1 ≤ w1.heap.size) :
    SV g v l w w1.heap.size cs (w1.heap.size + 1) d (w1.alloc (.cells cs.toArray 28)) :=
  have hb := (Below.refl w1.heap.size w1).alloc (Nat.le_refl _) (.cells cs.toArray 28)
  ⟨⟨Cur.below_ hC hb, hr.below hb, Blk.new w1 _ cs, ho.trans (Only.of_below hb), hs⟩, (hV.keeps (Keeps.of_below _ hb)).mono fun x hx => ⟨⟨hx.1, by have := hx.2; omega⟩, by have := hx.2; omega⟩, by omega, by simp⟩
/-- the draw ends -/
theorem SV.done {B : Nat} (h : SV g v l w b cs q d W) (hg : g < w.heap.size) (hy : Bytes w v l) (ha : Apart l.length g v) (hz : szVector d ≤ B) (hk : Keeps (fun x => x ≠ w.heap.size) W W') (hb : Below w.heap.size W W') : RetVecC g v l B w (.returned (.agg cs.toArray)) W' :=
  have hs := hb.size
  have ho := (BV.only h.bc).belowB hb
  ⟨cs, d, rfl, (h.st.keeps (hk.mono fun x hx => by have := hx.1.1; omega)).mono fun x hx => ⟨by have := hx.1.1; omega, by have := hx.1.2; have := h.qs; omega⟩, hz, Cur.next (BV.cur h.bc) hb hg (hy.only ha ho), ho⟩
end
section
variable {g : Nat} {v : Value} {l : List Nat} {w : World} {b : Nat} {q : Nat} {d : VecD} {W W' : World} {k co ev : Int} {v1 v2 v3 v4 v5 : Value} {A : Option Addr} {n c : Nat}
/-- a name is added -/
theorem SV.pushN (h : SV g v l w b [.int .i64 k, v1, v2, .slice A n c, v4, v5, .int .i64 co, .int .i64 ev] q d W) (hg : g < w.heap.size) (hy : Bytes w v l) (ha : Apart l.length g v) (nm : List UInt8) (hnm : nm.length ≤ maxLen) :
    ∃ xs, W.ownsRow (w.heap.size + 1) 9 1 (.slice A n c) n xs ∧ (∀ x, (Value.slice A n c).ownBlock = some x → x ≠ b) ∧ ∀ A1 c1 w3, w3.ownsRow (w.heap.size + 1) 9 1 (.slice A1 (n + 1) c1) (n + 1) (xs ++ [.string (str nm)]) → W.grownBy w3 (Value.slice A n c).ownBlock →
      ((Value.slice A1 (n + 1) c1).ownBlock = (Value.slice A n c).ownBlock ∨ (Value.slice A1 (n + 1) c1).ownBlock = some (W.heap.size + 1)) → Below (w.heap.size + 1) W w3 →
      SV g v l w b [.int .i64 k, v1, v2, .slice A1 (n + 1) c1, v4, v5, .int .i64 co, .int .i64 ev] w3.heap.size (.mk d.kind d.items d.parts (d.names ++ [nm]) d.cls d.levels d.code d.env) (w3.setCell ⟨b, 3, none⟩ (.slice A1 (n + 1) c1)) := by
  obtain ⟨S3, h3, rfl, hS3, hcl⟩ := h.st.ed3
  have hq := h.qs
  have hrq := h.rq
  obtain ⟨hown, hvb, hpush⟩ := TxtO.push_ h3 (lo := w.heap.size + 1) (fun x hx => (hS3 x hx).1.1) nm hnm
  refine ⟨_, hown, fun x e => (hS3 x (hvb x e)).2, fun A1 c1 w3 ho hgr hbk hb => ?_⟩
  have hlt := fun x e => (ho.lt x e).2
  have hnew : ∀ x, (Value.slice A1 (d.names.length + 1) c1).ownBlock = some x → S3 x ∨ (W.heap.size < x ∧ x < w3.heap.size) := fun x e => by
    rcases hbk with h8 | h8
    · exact .inl (hvb x (h8 ▸ e))
    · have h9 := h8.symm.trans e
      injection h9 with h9
      exact .inr ⟨by omega, hlt x e⟩
  have hs3 := hgr.size
  have hbc := BV.grow h.bc hg hy ha hb hgr (fun x e => (hS3 x (hvb x e)).2)
  have hlen : (d.names ++ [nm]).length = d.names.length + 1 := by simp
  have hlo := BV.lo h.bc
  have hfin := hcl w3 (fun x => Rng (w.heap.size + 1) w3.heap.size x ∧ x ≠ b) _ A1 c1 (d.names ++ [nm]) (Keeps.grown hgr fun x hx e => hx.2 (hvb x e.symm)) (by rw [hlen]; exact hpush _ w3 ho) (fun x hx => ?_) (fun x hx _ => ⟨⟨hx.1.1, by have := hx.1.2; omega⟩, hx.2⟩)
  · rw [hlen] at hfin
    exact SV.put hbc hg hy ha 3 (.slice A1 (d.names.length + 1) c1) hfin
  · rcases hx with hx | hx
    · exact ⟨⟨⟨(hS3 x hx).1.1, by have := (hS3 x hx).1.2; omega⟩, (hS3 x hx).2⟩, .inl hx⟩
    · rcases hnew x hx with h8 | h8
      · exact ⟨⟨⟨(hS3 x h8).1.1, by have := (hS3 x h8).1.2; omega⟩, (hS3 x h8).2⟩, .inl h8⟩
      · exact ⟨⟨⟨by omega, h8.2⟩, by omega⟩, .inr fun hS => by have := hS.1.2; omega⟩
/-- an element is added -/
theorem SV.pushI (h : SV g v l w b [.int .i64 k, .slice A n c, v2, v3, v4, v5, .int .i64 co, .int .i64 ev] q d W) (hg : g < w.heap.size) (hy : Bytes w v l) (ha : Apart l.length g v) (x : ItemD) (hx : ItOk x) :
    ∃ xs, W.ownsRow (w.heap.size + 1) 36 3 (.slice A n c) n xs ∧ (∀ x, (Value.slice A n c).ownBlock = some x → x ≠ b) ∧ ∀ A1 c1 w3, w3.ownsRow (w.heap.size + 1) 36 3 (.slice A1 (n + 1) c1) (n + 1) (xs ++ itC x) → W.grownBy w3 (Value.slice A n c).ownBlock →
      ((Value.slice A1 (n + 1) c1).ownBlock = (Value.slice A n c).ownBlock ∨ (Value.slice A1 (n + 1) c1).ownBlock = some (W.heap.size + 1)) → Below (w.heap.size + 1) W w3 →
      SV g v l w b [.int .i64 k, .slice A1 (n + 1) c1, v2, v3, v4, v5, .int .i64 co, .int .i64 ev] w3.heap.size (.mk d.kind (d.items ++ [x]) d.parts d.names d.cls d.levels d.code d.env) (w3.setCell ⟨b, 1, none⟩ (.slice A1 (n + 1) c1)) := by
  obtain ⟨S3, h3, rfl, hS3, hcl⟩ := h.st.ed1
  have hq := h.qs
  have hrq := h.rq
  obtain ⟨xs, hown, hvb, hpush⟩ := SlO.pushD (lo := w.heap.size + 1) (T := fun _ => False) (fun h k => h.keeps k) (fun h k => h.mono k) (show SlO S3 W 36 3 ItemO _ d.items from h3) (fun x hx => ⟨(hS3 x hx).1.1, by have := (hS3 x hx).1.2; omega⟩) x (itC x) rfl ⟨rfl, hx.1, hx.2.1, by have := hx.2.2; unfold maxLen; omega⟩ (fun b hb => hb.elim) (fun b _ hb => hb.elim)
  refine ⟨_, hown, fun x e => (hS3 x (hvb x e)).2, fun A1 c1 w3 ho hgr hbk hb => ?_⟩
  have hlt := fun x e => (ho.lt x e).2
  have hnew : ∀ x, (Value.slice A1 (d.items.length + 1) c1).ownBlock = some x → S3 x ∨ (W.heap.size < x ∧ x < w3.heap.size) := fun x e => by
    rcases hbk with h8 | h8
    · exact .inl (hvb x (h8 ▸ e))
    · have h9 := h8.symm.trans e
      injection h9 with h9
      exact .inr ⟨by omega, hlt x e⟩
  have hs3 := hgr.size
  have hbc := BV.grow h.bc hg hy ha hb hgr (fun x e => (hS3 x (hvb x e)).2)
  have hlen : (d.items ++ [x]).length = d.items.length + 1 := by simp
  have hlo := BV.lo h.bc
  have hfin := hcl w3 (fun x => Rng (w.heap.size + 1) w3.heap.size x ∧ x ≠ b) _ A1 c1 (d.items ++ [x]) (Keeps.grown hgr fun x hx e => hx.2 (hvb x e.symm)) (by rw [hlen]; exact hpush _ w3 ho hgr hbk) (fun x hx => ?_) (fun x hx _ => ⟨⟨hx.1.1, by have := hx.1.2; omega⟩, hx.2⟩)
  · rw [hlen] at hfin
    exact SV.put hbc hg hy ha 1 (.slice A1 (d.items.length + 1) c1) hfin
  · rcases hx with hx | hx | hx
    · exact ⟨⟨⟨(hS3 x hx).1.1, by have := (hS3 x hx).1.2; omega⟩, (hS3 x hx).2⟩, .inl hx⟩
    · exact hx.elim
    · rcases hnew x hx with h8 | h8
      · exact ⟨⟨⟨(hS3 x h8).1.1, by have := (hS3 x h8).1.2; omega⟩, (hS3 x h8).2⟩, .inl h8⟩
      · exact ⟨⟨⟨by omega, h8.2⟩, by omega⟩, .inr fun hS => by have := hS.1.2; omega⟩
/-- a part is added -/
theorem SV.pushP (h : SV g v l w b [.int .i64 k, v1, .slice A n c, v3, v4, v5, .int .i64 co, .int .i64 ev] q d W) (hg : g < w.heap.size) (hy : Bytes w v l) (ha : Apart l.length g v) (x : VecD) (xcs : List Value) (hxv : VecO (Rng q W.heap.size) W xcs x) :
    ∃ xs, W.ownsRow (w.heap.size + 1) 28 8 (.slice A n c) n xs ∧ (∀ x, (Value.slice A n c).ownBlock = some x → x ≠ b) ∧ ∀ A1 c1 w3, w3.ownsRow (w.heap.size + 1) 28 8 (.slice A1 (n + 1) c1) (n + 1) (xs ++ xcs) → W.grownBy w3 (Value.slice A n c).ownBlock →
      ((Value.slice A1 (n + 1) c1).ownBlock = (Value.slice A n c).ownBlock ∨ (Value.slice A1 (n + 1) c1).ownBlock = some (W.heap.size + 1)) → Below (w.heap.size + 1) W w3 →
      SV g v l w b [.int .i64 k, v1, .slice A1 (n + 1) c1, v3, v4, v5, .int .i64 co, .int .i64 ev] w3.heap.size (.mk d.kind d.items (d.parts ++ [x]) d.names d.cls d.levels d.code d.env) (w3.setCell ⟨b, 2, none⟩ (.slice A1 (n + 1) c1)) := by
  obtain ⟨S3, h3, rfl, hS3, hcl⟩ := h.st.ed2
  have hq := h.qs
  have hrq := h.rq
  obtain ⟨xs, hown, hvb, hpush⟩ := SlO.pushD (lo := w.heap.size + 1) (T := Rng q W.heap.size) (fun h k => h.keeps k) (fun h k => h.mono k) (show SlO S3 W 28 8 VecO _ d.parts from h3) (fun x hx => ⟨(hS3 x hx).1.1, by have := (hS3 x hx).1.2; omega⟩) x xcs hxv.length hxv (fun b hb => hb.2) (fun b hb hr => by have := (hS3 b hb).1.2; have := hr.1; omega)
  refine ⟨_, hown, fun x e => (hS3 x (hvb x e)).2, fun A1 c1 w3 ho hgr hbk hb => ?_⟩
  have hlt := fun x e => (ho.lt x e).2
  have hnew : ∀ x, (Value.slice A1 (d.parts.length + 1) c1).ownBlock = some x → S3 x ∨ (W.heap.size < x ∧ x < w3.heap.size) := fun x e => by
    rcases hbk with h8 | h8
    · exact .inl (hvb x (h8 ▸ e))
    · have h9 := h8.symm.trans e
      injection h9 with h9
      exact .inr ⟨by omega, hlt x e⟩
  have hs3 := hgr.size
  have hbc := BV.grow h.bc hg hy ha hb hgr (fun x e => (hS3 x (hvb x e)).2)
  have hlen : (d.parts ++ [x]).length = d.parts.length + 1 := by simp
  have hlo := BV.lo h.bc
  have hfin := hcl w3 (fun x => Rng (w.heap.size + 1) w3.heap.size x ∧ x ≠ b) _ A1 c1 (d.parts ++ [x]) (Keeps.grown hgr fun x hx e => hx.2 (hvb x e.symm)) (by rw [hlen]; exact hpush _ w3 ho hgr hbk) (fun x hx => ?_) (fun x hx _ => ⟨⟨hx.1.1, by have := hx.1.2; omega⟩, hx.2⟩)
  · rw [hlen] at hfin
    exact SV.put hbc hg hy ha 2 (.slice A1 (d.parts.length + 1) c1) hfin
  · rcases hx with hx | hx | hx
    · exact ⟨⟨⟨(hS3 x hx).1.1, by have := (hS3 x hx).1.2; omega⟩, (hS3 x hx).2⟩, .inl hx⟩
    · exact ⟨⟨⟨by have := hx.1; have := BV.lo h.bc; omega, by have := hx.2; omega⟩, by have := hx.1; omega⟩, .inr fun hS => by have := hS.1.2; have := hx.1; omega⟩
    · rcases hnew x hx with h8 | h8
      · exact ⟨⟨⟨(hS3 x h8).1.1, by have := (hS3 x h8).1.2; omega⟩, (hS3 x h8).2⟩, .inl h8⟩
      · exact ⟨⟨⟨by omega, h8.2⟩, by omega⟩, .inr fun hS => by have := hS.1.2; omega⟩
end
section
variable {g : Nat} {v : Value} {l : List Nat} {w : World} {b : Nat} {W : World}
/-- the box is written anew, with a vector in memory of its own -/
theorem SV.set8 {cs : List Value} {c0 c1 c2 c3 c4 c5 c6 c7 : Value} {d' : VecD} (h : Ok (BV g v l w b cs) W) (hl : cs.length = 8) (hg : g < w.heap.size) (hy : Bytes w v l) (ha : Apart l.length g v) (hv : VecO (fun x => Rng (w.heap.size + 1) W.heap.size x ∧ x ≠ b) W [c0, c1, c2, c3, c4, c5, c6, c7] d') :
    SV g v l w b [c0, c1, c2, c3, c4, c5, c6, c7] W.heap.size d' ((((((((W.setCell ⟨b, 0, none⟩ c0).setCell ⟨b, 1, none⟩ c1).setCell ⟨b, 2, none⟩ c2).setCell ⟨b, 3, none⟩ c3).setCell ⟨b, 4, none⟩ c4).setCell ⟨b, 5, none⟩ c5).setCell ⟨b, 6, none⟩ c6).setCell ⟨b, 7, none⟩ c7) := by
  match cs, hl, h with
  | [a0, a1, a2, a3, a4, a5, a6, a7], _, h =>
  have hS : ¬ (fun x => Rng (w.heap.size + 1) W.heap.size x ∧ x ≠ b) b := fun h => h.2 rfl
  have hb := below_sc (b := b) (o := 7) (below_sc (b := b) (o := 6) (below_sc (b := b) (o := 5) (below_sc (b := b) (o := 4) (below_sc (b := b) (o := 3) (below_sc (b := b) (o := 2) (below_sc (b := b) (o := 1) (below_sc (b := b) (o := 0) (Below.refl (w.heap.size + 1) W) (BV.lo h) c0) (BV.lo h) c1) (BV.lo h) c2) (BV.lo h) c3) (BV.lo h) c4) (BV.lo h) c5) (BV.lo h) c6) (BV.lo h) c7
  have h3 := BV.far h hg hy ha hb
  exact ⟨⟨h3.1, h3.2.1, ((((((((BV.bx h).set_ 0 c0).set_ 1 c1).set_ 2 c2).set_ 3 c3).set_ 4 c4).set_ 5 c5).set_ 6 c6).set_ 7 c7, h3.2.2, BV.lo h⟩, hv.keeps (Keeps.sc (b := b) (o := 7) (Keeps.sc (b := b) (o := 6) (Keeps.sc (b := b) (o := 5) (Keeps.sc (b := b) (o := 4) (Keeps.sc (b := b) (o := 3) (Keeps.sc (b := b) (o := 2) (Keeps.sc (b := b) (o := 1) (Keeps.sc (b := b) (o := 0) (Keeps.refl (fun x => Rng (w.heap.size + 1) W.heap.size x ∧ x ≠ b) W) hS c0) hS c1) hS c2) hS c3) hS c4) hS c5) hS c6) hS c7), (BV.bx h).lt, hb.size⟩
end
end Go.Proofs.Ytjdimlhdkmkmbaa
