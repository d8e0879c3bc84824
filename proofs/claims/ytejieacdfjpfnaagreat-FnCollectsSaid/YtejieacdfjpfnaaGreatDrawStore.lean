/-
  Contracts: what the laws of stores draw: a store in memory of its own, of a bounded size.
-/
import Derived.Test.YtejieacdfjpfnaaGreatDrawVec
import Derived.Test.YtejieacdfjpfnaaGreatKDef
import Derived.Deep.CutBlock
namespace Go.Proofs.YtejieacdfjpfnaaGreat
set_option maxRecDepth 100000
open Go.ChangeShapes Go.WideShapes Go.ChangeAt Go.RowKit Go.Deep
set_option linter.unusedVariables false

/-! ### sizes -/
theorem szS_set {α : Type} (f : α → Nat) : ∀ (l : List α) (k : Nat) (x : α), szS f (l.set k x) ≤ szS f l + f x
  | [], _, _ => by simp [szS]
  | a :: l, 0, x => by simp [szS]; omega
  | a :: l, k + 1, x => by
    have h := szS_set f l k x
    simp only [szS, List.length_set, List.set_cons_succ, List.map_cons, List.sum_cons, List.length_cons] at h ⊢
    omega
theorem szS_set_at {α : Type} (f : α → Nat) : ∀ (l : List α) (k : Nat) (x : α) (h : k < l.length), szS f (l.set k x) + f l[k] = szS f l + f x
  | [], _, _, h => absurd h (by simp)
  | a :: l, 0, x, _ => by simp [szS]; omega
  | a :: l, k + 1, x, h => by
    have h := szS_set_at f l k x (by simpa using h)
    simp only [szS, List.length_set, List.set_cons_succ, List.map_cons, List.sum_cons, List.length_cons, List.getElem_cons_succ] at h ⊢
    omega
theorem szS_snoc {α : Type} (f : α → Nat) (l : List α) (x : α) : szS f (l ++ [x]) = szS f l + 1 + f x := by simp [szS]; omega
theorem szL_snoc (l : List (List UInt8)) (x : List UInt8) : szL (l ++ [x]) = szL l + 1 + x.length := by simp [szL]; omega
theorem szEnv_def (e : EnvD) (nm : List UInt8) (x : SlotD) : szEnv (defE e nm x) ≤ szEnv e + nm.length + 2 + szSlot x := by
  unfold defE
  split
  · simp only [szEnv, szL_snoc, szS_snoc]; omega
  · have := szS_set szSlot e.slots (findB e.names nm).toNat x
    simp only [szEnv]; omega
structure PB (E P D : Nat) (s : StoreD) : Prop where
  e : s.envs.length = E
  p : s.promises.length = P
  nm : ∀ x ∈ s.envs, x.names.length = x.slots.length ∧ x.slots.length ≤ D
  sz : szStore s ≤ E + 1001 * P + 1100 * D
theorem PB.env {E P D : Nat} {s : StoreD} (h : PB E P D s) (p : Int) : PB (E + 1) P D ⟨s.envs ++ [⟨true, p, [], []⟩], s.promises⟩ := by
  refine ⟨by simp [h.e], h.p, fun x hx => ?_, ?_⟩
  · rcases List.mem_append.1 hx with hx | hx
    · exact h.nm x hx
    · rw [List.mem_singleton.1 hx]; exact ⟨rfl, Nat.zero_le _⟩
  · have h1 := h.sz
    simp only [szStore, szS_snoc] at h1 ⊢
    have : szEnv ⟨true, p, [], []⟩ = 0 := rfl
    omega
theorem PB.prom {E P D : Nat} {s : StoreD} (h : PB E P D s) (x : PromD) (hx : szVector x.value ≤ 1000) : PB E (P + 1) D ⟨s.envs, s.promises ++ [x]⟩ := by
  refine ⟨h.e, by simp [h.p], h.nm, ?_⟩
  have h1 := h.sz
  simp only [szStore, szS_snoc, szPromise] at h1 ⊢
  omega
theorem PB.define {E P D : Nat} {s : StoreD} (h : PB E P D s) (k : Nat) (hk : k < s.envs.length) (nm : List UInt8) (hn : nm.length ≤ 20) (x : SlotD) (hx : szSlot x ≤ 1050) : PB E P (D + 1) (defS s k hk nm x) := by
  refine ⟨by simp [defS, h.e], h.p, fun y hy => ?_, ?_⟩
  · rcases List.mem_or_eq_of_mem_set hy with hy | rfl
    · have := h.nm y hy; exact ⟨this.1, by omega⟩
    · have := h.nm _ (List.getElem_mem hk)
      unfold defE
      split
      · simp only [List.length_append, List.length_singleton]; omega
      · simp only [List.length_set]; omega
  · have h1 := h.sz
    have h2 := szEnv_def s.envs[k] nm x
    have h3 := szS_set_at szEnv s.envs k (defE s.envs[k] nm x) hk
    simp only [szStore, defS] at h1 ⊢
    omega
theorem PB.small {E P D : Nat} {s : StoreD} (h : PB E P D s) (hE : E ≤ 7) (hP : P ≤ 3) (hD : D ≤ 8) : szStore s ≤ 20000 := by have := h.sz; omega

/-! ### a new store -/
theorem envO_new (S : Nat → Prop) (W : World) (p : Int) (hp : I64 p) : EnvO S W [.bool true, .int .i64 p, .slice none 0 0, .slice none 0 0] ⟨true, p, [], []⟩ :=
  ⟨none, 0, none, 0, fun _ => 0, rfl, trivial, hp, TxtO.nil_ _ _, SlO.nil_ _ _ _ _ _⟩
def store0 : StoreD := ⟨[⟨true, -1, [], []⟩], []⟩
theorem PB.zero : PB 1 0 0 store0 := ⟨rfl, rfl, fun x hx => by rw [List.mem_singleton.1 hx]; exact ⟨rfl, Nat.le_refl _⟩, by decide⟩
theorem i64m1 : I64 (-1) := ⟨by decide, by decide⟩
theorem store0_own {S : Nat → Prop} {W : World} {b : Nat} (hb : Blk W b 71 [.bool true, .int .i64 (-1), .slice none 0 0, .slice none 0 0]) (hS : S b) : StoreO S W [.slice (some ⟨b, 0, none⟩) 1 1, .slice none 0 0] store0 := by
  have hw := hb.ownN (size := 4) (n := 1) rfl (by unfold maxLen; omega)
  refine ⟨some ⟨b, 0, none⟩, 1, none, 0, fun _ => 0, rfl, ⟨[[.bool true, .int .i64 (-1), .slice none 0 0, .slice none 0 0]], fun _ => 0, rfl, fun k h1 h2 => ?_, ⟨by exact hw, fun k hk => ?_⟩⟩, SlO.nil_ _ _ _ _ _⟩
  · have : k = 0 := by simp at h1; omega
    subst this
    exact ⟨rfl, envO_new _ _ _ i64m1⟩
  · simp only [Value.ownBlock, Option.some.injEq] at hk
    subst hk
    exact ⟨⟨hS, rfl⟩, rfl⟩

set_option maxHeartbeats 1000000 in
theorem spec_NewStore (w : World) : Calls Tryz.prog 161 #[] w (RetStore w store0) := by
  go_enter Tryz.func161, Tryz.ntmps161
  go_wp2_with fail
  have hb : Below w.heap.size w ((w.alloc (.cells #[.slice (some ⟨w.heap.size + 1, 0, none⟩) 1 1, .slice none 0 0] 33)).alloc (.cells #[.bool true, .int .i64 (-1), .slice none 0 0, .slice none 0 0] 71)) := ((Below.refl _ _).alloc (Nat.le_refl _) _).alloc (by simp) _
  exact bodyPost_ret (v := .agg #[.slice (some ⟨w.heap.size + 1, 0, none⟩) 1 1, .slice none 0 0]) (by simp [results, Tryz.results161, go_sem]) rfl ⟨_, rfl, store0_own (Blk.new_at _ 71 [.bool true, .int .i64 (-1), .slice none 0 0, .slice none 0 0] _ (by simp)) ⟨by omega, by simp⟩, hb⟩

/-! ### a store that is drawn -/
/-- the boxes of a draw: the result's, the store's -/
structure BC (g : Nat) (v : Value) (l : List Nat) (w : World) (r6 : Nat) (cs : List Value) (W : World) : Prop where
  cur : Cur W g v l
  res : Blk W w.heap.size 33 [.slice none 0 0, .slice none 0 0]
  b6 : Blk W r6 33 cs
  only : Only g w W
  lo : w.heap.size + 1 ≤ r6
section
variable {g : Nat} {v : Value} {l : List Nat} {w : World} {r6 : Nat} {cs : List Value} {W W' : World}
theorem BC.next (h : Ok (BC g v l w r6 cs) W) (hg : g < w.heap.size) (hc : Cur W' g v l) (ho : Only g W W') : Ok (BC g v l w r6 cs) W' :=
  have hl := BC.lo h
  ⟨hc, (ho.block _ (BC.res h).lt (fun e => by injection e with e; omega)).trans (BC.res h), (ho.block _ (BC.b6 h).lt (fun e => by injection e with e; omega)).trans (BC.b6 h), (BC.only h).trans ho, hl⟩
theorem BC.step (h : Ok (BC g v l w r6 cs) W) (hb : Below W.heap.size W W') : Ok (BC g v l w r6 cs) W' :=
  ⟨Cur.below_ (BC.cur h) hb, (BC.res h).below hb, (BC.b6 h).below hb, (BC.only h).trans (Only.of_below hb), BC.lo h⟩
theorem BC.far (h : Ok (BC g v l w r6 cs) W) (hg : g < w.heap.size) (hy : Bytes w v l) (ha : Apart l.length g v) (hb : Below (w.heap.size + 1) W W') : Cur W' g v l ∧ Blk W' w.heap.size 33 [.slice none 0 0, .slice none 0 0] ∧ Only g w W' :=
  have ho := (BC.only h).belowB (hb.mono (by omega))
  ⟨Cur.next (BC.cur h) (hb.mono (B' := w.heap.size) (by omega)) hg (hy.only ha ho), (hb.block _ (by omega)).trans (BC.res h), ho⟩
theorem BC.grow {row : Option Nat} (h : Ok (BC g v l w r6 cs) W) (hg : g < w.heap.size) (hy : Bytes w v l) (ha : Apart l.length g v) (hb : Below (w.heap.size + 1) W W') (hgr : W.grownBy W' row) (hne : ∀ b, row = some b → b ≠ r6) : Ok (BC g v l w r6 cs) W' :=
  have h3 := BC.far h hg hy ha hb
  ⟨h3.1, h3.2.1, (hgr.block r6 (BC.b6 h).lt (fun e => hne r6 e.symm rfl)).trans (BC.b6 h), h3.2.2, BC.lo h⟩
theorem BC.put (h : Ok (BC g v l w r6 cs) W) (hg : g < w.heap.size) (hy : Bytes w v l) (ha : Apart l.length g v) (i : Nat) (u : Value) : Ok (BC g v l w r6 (cs.set i u)) (W.setCell ⟨r6, i, none⟩ u) :=
  have h3 := BC.far h hg hy ha (below_sc (Below.refl _ _) (BC.lo h) u (o := i))
  ⟨h3.1, h3.2.1, (BC.b6 h).set_ i u, h3.2.2, BC.lo h⟩
end
/-- the boxes and the store, which lies below q -/
structure SC (g : Nat) (v : Value) (l : List Nat) (w : World) (r6 : Nat) (cs : List Value) (q : Nat) (s : StoreD) (W : World) : Prop where
  bc : Ok (BC g v l w r6 cs) W
  st : StoreO (fun b => Rng (w.heap.size + 1) q b ∧ b ≠ r6) W cs s
  rq : r6 < q
  qs : q ≤ W.heap.size
section
variable {g : Nat} {v : Value} {l : List Nat} {w : World} {r6 : Nat} {cs : List Value} {q : Nat} {s : StoreD} {W W' : World}
theorem SC.next (h : SC g v l w r6 cs q s W) (hg : g < w.heap.size) (hc : Cur W' g v l) (ho : Only g W W') : SC g v l w r6 cs q s W' :=
  ⟨BC.next h.bc hg hc ho, h.st.keeps (Keeps.grown ho fun b hb e => by injection e with e; have := hb.1.1; omega), h.rq, Nat.le_trans h.qs ho.size⟩
theorem SC.step (h : SC g v l w r6 cs q s W) (hb : Below W.heap.size W W') : SC g v l w r6 cs q s W' :=
  ⟨BC.step h.bc hb, h.st.keeps (Keeps.of_below _ hb), h.rq, Nat.le_trans h.qs hb.size⟩
theorem SC.above (h : SC g v l w r6 cs q s W) (hg : g < w.heap.size) (hy : Bytes w v l) (ha : Apart l.length g v) (hb : Below q W W') : SC g v l w r6 cs q s W' :=
  have hl := BC.lo h.bc
  have hr := h.rq
  have h3 := BC.far h.bc hg hy ha (hb.mono (by omega))
  ⟨⟨h3.1, h3.2.1, (hb.block _ hr).trans (BC.b6 h.bc), h3.2.2, hl⟩, h.st.keeps ⟨hb.size, fun b _ hx => hb.block b hx.1.2⟩, hr, Nat.le_trans h.qs hb.size⟩
theorem SC.rebase (h : SC g v l w r6 cs q s W) : SC g v l w r6 cs W.heap.size s W :=
  ⟨h.bc, h.st.mono fun b hb => ⟨⟨hb.1.1, Nat.lt_of_lt_of_le hb.1.2 h.qs⟩, hb.2⟩, Nat.lt_of_lt_of_le h.rq h.qs, Nat.le_refl _⟩
end
def names4 : List (List UInt8) := [[120], [102], [110], [46, 46, 46]]
def csS (A0 : Option Addr) (E c0 : Nat) (A1 : Option Addr) (P c1 : Nat) : List Value := [.slice A0 E c0, .slice A1 P c1]
/-- the promise that is being drawn -/
structure PX (g : Nat) (v : Value) (l : List Nat) (w : World) (r6 : Nat) (cs : List Value) (q : Nat) (s : StoreD) (b : Nat) (pcs : List Value) (W : World) : Prop where
  sc : SC g v l w r6 cs q s W
  p : Blk W b 74 pcs
  hb : q ≤ b
section
variable {g : Nat} {v : Value} {l : List Nat} {w : World} {r6 : Nat} {cs : List Value} {q : Nat} {s : StoreD} {b : Nat} {pcs : List Value} {W W' : World}
theorem PX.next (h : PX g v l w r6 cs q s b pcs W) (hg : g < w.heap.size) (hc : Cur W' g v l) (ho : Only g W W') : PX g v l w r6 cs q s b pcs W' :=
  ⟨h.sc.next hg hc ho, (ho.block _ h.p.lt (fun e => by injection e with e; have := h.hb; have := BC.lo h.sc.bc; have := h.sc.rq; omega)).trans h.p, h.hb⟩
theorem PX.put (h : PX g v l w r6 cs q s b pcs W) (hg : g < w.heap.size) (hy : Bytes w v l) (ha : Apart l.length g v) (i : Nat) (u : Value) : PX g v l w r6 cs q s b (pcs.set i u) (W.setCell ⟨b, i, none⟩ u) :=
  ⟨h.sc.above hg hy ha (below_sc (Below.refl _ _) h.hb u (o := i)), h.p.set_ i u, h.hb⟩
theorem PX.ne (h : PX g v l w r6 cs q s b pcs W) : ¬ b = r6 := by have := h.hb; have := h.sc.rq; omega
end
def pcZ : List Value := [.bool false, .int .i64 0, .int .i64 0, .int .i64 0, .int .i64 0, .slice none 0 0, .slice none 0 0, .slice none 0 0, .slice none 0 0, .slice none 0 0, .int .i64 0, .int .i64 0]
def pcs3 (x y z : Int) : List Value := [.bool true, .int .i64 x, .int .i64 y, .int .i64 z, .int .i64 0, .slice none 0 0, .slice none 0 0, .slice none 0 0, .slice none 0 0, .slice none 0 0, .int .i64 0, .int .i64 0]
/-- what the operations yield that put a promise together -/
def pR (g r6 : Nat) (A0 : Option Addr) (E c0 B : Nat) : Nat → (Nat → Nat → Prop) → (Nat → Value) → World → Prop
  | 0, _, vs, _ => vs 0 = .pointer (some ⟨g, 0, none⟩)
  | 1, _, vs, _ => ∃ x : Int, vs 1 = .int .i64 x ∧ 0 ≤ x ∧ x ≤ 4
  | 2, _, vs, _ => vs 2 = .pointer (some ⟨g, 0, none⟩)
  | 3, _, vs, _ => vs 3 = .pointer (some ⟨r6, 0, none⟩)
  | 4, _, vs, _ => vs 4 = .slice A0 E c0
  | 5, _, vs, _ => vs 5 = .int .i64 (E : Int)
  | 6, _, vs, _ => ∃ x : Int, vs 6 = .int .i64 x ∧ 0 ≤ x ∧ x ≤ E - 1
  | 7, _, vs, _ => vs 7 = .pointer (some ⟨g, 0, none⟩)
  | 8, _, vs, _ => ∃ x : Int, vs 8 = .int .i64 x ∧ 0 ≤ x ∧ x ≤ 2
  | 9, _, vs, _ => ∃ x y z : Int, vs 9 = .agg (pcs3 x y z).toArray ∧ (0 ≤ x ∧ x ≤ 4) ∧ (0 ≤ y ∧ y ≤ E - 1) ∧ (0 ≤ z ∧ z ≤ 2)
  | 10, _, vs, W => ∃ b, vs 10 = .pointer (some ⟨b, 0, none⟩) ∧ Blk W b 74 pcZ ∧ B ≤ b ∧ g ≠ b
  | _, _, _, _ => True
theorem pK (g r6 : Nat) (A0 : Option Addr) (E c0 B : Nat) (i : Nat) (T T' : Nat → Nat → Prop) (vs vs' : Nat → Value) (W W' : World) (hv : ∀ j ∈ [i], vs' j = vs j) (hT : ∀ l b, T l b → T' l b) (hb : Only g W W') (h0 : pR g r6 A0 E c0 B i T vs W) : pR g r6 A0 E c0 B i T' vs' W' :=
  match i, hv, h0 with
  | 0, hv, h => (hv 0 (List.mem_cons_self)).trans h
  | 1, hv, ⟨x, e, h⟩ => ⟨x, (hv 1 (List.mem_cons_self)).trans e, h⟩
  | 2, hv, h => (hv 2 (List.mem_cons_self)).trans h
  | 3, hv, h => (hv 3 (List.mem_cons_self)).trans h
  | 4, hv, h => (hv 4 (List.mem_cons_self)).trans h
  | 5, hv, h => (hv 5 (List.mem_cons_self)).trans h
  | 6, hv, ⟨x, e, h⟩ => ⟨x, (hv 6 (List.mem_cons_self)).trans e, h⟩
  | 7, hv, h => (hv 7 (List.mem_cons_self)).trans h
  | 8, hv, ⟨x, e, h⟩ => ⟨x, (hv 8 (List.mem_cons_self)).trans e, h⟩
  | 9, hv, ⟨x, y, z, e, h⟩ => ⟨x, y, z, (hv 9 (List.mem_cons_self)).trans e, h⟩
  | 10, hv, ⟨b, e, h1, h2, h3⟩ => ⟨b, (hv 10 (List.mem_cons_self)).trans e, (hb.block b h1.lt (fun e => by injection e with e; omega)).trans h1, h2, h3⟩
  | _ + 11, _, _ => trivial
def vz0 : VecD := .mk 0 [] [] [] [] [] 0 0
theorem vz0_own (S : Nat → Prop) (W : World) : VecO S W nvZ vz0 :=
  ⟨1, none, 0, none, 0, none, 0, none, 0, none, 0, fun _ => 0, rfl, i64z_, ItemsO.nil_ _ _, SlO.nil_ _ _ _ _ _, TxtO.nil_ _ _, TxtO.nil_ _ _, TxtO.nil_ _ _, i64z_, i64z_⟩
theorem sz_vz0 : szVector vz0 = 0 := by rw [szVector_eq]; rfl
theorem i64two : I64 2 := ⟨by decide, by decide⟩
theorem promO_mk {T : Nat → Prop} {W : World} {x y z : Int} {d : VecD} {D1 D2 D3 D4 D5 : Option Addr} {d1 d2 d3 d4 d5 : Nat} (hx : I64 x) (hy : I64 y) (hz : I64 z)
    (hV : VecO T W [.int .i64 d.kind, .slice D1 d.items.length d1, .slice D2 d.parts.length d2, .slice D3 d.names.length d3, .slice D4 d.cls.length d4, .slice D5 d.levels.length d5, .int .i64 d.code, .int .i64 d.env] d) :
    PromiseO T W [.bool true, .int .i64 x, .int .i64 y, .int .i64 z, .int .i64 d.kind, .slice D1 d.items.length d1, .slice D2 d.parts.length d2, .slice D3 d.names.length d3, .slice D4 d.cls.length d4, .slice D5 d.levels.length d5, .int .i64 d.code, .int .i64 d.env] (PromD.mk true x y z d) :=
  ⟨D1, d1, D2, d2, D3, d3, D4, d4, D5, d5, fun _ => 4, rfl, trivial, hx, hy, hz, hV.mono fun b hb => ⟨hb, rfl⟩⟩
/-- the slot that is being drawn -/
structure SX (g : Nat) (v : Value) (l : List Nat) (w : World) (r6 : Nat) (cs : List Value) (q : Nat) (s : StoreD) (b : Nat) (xcs : List Value) (W : World) : Prop where
  sc : SC g v l w r6 cs q s W
  x : Blk W b 96 xcs
  hb : q ≤ b
section
variable {g : Nat} {v : Value} {l : List Nat} {w : World} {r6 : Nat} {cs : List Value} {q : Nat} {s : StoreD} {b : Nat} {xcs : List Value} {W W' : World}
theorem SX.next (h : SX g v l w r6 cs q s b xcs W) (hg : g < w.heap.size) (hc : Cur W' g v l) (ho : Only g W W') : SX g v l w r6 cs q s b xcs W' :=
  ⟨h.sc.next hg hc ho, (ho.block _ h.x.lt (fun e => by injection e with e; have := h.hb; have := BC.lo h.sc.bc; have := h.sc.rq; omega)).trans h.x, h.hb⟩
theorem SX.put (h : SX g v l w r6 cs q s b xcs W) (hg : g < w.heap.size) (hy : Bytes w v l) (ha : Apart l.length g v) (i : Nat) (u : Value) : SX g v l w r6 cs q s b (xcs.set i u) (W.setCell ⟨b, i, none⟩ u) :=
  ⟨h.sc.above hg hy ha (below_sc (Below.refl _ _) h.hb u (o := i)), h.x.set_ i u, h.hb⟩
theorem SX.ne (h : SX g v l w r6 cs q s b xcs W) : ¬ b = r6 := by have := h.hb; have := h.sc.rq; omega
end
def kinds6 : List Int := [1, 1, 1, 2, 3, 0]
theorem kinds6_i64 : ∀ x ∈ kinds6, I64 x := by
  intro x hx
  simp only [kinds6, List.mem_cons, List.not_mem_nil, or_false] at hx
  rcases hx with rfl | rfl | rfl | rfl | rfl | rfl <;> exact ⟨by decide, by decide⟩
theorem Ints.lit {W : World} (ss : List Int) (n : Nat) (hn : ss.length = n) (h1 : n ≤ 256) (h2 : ∀ x ∈ ss, I64 x) : Ints (W.alloc (.cells (ss.map fun x => Value.int .i64 x).toArray 3)) (.slice (some ⟨W.heap.size, 0, none⟩) n n) ss := by
  subst hn
  exact Ints.of_own (l := ss) (owns_new W 3 1 ss.length (ss.map fun x => Value.int .i64 x).toArray ss.length (ss.map fun x => Value.int .i64 x) (by simp) (Nat.le_refl _) (by unfold maxLen; omega) (by simp) (by simp [List.take_of_length_le])) h2
theorem apart_new {W : World} {g n : Nat} (hg : g < W.heap.size) : Apart n g (.slice (some ⟨W.heap.size, 0, none⟩) n n) := fun _ a m c hv => by
  injection hv with e1
  injection e1 with e1
  subst e1
  show W.heap.size ≠ _
  omega
/-- a slot's cells -/
def xcK (kd p : Int) (a b : Value) : List Value := [.int .i64 kd, .int .i64 0, .slice none 0 0, .slice none 0 0, .slice none 0 0, .slice none 0 0, .slice none 0 0, .int .i64 0, .int .i64 0, .int .i64 p, a, b]
theorem SX.step {g : Nat} {v : Value} {l : List Nat} {w : World} {r6 : Nat} {cs : List Value} {q : Nat} {s : StoreD} {b : Nat} {xcs : List Value} {W W' : World} (h : SX g v l w r6 cs q s b xcs W) (hb : Below W.heap.size W W') : SX g v l w r6 cs q s b xcs W' :=
  ⟨h.sc.step hb, h.x.below hb, h.hb⟩
theorem SX.make {g : Nat} {v : Value} {l : List Nat} {w : World} {r6 : Nat} {cs : List Value} {q : Nat} {s : StoreD} {W : World} (h : SC g v l w r6 cs q s W) (xcs : List Value) : SX g v l w r6 cs q s W.heap.size xcs (W.alloc (.cells xcs.toArray 96)) :=
  ⟨h.step ((Below.refl _ _).alloc (Nat.le_refl _) _), Blk.new W _ xcs, h.qs⟩
theorem slotO_mk {S : Nat → Prop} {W : World} {kd p : Int} {d : VecD} {D1 D2 D3 D4 D5 A3 A4 : Option Addr} {d1 d2 d3 d4 d5 c3 c4 : Nat} {ps : List Int} {ls : List (List UInt8)} (f : Nat → Nat) (hk : I64 kd) (hp : I64 p)
    (hV : VecO (fun b => S b ∧ f b = 1) W [.int .i64 d.kind, .slice D1 d.items.length d1, .slice D2 d.parts.length d2, .slice D3 d.names.length d3, .slice D4 d.cls.length d4, .slice D5 d.levels.length d5, .int .i64 d.code, .int .i64 d.env] d)
    (hi : IntO (fun b => S b ∧ f b = 3) W (.slice A3 ps.length c3) ps) (hl : TxtO (fun b => S b ∧ f b = 4) W (.slice A4 ls.length c4) ls) :
    SlotO S W [.int .i64 kd, .int .i64 d.kind, .slice D1 d.items.length d1, .slice D2 d.parts.length d2, .slice D3 d.names.length d3, .slice D4 d.cls.length d4, .slice D5 d.levels.length d5, .int .i64 d.code, .int .i64 d.env, .int .i64 p, .slice A3 ps.length c3, .slice A4 ls.length c4] (SlotD.mk kd d p ps ls) :=
  ⟨D1, d1, D2, d2, D3, d3, D4, d4, D5, d5, A3, c3, A4, c4, f, rfl, hk, hV, hp, hi, hl⟩
theorem IntO.nil_ (S : Nat → Prop) (W : World) : IntO S W (.slice none 0 0) [] := ⟨FlO.nil_ _ _ _ _, fun _ h => by cases h⟩
theorem sz_slotD (kd p : Int) (d : VecD) (ps : List Int) (ls : List (List UInt8)) (hd : szVector d ≤ 1000) (hp : ps.length ≤ 2) (hl : szL ls ≤ 10) : szSlot (SlotD.mk kd d p ps ls) ≤ 1050 := by unfold szSlot; dsimp only; omega
theorem slotO_z {S : Nat → Prop} {W : World} {kd p : Int} (hk : I64 kd) (hp : I64 p) : SlotO S W (xcK kd p (.slice none 0 0) (.slice none 0 0)) (SlotD.mk kd vz0 p [] []) :=
  slotO_mk (D1 := none) (D2 := none) (D3 := none) (D4 := none) (D5 := none) (A3 := none) (A4 := none) (d1 := 0) (d2 := 0) (d3 := 0) (d4 := 0) (d5 := 0) (c3 := 0) (c4 := 0) (d := vz0) (ps := []) (ls := []) (fun _ => 1) hk hp (vz0_own _ _) (IntO.nil_ _ _) (TxtO.nil_ _ _)
def lab2 : List (List UInt8) := [[], [97]]
/-- a slot of dots -/
theorem slotO_dots {S : Nat → Prop} {W : World} {z : Int} {b1 b2 : Nat} (hz : I64 z) (h1 : Blk W b1 3 [.int .i64 z, .int .i64 0]) (h2 : Blk W b2 9 (lab2.map fun s => Value.string (str s))) (hne : b1 ≠ b2) (hs1 : S b1) (hs2 : S b2) :
    SlotO S W (xcK 3 0 (.slice (some ⟨b1, 0, none⟩) 2 2) (.slice (some ⟨b2, 0, none⟩) 2 2)) (SlotD.mk 3 vz0 0 [z, 0] lab2) := by
  have g1 := h1.ownN (size := 1) (n := 2) rfl (by unfold maxLen; omega)
  have g2 := h2.ownN (size := 1) (n := 2) rfl (by unfold maxLen; omega)
  refine slotO_mk (D1 := none) (D2 := none) (D3 := none) (D4 := none) (D5 := none) (A3 := some ⟨b1, 0, none⟩) (A4 := some ⟨b2, 0, none⟩) (d1 := 0) (d2 := 0) (d3 := 0) (d4 := 0) (d5 := 0) (c3 := 2) (c4 := 2) (d := vz0) (ps := [z, 0]) (ls := lab2) (fun x => if x = b1 then 3 else 4) ⟨by decide, by decide⟩ i64z_ (vz0_own _ _) ⟨⟨g1, fun k hk => ?_⟩, ?_⟩ ⟨⟨g2, fun k hk => ?_⟩, by decide⟩
  · simp only [Value.ownBlock, Option.some.injEq] at hk
    subst hk
    exact ⟨hs1, if_pos rfl⟩
  · intro n hn
    rcases List.mem_cons.1 hn with rfl | hn
    · exact hz
    · rw [List.mem_singleton.1 hn]; exact i64z_
  · simp only [Value.ownBlock, Option.some.injEq] at hk
    subst hk
    exact ⟨hs2, if_neg (fun e => hne e.symm)⟩
/-- what the operations yield that define a name -/
def dR (g r6 : Nat) (A0 : Option Addr) (E c0 : Nat) (xcs : List Value) : Nat → (Nat → Nat → Prop) → (Nat → Value) → World → Prop
  | 0, _, vs, _ => vs 0 = .pointer (some ⟨g, 0, none⟩)
  | 1, _, vs, _ => vs 1 = .pointer (some ⟨r6, 0, none⟩)
  | 2, _, vs, _ => vs 2 = .slice A0 E c0
  | 3, _, vs, _ => vs 3 = .int .i64 (E : Int)
  | 4, _, vs, _ => ∃ k : Nat, vs 4 = .int .i64 (k : Int) ∧ k < E
  | 5, _, vs, _ => vs 5 = .pointer (some ⟨g, 0, none⟩)
  | 6, _, vs, W => ∃ u, vs 6 = u ∧ Txts W u names4 ∧ Apart 4 g u
  | 7, _, vs, _ => ∃ s, vs 7 = .string (str s) ∧ s ∈ names4
  | 8, _, vs, _ => vs 8 = .agg xcs.toArray
  | _, _, _, _ => True
theorem dK (g r6 : Nat) (A0 : Option Addr) (E c0 : Nat) (xcs : List Value) (i : Nat) (T T' : Nat → Nat → Prop) (vs vs' : Nat → Value) (W W' : World) (hv : ∀ j ∈ [i], vs' j = vs j) (hT : ∀ l b, T l b → T' l b) (hb : Only g W W') (h0 : dR g r6 A0 E c0 xcs i T vs W) : dR g r6 A0 E c0 xcs i T' vs' W' :=
  match i, hv, h0 with
  | 0, hv, h => (hv 0 (List.mem_cons_self)).trans h
  | 1, hv, h => (hv 1 (List.mem_cons_self)).trans h
  | 2, hv, h => (hv 2 (List.mem_cons_self)).trans h
  | 3, hv, h => (hv 3 (List.mem_cons_self)).trans h
  | 4, hv, ⟨x, e, h⟩ => ⟨x, (hv 4 (List.mem_cons_self)).trans e, h⟩
  | 5, hv, h => (hv 5 (List.mem_cons_self)).trans h
  | 6, hv, ⟨u, e, h1, h2⟩ => ⟨u, (hv 6 (List.mem_cons_self)).trans e, h1.only h2 hb, h2⟩
  | 7, hv, ⟨x, e, h⟩ => ⟨x, (hv 7 (List.mem_cons_self)).trans e, h⟩
  | 8, hv, h => (hv 8 (List.mem_cons_self)).trans h
  | _ + 9, _, _ => trivial
theorem names4_len : ∀ s ∈ names4, s.length ≤ 20 := by decide
/-- the slot and the store, as they stand when a name is defined -/
structure DX (g : Nat) (v : Value) (l : List Nat) (w : World) (r6 : Nat) (cs : List Value) (q : Nat) (s : StoreD) (b : Nat) (xcs : List Value) (n0 : Nat) (xd : SlotD) (W : World) : Prop where
  sx : SX g v l w r6 cs q s b xcs W
  so : SlotO (Rng q n0) W xcs xd
  n0 : n0 ≤ W.heap.size
section
variable {g : Nat} {v : Value} {l : List Nat} {w : World} {r6 : Nat} {cs : List Value} {q : Nat} {s : StoreD} {b : Nat} {xcs : List Value} {n0 : Nat} {xd : SlotD} {W W' : World}
theorem DX.next (h : DX g v l w r6 cs q s b xcs n0 xd W) (hg : g < w.heap.size) (hc : Cur W' g v l) (ho : Only g W W') : DX g v l w r6 cs q s b xcs n0 xd W' :=
  ⟨h.sx.next hg hc ho, h.so.keeps (Keeps.grown ho fun b hb e => by injection e with e; have := hb.1; have := BC.lo h.sx.sc.bc; have := h.sx.sc.rq; omega), Nat.le_trans h.n0 ho.size⟩
theorem DX.step (h : DX g v l w r6 cs q s b xcs n0 xd W) (hb : Below W.heap.size W W') : DX g v l w r6 cs q s b xcs n0 xd W' :=
  ⟨h.sx.step hb, h.so.keeps (Keeps.of_below _ hb), Nat.le_trans h.n0 hb.size⟩
end
theorem names_eq {E P D : Nat} {s : StoreD} (h : PB E P D s) {k : Nat} (hk : k < s.envs.length) : s.envs[k].names.length = s.envs[k].slots.length ∧ s.envs[k].slots.length ≤ D := h.nm _ (List.getElem_mem hk)

def RetDraw (g : Nat) (v : Value) (l : List Nat) (w : World) (e : Ending) (w' : World) : Prop :=
  ∃ (cs : List Value) (s : StoreD) (E P D : Nat), e = .returned (.agg cs.toArray) ∧ StoreO (Rng w.heap.size w'.heap.size) w' cs s ∧ PB E P D s ∧ (1 ≤ E ∧ E ≤ 7 ∧ P ≤ 3 ∧ D ≤ 8) ∧ Cur w' g v l ∧ Only g w w'
set_option maxHeartbeats 8000000 in
theorem spec_l26Draw (g : Nat) (v : Value) (l : List Nat) (w : World) (hC : Cur w g v l) (ha : Apart l.length g v) :
    Calls Tryz.prog 143 #[.pointer (some ⟨g, 0, none⟩)] w (RetDraw g v l w) := by
  have hgl := Cur.lt_ hC
  have HA := Lib.hid ha
  have HY := Lib.hid (show Bytes w v l from by obtain ⟨_, _, _, _, _, h⟩ := hC; exact h)
  have HC := Lib.hid hC
  clear hC ha
  go_enter Tryz.func143, Tryz.ntmps143
  go_wp2_with fail
  refine Calls.mono (spec_NewStore _) ?_
  rintro e w1 ⟨cs, rfl, hO, hb⟩
  obtain ⟨A0, c0, A1, c1, rfl⟩ := hO.shape2
  have hs1 : w.heap.size + 1 ≤ w1.heap.size := by have := hb.size; simpa using this
  have HS1 := Lib.hid (show SC g v l w w1.heap.size (csS A0 1 c0 A1 0 c1) (w1.heap.size + 1) store0 (w1.alloc (.cells (csS A0 1 c0 A1 0 c1).toArray 33)) from by
    have hb2 : Below (w.heap.size + 1) w1 (w1.alloc (.cells (csS A0 1 c0 A1 0 c1).toArray 33)) := (Below.refl _ _).alloc (by omega) _
    have hbw : Below w.heap.size w (w1.alloc (.cells (csS A0 1 c0 A1 0 c1).toArray 33)) := (((Below.refl _ _).alloc (Nat.le_refl _) _).trans (hb.mono (by simp))).trans (hb2.mono (by omega))
    refine ⟨⟨Cur.below_ HC.out hbw, ?_, Blk.new w1 _ _, Only.of_below hbw, by omega⟩, ?_, by omega, by simp⟩
    · exact (hb2.block _ (by omega)).trans ((hb.block _ (by simp)).trans (Blk.new w 33 [.slice none 0 0, .slice none 0 0]))
    · refine (hO.keeps ((Keeps.of_below _ ((Below.refl _ _).alloc (Nat.le_refl _) _)))).mono fun b hb => ⟨⟨by have := hb.1; simp at this; omega, by have := hb.2; omega⟩, by have := hb.2; omega⟩)
  have HP1 := Lib.hid PB.zero
  go_upto_region 2 with fail
  refine gen_w (G := SC g v l w w1.heap.size (csS A0 1 c0 A1 0 c1) (w1.heap.size + 1) store0) HS1.out ?_
  intro w2 HX2
  have HS2 := Lib.hid (SC.rebase (show SC g v l w w1.heap.size (csS A0 1 c0 A1 0 c1) (w1.heap.size + 1) store0 w2 from HX2))
  clear HX2 HS1 hO hb HC
  generalize w1.heap.size = r6 at HS2 hs1 ⊢
  generalize Value.agg #[.slice A0 store0.envs.length c0, .slice A1 store0.promises.length c1] = V10
  go_wp2_with fail
  refine Calls.mono (spec_l1Below g v l 7 _ (BC.cur HS2.out.bc) HA.out (by omega) (by omega)) ?_
  rintro e w3 ⟨x, rfl, hx0, hx1, hc, ho⟩
  obtain ⟨n0, rfl⟩ := Int.eq_ofNat_of_zero_le hx0
  have HS3 := Lib.hid ((HS2.out.next hgl hc ho).rebase)
  clear hc ho HS2
  go_wp2_with fail
  go_loopw [4] (fun i wr => ∃ (n E : Nat) (A0 : Option Addr) (c0 : Nat) (A1 : Option Addr) (c1 : Nat) (s : StoreD), i = .int .i64 n ∧ E + n ≤ 7 ∧ 1 ≤ E ∧ Hid (PB E 0 0 s) ∧ Hid (SC g v l w r6 (csS A0 E c0 A1 0 c1) wr.heap.size s wr)) (fun i _ => (intOf i).toNat)
  case atStart => exact ⟨n0, 1, A0, c0, A1, c1, store0, rfl, by omega, by omega, HP1.out, HS3.out⟩
  case round =>
    obtain ⟨n, E, A0, c0, A1, c1, s, rfl, hn, hE, HP, HS⟩ := hrel
    by_cases hp : 0 < n
    · obtain ⟨n, rfl⟩ : ∃ m, n = m + 1 := ⟨n - 1, by omega⟩
      have t0 := fun W (h : Ok (BC g v l w r6 (csS A0 E c0 A1 0 c1)) W) => (BC.b6 h).cell 0 _ rfl
      have t1 := fun W (h : Ok (BC g v l w r6 (csS A0 E c0 A1 0 c1)) W) => (BC.b6 h).cell 1 _ rfl
      go_wp2_with fail
      have g1 : Ok (BC g v l w r6 (csS A0 E c0 A1 0 c1)) wr.drew := BC.step HS.out.bc (Below.drew (Below.refl _ _))
      refine wp_region_phase (T := Ok (BC g v l w r6 (csS A0 E c0 A1 0 c1))) (by kernel_rfl) [(2, 0), (1, 1), (2, 2), (2, 3), (1, 4), (2, 5), (0, 6), (2, 7), (0, 8), (0, 9), (2, 10), (0, 11)] [11] (by kernel_rfl) g1 ?_
      repeat ((first | (refine dynL_take rfl rfl (fun W g => by go_simp; rfl) ?_) | (refine dynL_pure rfl rfl (fun W => by go_simp; rfl) ?_)); go_simp)
      have HSX := Lib.hid HS.out
      refine dynL_act rfl rfl (fun K hK => ?_)
      go_wp2_with fail
      refine (spec_l1Below g v l E _ (BC.cur g1) HA.out (by omega) (by omega)).mono ?_
      rintro e w4 ⟨y, rfl, hy0, hy1, hc, ho⟩
      have HS4 := Lib.hid ((HSX.out.step (Below.drew (Below.refl _ _))).next hgl hc ho)
      have g4 := HS4.out.bc
      have HIy := Lib.hid (show I64 y by unfold I64; omega)
      clear hc ho g1 HSX
      simp only []
      refine hK.out _ _ g4 ?_
      clear hK
      repeat ((first | (refine dynL_take rfl rfl (fun W g => by go_simp; rfl) ?_) | (refine dynL_pure rfl rfl (fun W => by go_simp; rfl) ?_)); go_simp)
      refine dynL_act rfl rfl (fun K hK => ?_)
      go_wp2_with fail
      refine hK.out _ _ (BC.step g4 ((Below.refl _ _).alloc (Nat.le_refl _) _)) ?_
      clear hK
      refine dynL_act rfl rfl (fun K hK => ?_)
      have hlw := BC.lo g4
      have hrq := HS4.out.rq
      have hqs := HS4.out.qs
      obtain ⟨xs, hown, hrow, hclose⟩ := StoreO.pushE (x := ⟨true, y, [], []⟩) (T := fun _ => False) (ecs := [.bool true, .int .i64 y, .slice none 0 0, .slice none 0 0]) HS4.out.st hrq hqs (by omega) rfl (envO_new _ _ y HIy.out) (fun _ h => h.elim)
      rw [HP.out.e] at hown hclose
      refine wp_push (.tmp 18) (.tmp 25) 30 rfl (w.heap.size + 1) 71 (.agg #[.bool false, .int .i64 0, .slice none 0 0, .slice none 0 0]) 4 64 Tryz.underlying30 info_Env rfl (by decide) w4 (.slice A0 E c0) E xs #[.bool true, .int .i64 y, .slice none 0 0, .slice none 0 0] rfl rfl hown rfl (by simp [Value.oneCell']) (by omega) (by omega) (by omega) ?_
      intro v1 w5 ho5 hg5 hk5 hb5
      have g5 := BC.grow g4 hgl HY.out HA.out hb5 hg5 (fun b e => (hrow b e).2)
      obtain ⟨A5, c5, rfl⟩ := own_shapeN ho5
      have HO5 := Lib.hid (hclose _ w5 (w5.setCell ⟨r6, 0, none⟩ (.slice A5 (E + 1) c5)) ho5 hg5 hk5 (fun b e => (ho5.lt b e).2) ((Keeps.refl _ _).sc (by simp) _))
      clear hclose hown hrow ho5 hg5 hk5 hb5 HS4 g4 hlw hrq hqs
      refine hK.out _ _ g5 ?_
      clear hK
      go_simp
      repeat ((first | (refine dynL_take rfl rfl (fun W g => by go_simp; rfl) ?_) | (refine dynL_pure rfl rfl (fun W => by go_simp; rfl) ?_)); go_simp)
      have y1 := (BC.b6 g5).cell 0 _ rfl
      have f1 := (BC.b6 g5).frozen 0
      refine dynL_last rfl (by simp) rfl (fun K hK => ?_)
      go_wp2_with fail
      refine hK.out _ _ ?_
      clear hK
      refine dynL_done ?_
      go_wp2_with fail
      exact ⟨⟨n, E + 1, A5, c5, A1, c1, ⟨s.envs ++ [EnvD.mk true y [] []], s.promises⟩, by go_num, by omega, by omega, HP.out.env y, ⟨BC.put g5 hgl HY.out HA.out 0 _, HO5.out, by rw [size_sc]; exact (BC.b6 g5).lt, Nat.le_refl _⟩⟩, by simp [intOf]⟩
    · obtain rfl : n = 0 := by omega
      have HP2 := Lib.hid HP.out
      have HS5 := Lib.hid HS.out
      obtain ⟨wo, hwo⟩ : ∃ wo, wo = wr := ⟨_, rfl⟩
      rw [← hwo] at HS5 ⊢
      clear hwo HP HS HS3 HP1
      go_wp2_with fail
      refine Calls.mono (spec_l1Below g v l 4 _ (BC.cur HS5.out.bc) HA.out (by omega) (by omega)) ?_
      rintro e w6 ⟨x, rfl, hx0, hx1, hc, ho⟩
      obtain ⟨n1, rfl⟩ := Int.eq_ofNat_of_zero_le hx0
      have HS6 := Lib.hid ((HS5.out.next hgl hc ho).rebase)
      clear hc ho HS5
      go_wp2_with fail
      go_loopw [5] (fun i wr => ∃ (n P : Nat) (A0 : Option Addr) (c0 : Nat) (A1 : Option Addr) (c1 : Nat) (s : StoreD), i = .int .i64 n ∧ P + n ≤ 3 ∧ Hid (PB E P 0 s) ∧ Hid (SC g v l w r6 (csS A0 E c0 A1 P c1) wr.heap.size s wr)) (fun i _ => (intOf i).toNat)
      case atStart => exact ⟨n1, 0, A0, c0, A1, c1, s, rfl, by omega, HP2.out, HS6.out⟩
      case round =>
        obtain ⟨n, P, A0, c0, A1, c1, s, rfl, hn, HP, HS⟩ := hrel
        by_cases hp : 0 < n
        · obtain ⟨n, rfl⟩ : ∃ m, n = m + 1 := ⟨n - 1, by omega⟩
          go_wp2_with fail
          have HSX := Lib.hid HS.out
          have hlw := BC.lo HS.out.bc
          have hrq := HS.out.rq
          refine wp_region_freeG (Only g) (fun _ _ h => h.size) (by kernel_rfl) (by kernel_rfl) (SC g v l w r6 (csS A0 E c0 A1 P c1) wr.heap.size s) (fun i => i) (fun i => [i]) (pR g r6 A0 E c0 wr.heap.size) (fun vs => ⟨#[.pointer (some ⟨g, 0, none⟩), undef, .pointer (some ⟨w.heap.size, 0, none⟩), .pointer (some ⟨r6, 0, none⟩), .int .i64 0, .int .i64 ((n + 1 : Nat) : Int), vs 10, undef, undef, undef, V10, .pointer (some ⟨g, 0, none⟩), .int .i64 (n0 : Int), .int .i64 0, .bool false, u15, u16, u17, u18, u19, u20, u21, u22, u23, u24, u25, u26, u27, .pointer (some ⟨g, 0, none⟩), .int .i64 (n1 : Int), .int .i64 ((n + 1 : Nat) : Int), .bool true, u32, u33, vs 0, vs 1, vs 2, vs 3, vs 4, vs 5, vs 6, vs 7, vs 8, vs 9, u44, u45, u46, u47, u48, u49, u50, u51, u52, u53, u54, u55, u56, u57, u58, u59, undef, undef, undef, undef, undef, undef, undef, undef, undef, undef, undef, undef, undef, undef, undef, undef, undef, undef, undef, undef, undef, undef, undef, undef, undef, undef, undef, undef, undef, undef, undef, undef, undef, undef, undef, undef, undef, undef, undef, undef, undef, undef, undef, undef, undef, undef, undef, undef, undef, undef, undef, undef, undef, undef, undef, undef, undef, undef, undef, undef, undef, undef, undef, undef, undef], []⟩) (fun vs => by kernel_rfl) (by kernel_rfl) (HSX.out.step (Below.drew (Below.refl _ _))) (pK g r6 A0 E c0 wr.heap.size) ?_ ?_
          · intro i o ho hi vs T W hS hd'
            have h9 : i + 1 < 12 := by simpa using hi
            have hi' : i = 0 ∨ i = 1 ∨ i = 2 ∨ i = 3 ∨ i = 4 ∨ i = 5 ∨ i = 6 ∨ i = 7 ∨ i = 8 ∨ i = 9 ∨ i = 10 := by omega
            clear h9 hi
            rcases hi' with rfl | rfl | rfl | rfl | rfl | rfl | rfl | rfl | rfl | rfl | rfl
            · obtain rfl := Option.some.inj ho
              exact oper_ok (by go_simp) ⟨_, rfl, Only.refl _ _, hS, upd_same _ _ _⟩
            · obtain rfl := Option.some.inj ho
              have e0 : vs 0 = _ := hd' ⟨0, .data⟩ (by simp) rfl
              refine oper_call (by go_simp) (spec_l1Below g v l 5 _ (BC.cur hS.bc) HA.out (by omega) (by omega)) ?_
              rintro e W' ⟨x, rfl, h0, h1, hc, ho⟩
              exact ⟨_, rfl, _, rfl, ho, hS.next hgl hc ho, x, upd_same _ _ _, h0, by omega⟩
            · obtain rfl := Option.some.inj ho
              exact oper_ok (by go_simp) ⟨_, rfl, Only.refl _ _, hS, upd_same _ _ _⟩
            · obtain rfl := Option.some.inj ho
              exact oper_ok (by go_simp; try rfl) ⟨_, rfl, Only.refl _ _, hS, upd_same _ _ _⟩
            · obtain rfl := Option.some.inj ho
              have e0 : vs 3 = _ := hd' ⟨3, .data⟩ (by simp) rfl
              have y0 := (BC.b6 hS.bc).cell 0 _ rfl
              exact oper_ok (by go_simp; try rfl) ⟨_, rfl, Only.refl _ _, hS, upd_same _ _ _⟩
            · obtain rfl := Option.some.inj ho
              have e0 : vs 4 = _ := hd' ⟨4, .data⟩ (by simp) rfl
              exact oper_ok (by go_simp; try rfl) ⟨_, rfl, Only.refl _ _, hS, upd_same _ _ _⟩
            · obtain rfl := Option.some.inj ho
              have e0 : vs 2 = _ := hd' ⟨2, .data⟩ (by simp) rfl
              have e1 : vs 5 = _ := hd' ⟨5, .data⟩ (by simp) rfl
              refine oper_call (by go_simp) (spec_l1Below g v l E _ (BC.cur hS.bc) HA.out (by omega) (by omega)) ?_
              rintro e W' ⟨x, rfl, h0, h1, hc, ho⟩
              exact ⟨_, rfl, _, rfl, ho, hS.next hgl hc ho, x, upd_same _ _ _, h0, h1⟩
            · obtain rfl := Option.some.inj ho
              exact oper_ok (by go_simp) ⟨_, rfl, Only.refl _ _, hS, upd_same _ _ _⟩
            · obtain rfl := Option.some.inj ho
              have e0 : vs 7 = _ := hd' ⟨7, .data⟩ (by simp) rfl
              refine oper_call (by go_simp) (spec_l1Below g v l 3 _ (BC.cur hS.bc) HA.out (by omega) (by omega)) ?_
              rintro e W' ⟨x, rfl, h0, h1, hc, ho⟩
              exact ⟨_, rfl, _, rfl, ho, hS.next hgl hc ho, x, upd_same _ _ _, h0, by omega⟩
            · obtain rfl := Option.some.inj ho
              obtain ⟨x, e0, hx⟩ := (show ∃ x : Int, vs 1 = .int .i64 x ∧ 0 ≤ x ∧ x ≤ 4 from hd' ⟨1, .data⟩ (by simp) rfl)
              obtain ⟨y, e1, hy⟩ := (show ∃ x : Int, vs 6 = .int .i64 x ∧ 0 ≤ x ∧ x ≤ E - 1 from hd' ⟨6, .data⟩ (by simp) rfl)
              obtain ⟨z, e2, hz⟩ := (show ∃ x : Int, vs 8 = .int .i64 x ∧ 0 ≤ x ∧ x ≤ 2 from hd' ⟨8, .data⟩ (by simp) rfl)
              have HX := Lib.hid (show (0 ≤ x ∧ x ≤ 4) ∧ (0 ≤ y ∧ y ≤ E - 1) ∧ (0 ≤ z ∧ z ≤ 2) from ⟨hx, hy, hz⟩)
              clear hx hy hz
              exact oper_ok (v := .agg (pcs3 x y z).toArray) (by go_simp; rfl) ⟨_, rfl, Only.refl _ _, hS, x, y, z, upd_same _ _ _, HX.out⟩
            · obtain rfl := Option.some.inj ho
              have hb := (Below.refl W.heap.size W).alloc (Nat.le_refl _) (.cells pcZ.toArray 74)
              have hqs := hS.qs
              exact oper_ok (by go_simp; rfl) ⟨_, rfl, Only.of_below hb, hS.step hb, W.heap.size, upd_same _ _ _, Blk.new W _ pcZ, hqs, by omega⟩
          · intro o ho vs T W hS hsz hT1 hT2 hR
            obtain ⟨od, oo, ot, opos, oa, og⟩ := o
            obtain ⟨rfl, rfl⟩ : od = none ∧ oo = .store 74 (.tmp 6) (.tmp 43) := ⟨(congrArg Oper.dst (Option.some.inj ho)).symm, (congrArg Oper.op (Option.some.inj ho)).symm⟩
            clear ho hT1 hT2
            obtain ⟨x, y, z, e9, hx, hy, hz⟩ := (show ∃ x y z : Int, vs 9 = .agg (pcs3 x y z).toArray ∧ (0 ≤ x ∧ x ≤ 4) ∧ (0 ≤ y ∧ y ≤ E - 1) ∧ (0 ≤ z ∧ z ≤ 2) from hR 9 (by decide))
            obtain ⟨b, e10, hB, hqb, hgb⟩ := (show ∃ b, vs 10 = .pointer (some ⟨b, 0, none⟩) ∧ Blk W b 74 pcZ ∧ wr.heap.size ≤ b ∧ g ≠ b from hR 10 (by decide))
            have e9' : vs 9 = .agg #[.bool true, .int .i64 x, .int .i64 y, .int .i64 z, .int .i64 0, .slice none 0 0, .slice none 0 0, .slice none 0 0, .slice none 0 0, .slice none 0 0, .int .i64 0, .int .i64 0] := e9
            rw [e9', e10]
            have HPX := Lib.hid (show PX g v l w r6 (csS A0 E c0 A1 P c1) wr.heap.size s b pcZ W from ⟨hS, hB, hqb⟩)
            clear hR e9 e9' e10 hS hB
            generalize vs 0 = vs0
            generalize vs 1 = vs1
            generalize vs 2 = vs2
            generalize vs 3 = vs3
            generalize vs 4 = vs4
            generalize vs 5 = vs5
            generalize vs 6 = vs6
            generalize vs 7 = vs7
            generalize vs 8 = vs8
            have p0 := HPX.out.p.cell 0 _ rfl
            have p1 := HPX.out.p.cell 1 _ rfl
            have p2 := HPX.out.p.cell 2 _ rfl
            have p3 := HPX.out.p.cell 3 _ rfl
            have p4 := HPX.out.p.cell 4 _ rfl
            have p5 := HPX.out.p.cell 5 _ rfl
            have p6 := HPX.out.p.cell 6 _ rfl
            have p7 := HPX.out.p.cell 7 _ rfl
            have p8 := HPX.out.p.cell 8 _ rfl
            have p9 := HPX.out.p.cell 9 _ rfl
            have p10 := HPX.out.p.cell 10 _ rfl
            have p11 := HPX.out.p.cell 11 _ rfl
            have z0 := HPX.out.p.frozen 0
            have z1 := HPX.out.p.frozen 1
            have z2 := HPX.out.p.frozen 2
            have z3 := HPX.out.p.frozen 3
            have z4 := HPX.out.p.frozen 4
            have z5 := HPX.out.p.frozen 5
            have z6 := HPX.out.p.frozen 6
            have z7 := HPX.out.p.frozen 7
            have z8 := HPX.out.p.frozen 8
            have z9 := HPX.out.p.frozen 9
            have z10 := HPX.out.p.frozen 10
            have z11 := HPX.out.p.frozen 11
            refine oper_gen (fun K hK => ?_)
            go_wp2_with fail
            refine hK.out _ _ ?_
            clear hK K
            clear p0 z0 p1 z1 p2 z2 p3 z3 p4 z4 p5 z5 p6 z6 p7 z7 p8 z8 p9 z9 p10 z10 p11 z11
            have HPY := Lib.hid ((((((((((((HPX.out.put hgl HY.out HA.out 0 (.bool true)).put hgl HY.out HA.out 1 (.int .i64 x)).put hgl HY.out HA.out 2 (.int .i64 y)).put hgl HY.out HA.out 3 (.int .i64 z)).put hgl HY.out HA.out 4 (.int .i64 0)).put hgl HY.out HA.out 5 (.slice none 0 0)).put hgl HY.out HA.out 6 (.slice none 0 0)).put hgl HY.out HA.out 7 (.slice none 0 0)).put hgl HY.out HA.out 8 (.slice none 0 0)).put hgl HY.out HA.out 9 (.slice none 0 0)).put hgl HY.out HA.out 10 (.int .i64 0)).put hgl HY.out HA.out 11 (.int .i64 0))
            clear HPX
            refine gen_w (G := PX g v l w r6 (csS A0 E c0 A1 P c1) wr.heap.size s b (pcs3 x y z)) HPY.out ?_
            intro w7 HX7
            have HP7 := Lib.hid (show PX g v l w r6 (csS A0 E c0 A1 P c1) wr.heap.size s b (pcs3 x y z) w7 from HX7)
            clear HX7 HPY
            have hIx : I64 x := by unfold I64; omega
            have hIy : I64 y := by unfold I64; omega
            have hIz : I64 z := by unfold I64; omega
            have hbr := HP7.out.ne
            have e3 := HP7.out.p.cell 3 _ rfl
            by_cases hz2 : z = 2
            · subst hz2
              have e2 := HP7.out.p.cell 2 _ rfl
              have f2 := HP7.out.p.frozen 2
              go_upto_region 12 with fail
              refine gen_w (G := PX g v l w r6 (csS A0 E c0 A1 P c1) wr.heap.size s b (pcs3 x 0 2)) (HP7.out.put hgl HY.out HA.out 2 _) ?_
              intro w8 HX8
              have HP8 := Lib.hid (show PX g v l w r6 (csS A0 E c0 A1 P c1) wr.heap.size s b (pcs3 x 0 2) w8 from HX8)
              clear HX8 e2 f2 e3
              have y0 := (BC.b6 HP8.out.sc.bc).cell 0 _ rfl
              go_wp2_with fail
              refine Calls.mono (spec_l26Vector g v l E _ (BC.cur HP8.out.sc.bc) HA.out (by omega) (by omega)) ?_
              rintro e w9 ⟨vcs, d, rfl, hV, hzd, hc, ho⟩
              obtain ⟨D1, d1, D2, d2, D3, d3, D4, d4, D5, d5, rfl⟩ := hV.shape
              have HP9 := Lib.hid (HP8.out.next hgl hc ho)
              have HV := Lib.hid hV
              have hq8 := HP8.out.sc.qs
              have hb8 := HP8.out.p.lt
              have hs9 := ho.size
              clear hc ho hV HP8 y0
              have p4 := HP9.out.p.cell 4 _ rfl
              have z4 := HP9.out.p.frozen 4
              have p5 := HP9.out.p.cell 5 _ rfl
              have z5 := HP9.out.p.frozen 5
              have p6 := HP9.out.p.cell 6 _ rfl
              have z6 := HP9.out.p.frozen 6
              have p7 := HP9.out.p.cell 7 _ rfl
              have z7 := HP9.out.p.frozen 7
              have p8 := HP9.out.p.cell 8 _ rfl
              have z8 := HP9.out.p.frozen 8
              have p9 := HP9.out.p.cell 9 _ rfl
              have z9 := HP9.out.p.frozen 9
              have p10 := HP9.out.p.cell 10 _ rfl
              have z10 := HP9.out.p.frozen 10
              have p11 := HP9.out.p.cell 11 _ rfl
              have z11 := HP9.out.p.frozen 11
              go_upto_region 13 with fail
              clear p4 z4 p5 z5 p6 z6 p7 z7 p8 z8 p9 z9 p10 z10 p11 z11
              have HP10 := Lib.hid ((((((((HP9.out.put hgl HY.out HA.out 4 (.int .i64 d.kind)).put hgl HY.out HA.out 5 (.slice D1 d.items.length d1)).put hgl HY.out HA.out 6 (.slice D2 d.parts.length d2)).put hgl HY.out HA.out 7 (.slice D3 d.names.length d3)).put hgl HY.out HA.out 8 (.slice D4 d.cls.length d4)).put hgl HY.out HA.out 9 (.slice D5 d.levels.length d5)).put hgl HY.out HA.out 10 (.int .i64 d.code)).put hgl HY.out HA.out 11 (.int .i64 d.env))
              have HK10 := Lib.hid (Keeps.sc (b := b) (o := 11) (Keeps.sc (b := b) (o := 10) (Keeps.sc (b := b) (o := 9) (Keeps.sc (b := b) (o := 8) (Keeps.sc (b := b) (o := 7) (Keeps.sc (b := b) (o := 6) (Keeps.sc (b := b) (o := 5) (Keeps.sc (b := b) (o := 4) (Keeps.refl (fun x => x ≠ b) w9) (by simp) (.int .i64 d.kind)) (by simp) (.slice D1 d.items.length d1)) (by simp) (.slice D2 d.parts.length d2)) (by simp) (.slice D3 d.names.length d3)) (by simp) (.slice D4 d.cls.length d4)) (by simp) (.slice D5 d.levels.length d5)) (by simp) (.int .i64 d.code)) (by simp) (.int .i64 d.env))
              have HV10 := Lib.hid (HV.out.keeps (HK10.out.mono fun x hx => by have := hx.1; omega))
              refine gen_w (G := fun V => PX g v l w r6 (csS A0 E c0 A1 P c1) wr.heap.size s b [.bool true, .int .i64 x, .int .i64 0, .int .i64 2, .int .i64 d.kind, .slice D1 d.items.length d1, .slice D2 d.parts.length d2, .slice D3 d.names.length d3, .slice D4 d.cls.length d4, .slice D5 d.levels.length d5, .int .i64 d.code, .int .i64 d.env] V ∧ w9.heap.size ≤ V.heap.size ∧ VecO (Rng w8.heap.size w9.heap.size) V [.int .i64 d.kind, .slice D1 d.items.length d1, .slice D2 d.parts.length d2, .slice D3 d.names.length d3, .slice D4 d.cls.length d4, .slice D5 d.levels.length d5, .int .i64 d.code, .int .i64 d.env] d) (show Ok _ _ from ⟨HP10.out, HK10.out.1, HV10.out⟩) ?_
              rintro w11 ⟨HX11, hs11, HY11⟩
              have HP11 := Lib.hid HX11
              have HV11 := Lib.hid HY11
              clear HX11 HY11 HP10 HV10 HK10 HV HP9 HP7
              have HX := Lib.hid (promO_mk hIx i64z_ i64two HV11.out)
              have hT : ∀ b, Rng w8.heap.size w9.heap.size b → wr.heap.size ≤ b ∧ b < w11.heap.size := fun b hb => ⟨by have := hb.1; omega, by have := hb.2; omega⟩
              have hqs := HP11.out.sc.qs
              have hrq := HP11.out.sc.rq
              have hlo := BC.lo HP11.out.sc.bc
              obtain ⟨xs, hown, hrow, hclose⟩ := StoreO.pushP HP11.out.sc.st hrq hqs (by omega) rfl HX.out hT
              rw [HP.out.p] at hown hclose
              have HOWN := Lib.hid hown
              have HCL := Lib.hid hclose
              have HRW := Lib.hid hrow
              clear hown hclose hrow hT
              have p0 := HP11.out.p.cell 0 _ rfl
              have p1 := HP11.out.p.cell 1 _ rfl
              have p2 := HP11.out.p.cell 2 _ rfl
              have p3 := HP11.out.p.cell 3 _ rfl
              have p4 := HP11.out.p.cell 4 _ rfl
              have p5 := HP11.out.p.cell 5 _ rfl
              have p6 := HP11.out.p.cell 6 _ rfl
              have p7 := HP11.out.p.cell 7 _ rfl
              have p8 := HP11.out.p.cell 8 _ rfl
              have p9 := HP11.out.p.cell 9 _ rfl
              have p10 := HP11.out.p.cell 10 _ rfl
              have p11 := HP11.out.p.cell 11 _ rfl
              have y1 := (BC.b6 HP11.out.sc.bc).cell 1 _ rfl
              go_wp2_with (at_builtin; go_must (refine wpList_push rfl _ _ 31 rfl (w.heap.size + 1) 74 (.agg #[.bool false, .int .i64 0, .int .i64 0, .int .i64 0, .int .i64 0, .slice none 0 0, .slice none 0 0, .slice none 0 0, .slice none 0 0, .slice none 0 0, .int .i64 0, .int .i64 0]) 12 176 Tryz.underlying31 info_Promise rfl (by decide) _ _ _ _ _ rfl rfl (by exact HOWN.out) rfl (by simp [Value.oneCell']) (by omega) (by omega) (by omega) ?_); intro v1 w12 ho12 hg12 hk12 hb12; have g12 := BC.grow HP11.out.sc.bc hgl HY.out HA.out hb12 hg12 (fun b e => (HRW.out b e).2); obtain ⟨A5, c5, rfl⟩ := own_shapeN ho12; have y12 := (BC.b6 g12).cell 1 _ rfl; have f12 := (BC.b6 g12).frozen 1)
              go_roundw
              case rel =>
                refine ⟨n, P + 1, A0, c0, A5, c5, ⟨s.envs, s.promises ++ [(PromD.mk true x 0 2 d)]⟩, by go_num, by omega, HP.out.prom (PromD.mk true x 0 2 d) (by exact hzd), ⟨BC.put g12 hgl HY.out HA.out 1 _, ?_, by rw [size_sc]; exact (BC.b6 g12).lt, Nat.le_refl _⟩⟩
                exact HCL.out _ w12 _ ho12 hg12 hk12 (fun b e => (ho12.lt b e).2) ((Keeps.refl _ _).sc (by simp) _)
              case measure => simp [intOf]
            · have HP11 := Lib.hid HP7.out
              have HX := Lib.hid (promO_mk (T := fun _ => False) (W := w7) (d := vz0) hIx hIy hIz (vz0_own _ _))
              have hT : ∀ b, False → wr.heap.size ≤ b ∧ b < w7.heap.size := fun b hb => hb.elim
              have hzd : szVector vz0 ≤ 1000 := by rw [sz_vz0]; omega
              clear HP7
              go_upto_region 13 with fail
              clear e3
              have hqs := HP11.out.sc.qs
              have hrq := HP11.out.sc.rq
              have hlo := BC.lo HP11.out.sc.bc
              obtain ⟨xs, hown, hrow, hclose⟩ := StoreO.pushP HP11.out.sc.st hrq hqs (by omega) rfl HX.out hT
              rw [HP.out.p] at hown hclose
              have HOWN := Lib.hid hown
              have HCL := Lib.hid hclose
              have HRW := Lib.hid hrow
              clear hown hclose hrow hT
              have p0 := HP11.out.p.cell 0 _ rfl
              have p1 := HP11.out.p.cell 1 _ rfl
              have p2 := HP11.out.p.cell 2 _ rfl
              have p3 := HP11.out.p.cell 3 _ rfl
              have p4 := HP11.out.p.cell 4 _ rfl
              have p5 := HP11.out.p.cell 5 _ rfl
              have p6 := HP11.out.p.cell 6 _ rfl
              have p7 := HP11.out.p.cell 7 _ rfl
              have p8 := HP11.out.p.cell 8 _ rfl
              have p9 := HP11.out.p.cell 9 _ rfl
              have p10 := HP11.out.p.cell 10 _ rfl
              have p11 := HP11.out.p.cell 11 _ rfl
              have y1 := (BC.b6 HP11.out.sc.bc).cell 1 _ rfl
              go_wp2_with (at_builtin; go_must (refine wpList_push rfl _ _ 31 rfl (w.heap.size + 1) 74 (.agg #[.bool false, .int .i64 0, .int .i64 0, .int .i64 0, .int .i64 0, .slice none 0 0, .slice none 0 0, .slice none 0 0, .slice none 0 0, .slice none 0 0, .int .i64 0, .int .i64 0]) 12 176 Tryz.underlying31 info_Promise rfl (by decide) _ _ _ _ _ rfl rfl (by exact HOWN.out) rfl (by simp [Value.oneCell']) (by omega) (by omega) (by omega) ?_); intro v1 w12 ho12 hg12 hk12 hb12; have g12 := BC.grow HP11.out.sc.bc hgl HY.out HA.out hb12 hg12 (fun b e => (HRW.out b e).2); obtain ⟨A5, c5, rfl⟩ := own_shapeN ho12; have y12 := (BC.b6 g12).cell 1 _ rfl; have f12 := (BC.b6 g12).frozen 1)
              go_roundw
              case rel =>
                refine ⟨n, P + 1, A0, c0, A5, c5, ⟨s.envs, s.promises ++ [(PromD.mk true x y z vz0)]⟩, by go_num, by omega, HP.out.prom (PromD.mk true x y z vz0) (by exact hzd), ⟨BC.put g12 hgl HY.out HA.out 1 _, ?_, by rw [size_sc]; exact (BC.b6 g12).lt, Nat.le_refl _⟩⟩
                exact HCL.out _ w12 _ ho12 hg12 hk12 (fun b e => (ho12.lt b e).2) ((Keeps.refl _ _).sc (by simp) _)
              case measure => simp [intOf]
        · obtain rfl : n = 0 := by omega
          have HP3 := Lib.hid HP.out
          have HS7 := Lib.hid HS.out
          obtain ⟨wq, hwq⟩ : ∃ wq, wq = wr := ⟨_, rfl⟩
          rw [← hwq] at HS7 ⊢
          clear hwq HP HS HS6 HP2
          go_wp2_with fail
          refine Calls.mono (spec_l1Below g v l 9 _ (BC.cur HS7.out.bc) HA.out (by omega) (by omega)) ?_
          rintro e w13 ⟨x, rfl, hx0, hx1, hc, ho⟩
          obtain ⟨n2, rfl⟩ := Int.eq_ofNat_of_zero_le hx0
          have HS8 := Lib.hid ((HS7.out.next hgl hc ho).rebase)
          clear hc ho HS7
          go_wp2_with fail
          go_loopw [7] (fun i wr => ∃ (n D : Nat) (s : StoreD), i = .int .i64 n ∧ D + n ≤ 8 ∧ Hid (PB E P D s) ∧ Hid (SC g v l w r6 (csS A0 E c0 A1 P c1) wr.heap.size s wr)) (fun i _ => (intOf i).toNat)
          case atStart => exact ⟨n2, 0, s, rfl, by omega, HP3.out, HS8.out⟩
          case round =>
            obtain ⟨n, D, s, rfl, hn, HP, HS⟩ := hrel
            have hlw := BC.lo HS.out.bc
            have hrq := HS.out.rq
            by_cases hp : 0 < n
            · obtain ⟨n, rfl⟩ : ∃ m, n = m + 1 := ⟨n - 1, by omega⟩
              have hb6 := (Below.refl wr.heap.size wr).alloc (Nat.le_refl _) (.cells (kinds6.map fun x => Value.int .i64 x).toArray 3)
              have HS9 := Lib.hid (HS.out.step hb6)
              have HI6 := Lib.hid (Ints.lit (W := wr) kinds6 6 rfl (by decide) kinds6_i64)
              have HAP6 := Lib.hid (apart_new (W := wr) (g := g) (n := 6) (by omega))
              clear hb6
              go_wp2_with fail
              refine Calls.mono (spec_l1PickInt g v l _ kinds6 _ (by exact BC.cur HS9.out.bc) HA.out (by exact HI6.out) (by exact HAP6.out) (by decide) (by decide)) ?_
              rintro e w14 ⟨kd, rfl, hkd, hc, ho⟩
              have HS10 := Lib.hid (HS9.out.next hgl hc ho)
              have HKD := Lib.hid hkd
              clear hc ho HS9 HI6 HAP6 hkd
              go_upto_region 18 with fail
              have HX := Lib.hid (SX.make HS10.out (xcK kd 0 (.slice none 0 0) (.slice none 0 0)))
              clear HS10
              generalize hbx : w14.heap.size = bx at HX ⊢
              clear hbx
              generalize Value.agg #[.int .i64 kd, .int .i64 0, .slice none 0 0, .slice none 0 0, .slice none 0 0, .slice none 0 0, .slice none 0 0, .int .i64 0, .int .i64 0, .int .i64 0, .slice none 0 0, .slice none 0 0] = V69
              refine gen_w (G := SX g v l w r6 (csS A0 E c0 A1 P c1) wr.heap.size s bx (xcK kd 0 (.slice none 0 0) (.slice none 0 0))) HX.out ?_
              intro w15 HX15
              have HS15 := Lib.hid (show SX g v l w r6 (csS A0 E c0 A1 P c1) wr.heap.size s bx (xcK kd 0 (.slice none 0 0) (.slice none 0 0)) w15 from HX15)
              clear HX HX15
              go_cut [9] from 70 to 75 (fun k9 wx => ∃ z : Int, k9 = .int .i64 z ∧ Hid (I64 z) ∧ Hid (SX g v l w r6 (csS A0 E c0 A1 P c1) wr.heap.size s bx (xcK kd 0 (.slice none 0 0) (.slice none 0 0)) wx))
              case first =>
                have y1 := (BC.b6 HS15.out.sc.bc).cell 1 _ rfl
                go_wp2_with fail
                all_goals
                  refine Calls.mono (spec_l1Below g v l _ _ (BC.cur HS15.out.sc.bc) HA.out (by omega) (by omega)) ?_
                  rintro e w16 ⟨z, rfl, hz0, hz1, hc, ho⟩
                  have HS16 := Lib.hid (HS15.out.next hgl hc ho)
                  have HZ := Lib.hid (show I64 z by unfold I64; omega)
                  clear hc ho hz0 hz1
                  go_wp2_with fail
                  go_meet
                  case rel => exact ⟨z, rfl, HZ.out, HS16.out⟩
              case rest =>
              obtain ⟨z, rfl, HZ, HS16⟩ := hcut
              obtain ⟨w16, hw16⟩ : ∃ w16, w16 = wc := ⟨_, rfl⟩
              rw [← hw16] at HS16 ⊢
              clear hw16 HS15
              have hbr := HS16.out.ne
              have e0 := HS16.out.x.cell 0 _ rfl
              have y0 := (BC.b6 HS16.out.sc.bc).cell 0 _ rfl
              have y1 := (BC.b6 HS16.out.sc.bc).cell 1 _ rfl
              go_upto_block 6 with fail
              go_cut [] from 76 to 113 (fun wx => ∃ (xcs : List Value) (xd : SlotD), Hid (SX g v l w r6 (csS A0 E c0 A1 P c1) wr.heap.size s bx xcs wx) ∧ Hid (SlotO (Rng wr.heap.size wx.heap.size) wx xcs xd) ∧ Hid (szSlot xd ≤ 1050))
              case first =>
                by_cases k1 : kd = 1
                · subst k1
                  go_wp2_with fail
                  refine Calls.mono (spec_l26Vector g v l E _ (BC.cur HS16.out.sc.bc) HA.out (by omega) (by omega)) ?_
                  rintro e w17 ⟨vcs, d, rfl, hV, hzd, hc, ho⟩
                  obtain ⟨D1, d1, D2, d2, D3, d3, D4, d4, D5, d5, rfl⟩ := hV.shape
                  have HS17 := Lib.hid (HS16.out.next hgl hc ho)
                  have HV := Lib.hid hV
                  have HZD := Lib.hid hzd
                  have hq8 := HS16.out.sc.qs
                  have hb8 := HS16.out.x.lt
                  have hs9 := ho.size
                  clear hc ho hV hzd HS16 y0 y1 e0
                  have p1 := HS17.out.x.cell 1 _ rfl
                  have z1 := HS17.out.x.frozen 1
                  have p2 := HS17.out.x.cell 2 _ rfl
                  have z2 := HS17.out.x.frozen 2
                  have p3 := HS17.out.x.cell 3 _ rfl
                  have z3 := HS17.out.x.frozen 3
                  have p4 := HS17.out.x.cell 4 _ rfl
                  have z4 := HS17.out.x.frozen 4
                  have p5 := HS17.out.x.cell 5 _ rfl
                  have z5 := HS17.out.x.frozen 5
                  have p6 := HS17.out.x.cell 6 _ rfl
                  have z6 := HS17.out.x.frozen 6
                  have p7 := HS17.out.x.cell 7 _ rfl
                  have z7 := HS17.out.x.frozen 7
                  have p8 := HS17.out.x.cell 8 _ rfl
                  have z8 := HS17.out.x.frozen 8
                  go_wp2_with fail
                  go_meet
                  case rel =>
                    have HK := Lib.hid (Keeps.sc (b := bx) (o := 8) (Keeps.sc (b := bx) (o := 7) (Keeps.sc (b := bx) (o := 6) (Keeps.sc (b := bx) (o := 5) (Keeps.sc (b := bx) (o := 4) (Keeps.sc (b := bx) (o := 3) (Keeps.sc (b := bx) (o := 2) (Keeps.sc (b := bx) (o := 1) (Keeps.refl (fun x => x ≠ bx) w17) (by simp) (.int .i64 d.kind)) (by simp) (.slice D1 d.items.length d1)) (by simp) (.slice D2 d.parts.length d2)) (by simp) (.slice D3 d.names.length d3)) (by simp) (.slice D4 d.cls.length d4)) (by simp) (.slice D5 d.levels.length d5)) (by simp) (.int .i64 d.code)) (by simp) (.int .i64 d.env))
                    refine ⟨_, SlotD.mk 1 d 0 [] [], ((((((((HS17.out.put hgl HY.out HA.out 1 (.int .i64 d.kind)).put hgl HY.out HA.out 2 (.slice D1 d.items.length d1)).put hgl HY.out HA.out 3 (.slice D2 d.parts.length d2)).put hgl HY.out HA.out 4 (.slice D3 d.names.length d3)).put hgl HY.out HA.out 5 (.slice D4 d.cls.length d4)).put hgl HY.out HA.out 6 (.slice D5 d.levels.length d5)).put hgl HY.out HA.out 7 (.int .i64 d.code)).put hgl HY.out HA.out 8 (.int .i64 d.env)), slotO_mk (fun _ => 1) i64o_ i64z_ ((HV.out.keeps (HK.out.mono fun x hx => ?_)).mono fun x hx => ?_) ((IntO.nil_ (fun _ => False) _).mono fun _ h => h.elim) ((TxtO.nil_ (fun _ => False) _).mono fun _ h => h.elim), sz_slotD _ _ _ _ _ HZD.out (by decide) (by decide)⟩
                    · have := hx.1; omega
                    · have := HK.out.1
                      exact ⟨⟨by have := hx.1; omega, by have := hx.2; omega⟩, rfl⟩
                by_cases k2 : kd = 2 ∧ 0 < P
                · obtain ⟨rfl, hP0⟩ := k2
                  have p9 := HS16.out.x.cell 9 _ rfl
                  have z9 := HS16.out.x.frozen 9
                  go_wp2_with fail
                  go_meet
                  case rel =>
                    exact ⟨_, SlotD.mk 2 vz0 z [] [], HS16.out.put hgl HY.out HA.out 9 (.int .i64 z), slotO_z i64two HZ.out, sz_slotD _ _ _ _ _ (by rw [sz_vz0]; omega) (by decide) (by decide)⟩
                by_cases k3 : kd = 3 ∧ 0 < P
                · obtain ⟨rfl, hP0⟩ := k3
                  have p10 := HS16.out.x.cell 10 _ rfl
                  have z10 := HS16.out.x.frozen 10
                  have hbx := HS16.out.x.lt
                  go_upto_region 26 with fail
                  refine gen_w (G := fun V => SX g v l w r6 (csS A0 E c0 A1 P c1) wr.heap.size s bx (xcK 3 0 (.slice (some ⟨w16.heap.size, 0, none⟩) 2 2) (.slice none 0 0)) V ∧ Blk V w16.heap.size 3 [.int .i64 z, .int .i64 0]) (show Ok _ _ from ⟨(HS16.out.put hgl HY.out HA.out 10 (.slice (some ⟨w16.heap.size, 0, none⟩) 2 2)).step ((Below.refl _ _).alloc (Nat.le_refl _) _), Blk.new_at _ 3 [.int .i64 z, .int .i64 0] _ (by rw [size_sc])⟩) ?_
                  rintro w18 ⟨HX18, HB18⟩
                  have HS18 := Lib.hid HX18
                  have HI18 := Lib.hid HB18
                  have hlt18 := HB18.lt
                  have hbx := HX18.x.lt
                  have hq18 := HX18.hb
                  have hq16 := HS16.out.sc.qs
                  clear HX18 HB18 p10 z10
                  have p11 := HS18.out.x.cell 11 _ rfl
                  have z11 := HS18.out.x.frozen 11
                  clear HS16 e0 y0 y1
                  go_wp2_with fail
                  go_meet
                  case rel =>
                    refine ⟨_, SlotD.mk 3 vz0 0 [z, 0] lab2, (HS18.out.put hgl HY.out HA.out 11 (.slice (some ⟨w18.heap.size, 0, none⟩) 2 2)).step ((Below.refl _ _).alloc (Nat.le_refl _) _), slotO_dots HZ.out ((HI18.out.far ⟨bx, 11, none⟩ ?_ _).alloc _) (Blk.new_at _ 9 (lab2.map fun s => Value.string (str s)) _ (by rw [size_sc])) (by omega) ⟨hq16, by simp [World.setCell]; omega⟩ ⟨by omega, by simp [World.setCell]⟩, sz_slotD _ _ _ _ _ (by rw [sz_vz0]; omega) (Nat.le_refl 2) (by decide)⟩
                    show _ ≠ bx; omega
                · have z0 := HS16.out.x.frozen 0
                  have hk2 : kd = 2 → P = 0 := fun h => Classical.byContradiction fun h2 => k2 ⟨h, by omega⟩
                  have hk3 : kd = 3 → P = 0 := fun h => Classical.byContradiction fun h2 => k3 ⟨h, by omega⟩
                  clear k2 k3
                  by_cases q2 : kd = 2
                  · obtain rfl := hk2 q2
                    subst q2
                    clear hk2 hk3
                    go_wp2_with fail
                    go_meet
                    case rel => exact ⟨_, SlotD.mk 0 vz0 0 [] [], HS16.out.put hgl HY.out HA.out 0 (.int .i64 0), slotO_z i64z_ i64z_, sz_slotD _ _ _ _ _ (by rw [sz_vz0]; omega) (by decide) (by decide)⟩
                  by_cases q3 : kd = 3
                  · obtain rfl := hk3 q3
                    subst q3
                    clear hk2 hk3
                    go_wp2_with fail
                    go_meet
                    case rel => exact ⟨_, SlotD.mk 0 vz0 0 [] [], HS16.out.put hgl HY.out HA.out 0 (.int .i64 0), slotO_z i64z_ i64z_, sz_slotD _ _ _ _ _ (by rw [sz_vz0]; omega) (by decide) (by decide)⟩
                  · clear hk2 hk3
                    go_wp2_with fail
                    go_meet
                    case rel => exact ⟨_, SlotD.mk 0 vz0 0 [] [], HS16.out.put hgl HY.out HA.out 0 (.int .i64 0), slotO_z i64z_ i64z_, sz_slotD _ _ _ _ _ (by rw [sz_vz0]; omega) (by decide) (by decide)⟩
              case rest =>
              obtain ⟨xcs, xd, HSX, HSO, HZX⟩ := hcut
              obtain ⟨w20, hw20⟩ : ∃ w20, w20 = wc := ⟨_, rfl⟩
              rw [← hw20] at HSX HSO ⊢
              clear hw20 HS16 e0 y0 y1
              obtain ⟨G1, m1, G2, m2, G3, m3, G4, m4, G5, m5, GP, gp, GL, gl, rfl⟩ := HSO.out.shape12
              have HD := Lib.hid (DX.mk HSX.out HSO.out (Nat.le_refl _))
              have hr6w := (BC.b6 HSX.out.sc.bc).lt
              clear HSX HSO
              go_wp2_with fail
              refine wp_region_freeG (Only g) (fun _ _ h => h.size) (by kernel_rfl) (by kernel_rfl) (DX g v l w r6 (csS A0 E c0 A1 P c1) wr.heap.size s bx [.int .i64 xd.kind, .int .i64 xd.value.kind, .slice G1 xd.value.items.length m1, .slice G2 xd.value.parts.length m2, .slice G3 xd.value.names.length m3, .slice G4 xd.value.cls.length m4, .slice G5 xd.value.levels.length m5, .int .i64 xd.value.code, .int .i64 xd.value.env, .int .i64 xd.promise, .slice GP xd.promises.length gp, .slice GL xd.labels.length gl] w20.heap.size xd) (fun i => i) (fun i => [i]) (dR g r6 A0 E c0 [.int .i64 xd.kind, .int .i64 xd.value.kind, .slice G1 xd.value.items.length m1, .slice G2 xd.value.parts.length m2, .slice G3 xd.value.names.length m3, .slice G4 xd.value.cls.length m4, .slice G5 xd.value.levels.length m5, .int .i64 xd.value.code, .int .i64 xd.value.env, .int .i64 xd.promise, .slice GP xd.promises.length gp, .slice GL xd.labels.length gl]) (fun vs => ⟨#[.pointer (some ⟨g, 0, none⟩), undef, .pointer (some ⟨w.heap.size, 0, none⟩), .pointer (some ⟨r6, 0, none⟩), .int .i64 0, .int .i64 0, u6, .int .i64 ((n : Int) + 1), .pointer (some ⟨bx, 0, none⟩), .int .i64 z, V10, .pointer (some ⟨g, 0, none⟩), .int .i64 (n0 : Int), .int .i64 0, .bool false, u15, u16, u17, u18, u19, u20, u21, u22, u23, u24, u25, u26, u27, .pointer (some ⟨g, 0, none⟩), .int .i64 (n1 : Int), .int .i64 0, .bool false, u32, u33, u34, u35, u36, u37, u38, u39, u40, u41, u42, u43, u44, u45, u46, u47, u48, u49, u50, u51, u52, u53, u54, u55, u56, u57, u58, u59, .pointer (some ⟨g, 0, none⟩), .int .i64 (n2 : Int), .int .i64 ((n : Int) + 1), .bool true, u64, u65, .pointer (some ⟨g, 0, none⟩), .slice (some ⟨wr.heap.size, 0, none⟩) 6 6, .int .i64 kd, V69, u70, u71, u72, u73, u74, u75, u76, u77, u78, u79, u80, u81, u82, u83, u84, u85, u86, u87, u88, u89, u90, u91, u92, u93, u94, u95, u96, u97, u98, u99, u100, u101, u102, u103, u104, u105, u106, u107, u108, u109, u110, u111, u112, u113, vs 0, vs 1, vs 2, vs 3, vs 4, vs 5, vs 6, vs 7, vs 8, vs 9, undef], []⟩) (fun vs => by kernel_rfl) (by kernel_rfl) (HD.out.step (Below.drew (Below.refl _ _))) (dK g r6 A0 E c0 [.int .i64 xd.kind, .int .i64 xd.value.kind, .slice G1 xd.value.items.length m1, .slice G2 xd.value.parts.length m2, .slice G3 xd.value.names.length m3, .slice G4 xd.value.cls.length m4, .slice G5 xd.value.levels.length m5, .int .i64 xd.value.code, .int .i64 xd.value.env, .int .i64 xd.promise, .slice GP xd.promises.length gp, .slice GL xd.labels.length gl]) ?_ ?_
              · intro i o ho hi vs T W hS hd'
                have h9 : i + 1 < 10 := by simpa using hi
                have hi' : i = 0 ∨ i = 1 ∨ i = 2 ∨ i = 3 ∨ i = 4 ∨ i = 5 ∨ i = 6 ∨ i = 7 ∨ i = 8 := by omega
                clear h9 hi
                rcases hi' with rfl | rfl | rfl | rfl | rfl | rfl | rfl | rfl | rfl
                · obtain rfl := Option.some.inj ho
                  exact oper_ok (by go_simp) ⟨_, rfl, Only.refl _ _, hS, upd_same _ _ _⟩
                · obtain rfl := Option.some.inj ho
                  exact oper_ok (by go_simp; try rfl) ⟨_, rfl, Only.refl _ _, hS, upd_same _ _ _⟩
                · obtain rfl := Option.some.inj ho
                  have e0 : vs 1 = _ := hd' ⟨1, .data⟩ (by simp) rfl
                  have y0 := (BC.b6 hS.sx.sc.bc).cell 0 _ rfl
                  exact oper_ok (by go_simp; try rfl) ⟨_, rfl, Only.refl _ _, hS, upd_same _ _ _⟩
                · obtain rfl := Option.some.inj ho
                  have e0 : vs 2 = _ := hd' ⟨2, .data⟩ (by simp) rfl
                  exact oper_ok (by go_simp; try rfl) ⟨_, rfl, Only.refl _ _, hS, upd_same _ _ _⟩
                · obtain rfl := Option.some.inj ho
                  have e0 : vs 0 = _ := hd' ⟨0, .data⟩ (by simp) rfl
                  have e1 : vs 3 = _ := hd' ⟨3, .data⟩ (by simp) rfl
                  refine oper_call (by go_simp) (spec_l1Below g v l E _ (BC.cur hS.sx.sc.bc) HA.out (by omega) (by omega)) ?_
                  rintro e W' ⟨x, rfl, h0, h1, hc, ho⟩
                  obtain ⟨k, rfl⟩ := Int.eq_ofNat_of_zero_le h0
                  exact ⟨_, rfl, _, rfl, ho, hS.next hgl hc ho, k, upd_same _ _ _, by omega⟩
                · obtain rfl := Option.some.inj ho
                  exact oper_ok (by go_simp) ⟨_, rfl, Only.refl _ _, hS, upd_same _ _ _⟩
                · obtain rfl := Option.some.inj ho
                  have hb := (Below.refl W.heap.size W).alloc (Nat.le_refl _) (.cells (names4.map fun s => Value.string (str s)).toArray 9)
                  have hwW := (BC.cur hS.sx.sc.bc)
                  exact oper_ok (by go_simp; rfl) ⟨_, rfl, Only.of_below hb, hS.step hb, _, upd_same _ _ _, Txts.lit (W := W) names4 4 rfl (by decide) (fun s hs => Nat.le_trans (names4_len s hs) (by omega)), apart_new (Cur.lt_ hwW)⟩
                · obtain rfl := Option.some.inj ho
                  have e0 : vs 5 = _ := hd' ⟨5, .data⟩ (by simp) rfl
                  obtain ⟨u, e1, hu, hau⟩ := (show ∃ u, vs 6 = u ∧ Txts W u names4 ∧ Apart 4 g u from hd' ⟨6, .data⟩ (by simp) rfl)
                  refine oper_call (by go_simp) (spec_l1Pick g v l u names4 _ (BC.cur hS.sx.sc.bc) HA.out hu hau (by decide) (by decide)) ?_
                  rintro e W' ⟨nm, rfl, hnm, hc, ho⟩
                  exact ⟨_, rfl, _, rfl, ho, hS.next hgl hc ho, nm, upd_same _ _ _, hnm⟩
                · obtain rfl := Option.some.inj ho
                  have y0 := hS.sx.x.cell 0 _ rfl
                  have y1 := hS.sx.x.cell 1 _ rfl
                  have y2 := hS.sx.x.cell 2 _ rfl
                  have y3 := hS.sx.x.cell 3 _ rfl
                  have y4 := hS.sx.x.cell 4 _ rfl
                  have y5 := hS.sx.x.cell 5 _ rfl
                  have y6 := hS.sx.x.cell 6 _ rfl
                  have y7 := hS.sx.x.cell 7 _ rfl
                  have y8 := hS.sx.x.cell 8 _ rfl
                  have y9 := hS.sx.x.cell 9 _ rfl
                  have y10 := hS.sx.x.cell 10 _ rfl
                  have y11 := hS.sx.x.cell 11 _ rfl
                  exact oper_ok (by go_simp) ⟨_, rfl, Only.refl _ _, hS, upd_same _ _ _⟩
              · intro o ho vs T W hS hsz hT1 hT2 hR
                obtain rfl := Option.some.inj ho
                clear hT1 hT2
                obtain ⟨k, e4, hk⟩ := (show ∃ k : Nat, vs 4 = .int .i64 (k : Int) ∧ k < E from hR 4 (by decide))
                obtain ⟨nm, e7, hnm⟩ := (show ∃ s, vs 7 = .string (str s) ∧ s ∈ names4 from hR 7 (by decide))
                have e8 := (show vs 8 = .agg ([.int .i64 xd.kind, .int .i64 xd.value.kind, .slice G1 xd.value.items.length m1, .slice G2 xd.value.parts.length m2, .slice G3 xd.value.names.length m3, .slice G4 xd.value.cls.length m4, .slice G5 xd.value.levels.length m5, .int .i64 xd.value.code, .int .i64 xd.value.env, .int .i64 xd.promise, .slice GP xd.promises.length gp, .slice GL xd.labels.length gl]).toArray from hR 8 (by decide))
                clear hR
                have hke : k < s.envs.length := by rw [HP.out.e]; exact hk
                have hne := names_eq HP.out hke
                have hPe := HP.out.e
                have hn20 := names4_len nm hnm
                refine oper_call (by go_simp) (spec_l26DefineM s k hke nm (by unfold maxLen; omega) xd (csS A0 E c0 A1 P c1) [.int .i64 xd.kind, .int .i64 xd.value.kind, .slice G1 xd.value.items.length m1, .slice G2 xd.value.parts.length m2, .slice G3 xd.value.names.length m3, .slice G4 xd.value.cls.length m4, .slice G5 xd.value.levels.length m5, .int .i64 xd.value.code, .int .i64 xd.value.env, .int .i64 xd.promise, .slice GP xd.promises.length gp, .slice GL xd.labels.length gl] (w.heap.size + 1) wr.heap.size r6 W (BC.b6 hS.sx.sc.bc) hS.sx.sc.st hlw hrq hS.sx.sc.qs (hS.so.mono fun b hb => ⟨hb.1, Nat.lt_of_lt_of_le hb.2 hS.n0⟩) hne.1 (by omega) (by omega)) ?_
                rintro e w21 ⟨rfl, hb6, hst, hbl⟩
                refine ⟨_, rfl, ?_⟩
                have HP21 := Lib.hid (HP.out.define k hke nm hn20 xd HZX.out)
                have h3 := BC.far hS.sx.sc.bc hgl HY.out HA.out hbl
                have HS21 := Lib.hid (show SC g v l w r6 (csS A0 E c0 A1 P c1) w21.heap.size (defS s k hke nm xd) w21 from ⟨⟨h3.1, h3.2.1, hb6, h3.2.2, hlw⟩, hst, hb6.lt, Nat.le_refl _⟩)
                clear hb6 hst hbl h3 hS e4 e7 e8 hne hPe hn20 HD HP HS HP3 HS8
                generalize vs 0 = vs0
                generalize vs 1 = vs1
                generalize vs 2 = vs2
                generalize vs 3 = vs3
                generalize vs 4 = vs4
                generalize vs 5 = vs5
                generalize vs 6 = vs6
                generalize vs 7 = vs7
                generalize vs 8 = vs8
                generalize vs 9 = vs9
                go_wp2_with fail
                exact ⟨⟨n, D + 1, defS s k hke nm xd, rfl, by omega, HP21.out, HS21.out⟩, by simp [intOf]⟩
            · obtain rfl : n = 0 := by omega
              have y0 := (BC.b6 HS.out.bc).cell 0 _ rfl
              have y1 := (BC.b6 HS.out.bc).cell 1 _ rfl
              have r0 := (BC.res HS.out.bc).cell 0 _ rfl
              have r1 := (BC.res HS.out.bc).cell 1 _ rfl
              have z0 := (BC.res HS.out.bc).frozen 0
              have z1 := (BC.res HS.out.bc).frozen 1
              go_wp2_with fail
              have hkF := Keeps.sc (b := w.heap.size) (o := 1) (Keeps.sc (b := w.heap.size) (o := 0) (Keeps.refl (fun b => b ≠ w.heap.size) wr) (by simp) (.slice A0 E c0)) (by simp) (.slice A1 P c1)
              have hbF := below_sc (b := w.heap.size) (o := 1) (below_sc (b := w.heap.size) (o := 0) (Below.refl w.heap.size wr) (Nat.le_refl _) (.slice A0 E c0)) (Nat.le_refl _) (.slice A1 P c1)
              have hoF := (BC.only HS.out.bc).belowB hbF
              exact bodyPost_ret (v := .agg #[.slice A0 E c0, .slice A1 P c1]) (by simp [results, Tryz.results143, go_sem, r0, r1]; try rfl) rfl ⟨csS A0 E c0 A1 P c1, s, E, P, D, rfl, (HS.out.st.keeps (hkF.mono fun b hb => by have := hb.1.1; omega)).mono fun b hb => ⟨by have := hb.1.1; omega, Nat.lt_of_lt_of_le hb.1.2 hkF.1⟩, HP.out, ⟨by omega, by omega, by omega, by omega⟩, Cur.next (BC.cur HS.out.bc) hbF hgl (HY.out.only HA.out hoF), hoF⟩
end Go.Proofs.YtejieacdfjpfnaaGreat
