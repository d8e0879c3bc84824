/-
  The program's marking in a store, and ReachableIn.
-/
import Derived.Test.YtejieacdfjpfnaaGreatL27
import Derived.Test.YtejieacdfjpfnaaGreatStCopy
import Derived.Test.YtejieacdfjpfnaaGreatKGood
namespace Go.Proofs.YtejieacdfjpfnaaGreat
set_option maxRecDepth 100000
open Go.ChangeShapes Go.WideShapes Go.ChangeAt Go.RowKit Go.Deep
set_option linter.unusedVariables false
set_option maxRecDepth 100000
set_option maxRecDepth 100000

theorem own_keptR {w w' : World} {base n : Nat} {e : TypeId} {size : Nat} {v : Value} {xs : List Value} (h : w.ownsRow base e size v n xs) (hk : ∀ b, v.ownBlock = some b → w'.heap[b]? = w.heap[b]?) : w'.ownsRow base e size v n xs := by
  refine ⟨h.1, ?_⟩
  rcases h.2 with hn | ⟨g, cap, cur, rfl, hb0, hg, rest⟩
  · exact .inl hn
  · exact .inr ⟨g, cap, cur, rfl, hb0, (hk g rfl).trans hg, rest⟩
theorem below_lo {B lo ge : Nat} {w0 W W3 : World} {i : Nat} {u : Value} (h : Below B w0 W) (h1 : B ≤ ge) (h2 : B ≤ lo) (hb : Below lo (W.setCell ⟨ge, i, none⟩ u) W3) : Below B w0 W3 := (below_sc h h1 u).trans (hb.mono h2)
theorem cell_grownR {w w' : World} {row : Option Nat} {g : Nat} {t : TypeId} {cs : List Value} (hg : w.grownBy w' row) (h : Blk w g t cs) (hne : some g ≠ row) : Blk w' g t cs := (hg.block g h.lt hne).trans h

/-- where the state lies -/
structure RQ (w0 : World) (rb ge gp lo : Nat) : Prop where
  g : w0.heap.size ≤ ge ∧ ge < lo
  p : w0.heap.size ≤ gp ∧ gp < lo
  r : w0.heap.size ≤ rb ∧ rb < lo
  ngp : ge ≠ gp
  ngr : ge ≠ rb
  npr : gp ≠ rb
/-- the state of a marking -/
structure RS (w0 : World) (sb rb ge gp lo nE nP : Nat) (st : RSt) (A : Option Addr) (c : Nat) (W : World) : Prop where
  bR : Blk W rb 88 [.pointer (some ⟨sb, 0, none⟩), .slice (some ⟨ge, 0, none⟩) nE nE, .slice (some ⟨gp, 0, none⟩) nP nP, .slice A st.T.length c]
  bE : Blk W ge 4 (bls st.E)
  bP : Blk W gp 4 (bls st.P)
  own : W.ownsRow lo 3 1 (.slice A st.T.length c) st.T.length (st.T.map fun n => Value.int .i64 n)
  lE : st.E.length = nE
  lP : st.P.length = nP
  mu : st.E.count false + st.T.length ≤ nE
  rd : Below w0.heap.size w0 W
  lo : lo ≤ W.heap.size
/-- what a marking may change -/
structure RR (rb ge gp : Nat) (W : World) (tv : Value) (W' : World) (tv' : Value) : Prop where
  b0 : Below 0 W W'
  blk : ∀ b, b < W.heap.size → b ≠ rb → b ≠ ge → b ≠ gp → tv.ownBlock ≠ some b → W'.heap[b]? = W.heap[b]?
  own : ∀ b, tv'.ownBlock = some b → tv.ownBlock = some b ∨ W.heap.size ≤ b
theorem RR.refl (rb ge gp : Nat) (W : World) (tv : Value) : RR rb ge gp W tv W tv := ⟨Below.refl _ _, fun _ _ _ _ _ _ => rfl, fun _ h => .inl h⟩
theorem RR.of_below {rb ge gp : Nat} {W W' : World} (tv : Value) (hb : Below W.heap.size W W') : RR rb ge gp W tv W' tv := ⟨hb.mono (Nat.zero_le _), fun b h _ _ _ _ => hb.block b h, fun _ h => .inl h⟩
theorem RR.trans {rb ge gp : Nat} {a b c : World} {ta tb tc : Value} (h : RR rb ge gp a ta b tb) (k : RR rb ge gp b tb c tc) : RR rb ge gp a ta c tc :=
  have hs := h.b0.size
  ⟨h.b0.trans k.b0, fun i hi h1 h2 h3 h4 => (k.blk i (by omega) h1 h2 h3 (fun e => (h.own i e).elim h4 (fun h5 => by omega))).trans (h.blk i hi h1 h2 h3 h4),
    fun i e => (k.own i e).elim (h.own i) (fun h5 => .inr (by omega))⟩
section
variable {w0 : World} {sb rb ge gp lo nE nP : Nat} {st : RSt} {A : Option Addr} {c : Nat} {W : World}
theorem RS.lt (h : RS w0 sb rb ge gp lo nE nP st A c W) : ∀ b, (Value.slice A st.T.length c).ownBlock = some b → lo ≤ b ∧ b < W.heap.size := h.own.lt
theorem RS.step {W' : World} (h : RS w0 sb rb ge gp lo nE nP st A c W) (hb : Below W.heap.size W W') : RS w0 sb rb ge gp lo nE nP st A c W' :=
  ⟨h.bR.below hb, h.bE.below hb, h.bP.below hb, own_below h.own hb, h.lE, h.lP, h.mu, h.rd.trans (hb.mono h.rd.size), Nat.le_trans h.lo hb.size⟩
/-- P is marked -/
theorem RS.setP (hq : RQ w0 rb ge gp lo) (h : RS w0 sb rb ge gp lo nE nP st A c W) (i : Nat) : RS w0 sb rb ge gp lo nE nP ⟨st.E, st.P.set i true, st.T⟩ A c (W.setCell ⟨gp, i, none⟩ (.bool true)) ∧ RR rb ge gp W (.slice A st.T.length c) (W.setCell ⟨gp, i, none⟩ (.bool true)) (.slice A st.T.length c) := by
  have hp := hq.p
  refine ⟨⟨h.bR.far ⟨gp, i, none⟩ hq.npr.symm _, h.bE.far ⟨gp, i, none⟩ hq.ngp _, by rw [← bls_set]; exact h.bP.set_ i _, own_keptR h.own fun b e => Below.heap_setCell _ _ _ _ (fun e2 => by have := (h.lt b e).1; have e3 : b = gp := e2; omega), h.lE, by rw [← h.lP]; simp, h.mu, below_sc h.rd hp.1 _, by rw [size_sc]; exact h.lo⟩,
    ⟨below_sc (Below.refl _ _) (Nat.zero_le _) _, fun b _ _ _ h3 _ => Below.heap_setCell _ _ _ _ h3, fun _ e => .inl e⟩⟩
/-- an environment is marked and put on the list -/
theorem RS.push {A1 : Option Addr} {n1 : Nat} {W3 : World} (hq : RQ w0 rb ge gp lo) (h : RS w0 sb rb ge gp lo nE nP st A c W) (en : Nat) (hen : en < nE) (hg : gB st.E en = false)
    (ho : W3.ownsRow lo 3 1 (.slice A1 (st.T.length + 1) n1) (st.T.length + 1) ((st.T.map fun n => Value.int .i64 n) ++ [.int .i64 en]))
    (hgr : (W.setCell ⟨ge, en, none⟩ (.bool true)).grownBy W3 (Value.slice A st.T.length c).ownBlock) (hbk : (Value.slice A1 (st.T.length + 1) n1).ownBlock = (Value.slice A st.T.length c).ownBlock ∨ (Value.slice A1 (st.T.length + 1) n1).ownBlock = some ((W.setCell ⟨ge, en, none⟩ (.bool true)).heap.size + 1))
    (hb : Below lo (W.setCell ⟨ge, en, none⟩ (.bool true)) W3) :
    RS w0 sb rb ge gp lo nE nP ⟨st.E.set en true, st.P, st.T ++ [(en : Int)]⟩ A1 n1 (W3.setCell ⟨rb, 3, none⟩ (.slice A1 (st.T.length + 1) n1)) ∧ RR rb ge gp W (.slice A st.T.length c) (W3.setCell ⟨rb, 3, none⟩ (.slice A1 (st.T.length + 1) n1)) (.slice A1 (st.T.length + 1) n1) := by
  have h1 := hq.g
  have h2 := hq.p
  have h3 := hq.r
  have h4 := h.lo
  have hne : ∀ b, b < lo → some b ≠ (Value.slice A st.T.length c).ownBlock := fun b hb e => by have := (h.lt b e.symm).1; omega
  have e1 : W3.heap[rb]? = W.heap[rb]? := (hgr.block rb (by rw [size_sc]; omega) (hne rb (by omega))).trans (Below.heap_setCell _ _ _ _ hq.ngr.symm)
  have e2 : W3.heap[ge]? = (W.setCell ⟨ge, en, none⟩ (.bool true)).heap[ge]? := hgr.block ge (by rw [size_sc]; omega) (hne ge (by omega))
  have e3 : W3.heap[gp]? = W.heap[gp]? := (hgr.block gp (by rw [size_sc]; omega) (hne gp (by omega))).trans (Below.heap_setCell _ _ _ _ hq.ngp.symm)
  have b2 : Blk W3 ge 4 (bls (st.E.set en true)) := by rw [← bls_set]; exact e2.trans (h.bE.set_ en _)
  have hcs := count_set st.E en (by rw [h.lE]; exact hen) hg
  have hmu := h.mu
  have hsz := hgr.size
  rw [size_sc] at hsz
  refine ⟨⟨?_, b2.far ⟨rb, 3, none⟩ hq.ngr _, Blk.far (e3.trans h.bP) ⟨rb, 3, none⟩ hq.npr _, own_keptR (by simpa using ho) fun b e => Below.heap_setCell _ _ _ _ (fun e4 => by have := (ho.lt b (by simpa using e)).1; have e5 : b = rb := e4; omega), by rw [← h.lE]; simp, h.lP, by simp; omega, below_sc (below_lo h.rd h1.1 (by omega) hb) h3.1 _, by rw [size_sc]; omega⟩,
    ⟨below_sc ((below_sc (Below.refl _ _) (Nat.zero_le _) _).trans (hb.mono (Nat.zero_le _))) (Nat.zero_le _) _, fun b hb5 k1 k2 k3 k4 => (Below.heap_setCell _ _ _ _ k1).trans ((hgr.block b (by rw [size_sc]; exact hb5) (fun e => k4 e.symm)).trans (Below.heap_setCell _ _ _ _ k2)), fun b e => ?_⟩⟩
  · have := (show Blk W3 rb 88 _ from e1.trans h.bR).set_ 3 (.slice A1 (st.T.length + 1) n1)
    simpa using this
  · rcases hbk with k | k
    · exact .inl (k ▸ e)
    · have k2 := k.symm.trans e
      injection k2 with k2
      rw [size_sc] at k2
      exact .inr (by omega)
end
def RetR (w0 : World) (sb rb ge gp lo nE nP : Nat) (st' : RSt) (W : World) (tv : Value) (e : Ending) (W' : World) : Prop := e = .returned (.tuple #[]) ∧ ∃ A' c', RS w0 sb rb ge gp lo nE nP st' A' c' W' ∧ RR rb ge gp W tv W' (.slice A' st'.T.length c')
/-- a box beside the state -/
structure RV (w0 : World) (sb rb ge gp lo nE nP : Nat) (wb : World) (tb : Value) (box bt : Nat) (xcs : List Value) (st : RSt) (A : Option Addr) (c : Nat) (W : World) : Prop where
  rs : RS w0 sb rb ge gp lo nE nP st A c W
  rr : RR rb ge gp wb tb W (.slice A st.T.length c)
  bx : Blk W box bt xcs
section
variable {w0 : World} {sb rb ge gp lo nE nP : Nat} {wb : World} {tb : Value} {box bt : Nat} {xcs : List Value} {st : RSt} {A : Option Addr} {c : Nat} {W : World}
theorem RV.call {st' : RSt} {A' : Option Addr} {c' : Nat} {W' : World} (h : RV w0 sb rb ge gp lo nE nP wb tb box bt xcs st A c W) (h1 : RS w0 sb rb ge gp lo nE nP st' A' c' W') (h2 : RR rb ge gp W (.slice A st.T.length c) W' (.slice A' st'.T.length c')) (hr : lo ≤ box) (hq : RQ w0 rb ge gp lo) (hbx : box < wb.heap.size) (ht : tb.ownBlock ≠ some box) : RV w0 sb rb ge gp lo nE nP wb tb box bt xcs st' A' c' W' :=
  have k1 := hq.g
  have k2 := hq.p
  have k3 := hq.r
  ⟨h1, h.rr.trans h2, (h2.blk box h.bx.lt (by omega) (by omega) (by omega) (fun e => (h.rr.own box e).elim ht (fun h5 => by omega))).trans h.bx⟩
theorem RV.step {W' : World} (h : RV w0 sb rb ge gp lo nE nP wb tb box bt xcs st A c W) (hb : Below W.heap.size W W') : RV w0 sb rb ge gp lo nE nP wb tb box bt xcs st A c W' :=
  ⟨h.rs.step hb, h.rr.trans (RR.of_below _ hb), h.bx.below hb⟩
end
set_option maxHeartbeats 2000000 in
theorem impl_reach_env (w0 : World) (sb rb ge gp lo nE nP : Nat) (st : RSt) (A : Option Addr) (c : Nat) (W : World) (e : Int) (hq : RQ w0 rb ge gp lo) (h : RS w0 sb rb ge gp lo nE nP st A c W) (he : e < nE) (hn : nE ≤ 600000000000) :
    Calls Tryz.prog 101 #[.pointer (some ⟨rb, 0, none⟩), .int .i64 e] W (RetR w0 sb rb ge gp lo nE nP (envS e st) W (.slice A st.T.length c)) := by
  have HQ := Lib.hid hq
  have HS := Lib.hid h
  have hlo := h.lo
  clear hq h
  by_cases h0 : 0 ≤ e
  · obtain ⟨en, rfl⟩ := Int.eq_ofNat_of_zero_le h0
    have hen : en < nE := by omega
    have r1 := HS.out.bR.cell 1 _ rfl
    have r3 := HS.out.bR.cell 3 _ rfl
    have q0 := HS.out.bE.cell en _ (bls_get _ en (by rw [HS.out.lE]; exact hen))
    cases hg : gB st.E en
    · have HG := Lib.hid hg
      have HN := Lib.hid (show envS en st = ⟨st.E.set en true, st.P, st.T ++ [(en : Int)]⟩ by unfold envS; rw [if_pos (by simp [hg])]; simp)
      have hTl : st.T.length ≤ 600000000000 := by have := HS.out.mu; omega
      rw [hg] at q0
      clear hg
      have fE := HS.out.bE.frozen en
      have HO1 := Lib.hid (own_keptR (w' := W.setCell ⟨ge, en, none⟩ (.bool true)) HS.out.own fun b e => Below.heap_setCell _ _ _ _ (fun e2 => by have h1 := (HS.out.lt b e).1; have h2 := HQ.out.g; have e3 : b = ge := e2; omega))
      have HR1 := Lib.hid (HS.out.bR.far ⟨ge, en, none⟩ HQ.out.ngr.symm (.bool true))
      have s3 := HR1.out.cell 3 _ rfl
      have s3' := HR1.out.frozen 3
      have hlo1 : lo ≤ (W.setCell ⟨ge, en, none⟩ (.bool true)).heap.size := by rw [size_sc]; exact hlo
      go_enter Tryz.func101, Tryz.ntmps101
      go_upto_region 2 with fail
      obtain ⟨W1, hW1⟩ : ∃ W1, W1 = W.setCell ⟨ge, en, none⟩ (.bool true) := ⟨_, rfl⟩
      rw [← hW1] at HO1 HR1 s3 s3' hlo1 ⊢
      have HW1 := Lib.hid hW1
      clear hW1 q0 fE r1 r3
      go_wp2_with (at_builtin; go_must (refine wpList_push rfl _ _ 26 rfl lo 3 (.int .i64 0) 1 8 Tryz.underlying26 info_int rfl (by decide) _ _ _ _ _ rfl rfl (by exact HO1.out) rfl (by simp [Value.oneCell']) (by omega) (by omega) hlo1 ?_); intro v1 w3 ho3 hg3 hbk3 hb3; obtain ⟨A1, n1, rfl⟩ := own_shapeC ho3; have hne := fun e => HO1.out.lt rb e; have CR := Lib.hid (cell_grownR hg3 HR1.out (fun e => by have h1 := (hne e.symm).1; have h2 := HQ.out.r; omega)); have t3 := CR.out.cell 3 _ rfl; have t3' := CR.out.frozen 3)
      refine bodyPost_end (v := .tuple #[]) (by kernel_rfl) rfl ?_
      rw [HW1.out] at hg3 hbk3 hb3
      obtain ⟨k1, k2⟩ := RS.push HQ.out HS.out en hen HG.out ho3 hg3 hbk3 hb3
      refine ⟨rfl, A1, n1, ?_⟩
      rw [HN.out]
      exact ⟨k1, by simpa using k2⟩
    · have HN := Lib.hid (show envS en st = st by unfold envS; rw [if_neg (by simp [hg])])
      rw [hg] at q0
      clear hg
      go_enter Tryz.func101, Tryz.ntmps101
      go_wp2_with fail
      refine bodyPost_end (v := .tuple #[]) (by kernel_rfl) rfl ?_
      rw [HN.out]
      exact ⟨rfl, A, c, HS.out, RR.refl _ _ _ _ _⟩
  · have HN := Lib.hid (show envS e st = st by unfold envS; rw [if_neg (by simp; omega)])
    have hd : decide (0 ≤ e) = false := decide_eq_false h0
    go_enter Tryz.func101, Tryz.ntmps101
    go_wp2_with fail
    refine bodyPost_end (v := .tuple #[]) (by kernel_rfl) rfl ?_
    rw [HN.out]
    exact ⟨rfl, A, c, HS.out, RR.refl _ _ _ _ _⟩
end Go.Proofs.YtejieacdfjpfnaaGreat
namespace Go.Proofs.YtejieacdfjpfnaaGreat
open Go.ChangeShapes Go.WideShapes Go.ChangeAt Go.RowKit Go.Deep
set_option linter.unusedVariables false
set_option maxRecDepth 100000
set_option maxRecDepth 100000

set_option maxHeartbeats 4000000 in
theorem impl_reach_value_n (w0 : World) (sb rb ge gp lo nE nP : Nat) (hq : RQ w0 rb ge gp lo) (hn : nE ≤ 600000000000) (n : Nat) : ∀ (d : VecD) (cs : List Value) (st : RSt) (A : Option Addr) (c : Nat) (W : World), VectorR n w0 cs d → RS w0 sb rb ge gp lo nE nP st A c W → (∀ f ∈ funs d, 0 ≤ f ∧ f < nE) →
    Calls Tryz.prog 102 #[.pointer (some ⟨rb, 0, none⟩), .agg cs.toArray] W (RetR w0 sb rb ge gp lo nE nP (valS d st) W (.slice A st.T.length c)) := by
  have HQ := Lib.hid hq
  clear hq
  induction n with
  | zero => intro d cs st A c W h; exact h.elim
  | succ n ih =>
  intro d cs st A c W h hs hf
  have IH := Lib.hid ih
  clear ih
  have HF := Lib.hid hf
  have hlo := hs.lo
  have hrl := hs.bR.lt
  have HTO := Lib.hid hs.lt
  clear hf
  obtain ⟨v1, v2, v3, v4, v5, rfl, h0, h1, h2, h3, h4, h5, h6, h7⟩ := h
  obtain ⟨A1, c1, rfl⟩ := SlR.shape h1
  obtain ⟨A2, c2, rfl⟩ := SlR.shape h2
  obtain ⟨A3, c3, rfl⟩ := SlR.shape h3
  obtain ⟨A4, c4, rfl⟩ := SlR.shape h4
  obtain ⟨A5, c5, rfl⟩ := SlR.shape h5
  obtain ⟨_, _, e2, hlc2, hm2, HC2⟩ := SlR.open_ h2
  injection e2 with e21 e22 e23
  subst e21 e23
  clear e22 h1 h2 h3 h4 h5
  unfold maxLen at hm2
  have HV := Lib.hid (valS_eq d st)
  obtain ⟨W1, hW1⟩ : ∃ W1, W1 = W.alloc (.cells #[.int .i64 d.kind, .slice A1 d.items.length c1, .slice A2 d.parts.length c2, .slice A3 d.names.length c3, .slice A4 d.cls.length c4, .slice A5 d.levels.length c5, .int .i64 d.code, .int .i64 d.env] 45) := ⟨_, rfl⟩
  have hbW : Below W.heap.size W W1 := by rw [hW1]; exact (Below.refl _ _).alloc (Nat.le_refl _) _
  have hW1s : W1.heap.size = W.heap.size + 1 := by rw [hW1]; simp
  have G1 := Lib.hid (show RV w0 sb rb ge gp lo nE nP W1 (.slice A st.T.length c) W.heap.size 45 [.int .i64 d.kind, .slice A1 d.items.length c1, .slice A2 d.parts.length c2, .slice A3 d.names.length c3, .slice A4 d.cls.length c4, .slice A5 d.levels.length c5, .int .i64 d.code, .int .i64 d.env] st A c W1 from ⟨hs.step hbW, RR.refl _ _ _ _ _, by rw [hW1]; exact Blk.new W _ _⟩)
  have hft : (Value.slice A st.T.length c).ownBlock ≠ some W.heap.size := fun e => by have := (HTO.out _ e).2; omega
  have HFIN := Lib.hid (fun (st' : RSt) (A' : Option Addr) (c' : Nat) (W' : World) (h : RV w0 sb rb ge gp lo nE nP W1 (.slice A st.T.length c) W.heap.size 45 [.int .i64 d.kind, .slice A1 d.items.length c1, .slice A2 d.parts.length c2, .slice A3 d.names.length c3, .slice A4 d.cls.length c4, .slice A5 d.levels.length c5, .int .i64 d.code, .int .i64 d.env] st' A' c' W') => show RetR w0 sb rb ge gp lo nE nP st' W (.slice A st.T.length c) (.returned (.tuple #[])) W' from ⟨rfl, A', c', h.rs, (RR.of_below _ hbW).trans h.rr⟩)
  clear hs
  go_enter Tryz.func102, Tryz.ntmps102
  go_upto_region 1 with fail
  rw [← hW1]
  clear hW1 hbW
  generalize (Value.agg #[.int .i64 d.kind, .slice A1 d.items.length c1, .slice A2 d.parts.length c2, .slice A3 d.names.length c3, .slice A4 d.cls.length c4, .slice A5 d.levels.length c5, .int .i64 d.code, .int .i64 d.env]) = V0
  have x0 := G1.out.bx.cell 0 _ rfl
  have x1 := G1.out.bx.cell 1 _ rfl
  have x2 := G1.out.bx.cell 2 _ rfl
  have x3 := G1.out.bx.cell 3 _ rfl
  have x4 := G1.out.bx.cell 4 _ rfl
  have x5 := G1.out.bx.cell 5 _ rfl
  have x6 := G1.out.bx.cell 6 _ rfl
  have x7 := G1.out.bx.cell 7 _ rfl
  obtain ⟨st0, hst0, HV0⟩ : ∃ st0 : RSt, st0 = (if d.kind = 5 then envS d.env st else st) ∧ Hid (valS d st = d.parts.foldl (fun st d => valS d st) st0) := ⟨_, rfl, HV.out⟩
  by_cases k5 : d.kind = 5
  · have hb5 : (d.kind == 5) = true := by rw [k5]; rfl
    rw [if_pos k5] at hst0
    have hfe := HF.out _ (funs_own k5)
    go_wp2_with fail
    refine Calls.mono (impl_reach_env w0 sb rb ge gp lo nE nP st A c W1 d.env HQ.out G1.out.rs hfe.2 hn) ?_
    rintro e w2 ⟨rfl, A', c', q1, q2⟩
    have M2 := Lib.hid (G1.out.call q1 q2 hlo HQ.out (by omega) hft)
    rw [← hst0] at M2
    clear q1 q2 x0 x1 x2 x3 x4 x5 x6 x7 G1 hst0 k5 hb5
    have x0 := M2.out.bx.cell 0 _ rfl
    have x1 := M2.out.bx.cell 1 _ rfl
    have x2 := M2.out.bx.cell 2 _ rfl
    have x3 := M2.out.bx.cell 3 _ rfl
    have x4 := M2.out.bx.cell 4 _ rfl
    have x5 := M2.out.bx.cell 5 _ rfl
    have x6 := M2.out.bx.cell 6 _ rfl
    have x7 := M2.out.bx.cell 7 _ rfl
    go_wp2_with fail
    clear x0 x1 x2 x3 x4 x5 x6 x7
    go_loopw [16] (fun i wr => ∃ (k : Nat) (A' : Option Addr) (c' : Nat), k ≤ d.parts.length ∧ i = .int .i64 k ∧ Hid (RV w0 sb rb ge gp lo nE nP W1 (.slice A st.T.length c) W.heap.size 45 [.int .i64 d.kind, .slice A1 d.items.length c1, .slice A2 d.parts.length c2, .slice A3 d.names.length c3, .slice A4 d.cls.length c4, .slice A5 d.levels.length c5, .int .i64 d.code, .int .i64 d.env] ((d.parts.take k).foldl (fun st d => valS d st) st0) A' c' wr)) (fun i _ => d.parts.length - (intOf i).toNat)
    case atStart => exact ⟨0, _, _, Nat.zero_le _, rfl, M2.out⟩
    case round =>
      clear M2
      obtain ⟨k, A', c', hk, rfl, HX⟩ := hrel
      have hlw := HX.out.bx.lt
      by_cases hlt : k < d.parts.length
      · obtain ⟨b, off, cs, rfl, hbl, hlen, hat, hvr⟩ := HC2.out k hlt
        have HPN := Lib.hid hvr
        have HPV := Lib.hid (show VecR w0 cs d.parts[k] from ⟨n, hvr⟩)
        clear hvr
        obtain ⟨_, B1, b1, B2, b2, B3, b3, B4, b4, B5, b5, rfl, _⟩ := HPV.out.open_
        have hBl : Below w0.heap.size w0 wr := HX.out.rs.rd
        have y0 := (hBl.cell (p := ⟨b, off + k * 8, none⟩) hbl).trans (by simpa using hat 0 _ rfl)
        have y1 := (hBl.cell (p := ⟨b, off + k * 8 + 1, none⟩) hbl).trans (hat 1 _ rfl)
        have y2 := (hBl.cell (p := ⟨b, off + k * 8 + 2, none⟩) hbl).trans (hat 2 _ rfl)
        have y3 := (hBl.cell (p := ⟨b, off + k * 8 + 3, none⟩) hbl).trans (hat 3 _ rfl)
        have y4 := (hBl.cell (p := ⟨b, off + k * 8 + 4, none⟩) hbl).trans (hat 4 _ rfl)
        have y5 := (hBl.cell (p := ⟨b, off + k * 8 + 5, none⟩) hbl).trans (hat 5 _ rfl)
        have y6 := (hBl.cell (p := ⟨b, off + k * 8 + 6, none⟩) hbl).trans (hat 6 _ rfl)
        have y7 := (hBl.cell (p := ⟨b, off + k * 8 + 7, none⟩) hbl).trans (hat 7 _ rfl)
        clear hat
        go_wp2_with fail
        refine abs_w (fun W9 => Below wr.heap.size wr W9) ((Below.refl _ _).alloc (Nat.le_refl _) _) ?_
        intro W9 hb9
        have HX9 := Lib.hid (HX.out.step hb9)
        refine Calls.mono (IH.out d.parts[k] _ _ A' c' W9 HPN.out HX9.out.rs (fun f hf => HF.out f (funs_part (List.getElem_mem hlt) hf))) ?_
        rintro e w2 ⟨rfl, A2', c2', q1, q2⟩
        have HX2 := Lib.hid (HX9.out.call q1 q2 hlo HQ.out (by omega) hft)
        rw [← foldl_take_succ (fun st d => valS d st) st0 d.parts k hlt] at HX2
        clear q1 q2 hb9 HX9 HX y0 y1 y2 y3 y4 y5 y6 y7 hBl
        go_wp2_with fail
        go_roundw
        case rel => exact ⟨k + 1, A2', c2', by omega, by go_num, HX2.out⟩
        case measure => simp [intOf]; omega
      · obtain rfl : k = d.parts.length := by omega
        rw [List.take_length] at HX
        rw [← HV0.out] at HX
        go_wp2_with fail
        refine bodyPost_end (v := .tuple #[]) (by kernel_rfl) rfl ?_
        exact HFIN.out _ _ _ _ HX.out
  · have hb5 : (d.kind == 5) = false := by simp [k5]
    rw [if_neg k5] at hst0
    go_wp2_with fail
    have M2 := Lib.hid (show RV w0 sb rb ge gp lo nE nP W1 (.slice A st.T.length c) W.heap.size 45 [.int .i64 d.kind, .slice A1 d.items.length c1, .slice A2 d.parts.length c2, .slice A3 d.names.length c3, .slice A4 d.cls.length c4, .slice A5 d.levels.length c5, .int .i64 d.code, .int .i64 d.env] st0 A c W1 from by rw [hst0]; exact G1.out)
    clear hst0 x0 x1 x2 x3 x4 x5 x6 x7 G1 k5 hb5
    go_loopw [16] (fun i wr => ∃ (k : Nat) (A' : Option Addr) (c' : Nat), k ≤ d.parts.length ∧ i = .int .i64 k ∧ Hid (RV w0 sb rb ge gp lo nE nP W1 (.slice A st.T.length c) W.heap.size 45 [.int .i64 d.kind, .slice A1 d.items.length c1, .slice A2 d.parts.length c2, .slice A3 d.names.length c3, .slice A4 d.cls.length c4, .slice A5 d.levels.length c5, .int .i64 d.code, .int .i64 d.env] ((d.parts.take k).foldl (fun st d => valS d st) st0) A' c' wr)) (fun i _ => d.parts.length - (intOf i).toNat)
    case atStart => exact ⟨0, _, _, Nat.zero_le _, rfl, M2.out⟩
    case round =>
      clear M2
      obtain ⟨k, A', c', hk, rfl, HX⟩ := hrel
      have hlw := HX.out.bx.lt
      by_cases hlt : k < d.parts.length
      · obtain ⟨b, off, cs, rfl, hbl, hlen, hat, hvr⟩ := HC2.out k hlt
        have HPN := Lib.hid hvr
        have HPV := Lib.hid (show VecR w0 cs d.parts[k] from ⟨n, hvr⟩)
        clear hvr
        obtain ⟨_, B1, b1, B2, b2, B3, b3, B4, b4, B5, b5, rfl, _⟩ := HPV.out.open_
        have hBl : Below w0.heap.size w0 wr := HX.out.rs.rd
        have y0 := (hBl.cell (p := ⟨b, off + k * 8, none⟩) hbl).trans (by simpa using hat 0 _ rfl)
        have y1 := (hBl.cell (p := ⟨b, off + k * 8 + 1, none⟩) hbl).trans (hat 1 _ rfl)
        have y2 := (hBl.cell (p := ⟨b, off + k * 8 + 2, none⟩) hbl).trans (hat 2 _ rfl)
        have y3 := (hBl.cell (p := ⟨b, off + k * 8 + 3, none⟩) hbl).trans (hat 3 _ rfl)
        have y4 := (hBl.cell (p := ⟨b, off + k * 8 + 4, none⟩) hbl).trans (hat 4 _ rfl)
        have y5 := (hBl.cell (p := ⟨b, off + k * 8 + 5, none⟩) hbl).trans (hat 5 _ rfl)
        have y6 := (hBl.cell (p := ⟨b, off + k * 8 + 6, none⟩) hbl).trans (hat 6 _ rfl)
        have y7 := (hBl.cell (p := ⟨b, off + k * 8 + 7, none⟩) hbl).trans (hat 7 _ rfl)
        clear hat
        go_wp2_with fail
        refine abs_w (fun W9 => Below wr.heap.size wr W9) ((Below.refl _ _).alloc (Nat.le_refl _) _) ?_
        intro W9 hb9
        have HX9 := Lib.hid (HX.out.step hb9)
        refine Calls.mono (IH.out d.parts[k] _ _ A' c' W9 HPN.out HX9.out.rs (fun f hf => HF.out f (funs_part (List.getElem_mem hlt) hf))) ?_
        rintro e w2 ⟨rfl, A2', c2', q1, q2⟩
        have HX2 := Lib.hid (HX9.out.call q1 q2 hlo HQ.out (by omega) hft)
        rw [← foldl_take_succ (fun st d => valS d st) st0 d.parts k hlt] at HX2
        clear q1 q2 hb9 HX9 HX y0 y1 y2 y3 y4 y5 y6 y7 hBl
        go_wp2_with fail
        go_roundw
        case rel => exact ⟨k + 1, A2', c2', by omega, by go_num, HX2.out⟩
        case measure => simp [intOf]; omega
      · obtain rfl : k = d.parts.length := by omega
        rw [List.take_length] at HX
        rw [← HV0.out] at HX
        go_wp2_with fail
        refine bodyPost_end (v := .tuple #[]) (by kernel_rfl) rfl ?_
        exact HFIN.out _ _ _ _ HX.out

theorem impl_reach_value (w0 : World) (sb rb ge gp lo nE nP : Nat) (hq : RQ w0 rb ge gp lo) (hn : nE ≤ 600000000000) (d : VecD) (cs : List Value) (st : RSt) (A : Option Addr) (c : Nat) (W : World) (h : VecR w0 cs d) (hs : RS w0 sb rb ge gp lo nE nP st A c W) (hf : ∀ f ∈ funs d, 0 ≤ f ∧ f < nE) :
    Calls Tryz.prog 102 #[.pointer (some ⟨rb, 0, none⟩), .agg cs.toArray] W (RetR w0 sb rb ge gp lo nE nP (valS d st) W (.slice A st.T.length c)) :=
  h.elim fun n h => impl_reach_value_n w0 sb rb ge gp lo nE nP hq hn n d cs st A c W h hs hf
set_option maxHeartbeats 4000000 in
theorem impl_reach_promise (w0 : World) (sb rb ge gp lo : Nat) (s : StoreD) (ss : List Value) (hq : RQ w0 rb ge gp lo) (hs : StoreR w0 ss s) (hsb : Blk w0 sb 33 ss) (hwf : WF s) (hz : szStore s ≤ 600000000000) (k : Int) (hk0 : 0 ≤ k) (hk1 : k < s.promises.length) (st : RSt) (A : Option Addr) (c : Nat) (W : World) (h : RS w0 sb rb ge gp lo s.envs.length s.promises.length st A c W) :
    Calls Tryz.prog 103 #[.pointer (some ⟨rb, 0, none⟩), .int .i64 k] W (RetR w0 sb rb ge gp lo s.envs.length s.promises.length (promS s k st) W (.slice A st.T.length c)) := by
  obtain ⟨kn, rfl⟩ := Int.eq_ofNat_of_zero_le hk0
  have hkl : kn < s.promises.length := by omega
  have HQ := Lib.hid hq
  have HWF := Lib.hid hwf
  have hzE : s.envs.length ≤ 600000000000 := by unfold szStore at hz; have := szS_length szEnv s.envs; omega
  have hzP : s.promises.length ≤ 600000000000 := by unfold szStore at hz; have := szS_length szPromise s.promises; omega
  obtain ⟨E0, e0, E1, e1, rfl, l0, l1, HE, HP⟩ := hs.open_
  obtain ⟨b, off, cs, rfl, hbl, _, hat, hr⟩ := HP.out kn hkl
  obtain ⟨A1, c1, A2, c2, A3, c3, A4, c4, A5, c5, rfl, i0, i1, i2, HV⟩ := hr.open_
  clear hr hs hq hwf HE HP hk0 hk1
  have HSB := Lib.hid hsb
  have hlo := h.lo
  have hrl := h.bR.lt
  have HTO := Lib.hid h.lt
  have HS := Lib.hid h
  have r2 := h.bR.cell 2 _ rfl
  have q0 := h.bP.cell kn _ (bls_get _ kn (by rw [h.lP]; exact hkl))
  clear hsb h
  cases hg : gB st.P kn
  · have HN := Lib.hid (show promS s kn st = valS s.promises[kn].value (if s.promises[kn].state = 2 then ⟨st.E, st.P.set kn true, st.T⟩ else envS s.promises[kn].env ⟨st.E, st.P.set kn true, st.T⟩) by
      unfold promS
      rw [Int.toNat_natCast, List.getElem?_eq_getElem hkl]
      dsimp only
      rw [if_neg (by simp [hg])])
    rw [hg] at q0
    clear hg
    have f0 := HS.out.bP.frozen kn
    obtain ⟨q1, q2⟩ := RS.setP HQ.out HS.out kn
    obtain ⟨W1, hW1⟩ : ∃ W1, W1 = W.setCell ⟨gp, kn, none⟩ (.bool true) := ⟨_, rfl⟩
    rw [← hW1] at q1 q2
    have HW1S := Lib.hid (show W1.heap.size = W.heap.size by rw [hW1, size_sc])
    have hB1 := q1.rd
    have G1 := Lib.hid q1
    have R1 := Lib.hid q2
    clear q1 q2
    go_enter Tryz.func103, Tryz.ntmps103
    go_upto_region 2 with fail
    rw [← hW1]
    clear hW1 r2 q0 f0
    have r0 := G1.out.bR.cell 0 _ rfl
    have s1 := (hB1.cell (p := ⟨sb, 1, none⟩) HSB.out.lt).trans (HSB.out.cell 1 _ rfl)
    have y0 := (hB1.cell (p := ⟨b, off + kn * 12, none⟩) hbl).trans (by simpa using hat 0 _ rfl)
    have y1 := (hB1.cell (p := ⟨b, off + kn * 12 + 1, none⟩) hbl).trans (hat 1 _ rfl)
    have y2 := (hB1.cell (p := ⟨b, off + kn * 12 + 2, none⟩) hbl).trans (hat 2 _ rfl)
    have y3 := (hB1.cell (p := ⟨b, off + kn * 12 + 3, none⟩) hbl).trans (hat 3 _ rfl)
    have y4 := (hB1.cell (p := ⟨b, off + kn * 12 + 4, none⟩) hbl).trans (hat 4 _ rfl)
    have y5 := (hB1.cell (p := ⟨b, off + kn * 12 + 5, none⟩) hbl).trans (hat 5 _ rfl)
    have y6 := (hB1.cell (p := ⟨b, off + kn * 12 + 6, none⟩) hbl).trans (hat 6 _ rfl)
    have y7 := (hB1.cell (p := ⟨b, off + kn * 12 + 7, none⟩) hbl).trans (hat 7 _ rfl)
    have y8 := (hB1.cell (p := ⟨b, off + kn * 12 + 8, none⟩) hbl).trans (hat 8 _ rfl)
    have y9 := (hB1.cell (p := ⟨b, off + kn * 12 + 9, none⟩) hbl).trans (hat 9 _ rfl)
    have y10 := (hB1.cell (p := ⟨b, off + kn * 12 + 10, none⟩) hbl).trans (hat 10 _ rfl)
    have y11 := (hB1.cell (p := ⟨b, off + kn * 12 + 11, none⟩) hbl).trans (hat 11 _ rfl)
    go_upto_region 3 with fail
    obtain ⟨W2, hW2⟩ : ∃ W2, W2 = W1.alloc (.cells #[.bool s.promises[kn].used, .int .i64 s.promises[kn].code, .int .i64 s.promises[kn].env, .int .i64 s.promises[kn].state, .int .i64 s.promises[kn].value.kind, .slice A1 s.promises[kn].value.items.length c1, .slice A2 s.promises[kn].value.parts.length c2, .slice A3 s.promises[kn].value.names.length c3, .slice A4 s.promises[kn].value.cls.length c4, .slice A5 s.promises[kn].value.levels.length c5, .int .i64 s.promises[kn].value.code, .int .i64 s.promises[kn].value.env] 74) := ⟨_, rfl⟩
    have hb2 : Below W1.heap.size W1 W2 := by rw [hW2]; exact (Below.refl _ _).alloc (Nat.le_refl _) _
    have HW2S := Lib.hid (show W2.heap.size = W1.heap.size + 1 by rw [hW2]; simp)
    have G2 := Lib.hid (show RV w0 sb rb ge gp lo s.envs.length s.promises.length W2 (.slice A st.T.length c) W1.heap.size 74 [.bool s.promises[kn].used, .int .i64 s.promises[kn].code, .int .i64 s.promises[kn].env, .int .i64 s.promises[kn].state, .int .i64 s.promises[kn].value.kind, .slice A1 s.promises[kn].value.items.length c1, .slice A2 s.promises[kn].value.parts.length c2, .slice A3 s.promises[kn].value.names.length c3, .slice A4 s.promises[kn].value.cls.length c4, .slice A5 s.promises[kn].value.levels.length c5, .int .i64 s.promises[kn].value.code, .int .i64 s.promises[kn].value.env] ⟨st.E, st.P.set kn true, st.T⟩ A c W2 from ⟨G1.out.step hb2, RR.refl _ _ _ _ _, by rw [hW2]; exact Blk.new W1 _ _⟩)
    rw [← hW2]
    clear hW2 r0 s1 y0 y1 y2 y3 y4 y5 y6 y7 y8 y9 y10 y11
    have hft : (Value.slice A st.T.length c).ownBlock ≠ some W1.heap.size := fun e => by have := (HTO.out _ e).2; have := HW1S.out; omega
    have HFIN := Lib.hid (fun (st' : RSt) (A' : Option Addr) (c' : Nat) (W' : World) (h : RV w0 sb rb ge gp lo s.envs.length s.promises.length W2 (.slice A st.T.length c) W1.heap.size 74 [.bool s.promises[kn].used, .int .i64 s.promises[kn].code, .int .i64 s.promises[kn].env, .int .i64 s.promises[kn].state, .int .i64 s.promises[kn].value.kind, .slice A1 s.promises[kn].value.items.length c1, .slice A2 s.promises[kn].value.parts.length c2, .slice A3 s.promises[kn].value.names.length c3, .slice A4 s.promises[kn].value.cls.length c4, .slice A5 s.promises[kn].value.levels.length c5, .int .i64 s.promises[kn].value.code, .int .i64 s.promises[kn].value.env] st' A' c' W') => show RetR w0 sb rb ge gp lo s.envs.length s.promises.length st' W (.slice A st.T.length c) (.returned (.tuple #[])) W' from ⟨rfl, A', c', h.rs, (R1.out.trans (RR.of_below _ hb2)).trans h.rr⟩)
    clear hb2 hB1
    have x0 := G2.out.bx.cell 0 _ rfl
    have x1 := G2.out.bx.cell 1 _ rfl
    have x2 := G2.out.bx.cell 2 _ rfl
    have x3 := G2.out.bx.cell 3 _ rfl
    have x4 := G2.out.bx.cell 4 _ rfl
    have x5 := G2.out.bx.cell 5 _ rfl
    have x6 := G2.out.bx.cell 6 _ rfl
    have x7 := G2.out.bx.cell 7 _ rfl
    have x8 := G2.out.bx.cell 8 _ rfl
    have x9 := G2.out.bx.cell 9 _ rfl
    have x10 := G2.out.bx.cell 10 _ rfl
    have x11 := G2.out.bx.cell 11 _ rfl
    have hfv : ∀ f ∈ funs s.promises[kn].value, 0 ≤ f ∧ f < s.envs.length := fun f hf => HWF.out.pfunc kn _ f (List.getElem?_eq_getElem hkl) hf
    have HFV := Lib.hid hfv
    clear hfv
    by_cases h2 : s.promises[kn].state = 2
    · have HN2 := Lib.hid (show promS s kn st = valS s.promises[kn].value ⟨st.E, st.P.set kn true, st.T⟩ by rw [HN.out, if_pos h2])
      have hd2 : (s.promises[kn].state != 2) = false := by rw [h2]; rfl
      clear h2
      go_wp2_with fail
      refine Calls.mono (impl_reach_value w0 sb rb ge gp lo _ _ HQ.out hzE s.promises[kn].value _ ⟨st.E, st.P.set kn true, st.T⟩ A c W2 HV.out G2.out.rs HFV.out) ?_
      rintro e w3 ⟨rfl, A', c', q1, q2⟩
      have M3 := Lib.hid (G2.out.call q1 q2 (by have := HW1S.out; omega) HQ.out (by have := HW2S.out; omega) hft)
      clear q1 q2 x0 x1 x2 x3 x4 x5 x6 x7 x8 x9 x10 x11 G2
      go_wp2_with fail
      refine bodyPost_end (v := .tuple #[]) (by kernel_rfl) rfl ?_
      rw [HN2.out]
      exact HFIN.out _ _ _ _ M3.out
    · have hd2 : (s.promises[kn].state != 2) = true := by simpa using h2
      have HN2 := Lib.hid (show promS s kn st = valS s.promises[kn].value (envS s.promises[kn].env ⟨st.E, st.P.set kn true, st.T⟩) by rw [HN.out, if_neg h2])
      obtain ⟨hf1, hf2⟩ := HWF.out.penv kn _ (List.getElem?_eq_getElem hkl) h2
      clear h2
      go_wp2_with fail
      refine Calls.mono (impl_reach_env w0 sb rb ge gp lo _ _ ⟨st.E, st.P.set kn true, st.T⟩ A c W2 s.promises[kn].env HQ.out G2.out.rs hf2 hzE) ?_
      rintro e w3 ⟨rfl, A', c', q1, q2⟩
      have M3 := Lib.hid (G2.out.call q1 q2 (by have := HW1S.out; omega) HQ.out (by have := HW2S.out; omega) hft)
      clear q1 q2 x0 x1 x2 x3 x4 x5 x6 x7 x8 x9 x10 x11 G2
      have x0 := M3.out.bx.cell 0 _ rfl
      have x1 := M3.out.bx.cell 1 _ rfl
      have x2 := M3.out.bx.cell 2 _ rfl
      have x3 := M3.out.bx.cell 3 _ rfl
      have x4 := M3.out.bx.cell 4 _ rfl
      have x5 := M3.out.bx.cell 5 _ rfl
      have x6 := M3.out.bx.cell 6 _ rfl
      have x7 := M3.out.bx.cell 7 _ rfl
      have x8 := M3.out.bx.cell 8 _ rfl
      have x9 := M3.out.bx.cell 9 _ rfl
      have x10 := M3.out.bx.cell 10 _ rfl
      have x11 := M3.out.bx.cell 11 _ rfl
      go_wp2_with fail
      refine Calls.mono (impl_reach_value w0 sb rb ge gp lo _ _ HQ.out hzE s.promises[kn].value _ _ A' c' w3 HV.out M3.out.rs HFV.out) ?_
      rintro e w4 ⟨rfl, A2', c2', q1, q2⟩
      have M4 := Lib.hid (M3.out.call q1 q2 (by have := HW1S.out; omega) HQ.out (by have := HW2S.out; omega) hft)
      clear q1 q2 x0 x1 x2 x3 x4 x5 x6 x7 x8 x9 x10 x11 M3
      go_wp2_with fail
      refine bodyPost_end (v := .tuple #[]) (by kernel_rfl) rfl ?_
      rw [HN2.out]
      exact HFIN.out _ _ _ _ M4.out
  · have HN := Lib.hid (show promS s kn st = st by
      unfold promS
      rw [Int.toNat_natCast, List.getElem?_eq_getElem hkl]
      dsimp only
      rw [if_pos (by simp [hg])])
    rw [hg] at q0
    clear hg
    go_enter Tryz.func103, Tryz.ntmps103
    go_wp2_with fail
    refine bodyPost_ret (v := .tuple #[]) (by kernel_rfl) rfl ?_
    rw [HN.out]
    exact ⟨rfl, A, c, HS.out, RR.refl _ _ _ _ _⟩
end Go.Proofs.YtejieacdfjpfnaaGreat
namespace Go.Proofs.YtejieacdfjpfnaaGreat
open Go.ChangeShapes Go.WideShapes Go.ChangeAt Go.RowKit Go.Deep
set_option linter.unusedVariables false
set_option maxRecDepth 100000
set_option maxRecDepth 100000

/-- a measure that the state shows -/
def isF : Value → Bool
  | .bool false => true
  | _ => false
def muW (rb ge : Nat) (W : World) : Nat := (match W.heap[ge]? with | some (.cells cs _ _) => cs.toList.countP isF | _ => 0) + (match W.cell? ⟨rb, 3, none⟩ with | some (.slice _ n _) => n | _ => 0)
theorem bls_count (l : List Bool) : (bls l).countP isF = l.count false := by
  induction l with
  | nil => rfl
  | cons a l ih =>
    show ((Value.bool a) :: bls l).countP isF = _
    cases a
    · rw [List.countP_cons_of_pos rfl, List.count_cons_self, ih]
    · rw [List.countP_cons_of_neg (by simp [isF]), List.count_cons_of_ne (by simp), ih]
section
variable {w0 : World} {sb rb ge gp lo nE nP : Nat} {st : RSt} {A : Option Addr} {c : Nat} {W : World}
theorem RS.mu_eq (h : RS w0 sb rb ge gp lo nE nP st A c W) : muW rb ge W = st.E.count false + st.T.length := by
  have h1 := h.bE
  have h2 := h.bR.cell 3 _ rfl
  unfold Blk at h1
  unfold muW
  rw [h1, h2]
  simp only [bls_count]
/-- the last of the list is taken off -/
theorem RS.pop {E P : List Bool} {T : List Int} {e : Int} (hq : RQ w0 rb ge gp lo) (h : RS w0 sb rb ge gp lo nE nP ⟨E, P, T ++ [e]⟩ A c W) :
    RS w0 sb rb ge gp lo nE nP ⟨E, P, T⟩ A c (W.setCell ⟨rb, 3, none⟩ (.slice A T.length c)) := by
  have h1 := hq.r
  have hmu := h.mu
  refine ⟨?_, h.bE.far ⟨rb, 3, none⟩ hq.ngr _, h.bP.far ⟨rb, 3, none⟩ hq.npr _, ?_, h.lE, h.lP, by simp at hmu ⊢; omega, below_sc h.rd h1.1 _, by rw [size_sc]; exact h.lo⟩
  · have := h.bR.set_ 3 (.slice A T.length c)
    simpa using this
  · refine own_keptR (w := W) ?_ fun b e2 => Below.heap_setCell _ _ _ _ (fun e4 => by have := (h.lt b (by cases A <;> first | (simp [Value.ownBlock] at e2; done) | simpa [Value.ownBlock] using e2)).1; have e5 : b = rb := e4; omega)
    have ho := h.own
    refine ⟨by simp, .inr ?_⟩
    rcases ho.2 with ⟨hn, h0⟩ | ⟨g, cap, cur, hv, hb0, hg, hn, hc, hsz, ht⟩
    · simp at h0
    · simp only [Value.slice.injEq] at hv
      obtain ⟨rfl, _, rfl⟩ := hv
      refine ⟨g, c, cur, rfl, hb0, hg, by simp at hn; show T.length ≤ c; omega, hc, hsz, ?_⟩
      have h3 := congrArg (List.take (T.length * 1)) ht
      rw [List.take_take, Nat.min_eq_left (by simp)] at h3
      rw [h3]
      simp
theorem RS.last {E P : List Bool} {T : List Int} {e : Int} (h : RS w0 sb rb ge gp lo nE nP ⟨E, P, T ++ [e]⟩ A c W) : ∃ g, A = some ⟨g, 0, none⟩ ∧ lo ≤ g := by
  rcases h.own.2 with ⟨hn, h0⟩ | ⟨g, cap, cur, hv, hb0, _⟩
  · simp at h0
  · simp only [Value.slice.injEq] at hv
    exact ⟨g, hv.1, hb0⟩
theorem RS.lastCell {E P : List Bool} {T : List Int} {e : Int} {g : Nat} (h : RS w0 sb rb ge gp lo nE nP ⟨E, P, T ++ [e]⟩ (some ⟨g, 0, none⟩) c W) : W.cell? ⟨g, T.length, none⟩ = some (.int .i64 e) := by
  have := h.own.cells (g := g) rfl T.length (.int .i64 e) (by simp)
  by_cases hT : T = []
  · subst hT
    simpa [Addr.add] using this
  · simpa [Addr.add, hT] using this
end
theorem made_bls2 (n : Nat) : (madeCells #[Value.bool false] n) = (bls (List.replicate n false)).toArray := made_bls n
def RetRd (s : StoreD) (roots : List Int) (sb : Nat) (w : World) (e : Ending) (w' : World) : Prop := ∃ (rb ge gp lo : Nat) (st : RSt) (A : Option Addr) (c : Nat), e = .returned (.pointer (some ⟨rb, 0, none⟩)) ∧ RQ w rb ge gp lo ∧ RS w sb rb ge gp lo s.envs.length s.promises.length st A c w' ∧ Marked s roots st.E st.P
theorem slotS_eq (s : StoreD) (y : SlotD) (st : RSt) : slotS s y st = y.promises.foldl (fun st p => promS s p st) (if y.kind = 2 then promS s y.promise (valS y.value st) else valS y.value st) := rfl
/-- what region 1's operations yield -/
def rdR (s : StoreD) (sb e0 e1 : Nat) (E0 E1 : Option Addr) : Nat → (Nat → Nat → Prop) → (Nat → Value) → World → Prop
  | 0, T, vs, W => vs 0 = .pointer (some ⟨sb, 0, none⟩)
  | 1, T, vs, W => vs 1 = .pointer (some ⟨sb, 0, none⟩)
  | 2, T, vs, W => vs 2 = .pointer (some ⟨sb, 0, none⟩)
  | 3, T, vs, W => vs 3 = .pointer (some ⟨sb, 0, none⟩)
  | 4, T, vs, W => vs 4 = .slice E0 s.envs.length e0
  | 5, T, vs, W => vs 5 = .int .i64 s.envs.length
  | 6, T, vs, W => ∃ g, vs 6 = .slice (some ⟨g, 0, none⟩) s.envs.length s.envs.length ∧ Blk W g 4 (bls (List.replicate s.envs.length false)) ∧ T 1 g
  | 7, T, vs, W => vs 7 = .pointer (some ⟨sb, 0, none⟩)
  | 8, T, vs, W => vs 8 = .pointer (some ⟨sb, 0, none⟩)
  | 9, T, vs, W => vs 9 = .pointer (some ⟨sb, 1, none⟩)
  | 10, T, vs, W => vs 10 = .slice E1 s.promises.length e1
  | 11, T, vs, W => vs 11 = .int .i64 s.promises.length
  | 12, T, vs, W => ∃ g, vs 12 = .slice (some ⟨g, 0, none⟩) s.promises.length s.promises.length ∧ Blk W g 4 (bls (List.replicate s.promises.length false)) ∧ T 2 g
  | 13, T, vs, W => vs 13 = .agg #[vs 0, vs 6, vs 12, .slice none 0 0]
  | 14, T, vs, W => ∃ r, vs 14 = .pointer (some ⟨r, 0, none⟩) ∧ Blk W r 88 (vs 13).cells.toList ∧ T 3 r
  | _, _, _, _ => True
def rdD : Nat → List Nat
  | 13 => [13, 0, 6, 12]
  | 14 => [14, 13]
  | i => [i]
def rdL : Nat → Nat
  | 6 => 1
  | 12 => 2
  | 14 => 3
  | _ => 0
theorem rdK (s : StoreD) (sb e0 e1 : Nat) (E0 E1 : Option Addr) (i : Nat) (T T' : Nat → Nat → Prop) (vs vs' : Nat → Value) (W W' : World) (hv : ∀ j ∈ rdD i, vs' j = vs j) (hT : ∀ l b, T l b → T' l b) (hb : Below W.heap.size W W') (h : rdR s sb e0 e1 E0 E1 i T vs W) : rdR s sb e0 e1 E0 E1 i T' vs' W' :=
  match i, hv, h with
  | 0, hv, h => (hv 0 List.mem_cons_self).trans h
  | 1, hv, h => (hv 1 List.mem_cons_self).trans h
  | 2, hv, h => (hv 2 List.mem_cons_self).trans h
  | 3, hv, h => (hv 3 List.mem_cons_self).trans h
  | 4, hv, h => (hv 4 List.mem_cons_self).trans h
  | 5, hv, h => (hv 5 List.mem_cons_self).trans h
  | 6, hv, h => by
    obtain ⟨g, e, hb2, ht⟩ := h
    exact ⟨g, (hv 6 List.mem_cons_self).trans e, hb2.below hb, hT _ _ ht⟩
  | 7, hv, h => (hv 7 List.mem_cons_self).trans h
  | 8, hv, h => (hv 8 List.mem_cons_self).trans h
  | 9, hv, h => (hv 9 List.mem_cons_self).trans h
  | 10, hv, h => (hv 10 List.mem_cons_self).trans h
  | 11, hv, h => (hv 11 List.mem_cons_self).trans h
  | 12, hv, h => by
    obtain ⟨g, e, hb2, ht⟩ := h
    exact ⟨g, (hv 12 List.mem_cons_self).trans e, hb2.below hb, hT _ _ ht⟩
  | 13, hv, h => by
    show vs' 13 = _
    rw [hv 13 (by decide), hv 0 (by decide), hv 6 (by decide), hv 12 (by decide)]
    exact h
  | 14, hv, h => by
    obtain ⟨r, e, hb2, ht⟩ := h
    refine ⟨r, (hv 14 List.mem_cons_self).trans e, ?_, hT _ _ ht⟩
    rw [hv 13 (by decide)]
    exact hb2.below hb
  | _ + 15, _, _ => trivial

set_option maxHeartbeats 8000000 in
theorem impl_reached (s : StoreD) (roots : List Int) (ss : List Value) (rv : Value) (w : World) (sb : Nat) (hs : StoreR w ss s) (hsb : Blk w sb 33 ss) (hr : Ints w rv roots) (hok : storeOk s = true) (hro : ∀ e ∈ roots, 0 ≤ e ∧ e < s.envs.length) (hz : szStore s ≤ 600000000000) :
    Calls Tryz.prog 50 #[.pointer (some ⟨sb, 0, none⟩), rv] w (RetRd s roots sb w) := by
  have HS := Lib.hid hs
  have HOK := Lib.hid hok
  have HRO := Lib.hid hro
  have HWF := Lib.hid (wf_of hok)
  have HZ := Lib.hid hz
  have hzE : s.envs.length ≤ 600000000000 := by unfold szStore at hz; have := szS_length szEnv s.envs; omega
  have hzP : s.promises.length ≤ 600000000000 := by unfold szStore at hz; have := szS_length szPromise s.promises; omega
  have HPOS := Lib.hid (storeOk_pos hok)
  obtain ⟨E0, e0, E1, e1, rfl, l0, l1, HE, HP⟩ := hs.open_
  have HSB := Lib.hid hsb
  have hsbl := hsb.lt
  obtain ⟨RA, rc, rfl, hl1, hm1, HC1⟩ := Ints.open_ hr
  unfold maxLen at hm1
  clear hs hr hok hro hz hsb
  obtain ⟨G, g0, HG⟩ := good0 w
  have t0 := fun W (h : Ok G W) => ((HG.out.below h).cell (p := ⟨sb, 0, none⟩) hsbl).trans (HSB.out.cell 0 _ rfl)
  have t1 := fun W (h : Ok G W) => ((HG.out.below h).cell (p := ⟨sb, 1, none⟩) hsbl).trans (HSB.out.cell 1 _ rfl)
  have hmk1 := fun W => run_mk (P := Tryz.prog) W 77 4 _ 1 1 Tryz.underlying77 info_bool s.envs.length (by omega) (by omega)
  have hmk2 := fun W => run_mk (P := Tryz.prog) W 77 4 _ 1 1 Tryz.underlying77 info_bool s.promises.length (by omega) (by omega)
  go_enter Tryz.func50, Tryz.ntmps50
  go_upto_region 1 with fail
  refine wp_region_free (by kernel_rfl) (by kernel_rfl) (Ok G) rdL rdD (rdR s sb e0 e1 E0 E1) (fun vs => ⟨#[.pointer (some ⟨sb, 0, none⟩), .slice RA roots.length rc, undef, undef, .pointer none, vs 15, undef, undef, undef, undef, undef, undef, undef, vs 0, vs 1, vs 2, vs 3, vs 4, vs 5, vs 6, vs 7, vs 8, vs 9, vs 10, vs 11, vs 12, vs 13, vs 14, undef, undef, undef, undef, undef, undef, undef, undef, undef, undef, undef, undef, undef, undef, undef, undef, undef, undef, undef, undef, undef, undef, undef, undef, undef, undef, undef, undef, undef, undef, undef, undef, undef, undef, undef, undef, undef, undef, undef, undef, undef, undef, undef, undef, undef, undef, undef, undef, undef, undef, undef, undef, undef, undef, undef, undef, undef, undef, undef, undef, undef, undef, undef, undef, undef, undef, undef, undef, undef, undef, undef, undef, undef, undef, undef, undef, undef, undef, undef, undef, undef, undef, undef, undef, undef, undef, undef, undef, undef, undef, undef], []⟩) (fun vs => by kernel_rfl) (by kernel_rfl) (HG.out.drew g0) (rdK s sb e0 e1 E0 E1) ?_ ?_
  · intro i o ho hi vs T W hS hd
    have h9 : i + 1 < 16 := by simpa using hi
    have hi' : i = 0 ∨ i = 1 ∨ i = 2 ∨ i = 3 ∨ i = 4 ∨ i = 5 ∨ i = 6 ∨ i = 7 ∨ i = 8 ∨ i = 9 ∨ i = 10 ∨ i = 11 ∨ i = 12 ∨ i = 13 ∨ i = 14 := by omega
    clear h9 hi
    rcases hi' with rfl | rfl | rfl | rfl | rfl | rfl | rfl | rfl | rfl | rfl | rfl | rfl | rfl | rfl | rfl
    · obtain rfl := Option.some.inj ho
      exact oper_ok (by go_simp) ⟨_, rfl, Below.refl _ _, hS, upd_same _ _ _⟩
    · obtain rfl := Option.some.inj ho
      exact oper_ok (by go_simp) ⟨_, rfl, Below.refl _ _, hS, upd_same _ _ _⟩
    · obtain rfl := Option.some.inj ho
      have d : vs 1 = _ := hd ⟨1, .data⟩ (by simp) rfl
      exact oper_ok (by go_simp) ⟨_, rfl, Below.refl _ _, hS, upd_same _ _ _⟩
    · obtain rfl := Option.some.inj ho
      have d : vs 2 = _ := hd ⟨2, .data⟩ (by simp) rfl
      exact oper_ok (by go_simp) ⟨_, rfl, Below.refl _ _, hS, upd_same _ _ _⟩
    · obtain rfl := Option.some.inj ho
      have d : vs 3 = _ := hd ⟨3, .data⟩ (by simp) rfl
      exact oper_ok (by go_simp) ⟨_, rfl, Below.refl _ _, hS, upd_same _ _ _⟩
    · obtain rfl := Option.some.inj ho
      have d : vs 4 = _ := hd ⟨4, .data⟩ (by simp) rfl
      exact oper_ok (by go_simp) ⟨_, rfl, Below.refl _ _, hS, upd_same _ _ _⟩
    · obtain rfl := Option.some.inj ho
      have d : vs 5 = _ := hd ⟨5, .data⟩ (by simp) rfl
      have hmkW := hmk1 W
      refine oper_ok (by go_simp; rfl) ⟨_, rfl, (Below.refl _ _).alloc (Nat.le_refl _) _, HG.out.alloc hS _, W.heap.size, upd_same _ _ _, ?_, .inr ⟨rfl, Nat.le_refl _, by simp⟩⟩
      rw [made_bls2]
      exact Blk.new _ _ _
    · obtain rfl := Option.some.inj ho
      exact oper_ok (by go_simp) ⟨_, rfl, Below.refl _ _, hS, upd_same _ _ _⟩
    · obtain rfl := Option.some.inj ho
      have d : vs 7 = _ := hd ⟨7, .data⟩ (by simp) rfl
      exact oper_ok (by go_simp) ⟨_, rfl, Below.refl _ _, hS, upd_same _ _ _⟩
    · obtain rfl := Option.some.inj ho
      have d : vs 8 = _ := hd ⟨8, .data⟩ (by simp) rfl
      exact oper_ok (by go_simp) ⟨_, rfl, Below.refl _ _, hS, upd_same _ _ _⟩
    · obtain rfl := Option.some.inj ho
      have d : vs 9 = _ := hd ⟨9, .data⟩ (by simp) rfl
      exact oper_ok (by go_simp) ⟨_, rfl, Below.refl _ _, hS, upd_same _ _ _⟩
    · obtain rfl := Option.some.inj ho
      have d : vs 10 = _ := hd ⟨10, .data⟩ (by simp) rfl
      exact oper_ok (by go_simp) ⟨_, rfl, Below.refl _ _, hS, upd_same _ _ _⟩
    · obtain rfl := Option.some.inj ho
      have d : vs 11 = _ := hd ⟨11, .data⟩ (by simp) rfl
      have hmkW := hmk2 W
      refine oper_ok (by go_simp; rfl) ⟨_, rfl, (Below.refl _ _).alloc (Nat.le_refl _) _, HG.out.alloc hS _, W.heap.size, upd_same _ _ _, ?_, .inr ⟨rfl, Nat.le_refl _, by simp⟩⟩
      rw [made_bls2]
      exact Blk.new _ _ _
    · obtain rfl := Option.some.inj ho
      have d0 : vs 0 = _ := hd ⟨0, .data⟩ (by simp) rfl
      obtain ⟨g6, d6, _⟩ := (show rdR s sb e0 e1 E0 E1 6 T vs W from hd ⟨6, .data⟩ (by simp) rfl)
      obtain ⟨g12, d12, _⟩ := (show rdR s sb e0 e1 E0 E1 12 T vs W from hd ⟨12, .data⟩ (by simp) rfl)
      refine oper_ok (by go_simp; rfl) ⟨_, rfl, Below.refl _ _, hS, ?_⟩
      show upd vs 13 _ 13 = .agg #[upd vs 13 _ 0, upd vs 13 _ 6, upd vs 13 _ 12, .slice none 0 0]
      simp [upd, d0, d6, d12]
    · obtain rfl := Option.some.inj ho
      have d : vs 13 = _ := hd ⟨13, .data⟩ (by simp) rfl
      refine oper_ok (by go_simp; rfl) ⟨_, rfl, (Below.refl _ _).alloc (Nat.le_refl _) _, HG.out.alloc hS _, W.heap.size, upd_same _ _ _, ?_, .inr ⟨rfl, Nat.le_refl _, by simp⟩⟩
      rw [upd_ne _ _ _ _ (by decide), d]
      exact Blk.new W _ [vs 0, vs 6, vs 12, .slice none 0 0]
  · intro o ho vs T W hS hsz hT1 hT2 hR
    obtain rfl := Option.some.inj ho
    have d0 : vs 0 = _ := hR 0 (by decide)
    obtain ⟨ge, d6, hbE, t6⟩ := (show rdR s sb e0 e1 E0 E1 6 T vs W from hR 6 (by decide))
    obtain ⟨gp, d12, hbP, t12⟩ := (show rdR s sb e0 e1 E0 E1 12 T vs W from hR 12 (by decide))
    have d13 : vs 13 = .agg #[vs 0, vs 6, vs 12, .slice none 0 0] := hR 13 (by decide)
    obtain ⟨rb, d14, hbR, t14⟩ := (show rdR s sb e0 e1 E0 E1 14 T vs W from hR 14 (by decide))
    rw [d13, d0, d6, d12] at hbR
    have hq : RQ w rb ge gp W.heap.size := ⟨hT1 _ _ t6, hT1 _ _ t12, hT1 _ _ t14, fun e => (by have := hT2 1 2 ge t6 (e ▸ t12); omega), fun e => (by have := hT2 1 3 ge t6 (e ▸ t14); omega), fun e => (by have := hT2 2 3 gp t12 (e ▸ t14); omega)⟩
    have hs0 : RS w sb rb ge gp W.heap.size s.envs.length s.promises.length ⟨List.replicate s.envs.length false, List.replicate s.promises.length false, []⟩ none 0 W := ⟨hbR, hbE, hbP, World.ownsRow_nil _ _ _ _, by simp, by simp, by simp, HG.out.below hS, Nat.le_refl _⟩
    obtain ⟨lo, hlo⟩ : ∃ lo, lo = W.heap.size := ⟨_, rfl⟩
    rw [← hlo] at hq hs0
    have HQ := Lib.hid hq
    have HS0 := Lib.hid hs0
    clear hq hs0 hbE hbP hbR t6 t12 t14 hT1 hT2 hR d0 d6 d12 d13 hmk1 hmk2 hlo hsz
    refine oper_gen (fun K hK => ?_)
    go_wp2_with fail
    refine hK.out _ _ ?_
    clear hK
    go_wp2_with fail
    refine Calls.mono (impl_reach_env w sb rb ge gp lo _ _ _ none 0 W 0 HQ.out HS0.out (by have := HPOS.out; omega) hzE) ?_
    rintro e w1 ⟨rfl, A1, c1, q1, q2⟩
    obtain ⟨st1, hst1⟩ : ∃ st1 : RSt, st1 = envS 0 ⟨List.replicate s.envs.length false, List.replicate s.promises.length false, []⟩ := ⟨_, rfl⟩
    rw [← hst1] at q1
    have HI0 := Lib.hid (show RInv s roots (roots.foldl (fun st e => envS e st) st1) by rw [hst1]; exact RInv.start roots HRO.out HPOS.out)
    have HX1 := Lib.hid q1
    clear q1 q2 hst1 HS0 hS t0 t1
    go_wp2_with fail
    go_loopw [7, 32] (fun _ i wr => ∃ (k : Nat) (A' : Option Addr) (c' : Nat), k ≤ roots.length ∧ i = .int .i64 k ∧ Hid (RS w sb rb ge gp lo s.envs.length s.promises.length ((roots.take k).foldl (fun st e => envS e st) st1) A' c' wr)) (fun _ i _ => roots.length - (intOf i).toNat)
    case atStart => exact ⟨0, A1, c1, Nat.zero_le _, rfl, HX1.out⟩
    case round =>
      clear HX1
      obtain ⟨k, A', c', hk, rfl, HX⟩ := hrel
      by_cases hlt : k < roots.length
      · obtain ⟨b, off, rfl, hbl, hat, _, _⟩ := HC1.out k hlt
        have z0 := (HX.out.rd.cell (p := ⟨b, off + k, none⟩) hbl).trans hat
        clear hat
        go_wp2_with fail
        refine Calls.mono (impl_reach_env w sb rb ge gp lo _ _ _ A' c' wr roots[k] HQ.out HX.out (HRO.out _ (List.getElem_mem hlt)).2 hzE) ?_
        rintro e w2 ⟨rfl, A2, c2, q1, q2⟩
        have HX2 := Lib.hid q1
        rw [← foldl_take_succ (fun st e => envS e st) st1 roots k hlt] at HX2
        clear q1 q2 HX z0
        go_wp2_with fail
        go_roundw
        case rel => first | exact ⟨k + 1, A2, c2, by omega, by go_num, HX2.out⟩ | ((repeat apply Exists.intro); exact ⟨⟨k + 1, A2, c2, by omega, by go_num, HX2.out⟩, rfl⟩)
        case measure => simp [intOf]; omega
      · obtain rfl : k = roots.length := by omega
        rw [List.take_length] at HX
        go_wp2_with fail
        clear hlt hk
        go_loopw [8] (fun _ wr => ∃ (st : RSt) (A : Option Addr) (c : Nat), Hid (RInv s roots st) ∧ Hid (RS w sb rb ge gp lo s.envs.length s.promises.length st A c wr)) (fun _ wr => muW rb ge wr)
        case atStart => exact ⟨_, A', c', HI0.out, HX.out⟩
        case round =>
          clear HX HI0
          obtain ⟨⟨E, P, T0⟩, A, c, HI, HX⟩ := hrel
          rcases List.eq_nil_or_concat T0 with hT | ⟨T', e, hT⟩
          · subst hT
            have r3 := HX.out.bR.cell 3 _ rfl
            go_wp2_with fail
            go_ret
            exact ⟨rb, ge, gp, lo, _, A, c, rfl, HQ.out, HX.out, HI.out.marked rfl⟩
          · rw [List.concat_eq_append] at hT
            subst hT
            obtain ⟨g, rfl, hlg⟩ := HX.out.last
            obtain ⟨ht1, ht2⟩ := HI.out.tm e (by simp)
            obtain ⟨en, rfl⟩ := Int.eq_ofNat_of_zero_le ht1
            rw [Int.toNat_natCast] at ht2
            have hlt : en < s.envs.length := by have h4 : en < E.length := gB_lt ht2; have h3 : E.length = s.envs.length := HX.out.lE; omega
            have HMU := Lib.hid HX.out.mu_eq
            have HEX := Lib.hid (List.getElem?_eq_getElem hlt)
            obtain ⟨hst, hmu⟩ := HI.out.step HWF.out _ HEX.out
            have HI2 := Lib.hid hst
            have HM2 := Lib.hid hmu
            clear ht1 ht2 hst hmu
            have r3 := fun W (h : Ok (RS w sb rb ge gp lo s.envs.length s.promises.length ⟨E, P, T' ++ [(en : Int)]⟩ (some ⟨g, 0, none⟩) c) W) => ((show RS w sb rb ge gp lo s.envs.length s.promises.length ⟨E, P, T' ++ [(en : Int)]⟩ (some ⟨g, 0, none⟩) c W from h).bR.cell 3 _ rfl).trans (congrArg (fun n => some (Value.slice (some ⟨g, 0, none⟩) n c)) (show (T' ++ [(en : Int)]).length = T'.length + 1 by simp))
            have tl := fun W (h : Ok (RS w sb rb ge gp lo s.envs.length s.promises.length ⟨E, P, T' ++ [(en : Int)]⟩ (some ⟨g, 0, none⟩) c) W) => (show RS w sb rb ge gp lo s.envs.length s.promises.length ⟨E, P, T' ++ [(en : Int)]⟩ (some ⟨g, 0, none⟩) c W from h).lastCell
            have r30 := r3 _ HX.out
            have g1 : Ok (RS w sb rb ge gp lo s.envs.length s.promises.length ⟨E, P, T' ++ [(en : Int)]⟩ (some ⟨g, 0, none⟩) c) wr.drew := HX.out.step (Below.drew (Below.refl _ _))
            have hTb : T'.length + 1 ≤ c ∧ c ≤ maxLen := by
              rcases HX.out.own.2 with ⟨hn, h0⟩ | ⟨g', cap, cur, hv, hb0, hg, hn, hc, _⟩
              · simp at h0
              · simp only [Value.slice.injEq] at hv
                obtain ⟨_, _, rfl⟩ := hv
                exact ⟨by simpa using hn, hc⟩
            obtain ⟨hTb1, hTb2⟩ := hTb
            unfold maxLen at hTb2
            have hTl : T'.length ≤ 600000000000 := by have h3 := HX.out.mu; simp at h3; omega
            have hTw : IntKind.i64.wrap (T'.length : Int) = (T'.length : Int) := by rw [IntKind.wrap_i64]; omega
            have hTs : (T'.length : Int) < (T'.length : Int) + 1 := by omega
            have hTs2 : (T'.length : Int) ≤ (T'.length : Int) + 1 := by omega
            have hTs3 : (T'.length : Int) ≤ (c : Int) := by omega
            have hTs4 : T'.length ≤ c := by omega
            go_wp2_with fail
            clear r30
            refine wp_region_plan (S := Ok (RS w sb rb ge gp lo s.envs.length s.promises.length ⟨E, P, T' ++ [(en : Int)]⟩ (some ⟨g, 0, none⟩) c)) (by kernel_rfl) [(true, 0), (true, 1), (true, 2), (true, 3), (true, 4), (true, 5), (true, 6), (true, 7), (true, 8), (true, 9), (true, 10), (true, 11), (true, 12)] (by kernel_rfl) g1 ?_
            repeat ((first | (refine dyn_take rfl rfl (fun W g => by go_simp; rfl) ?_) | (refine dyn_skip rfl rfl ?_)); go_simp)
            refine dyn_done ?_
            go_wp2_with fail
            have g2 : Ok (RS w sb rb ge gp lo s.envs.length s.promises.length ⟨E, P, T' ++ [(en : Int)]⟩ (some ⟨g, 0, none⟩) c) wr.drew.drew := (show RS w sb rb ge gp lo s.envs.length s.promises.length ⟨E, P, T' ++ [(en : Int)]⟩ (some ⟨g, 0, none⟩) c _ from g1).step (Below.drew (Below.refl _ _))
            refine wp_region_phase (T := Ok (RS w sb rb ge gp lo s.envs.length s.promises.length ⟨E, P, T' ++ [(en : Int)]⟩ (some ⟨g, 0, none⟩) c)) (by kernel_rfl) [(2, 0), (2, 1), (2, 2), (2, 3), (1, 4), (2, 5), (2, 6), (2, 7), (1, 8), (2, 9), (2, 10), (2, 11), (2, 12), (2, 13), (0, 14)] [14] (by kernel_rfl) g2 ?_
            repeat ((first | (refine dynL_take rfl rfl (fun W g => by go_simp; rfl) ?_) | (refine dynL_pure rfl rfl (fun W => by go_simp; rfl) ?_)); go_simp)
            have f3 := (show RS w sb rb ge gp lo s.envs.length s.promises.length ⟨E, P, T' ++ [(en : Int)]⟩ (some ⟨g, 0, none⟩) c _ from g2).bR.frozen 3
            refine dynL_last rfl (by simp) rfl (fun K hK => ?_)
            go_wp2_with fail
            refine hK.out _ _ ?_
            clear hK
            refine dynL_done ?_
            have HPP := Lib.hid (RS.pop HQ.out (show RS w sb rb ge gp lo s.envs.length s.promises.length ⟨E, P, T' ++ [(en : Int)]⟩ (some ⟨g, 0, none⟩) c _ from g2))
            clear f3 r3 tl g1 g2 HX HI
            refine gen_w (G := RS w sb rb ge gp lo s.envs.length s.promises.length ⟨E, P, T'⟩ (some ⟨g, 0, none⟩) c) HPP.out ?_
            clear HPP
            intro W5 g5
            have HX := Lib.hid (show RS w sb rb ge gp lo s.envs.length s.promises.length ⟨E, P, T'⟩ (some ⟨g, 0, none⟩) c W5 from g5)
            clear g5
            obtain ⟨b, off, cs, rfl, hbl, _, hat, hr⟩ := HE.out en hlt
            obtain ⟨N, n, M, m, rfl, i0, i1, i2, HN, HM⟩ := hr.open_
            clear hr HN
            obtain ⟨_, _, q1, hl2, hm2, HC2⟩ := SlR.open_ HM.out
            injection q1 with q11 q12 q13
            subst q11 q13
            clear q12
            unfold maxLen at hm2
            have hzs : s.envs[en].slots.length ≤ 600000000000 := by have h1 := HZ.out; unfold szStore at h1; have h2 := szS_at szEnv s.envs en hlt; unfold szEnv at h1 h2; have := szS_length szSlot s.envs[en].slots; omega
            have HAT := Lib.hid hat
            clear hat
            have hBl : Below w.heap.size w W5 := HX.out.rd
            have s0 := (hBl.cell (p := ⟨sb, 0, none⟩) hsbl).trans (HSB.out.cell 0 _ rfl)
            have y1 := (hBl.cell (p := ⟨b, off + en * 4 + 1, none⟩) hbl).trans (HAT.out 1 _ rfl)
            go_wp2_with fail
            refine Calls.mono (impl_reach_env w sb rb ge gp lo _ _ _ (some ⟨g, 0, none⟩) c W5 s.envs[en].parent HQ.out HX.out (HWF.out.parent en _ HEX.out) hzE) ?_
            rintro e w6 ⟨rfl, A6, c6, q1, q2⟩
            obtain ⟨st6, hst6⟩ : ∃ st6 : RSt, st6 = envS s.envs[en].parent ⟨E, P, T'⟩ := ⟨_, rfl⟩
            rw [← hst6] at q1
            have HSX := Lib.hid (show stepS s s.envs[en] ⟨E, P, T'⟩ = s.envs[en].slots.foldl (fun st y => slotS s y st) st6 by rw [hst6]; rfl)
            rw [HSX.out] at HI2 HM2
            have HX6 := Lib.hid q1
            clear q1 q2 hst6 HX y1 s0 hBl HSX
            have hBl : Below w.heap.size w w6 := HX6.out.rd
            have s0 := (hBl.cell (p := ⟨sb, 0, none⟩) hsbl).trans (HSB.out.cell 0 _ rfl)
            have y3 := (hBl.cell (p := ⟨b, off + en * 4 + 3, none⟩) hbl).trans (HAT.out 3 _ rfl)
            go_wp2_with fail
            clear s0 y3 hBl
            go_loopw [91] (fun i wr => ∃ (j : Nat) (A : Option Addr) (c : Nat), j ≤ s.envs[en].slots.length ∧ i = .int .i64 j ∧ Hid (RS w sb rb ge gp lo s.envs.length s.promises.length ((s.envs[en].slots.take j).foldl (fun st y => slotS s y st) st6) A c wr)) (fun i _ => s.envs[en].slots.length - (intOf i).toNat)
            case atStart => exact ⟨0, A6, c6, Nat.zero_le _, rfl, HX6.out⟩
            case round =>
              clear HX6
              obtain ⟨j, A, c, hj, rfl, HX⟩ := hrel
              by_cases hjl : j < s.envs[en].slots.length
              · obtain ⟨b', off', cs', rfl, hbl', _, hat', hr'⟩ := HC2.out j hjl
                obtain ⟨B1, b1, B2, b2, B3, b3, B4, b4, B5, b5, PA, pc, LA, lc, rfl, k0, k1, m1, m2, HV, HPI, HLT⟩ := hr'.open_
                clear hr' HLT
                obtain ⟨_, _, q1, hl3, hm3, HC3⟩ := Ints.open_ HPI.out
                injection q1 with q11 q12 q13
                subst q11 q13
                clear q12
                unfold maxLen at hm3
                have hBl : Below w.heap.size w wr := HX.out.rd
                have z0 := (hBl.cell (p := ⟨b', off' + j * 12, none⟩) hbl').trans (by simpa using hat' 0 _ rfl)
                have z1 := (hBl.cell (p := ⟨b', off' + j * 12 + 1, none⟩) hbl').trans (hat' 1 _ rfl)
                have z2 := (hBl.cell (p := ⟨b', off' + j * 12 + 2, none⟩) hbl').trans (hat' 2 _ rfl)
                have z3 := (hBl.cell (p := ⟨b', off' + j * 12 + 3, none⟩) hbl').trans (hat' 3 _ rfl)
                have z4 := (hBl.cell (p := ⟨b', off' + j * 12 + 4, none⟩) hbl').trans (hat' 4 _ rfl)
                have z5 := (hBl.cell (p := ⟨b', off' + j * 12 + 5, none⟩) hbl').trans (hat' 5 _ rfl)
                have z6 := (hBl.cell (p := ⟨b', off' + j * 12 + 6, none⟩) hbl').trans (hat' 6 _ rfl)
                have z7 := (hBl.cell (p := ⟨b', off' + j * 12 + 7, none⟩) hbl').trans (hat' 7 _ rfl)
                have z8 := (hBl.cell (p := ⟨b', off' + j * 12 + 8, none⟩) hbl').trans (hat' 8 _ rfl)
                have z9 := (hBl.cell (p := ⟨b', off' + j * 12 + 9, none⟩) hbl').trans (hat' 9 _ rfl)
                have z10 := (hBl.cell (p := ⟨b', off' + j * 12 + 10, none⟩) hbl').trans (hat' 10 _ rfl)
                have z11 := (hBl.cell (p := ⟨b', off' + j * 12 + 11, none⟩) hbl').trans (hat' 11 _ rfl)
                have hmem : s.envs[en].slots[j] ∈ s.envs[en].slots := List.getElem_mem hjl
                have HFV := Lib.hid (show ∀ f ∈ funs s.envs[en].slots[j].value, 0 ≤ f ∧ f < s.envs.length from fun f hf => HWF.out.func en _ s.envs[en].slots[j] f HEX.out hmem hf)
                have HFP := Lib.hid (show s.envs[en].slots[j].kind = 2 → 0 ≤ s.envs[en].slots[j].promise ∧ s.envs[en].slots[j].promise < s.promises.length from HWF.out.prom en _ s.envs[en].slots[j] HEX.out hmem)
                have HFQ := Lib.hid (show ∀ p ∈ s.envs[en].slots[j].promises, 0 ≤ p ∧ p < s.promises.length from fun p hp => HWF.out.proms en _ s.envs[en].slots[j] p HEX.out hmem hp)
                clear hmem hat'
                obtain ⟨wo, rfl⟩ : ∃ wo : World, wo = wr := ⟨_, rfl⟩
                obtain ⟨stj, hstj⟩ : ∃ stj : RSt, stj = (s.envs[en].slots.take j).foldl (fun st y => slotS s y st) st6 := ⟨_, rfl⟩
                rw [← hstj] at HX
                have HSJ := Lib.hid (show (s.envs[en].slots.take (j + 1)).foldl (fun st y => slotS s y st) st6 = slotS s s.envs[en].slots[j] stj by rw [foldl_take_succ (fun st y => slotS s y st) st6 s.envs[en].slots j hjl, hstj])
                clear hstj
                go_upto_region 15 with fail
                obtain ⟨W1, hW1⟩ : ∃ W1, W1 = wo.alloc (.cells #[.int .i64 s.envs[en].slots[j].kind, .int .i64 s.envs[en].slots[j].value.kind, .slice B1 s.envs[en].slots[j].value.items.length b1, .slice B2 s.envs[en].slots[j].value.parts.length b2, .slice B3 s.envs[en].slots[j].value.names.length b3, .slice B4 s.envs[en].slots[j].value.cls.length b4, .slice B5 s.envs[en].slots[j].value.levels.length b5, .int .i64 s.envs[en].slots[j].value.code, .int .i64 s.envs[en].slots[j].value.env, .int .i64 s.envs[en].slots[j].promise, .slice PA s.envs[en].slots[j].promises.length pc, .slice LA s.envs[en].slots[j].labels.length lc] 96) := ⟨_, rfl⟩
                have hb1 : Below wo.heap.size wo W1 := by rw [hW1]; exact (Below.refl _ _).alloc (Nat.le_refl _) _
                have HW1S := Lib.hid (show W1.heap.size = wo.heap.size + 1 by rw [hW1]; simp)
                have G1 := Lib.hid (show RV w sb rb ge gp lo s.envs.length s.promises.length W1 (.slice A stj.T.length c) wo.heap.size 96 [.int .i64 s.envs[en].slots[j].kind, .int .i64 s.envs[en].slots[j].value.kind, .slice B1 s.envs[en].slots[j].value.items.length b1, .slice B2 s.envs[en].slots[j].value.parts.length b2, .slice B3 s.envs[en].slots[j].value.names.length b3, .slice B4 s.envs[en].slots[j].value.cls.length b4, .slice B5 s.envs[en].slots[j].value.levels.length b5, .int .i64 s.envs[en].slots[j].value.code, .int .i64 s.envs[en].slots[j].value.env, .int .i64 s.envs[en].slots[j].promise, .slice PA s.envs[en].slots[j].promises.length pc, .slice LA s.envs[en].slots[j].labels.length lc] stj A c W1 from ⟨HX.out.step hb1, RR.refl _ _ _ _ _, by rw [hW1]; exact Blk.new wo _ _⟩)
                rw [← hW1]
                have hft : (Value.slice A stj.T.length c).ownBlock ≠ some wo.heap.size := fun e => by have := (HX.out.lt _ e).2; omega
                have hlw := HX.out.lo
                clear hW1 hb1 z0 z1 z2 z3 z4 z5 z6 z7 z8 z9 z10 z11 hBl HX
                have x0 := G1.out.bx.cell 0 _ rfl
                have x1 := G1.out.bx.cell 1 _ rfl
                have x2 := G1.out.bx.cell 2 _ rfl
                have x3 := G1.out.bx.cell 3 _ rfl
                have x4 := G1.out.bx.cell 4 _ rfl
                have x5 := G1.out.bx.cell 5 _ rfl
                have x6 := G1.out.bx.cell 6 _ rfl
                have x7 := G1.out.bx.cell 7 _ rfl
                have x8 := G1.out.bx.cell 8 _ rfl
                have x9 := G1.out.bx.cell 9 _ rfl
                have x10 := G1.out.bx.cell 10 _ rfl
                have x11 := G1.out.bx.cell 11 _ rfl
                go_wp2_with fail
                refine Calls.mono (impl_reach_value w sb rb ge gp lo _ _ HQ.out hzE s.envs[en].slots[j].value _ stj A c W1 HV.out G1.out.rs HFV.out) ?_
                rintro e w7 ⟨rfl, A7, c7, q1, q2⟩
                have M2 := Lib.hid (G1.out.call q1 q2 hlw HQ.out (by have := HW1S.out; omega) hft)
                clear q1 q2 x0 x1 x2 x3 x4 x5 x6 x7 x8 x9 x10 x11 G1
                have x0 := M2.out.bx.cell 0 _ rfl
                have x1 := M2.out.bx.cell 1 _ rfl
                have x2 := M2.out.bx.cell 2 _ rfl
                have x3 := M2.out.bx.cell 3 _ rfl
                have x4 := M2.out.bx.cell 4 _ rfl
                have x5 := M2.out.bx.cell 5 _ rfl
                have x6 := M2.out.bx.cell 6 _ rfl
                have x7 := M2.out.bx.cell 7 _ rfl
                have x8 := M2.out.bx.cell 8 _ rfl
                have x9 := M2.out.bx.cell 9 _ rfl
                have x10 := M2.out.bx.cell 10 _ rfl
                have x11 := M2.out.bx.cell 11 _ rfl
                obtain ⟨st8, hst8, HS8⟩ : ∃ st8 : RSt, st8 = (if s.envs[en].slots[j].kind = 2 then promS s s.envs[en].slots[j].promise (valS s.envs[en].slots[j].value stj) else valS s.envs[en].slots[j].value stj) ∧ Hid (slotS s s.envs[en].slots[j] stj = s.envs[en].slots[j].promises.foldl (fun st p => promS s p st) st8) := ⟨_, rfl, Lib.hid (slotS_eq s s.envs[en].slots[j] stj)⟩
                by_cases k2 : s.envs[en].slots[j].kind = 2
                · have hb2 : (s.envs[en].slots[j].kind == 2) = true := by rw [k2]; rfl
                  rw [if_pos k2] at hst8
                  obtain ⟨hk1, hk2⟩ := HFP.out k2
                  clear k2
                  go_wp2_with fail
                  refine Calls.mono (impl_reach_promise w sb rb ge gp lo s _ HQ.out HS.out HSB.out HWF.out HZ.out s.envs[en].slots[j].promise hk1 hk2 _ A7 c7 w7 M2.out.rs) ?_
                  rintro e w8 ⟨rfl, A8, c8, q1, q2⟩
                  have M3 := Lib.hid (M2.out.call q1 q2 hlw HQ.out (by have := HW1S.out; omega) hft)
                  rw [← hst8] at M3
                  clear q1 q2 x0 x1 x2 x3 x4 x5 x6 x7 x8 x9 x10 x11 M2 hst8 hb2 hk1 hk2
                  have x0 := M3.out.bx.cell 0 _ rfl
                  have x1 := M3.out.bx.cell 1 _ rfl
                  have x2 := M3.out.bx.cell 2 _ rfl
                  have x3 := M3.out.bx.cell 3 _ rfl
                  have x4 := M3.out.bx.cell 4 _ rfl
                  have x5 := M3.out.bx.cell 5 _ rfl
                  have x6 := M3.out.bx.cell 6 _ rfl
                  have x7 := M3.out.bx.cell 7 _ rfl
                  have x8 := M3.out.bx.cell 8 _ rfl
                  have x9 := M3.out.bx.cell 9 _ rfl
                  have x10 := M3.out.bx.cell 10 _ rfl
                  have x11 := M3.out.bx.cell 11 _ rfl
                  go_wp2_with fail
                  clear x0 x1 x2 x3 x4 x5 x6 x7 x8 x9 x10 x11
                  go_loopw [109] (fun i wr => ∃ (q : Nat) (Aq : Option Addr) (cq : Nat), q ≤ s.envs[en].slots[j].promises.length ∧ i = .int .i64 q ∧ Hid (RV w sb rb ge gp lo s.envs.length s.promises.length W1 (.slice A stj.T.length c) wo.heap.size 96 [.int .i64 s.envs[en].slots[j].kind, .int .i64 s.envs[en].slots[j].value.kind, .slice B1 s.envs[en].slots[j].value.items.length b1, .slice B2 s.envs[en].slots[j].value.parts.length b2, .slice B3 s.envs[en].slots[j].value.names.length b3, .slice B4 s.envs[en].slots[j].value.cls.length b4, .slice B5 s.envs[en].slots[j].value.levels.length b5, .int .i64 s.envs[en].slots[j].value.code, .int .i64 s.envs[en].slots[j].value.env, .int .i64 s.envs[en].slots[j].promise, .slice PA s.envs[en].slots[j].promises.length pc, .slice LA s.envs[en].slots[j].labels.length lc] ((s.envs[en].slots[j].promises.take q).foldl (fun st p => promS s p st) st8) Aq cq wr)) (fun i _ => s.envs[en].slots[j].promises.length - (intOf i).toNat)
                  case atStart => exact ⟨0, _, _, Nat.zero_le _, rfl, M3.out⟩
                  case round =>
                    clear M3
                    obtain ⟨q, A9, c9, hq, rfl, HY⟩ := hrel
                    by_cases hql : q < s.envs[en].slots[j].promises.length
                    · obtain ⟨b9, off9, rfl, hbl9, hat9, _, _⟩ := HC3.out q hql
                      have z9 := (HY.out.rs.rd.cell (p := ⟨b9, off9 + q, none⟩) hbl9).trans hat9
                      obtain ⟨hk1, hk2⟩ := HFQ.out _ (List.getElem_mem hql)
                      clear hat9
                      go_wp2_with fail
                      refine Calls.mono (impl_reach_promise w sb rb ge gp lo s _ HQ.out HS.out HSB.out HWF.out HZ.out s.envs[en].slots[j].promises[q] hk1 hk2 _ A9 c9 wr HY.out.rs) ?_
                      rintro e w9 ⟨rfl, A10, c10, q1, q2⟩
                      have HY2 := Lib.hid (HY.out.call q1 q2 hlw HQ.out (by have := HW1S.out; omega) hft)
                      rw [← foldl_take_succ (fun st p => promS s p st) st8 s.envs[en].slots[j].promises q hql] at HY2
                      clear q1 q2 HY z9 hk1 hk2
                      go_wp2_with fail
                      go_roundw
                      case rel => first | exact ⟨q + 1, A10, c10, by omega, by go_num, HY2.out⟩ | ((repeat apply Exists.intro); exact ⟨⟨q + 1, A10, c10, by omega, by go_num, HY2.out⟩, rfl⟩)
                      case measure => simp [intOf]; omega
                    · obtain rfl : q = s.envs[en].slots[j].promises.length := by omega
                      rw [List.take_length] at HY
                      rw [← HS8.out] at HY
                      go_wp2_with fail
                      go_roundw
                      case rel => first | exact ⟨j + 1, A9, c9, by omega, by go_num, by rw [HSJ.out]; exact HY.out.rs⟩ | ((repeat apply Exists.intro); exact ⟨⟨j + 1, A9, c9, by omega, by go_num, by rw [HSJ.out]; exact HY.out.rs⟩, rfl⟩)
                      case measure => simp [intOf]; omega
                · have hb2 : (s.envs[en].slots[j].kind == 2) = false := by simp [k2]
                  rw [if_neg k2] at hst8
                  clear k2
                  go_wp2_with fail
                  have M3 := Lib.hid (show RV w sb rb ge gp lo s.envs.length s.promises.length W1 (.slice A stj.T.length c) wo.heap.size 96 [.int .i64 s.envs[en].slots[j].kind, .int .i64 s.envs[en].slots[j].value.kind, .slice B1 s.envs[en].slots[j].value.items.length b1, .slice B2 s.envs[en].slots[j].value.parts.length b2, .slice B3 s.envs[en].slots[j].value.names.length b3, .slice B4 s.envs[en].slots[j].value.cls.length b4, .slice B5 s.envs[en].slots[j].value.levels.length b5, .int .i64 s.envs[en].slots[j].value.code, .int .i64 s.envs[en].slots[j].value.env, .int .i64 s.envs[en].slots[j].promise, .slice PA s.envs[en].slots[j].promises.length pc, .slice LA s.envs[en].slots[j].labels.length lc] st8 A7 c7 w7 from by rw [hst8]; exact M2.out)
                  clear x0 x1 x2 x3 x4 x5 x6 x7 x8 x9 x10 x11 M2 hst8 hb2
                  go_loopw [109] (fun i wr => ∃ (q : Nat) (Aq : Option Addr) (cq : Nat), q ≤ s.envs[en].slots[j].promises.length ∧ i = .int .i64 q ∧ Hid (RV w sb rb ge gp lo s.envs.length s.promises.length W1 (.slice A stj.T.length c) wo.heap.size 96 [.int .i64 s.envs[en].slots[j].kind, .int .i64 s.envs[en].slots[j].value.kind, .slice B1 s.envs[en].slots[j].value.items.length b1, .slice B2 s.envs[en].slots[j].value.parts.length b2, .slice B3 s.envs[en].slots[j].value.names.length b3, .slice B4 s.envs[en].slots[j].value.cls.length b4, .slice B5 s.envs[en].slots[j].value.levels.length b5, .int .i64 s.envs[en].slots[j].value.code, .int .i64 s.envs[en].slots[j].value.env, .int .i64 s.envs[en].slots[j].promise, .slice PA s.envs[en].slots[j].promises.length pc, .slice LA s.envs[en].slots[j].labels.length lc] ((s.envs[en].slots[j].promises.take q).foldl (fun st p => promS s p st) st8) Aq cq wr)) (fun i _ => s.envs[en].slots[j].promises.length - (intOf i).toNat)
                  case atStart => exact ⟨0, _, _, Nat.zero_le _, rfl, M3.out⟩
                  case round =>
                    clear M3
                    obtain ⟨q, A9, c9, hq, rfl, HY⟩ := hrel
                    by_cases hql : q < s.envs[en].slots[j].promises.length
                    · obtain ⟨b9, off9, rfl, hbl9, hat9, _, _⟩ := HC3.out q hql
                      have z9 := (HY.out.rs.rd.cell (p := ⟨b9, off9 + q, none⟩) hbl9).trans hat9
                      obtain ⟨hk1, hk2⟩ := HFQ.out _ (List.getElem_mem hql)
                      clear hat9
                      go_wp2_with fail
                      refine Calls.mono (impl_reach_promise w sb rb ge gp lo s _ HQ.out HS.out HSB.out HWF.out HZ.out s.envs[en].slots[j].promises[q] hk1 hk2 _ A9 c9 wr HY.out.rs) ?_
                      rintro e w9 ⟨rfl, A10, c10, q1, q2⟩
                      have HY2 := Lib.hid (HY.out.call q1 q2 hlw HQ.out (by have := HW1S.out; omega) hft)
                      rw [← foldl_take_succ (fun st p => promS s p st) st8 s.envs[en].slots[j].promises q hql] at HY2
                      clear q1 q2 HY z9 hk1 hk2
                      go_wp2_with fail
                      go_roundw
                      case rel => first | exact ⟨q + 1, A10, c10, by omega, by go_num, HY2.out⟩ | ((repeat apply Exists.intro); exact ⟨⟨q + 1, A10, c10, by omega, by go_num, HY2.out⟩, rfl⟩)
                      case measure => simp [intOf]; omega
                    · obtain rfl : q = s.envs[en].slots[j].promises.length := by omega
                      rw [List.take_length] at HY
                      rw [← HS8.out] at HY
                      go_wp2_with fail
                      go_roundw
                      case rel => first | exact ⟨j + 1, A9, c9, by omega, by go_num, by rw [HSJ.out]; exact HY.out.rs⟩ | ((repeat apply Exists.intro); exact ⟨⟨j + 1, A9, c9, by omega, by go_num, by rw [HSJ.out]; exact HY.out.rs⟩, rfl⟩)
                      case measure => simp [intOf]; omega
              · obtain rfl : j = s.envs[en].slots.length := by omega
                rw [List.take_length] at HX
                go_wp2_with fail
                go_roundw
                case rel => first | exact ⟨_, A, c, HI2.out, HX.out⟩ | ((repeat apply Exists.intro); exact ⟨⟨_, A, c, HI2.out, HX.out⟩, rfl⟩)
                case measure => rw [HX.out.mu_eq, HMU.out]; exact HM2.out
end Go.Proofs.YtejieacdfjpfnaaGreat
namespace Go.Proofs.YtejieacdfjpfnaaGreat
open Go.ChangeShapes Go.WideShapes Go.ChangeAt Go.RowKit Go.Deep
set_option linter.unusedVariables false
set_option maxRecDepth 100000
set_option maxRecDepth 100000

set_option maxHeartbeats 2000000 in
theorem impl_rootsRight (s : StoreD) (roots : List Int) (ss : List Value) (rv : Value) (w : World) (h : StoreR w ss s) (hr : Ints w rv roots) (hz : szStore s ≤ 600000000000) :
    Calls Tryz.prog 49 #[.agg ss.toArray, rv] w (RetB (rootsOk s roots) w) := by
  have HS := Lib.hid h
  obtain ⟨E0, e0, E1, e1, rfl, l0, l1, _⟩ := h.open_
  obtain ⟨RA, rc, rfl, hl1, hm1, HC1⟩ := Ints.open_ hr
  clear h hr
  unfold maxLen at hm1
  obtain ⟨G, g0, HG, BX⟩ := good1 w 33 [.slice E0 s.envs.length e0, .slice E1 s.promises.length e1]
  obtain ⟨x0, x1⟩ := pk_f2 BX
  go_enter Tryz.func49, Tryz.ntmps49
  go_upto_region 1 with fail
  refine gen_w g0 ?_
  clear g0
  intro W1 g1
  generalize (Value.agg #[.slice E0 s.envs.length e0, .slice E1 s.promises.length e1]) = V0
  go_wp2_with fail
  refine Calls.mono (impl_IsStore s _ _ (HS.out.below (HG.out.below g1)) (by omega)) ?_
  rintro e w2 ⟨rfl, hb⟩
  have g2 := HG.out.step g1 hb
  clear hb g1
  cases ho : storeOk s
  · have HU := Lib.hid (show rootsOk s roots = false by unfold rootsOk; rw [ho]; rfl)
    clear ho
    go_wp2_with fail
    go_ret
    exact ⟨ret_bool HU.out.symm, HG.out.below g2⟩
  · have HO := Lib.hid ho
    clear ho
    go_wp2_with fail
    go_loopw [6, 12] (fun _ i wr => ∃ k : Nat, k ≤ roots.length ∧ i = .int .i64 k ∧ Hid (∀ j (h : j < roots.length), j < k → envU s roots[j] = true) ∧ Ok G wr) (fun _ i _ => roots.length - (intOf i).toNat)
    case atStart => exact ⟨0, Nat.zero_le _, rfl, fun j _ h => absurd h (by omega), g2⟩
    case round =>
      clear g2
      obtain ⟨k, hk, rfl, HJ, g2⟩ := hrel
      by_cases hlt : k < roots.length
      · obtain ⟨b, off, rfl, hbl, hat, _, _⟩ := HC1.out k hlt
        have z0 := ((HG.out.below g2).cell (p := ⟨b, off + k, none⟩) hbl).trans hat
        clear hat
        go_wp2_with fail
        refine Calls.mono (impl_envUsed s roots[k] _ _ (HS.out.below (HG.out.below g2))) ?_
        rintro e w3 ⟨rfl, hb⟩
        have g3 := HG.out.step g2 hb
        clear hb g2 z0
        cases hu : envU s roots[k]
        · have HU := Lib.hid (rootsOk_no (s := s) hlt (by rw [hu, Bool.and_false]))
          clear hu
          go_wp2_with fail
          go_ret
          exact ⟨ret_bool HU.out.symm, HG.out.below g3⟩
        · have HU := Lib.hid hu
          clear hu
          go_wp2_with fail
          go_roundw
          case rel => first | exact ⟨k + 1, by omega, by go_num, fun j h1 hj => by rcases Nat.lt_succ_iff_lt_or_eq.1 hj with h3 | rfl; exact HJ.out j h1 h3; exact HU.out, g3⟩ | ((repeat apply Exists.intro); exact ⟨⟨k + 1, by omega, by go_num, fun j h1 hj => by rcases Nat.lt_succ_iff_lt_or_eq.1 hj with h3 | rfl; exact HJ.out j h1 h3; exact HU.out, g3⟩, rfl⟩)
          case measure => simp [intOf]; omega
      · obtain rfl : k = roots.length := by omega
        have HU := Lib.hid (show rootsOk s roots = true by
          unfold rootsOk
          rw [HO.out, Bool.true_and, List.all_eq_true]
          intro e he
          obtain ⟨j, hj, rfl⟩ := List.getElem_of_mem he
          exact HJ.out j hj hj)
        go_wp2_with fail
        go_ret
        exact ⟨ret_bool HU.out.symm, HG.out.below g2⟩

theorem impl_marked_b (E : List Bool) (ge : Nat) (w : World) (h : Blk w ge 4 (bls E)) (hn : E.length ≤ 1048577) :
    Calls Tryz.prog 51 #[.slice (some ⟨ge, 0, none⟩) E.length E.length] w (RetJT w (posF (gB E) E.length)) := impl_marked (gB E) E.length _ w (h.boolsR (by omega)) hn
set_option maxHeartbeats 4000000 in
theorem impl_ReachableIn (s : StoreD) (roots : List Int) (ss : List Value) (rv : Value) (w : World) (h : StoreR w ss s) (hr : Ints w rv roots) (hz : szStore s ≤ 1048576) :
    Calls Tryz.prog 14 #[.agg ss.toArray, rv] w (RetReach s roots w) := by
  have HS := Lib.hid h
  have HR := Lib.hid hr
  have HZ := Lib.hid hz
  have hzE : s.envs.length ≤ 1048576 := by unfold szStore at hz; have := szS_length szEnv s.envs; omega
  have hzP : s.promises.length ≤ 1048576 := by unfold szStore at hz; have := szS_length szPromise s.promises; omega
  clear hz
  obtain ⟨E0, e0, E1, e1, rfl, l0, l1, _⟩ := h.open_
  obtain ⟨RA, rc, rfl, _⟩ := Ints.open_ hr
  clear h hr
  obtain ⟨G, g0, HG, BX⟩ := good1 w 33 [.slice E0 s.envs.length e0, .slice E1 s.promises.length e1]
  obtain ⟨x0, x1⟩ := pk_f2 BX
  go_enter Tryz.func14, Tryz.ntmps14
  go_upto_region 1 with fail
  refine gen_w g0 ?_
  clear g0
  intro W1 g1
  generalize (Value.agg #[.slice E0 s.envs.length e0, .slice E1 s.promises.length e1]) = V0
  go_wp2_with fail
  refine Calls.mono (impl_rootsRight s roots _ _ _ (HS.out.below (HG.out.below g1)) (HR.out.below (HG.out.below g1)) (by have := HZ.out; omega)) ?_
  rintro e w2 ⟨rfl, hb⟩
  have g2 := HG.out.step g1 hb
  clear hb g1
  cases hro : rootsOk s roots
  · have HRP := Lib.hid (show ReachP s roots [] [] false from ⟨hro.symm, fun h => (by cases h), fun _ => ⟨rfl, rfl⟩⟩)
    clear hro
    go_wp2_with fail
    refine bodyPost_ret (v := .tuple #[.slice none 0 0, .slice none 0 0, .bool false]) (by simp [results, Tryz.results14, go_sem]) rfl ?_
    exact reach_join (w1 := w2) (m0 := w2.heap.size) (m1 := w2.heap.size) HRP.out (IntO.nilL _ _) (IntO.nilL _ _) (HG.out.below g2) (Below.refl _ _) (HG.out.below g2).size (Nat.le_refl _)
  · have hok : storeOk s = true := by unfold rootsOk at hro; rw [Bool.and_eq_true] at hro; exact hro.1
    have hall : ∀ e ∈ roots, 0 ≤ e ∧ e < s.envs.length := fun e he => by unfold rootsOk at hro; rw [Bool.and_eq_true, List.all_eq_true] at hro; exact envU_in (hro.2 e he)
    have HOK := Lib.hid hok
    have HALL := Lib.hid hall
    have HRO := Lib.hid hro
    clear hok hall hro
    go_wp2_with fail
    refine Calls.mono (impl_reached s roots _ _ w2 w.heap.size (HS.out.below (HG.out.below g2)) (BX.out _ g2) (HR.out.below (HG.out.below g2)) HOK.out HALL.out (by have := HZ.out; omega)) ?_
    rintro e w3 ⟨rb, ge, gp, lo, st, A, c, rfl, hq, hs, hmk⟩
    have HB3 := Lib.hid ((HG.out.below g2).trans (hs.rd.mono (HG.out.below g2).size))
    have HSS := Lib.hid hs
    have HRP := Lib.hid (show ReachP s roots (posF (gB st.E) s.envs.length) (posF (gB st.P) s.promises.length) true from ⟨HRO.out.symm, fun _ => ⟨st.E, st.P, hmk, by rw [hmk.lenE], by rw [hmk.lenP]⟩, fun h => (by cases h)⟩)
    have hc1 := fun W h => impl_marked_b st.E ge W h (by rw [hmk.lenE]; omega)
    have hc2 := fun W h => impl_marked_b st.P gp W h (by rw [hmk.lenP]; omega)
    rw [hmk.lenE] at hc1
    rw [hmk.lenP] at hc2
    have HC1 := Lib.hid hc1
    have HC2 := Lib.hid hc2
    have RST := Lib.hid (fun W (h : Ok (RS w2 w.heap.size rb ge gp lo s.envs.length s.promises.length st A c) W) => show RS w2 w.heap.size rb ge gp lo s.envs.length s.promises.length st A c W from h)
    have r1 := fun W (h : Ok (RS w2 w.heap.size rb ge gp lo s.envs.length s.promises.length st A c) W) => (RST.out W h).bR.cell 1 _ rfl
    have r2 := fun W (h : Ok (RS w2 w.heap.size rb ge gp lo s.envs.length s.promises.length st A c) W) => (RST.out W h).bR.cell 2 _ rfl
    have gT : Ok (RS w2 w.heap.size rb ge gp lo s.envs.length s.promises.length st A c) w3.drew := hs.step (Below.drew (Below.refl _ _))
    have hsz2 := (HG.out.below g2).size
    clear hs hmk hc1 hc2 hq x0 x1 g2
    go_wp2_with fail
    refine wp_region_plan (S := Ok (RS w2 w.heap.size rb ge gp lo s.envs.length s.promises.length st A c)) (by kernel_rfl) [(true, 0), (true, 1), (true, 2), (true, 3), (true, 5), (true, 6), (true, 7), (true, 8), (false, 4), (false, 9), (true, 10), (true, 11), (true, 12)] (by kernel_rfl) gT ?_
    repeat ((first | (refine dyn_take rfl rfl (fun W g => by go_simp; rfl) ?_) | (refine dyn_skip rfl rfl ?_)); go_simp)
    refine dyn_act rfl rfl (fun K hK => ?_)
    go_wp2_with fail
    refine Calls.mono (HC1.out _ (RST.out _ gT).bE) ?_
    intro e w4 hr4
    obtain ⟨A0, c0, rfl, ho0, hb4⟩ := hr4.own (by omega)
    have HO0 := Lib.hid ho0
    have gT4 : Ok (RS w2 w.heap.size rb ge gp lo s.envs.length s.promises.length st A c) w4 := (RST.out _ gT).step hb4
    have HB4 := Lib.hid (show Below w.heap.size w w4 from (Below.drew HB3.out).trans (hb4.mono HB3.out.size))
    clear hr4 ho0
    simp only []
    refine hK.out _ _ gT4 ?_
    clear hK
    repeat ((first | (refine dyn_take rfl rfl (fun W g => by go_simp; rfl) ?_) | (refine dyn_skip rfl rfl ?_)); go_simp)
    refine dyn_act rfl rfl (fun K hK => ?_)
    go_wp2_with fail
    refine Calls.mono (HC2.out _ (RST.out _ gT4).bP) ?_
    intro e w5 hr5
    obtain ⟨A1, c1, rfl, ho1, hb5⟩ := hr5.own (by omega)
    have HO1 := Lib.hid ho1
    have HB5 := Lib.hid hb5
    have gT5 : Ok (RS w2 w.heap.size rb ge gp lo s.envs.length s.promises.length st A c) w5 := (RST.out _ gT4).step hb5
    have HM0 := Lib.hid (show w.heap.size ≤ w3.drew.heap.size from HB3.out.size)
    clear hr5 ho1
    simp only []
    refine hK.out _ _ gT5 ?_
    clear hK
    repeat ((first | (refine dyn_take rfl rfl (fun W g => by go_simp; rfl) ?_) | (refine dyn_skip rfl rfl ?_)); go_simp)
    refine dyn_done ?_
    go_wp2_with fail
    refine bodyPost_ret (v := .tuple #[.slice A0 (posF (gB st.E) s.envs.length).length c0, .slice A1 (posF (gB st.P) s.promises.length).length c1, .bool true]) (by simp [results, Tryz.results14, go_sem]) rfl ?_
    exact reach_join HRP.out HO0.out HO1.out HB4.out HB5.out HM0.out (Nat.le_refl _)
end Go.Proofs.YtejieacdfjpfnaaGreat
