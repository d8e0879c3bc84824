/-
  The law FnCollects: collecting keeps what can be reached, clears the rest, and has nothing to do the second time.
  Conditions: none (the code's length bounds what is drawn).
-/
import Derived.Test.YtejieacdfjpfnaaGreatRows
import Derived.Test.YtejieacdfjpfnaaGreatJoin
import Derived.Test.YtejieacdfjpfnaaGreatDrawPlace
import Derived.Test.YtejieacdfjpfnaaGreatKCol
namespace Go.Proofs.YtejieacdfjpfnaaGreat
set_option maxRecDepth 100000
open Go.ChangeShapes Go.WideShapes Go.ChangeAt Go.RowKit Go.Deep
set_option linter.unusedVariables false
namespace fnCollects

/-- a store in a box -/
structure SB (b : Nat) (cs : List Value) (d : StoreD) (W : World) : Prop where
  bx : Blk W b 33 cs
  rd : StoreR W cs d
theorem SB.step {b : Nat} {cs : List Value} {d : StoreD} {W W' : World} (h : SB b cs d W) (hb : Below W.heap.size W W') : SB b cs d W' := ⟨h.bx.below hb, h.rd.below hb⟩
theorem SB.make {cs : List Value} {d : StoreD} {W : World} (h : StoreR W cs d) : SB W.heap.size cs d (W.alloc (.cells cs.toArray 33)) :=
  ⟨Blk.new W _ cs, h.below ((Below.refl _ _).alloc (Nat.le_refl _) _)⟩
theorem Ints.step {w w' : World} {v : Value} {l : List Int} (h : Ints w v l) (hb : Below w.heap.size w w') : Ints w' v l := SlR.below h hb (fun _ _ h => h)
theorem col_true {s : StoreD} {roots : List Int} {w w' : World} {e : Ending} (h : RetCol s roots w e w') (hok : rootsOk s roots = true) :
    ∃ (E P : List Bool) (A0 : Option Addr) (a0 : Nat) (A1 : Option Addr) (a1 : Nat), Marked s roots E P ∧ e = .returned (.tuple #[.agg #[.slice A0 s.envs.length a0, .slice A1 s.promises.length a1], .bool true]) ∧ StoreR w' [.slice A0 s.envs.length a0, .slice A1 s.promises.length a1] (colS s E P) ∧ Below w.heap.size w w' := by
  obtain ⟨⟨t, ok⟩, cs, ⟨h1, h2, h3⟩, rfl, ho, hb⟩ := h
  dsimp only at h1 h2 h3 ho
  rw [hok] at h1
  subst h1
  obtain ⟨E, P, hM, rfl⟩ := h2 rfl
  obtain ⟨A0, a0, A1, a1, rfl⟩ := colS_shape ho
  exact ⟨E, P, A0, a0, A1, a1, hM, rfl, ho.read, hb⟩
theorem col_false {s : StoreD} {roots : List Int} {w w' : World} {e : Ending} (h : RetCol s roots w e w') (hok : rootsOk s roots = false) :
    ∃ (A0 : Option Addr) (n0 a0 : Nat) (A1 : Option Addr) (n1 a1 : Nat), e = .returned (.tuple #[.agg #[.slice A0 n0 a0, .slice A1 n1 a1], .bool false]) ∧ Below w.heap.size w w' := by
  obtain ⟨⟨t, ok⟩, cs, ⟨h1, h2, h3⟩, rfl, ho, hb⟩ := h
  dsimp only at h1 h2 h3 ho
  rw [hok] at h1
  subst h1
  obtain ⟨A0, a0, A1, a1, rfl⟩ := ho.shape2
  exact ⟨_, _, _, _, _, _, rfl, hb⟩
theorem reach_true {s : StoreD} {roots : List Int} {w w' : World} {e : Ending} (h : RetReach s roots w e w') (hok : rootsOk s roots = true) :
    ∃ (E P : List Bool) (A0 : Option Addr) (c0 : Nat) (A1 : Option Addr) (c1 : Nat) (l0 l1 : List Int), Marked s roots E P ∧ e = .returned (.tuple #[.slice A0 l0.length c0, .slice A1 l1.length c1, .bool true]) ∧ Ints w' (.slice A0 l0.length c0) l0 ∧ Ints w' (.slice A1 l1.length c1) l1 ∧ l0 = posF (gB E) E.length ∧ l1 = posF (gB P) P.length ∧ Below w.heap.size w w' := by
  obtain ⟨A0, c0, A1, c1, l0, l1, b, f, rfl, ⟨h1, h2, h3⟩, i0, i1, hb⟩ := h
  rw [hok] at h1
  subst h1
  obtain ⟨E, P, hM, e0, e1⟩ := h2 rfl
  exact ⟨E, P, A0, c0, A1, c1, l0, l1, hM, rfl, i0.read, i1.read, e0, e1, hb⟩
theorem reach_false {s : StoreD} {roots : List Int} {w w' : World} {e : Ending} (h : RetReach s roots w e w') (hok : rootsOk s roots = false) :
    ∃ (v0 v1 : Value), e = .returned (.tuple #[v0, v1, .bool false]) ∧ Below w.heap.size w w' := by
  obtain ⟨A0, c0, A1, c1, l0, l1, b, f, rfl, ⟨h1, h2, h3⟩, i0, i1, hb⟩ := h
  rw [hok] at h1
  subst h1
  exact ⟨_, _, rfl, hb⟩
/-- all that the law's loops look at -/
structure CF (w0 : World) (b3 b5 b7 : Nat) (cs tcs ucs : List Value) (s t : StoreD) (rv : Value) (roots : List Int) (v9 v10 : Value) (l0 l1 : List Int) (W : World) : Prop where
  h3 : SB b3 cs s W
  h5 : SB b5 tcs t W
  h7 : SB b7 ucs t W
  r : Ints W rv roots
  i0 : Ints W v9 l0
  i1 : Ints W v10 l1
  bl : Below w0.heap.size w0 W
theorem CF.step {w0 : World} {b3 b5 b7 : Nat} {cs tcs ucs : List Value} {s t : StoreD} {rv : Value} {roots : List Int} {v9 v10 : Value} {l0 l1 : List Int} {W W' : World} (h : CF w0 b3 b5 b7 cs tcs ucs s t rv roots v9 v10 l0 l1 W) (hb : Below W.heap.size W W') : CF w0 b3 b5 b7 cs tcs ucs s t rv roots v9 v10 l0 l1 W' :=
  ⟨h.h3.step hb, h.h5.step hb, h.h7.step hb, Ints.step h.r hb, Ints.step h.i0 hb, Ints.step h.i1 hb, h.bl.trans (hb.mono h.bl.size)⟩
theorem roots_env {s : StoreD} {roots : List Int} (h : rootsOk s roots = true) : storeOk s = true ∧ ∀ e ∈ roots, envU s e = true := by
  unfold rootsOk at h
  simp only [Bool.and_eq_true, List.all_eq_true] at h
  exact h
theorem rootsOk_col {s : StoreD} {roots : List Int} {E P : List Bool} (h : rootsOk s roots = true) (hM : Marked s roots E P) : rootsOk (colS s E P) roots = true := by
  obtain ⟨h1, h2⟩ := roots_env h
  unfold rootsOk
  simp only [Bool.and_eq_true, List.all_eq_true]
  exact ⟨col_ok h1 h2 hM, fun e he => col_envU (h2 e he) (hM.root e he)⟩

theorem env_at {W : World} {A : Option Addr} {n a : Nat} {v1 : Value} {d : StoreD} (h : StoreR W [.slice A n a, v1] d) (k : Nat) (hk : k < d.envs.length) : ∃ b off, A = some ⟨b, off, none⟩ ∧ W.cell? ⟨b, off + k * 4, none⟩ = some (.bool d.envs[k].used) := by
  obtain ⟨v0, v1', he, h0, h1⟩ := h
  simp only [List.cons.injEq, and_true] at he
  obtain ⟨rfl, rfl⟩ := he
  obtain ⟨A', c, hv, _, _, HC⟩ := SlR.open_ h0
  injection hv with e1
  subst e1
  obtain ⟨b, off, cs, rfl, _, _, hat, v2, v3, rfl, _⟩ := HC.out k hk
  exact ⟨b, off, rfl, hat 0 _ rfl⟩
theorem prom_at' {W : World} {A : Option Addr} {n a : Nat} {v0 : Value} {d : StoreD} (h : StoreR W [v0, .slice A n a] d) (k : Nat) (hk : k < d.promises.length) : ∃ b off, A = some ⟨b, off, none⟩ ∧ W.cell? ⟨b, off + k * 12, none⟩ = some (.bool d.promises[k].used) := by
  obtain ⟨v0', v1', he, h0, h1⟩ := h
  simp only [List.cons.injEq, and_true] at he
  obtain ⟨rfl, rfl⟩ := he
  obtain ⟨A', c, hv, _, _, HC⟩ := SlR.open_ h1
  injection hv with e1
  subst e1
  obtain ⟨b, off, cs, rfl, _, _, hat, v41, v42, v43, v44, v45, rfl, _⟩ := HC.out k hk
  exact ⟨b, off, rfl, hat 0 _ rfl⟩
theorem int_at {W : World} {A : Option Addr} {n a : Nat} {l : List Int} (h : Ints W (.slice A n a) l) (k : Nat) (hk : k < l.length) : ∃ b off, A = some ⟨b, off, none⟩ ∧ W.cell? ⟨b, off + k, none⟩ = some (.int .i64 l[k]) := by
  obtain ⟨A', c, hv, _, _, HC⟩ := h.open_
  injection hv with e1
  subst e1
  obtain ⟨b, off, rfl, _, hcell, _⟩ := HC.out k hk
  exact ⟨b, off, rfl, hcell⟩
structure VB (b : Nat) (cs : List Value) (d : VecD) (W : World) : Prop where
  bx : Blk W b 45 cs
  rd : VecR W cs d
theorem VB.step {b : Nat} {cs : List Value} {d : VecD} {W W' : World} (h : VB b cs d W) (hb : Below W.heap.size W W') : VB b cs d W' := ⟨h.bx.below hb, h.rd.below hb⟩
theorem VB.make {cs : List Value} {d : VecD} {W : World} (h : VecR W cs d) : VB W.heap.size cs d (W.alloc (.cells cs.toArray 45)) :=
  ⟨Blk.new W _ cs, h.below ((Below.refl _ _).alloc (Nat.le_refl _) _)⟩
theorem env_zero {s : StoreD} {roots : List Int} {E P : List Bool} (h : rootsOk s roots = true) (hM : Marked s roots E P) : envU s 0 = true ∧ gB E (0 : Int).toNat = true := by
  obtain ⟨h1, h2⟩ := roots_env h
  have := rn_used h1 h2 (hM.snd 0 hM.zero)
  exact ⟨by simpa using this, hM.zero⟩
set_option maxHeartbeats 16000000 in
theorem walk (v : Value) (l : List Nat) {w : World} (h : Bytes w v l) :
    Calls Tryz.prog 9 #[v] w fun e w' => e = .returned (.bool true) ∧ Below w.heap.size w w' := by
  have HH := Lib.hid h
  clear h
  by_cases hl : l.length ≤ 1048576
  rotate_left
  · go_enter Tryz.func9, Tryz.ntmps9
    go_wp2_with fail
    refine (laws_big v l _ HH.out).mono ?_
    rw [show decide (1048576 < l.length) = true by simp; omega]
    rintro e w1 ⟨rfl, rfl⟩
    go_wp2_with fail
    go_ret
    exact ⟨rfl, Below.refl _ _⟩
  go_enter Tryz.func9, Tryz.ntmps9
  go_wp2_with fail
  refine (laws_big v l _ HH.out).mono ?_
  rw [show decide (1048576 < l.length) = false by simp; omega]
  rintro e w1 ⟨rfl, rfl⟩
  go_wp2_with fail
  refine Calls.mono (spec_DrawCollectStore v l _ HH.out hl) ?_
  rintro e w1 ⟨sc, s, rv, roots, rfl, hR, hsz, hr, hrl, hb⟩
  obtain ⟨E0, e0, E1, e1, rfl, hle, hlp, _, _⟩ := hR.open_
  have HZ := Lib.hid hsz
  have H3 := Lib.hid (SB.make hR)
  have HRV := Lib.hid (Ints.step hr ((Below.refl _ _).alloc (Nat.le_refl _) (.cells [.slice E0 s.envs.length e0, .slice E1 s.promises.length e1].toArray 33)))
  have HBL := Lib.hid (hb.alloc hb.size (.cells [.slice E0 s.envs.length e0, .slice E1 s.promises.length e1].toArray 33))
  obtain ⟨RA, rc, rfl, hrc, hrm, _⟩ := hr.open_
  unfold maxLen at hrm
  clear hR hsz hr hb
  go_upto_region 4 with fail
  generalize hb3 : w1.heap.size = b3 at H3 ⊢
  clear hb3
  refine gen_w (G := fun W => SB b3 [.slice E0 s.envs.length e0, .slice E1 s.promises.length e1] s W ∧ Ints W (.slice RA roots.length rc) roots ∧ Below w.heap.size w W) (show Ok _ _ from ⟨H3.out, HRV.out, HBL.out⟩) ?_
  rintro w2 ⟨h3, hr, hbl⟩
  have H3' := Lib.hid h3
  have HR' := Lib.hid hr
  have HB' := Lib.hid hbl
  clear H3 HRV HBL h3 hr hbl
  generalize Value.tuple #[.agg #[.slice E0 s.envs.length e0, .slice E1 s.promises.length e1], .slice RA roots.length rc] = V27
  generalize Value.agg #[.slice E0 s.envs.length e0, .slice E1 s.promises.length e1] = V30
  have y0 := H3'.out.bx.cell 0 _ rfl
  have y1 := H3'.out.bx.cell 1 _ rfl
  by_cases hok : rootsOk s roots = true
  rotate_left
  · have hok' : rootsOk s roots = false := by simpa using hok
    have HOK := Lib.hid hok'
    clear hok hok'
    go_wp2_with fail
    refine Calls.mono (impl_CollectStore s roots _ _ _ H3'.out.rd HR'.out (by have := HZ.out; omega)) ?_
    intro e w3 hret
    obtain ⟨T0, n0, t0, T1, n1, t1, rfl, hb⟩ := col_false hret HOK.out
    have hbx := (Below.refl w3.heap.size w3).alloc (Nat.le_refl _) (.cells #[.slice T0 n0 t0, .slice T1 n1 t1] 33)
    have H4 := Lib.hid ((H3'.out.step hb).step hbx)
    have HR4 := Lib.hid (Ints.step (Ints.step HR'.out hb) hbx)
    have HB4 := Lib.hid (HB'.out.trans ((hb.trans (hbx.mono hb.size)).mono HB'.out.size))
    clear hret hb hbx y0 y1
    go_upto_region 5 with fail
    refine gen_w (G := fun W => SB b3 [.slice E0 s.envs.length e0, .slice E1 s.promises.length e1] s W ∧ Ints W (.slice RA roots.length rc) roots ∧ Below w.heap.size w W) (show Ok _ _ from ⟨H4.out, HR4.out, HB4.out⟩) ?_
    rintro w4 ⟨h3, hr, hbl⟩
    have H5 := Lib.hid h3
    have HR5 := Lib.hid hr
    have HB5 := Lib.hid hbl
    clear H4 HR4 HB4 h3 hr hbl
    have y0 := H5.out.bx.cell 0 _ rfl
    have y1 := H5.out.bx.cell 1 _ rfl
    go_wp2_with fail
    refine Calls.mono (spec_CollectStore s roots _ _ _ H5.out.rd HR5.out (by have := HZ.out; omega)) ?_
    intro e w5 hret
    obtain ⟨U0, q0, u0, U1, q1, u1, rfl, hb⟩ := col_false hret HOK.out
    have hbx := (Below.refl w5.heap.size w5).alloc (Nat.le_refl _) (.cells #[.slice U0 q0 u0, .slice U1 q1 u1] 33)
    have H6 := Lib.hid ((H5.out.step hb).step hbx)
    have HR6 := Lib.hid (Ints.step (Ints.step HR5.out hb) hbx)
    have HB6 := Lib.hid (HB5.out.trans ((hb.trans (hbx.mono hb.size)).mono HB5.out.size))
    clear hret hb hbx y0 y1
    go_upto_region 6 with fail
    refine gen_w (G := fun W => SB b3 [.slice E0 s.envs.length e0, .slice E1 s.promises.length e1] s W ∧ Ints W (.slice RA roots.length rc) roots ∧ Below w.heap.size w W) (show Ok _ _ from ⟨H6.out, HR6.out, HB6.out⟩) ?_
    rintro w6 ⟨h3, hr, hbl⟩
    have H7 := Lib.hid h3
    have HR7 := Lib.hid hr
    have HB7 := Lib.hid hbl
    clear H6 HR6 HB6 h3 hr hbl
    have y0 := H7.out.bx.cell 0 _ rfl
    have y1 := H7.out.bx.cell 1 _ rfl
    go_wp2_with fail
    refine Calls.mono (impl_ReachableIn s roots _ _ _ H7.out.rd HR7.out (by have := HZ.out; omega)) ?_
    intro e w7 hret
    obtain ⟨z0, z1, rfl, hb⟩ := reach_false hret HOK.out
    have HB8 := Lib.hid (HB7.out.trans (hb.mono HB7.out.size))
    clear hret hb
    go_wp2_with fail
    go_ret
    exact ⟨rfl, HB8.out⟩
  have HOK := Lib.hid hok
  clear hok
  go_wp2_with fail
  refine Calls.mono (impl_CollectStore s roots _ _ _ H3'.out.rd HR'.out (by have := HZ.out; omega)) ?_
  intro e w3 hret
  obtain ⟨E, P, F0, f0, F1, f1, hM, rfl, ht, hb⟩ := col_true hret HOK.out
  have hbx := (Below.refl w3.heap.size w3).alloc (Nat.le_refl _) (.cells #[.slice F0 s.envs.length f0, .slice F1 s.promises.length f1] 33)
  have H4 := Lib.hid ((H3'.out.step hb).step hbx)
  have HT4 := Lib.hid (SB.make ht)
  have HR4 := Lib.hid (Ints.step (Ints.step HR'.out hb) hbx)
  have HB4 := Lib.hid (HB'.out.trans ((hb.trans (hbx.mono hb.size)).mono HB'.out.size))
  have HM := Lib.hid hM
  clear hret hb hbx y0 y1 hM ht
  go_upto_region 5 with fail
  generalize hb5 : w3.heap.size = b5 at HT4 ⊢
  clear hb5
  refine gen_w (G := fun W => SB b3 [.slice E0 s.envs.length e0, .slice E1 s.promises.length e1] s W ∧ SB b5 [.slice F0 s.envs.length f0, .slice F1 s.promises.length f1] (colS s E P) W ∧ Ints W (.slice RA roots.length rc) roots ∧ Below w.heap.size w W) (show Ok _ _ from ⟨H4.out, HT4.out, HR4.out, HB4.out⟩) ?_
  rintro w4 ⟨h3, h5, hr, hbl⟩
  have H5 := Lib.hid h3
  have HT5 := Lib.hid h5
  have HR5 := Lib.hid hr
  have HB5 := Lib.hid hbl
  clear H4 HT4 HR4 HB4 h3 h5 hr hbl H3' HR' HB'
  generalize Value.tuple #[.agg #[.slice F0 s.envs.length f0, .slice F1 s.promises.length f1], .bool true] = V32
  generalize Value.agg #[.slice F0 s.envs.length f0, .slice F1 s.promises.length f1] = V36
  have y0 := H5.out.bx.cell 0 _ rfl
  have y1 := H5.out.bx.cell 1 _ rfl
  go_wp2_with fail
  refine Calls.mono (spec_CollectStore s roots _ _ _ H5.out.rd HR5.out (by have := HZ.out; omega)) ?_
  intro e w5 hret
  obtain ⟨E', P', G0, g0, G1, g1, hM, rfl, hu, hb⟩ := col_true hret HOK.out
  obtain ⟨rfl, rfl⟩ := HM.out.unique hM
  have hbx := (Below.refl w5.heap.size w5).alloc (Nat.le_refl _) (.cells #[.slice G0 s.envs.length g0, .slice G1 s.promises.length g1] 33)
  have H6 := Lib.hid ((H5.out.step hb).step hbx)
  have HT6 := Lib.hid ((HT5.out.step hb).step hbx)
  have HU6 := Lib.hid (SB.make hu)
  have HR6 := Lib.hid (Ints.step (Ints.step HR5.out hb) hbx)
  have HB6 := Lib.hid (HB5.out.trans ((hb.trans (hbx.mono hb.size)).mono HB5.out.size))
  clear hret hb hbx y0 y1 hM hu
  go_upto_region 6 with fail
  generalize hb7 : w5.heap.size = b7 at HU6 ⊢
  clear hb7
  refine gen_w (G := fun W => SB b3 [.slice E0 s.envs.length e0, .slice E1 s.promises.length e1] s W ∧ SB b5 [.slice F0 s.envs.length f0, .slice F1 s.promises.length f1] (colS s E P) W ∧ SB b7 [.slice G0 s.envs.length g0, .slice G1 s.promises.length g1] (colS s E P) W ∧ Ints W (.slice RA roots.length rc) roots ∧ Below w.heap.size w W) (show Ok _ _ from ⟨H6.out, HT6.out, HU6.out, HR6.out, HB6.out⟩) ?_
  rintro w6 ⟨h3, h5, h7, hr, hbl⟩
  have H7 := Lib.hid h3
  have HT7 := Lib.hid h5
  have HU7 := Lib.hid h7
  have HR7 := Lib.hid hr
  have HB7 := Lib.hid hbl
  clear H6 HT6 HU6 HR6 HB6 h3 h5 h7 hr hbl H5 HT5 HR5 HB5
  generalize Value.tuple #[.agg #[.slice G0 s.envs.length g0, .slice G1 s.promises.length g1], .bool true] = V38
  generalize Value.agg #[.slice G0 s.envs.length g0, .slice G1 s.promises.length g1] = V42
  have y0 := H7.out.bx.cell 0 _ rfl
  have y1 := H7.out.bx.cell 1 _ rfl
  go_wp2_with fail
  refine Calls.mono (impl_ReachableIn s roots _ _ _ H7.out.rd HR7.out (by have := HZ.out; omega)) ?_
  intro e w7 hret
  obtain ⟨E', P', L0, m0, L1, m1, l0, l1, hM, rfl, hi0, hi1, hl0, hl1, hb⟩ := reach_true hret HOK.out
  obtain ⟨rfl, rfl⟩ := HM.out.unique hM
  have HC := Lib.hid (show CF w b3 b5 b7 [.slice E0 s.envs.length e0, .slice E1 s.promises.length e1] [.slice F0 s.envs.length f0, .slice F1 s.promises.length f1] [.slice G0 s.envs.length g0, .slice G1 s.promises.length g1] s (colS s E P) (.slice RA roots.length rc) roots (.slice L0 l0.length m0) (.slice L1 l1.length m1) l0 l1 w7 from
    ⟨H7.out.step hb, HT7.out.step hb, HU7.out.step hb, Ints.step HR7.out hb, hi0, hi1, HB7.out.trans (hb.mono HB7.out.size)⟩)
  have HL0 := Lib.hid hl0
  have HL1 := Lib.hid hl1
  have HOKS := Lib.hid (roots_env HOK.out)
  have HCO := Lib.hid (col_ok HOKS.out.1 HOKS.out.2 HM.out)
  have HZC := Lib.hid (show szStore (colS s E P) ≤ 60000 from Nat.le_trans sz_col HZ.out)
  clear hret hM hi0 hi1 hl0 hl1 hb H7 HT7 HU7 HR7 HB7 y0 y1
  have t0 := HC.out.h7.bx.cell 0 _ rfl
  have t1 := HC.out.h7.bx.cell 1 _ rfl
  go_wp2_with fail
  refine Calls.mono (impl_IsStore (colS s E P) _ _ HC.out.h7.rd (by have := HZC.out; omega)) ?_
  rw [HCO.out]
  rintro e w8 ⟨rfl, hb⟩
  have HC8 := Lib.hid (HC.out.step hb)
  clear hb t0 t1 HC
  have t0 := HC8.out.h5.bx.cell 0 _ rfl
  have t1 := HC8.out.h5.bx.cell 1 _ rfl
  go_wp2_with fail
  refine Calls.mono (spec_IsStore (colS s E P) _ _ HC8.out.h5.rd (by have := HZC.out; omega)) ?_
  rw [HCO.out]
  rintro e w9 ⟨rfl, hb⟩
  have HC9 := Lib.hid (HC8.out.step hb)
  clear hb t0 t1 HC8
  have t0 := HC9.out.h5.bx.cell 0 _ rfl
  have t1 := HC9.out.h5.bx.cell 1 _ rfl
  have y0 := HC9.out.h3.bx.cell 0 _ rfl
  have y1 := HC9.out.h3.bx.cell 1 _ rfl
  go_wp2_with fail
  clear t0 t1 y0 y1
  have hcE : (colS s E P).envs.length = s.envs.length := col_lenE
  have hcP : (colS s E P).promises.length = s.promises.length := col_lenP
  have HCE := Lib.hid hcE
  have HCP := Lib.hid hcP
  clear hcE hcP
  go_loopw [12] (fun i wr => ∃ k : Nat, k ≤ s.envs.length ∧ i = .int .i64 k ∧ Hid (CF w b3 b5 b7 [.slice E0 s.envs.length e0, .slice E1 s.promises.length e1] [.slice F0 s.envs.length f0, .slice F1 s.promises.length f1] [.slice G0 s.envs.length g0, .slice G1 s.promises.length g1] s (colS s E P) (.slice RA roots.length rc) roots (.slice L0 l0.length m0) (.slice L1 l1.length m1) l0 l1 wr)) (fun i _ => s.envs.length - (intOf i).toNat)
  case atStart => exact ⟨0, Nat.zero_le _, rfl, HC9.out⟩
  case round =>
    obtain ⟨k, hk, rfl, HC⟩ := hrel
    have y0 := HC.out.h3.bx.cell 0 _ rfl
    have y1 := HC.out.h3.bx.cell 1 _ rfl
    by_cases hlt : k < s.envs.length
    · have t0 := HC.out.h5.bx.cell 0 _ rfl
      obtain ⟨b, off, rfl, hcell⟩ := env_at HC.out.h5.rd k (by rw [HCE.out]; exact hlt)
      rw [col_usedE HOKS.out.1 HOKS.out.2 HM.out k (by rw [HCE.out]; exact hlt)] at hcell
      obtain ⟨ub, hub⟩ : ∃ ub, ub = gB E k := ⟨_, rfl⟩
      rw [← hub] at hcell
      have HUB := Lib.hid (show decide ((k : Int) ∈ l0) = ub by rw [HL0.out, hub]; exact mem_posF_gB E k)
      clear hub
      go_wp2_with fail
      refine wp_region_plan (S := fun W => W = wr.drew) (by kernel_rfl) [(true, 0), (true, 1), (true, 2), (true, 3), (true, 4), (true, 5), (true, 6), (true, 7), (false, 8), (true, 9)] (by kernel_rfl) rfl ?_
      repeat ((refine dyn_take rfl rfl (fun W g => by subst g; go_simp; rfl) ?_); go_simp)
      refine dyn_act rfl rfl (fun K hK => ?_)
      go_wp2_with fail
      refine (laws_hasB l0 k _ _ (Ints.step HC.out.i0 (Below.drew (Below.refl _ _)))).mono ?_
      rintro e w10 ⟨rfl, rfl⟩
      rw [HUB.out]
      simp only []
      refine hK.out _ _ rfl ?_
      clear hK
      repeat ((refine dyn_take rfl rfl (fun W g => by subst g; go_simp; rfl) ?_); go_simp)
      refine dyn_done ?_
      cases ub
      all_goals
        go_wp2_with fail
        go_roundw
        case rel => exact ⟨k + 1, by omega, by go_num, HC.out.step (Below.drew (Below.refl _ _))⟩
        case measure => simp [intOf]; omega
    obtain rfl : k = s.envs.length := by omega
    have HC2 := Lib.hid HC.out
    obtain ⟨wo, hwo⟩ : ∃ wo, wo = wr := ⟨_, rfl⟩
    rw [← hwo] at HC2 y0 y1 ⊢
    clear hwo HC HC9
    go_wp2_with fail
    go_loopw [13] (fun i wr => ∃ k : Nat, k ≤ s.promises.length ∧ i = .int .i64 k ∧ Hid (CF w b3 b5 b7 [.slice E0 s.envs.length e0, .slice E1 s.promises.length e1] [.slice F0 s.envs.length f0, .slice F1 s.promises.length f1] [.slice G0 s.envs.length g0, .slice G1 s.promises.length g1] s (colS s E P) (.slice RA roots.length rc) roots (.slice L0 l0.length m0) (.slice L1 l1.length m1) l0 l1 wr)) (fun i _ => s.promises.length - (intOf i).toNat)
    case atStart => exact ⟨0, Nat.zero_le _, rfl, HC2.out⟩
    case round =>
      obtain ⟨k, hk, rfl, HC⟩ := hrel
      clear y0 y1
      have y0 := HC.out.h3.bx.cell 0 _ rfl
      have y1 := HC.out.h3.bx.cell 1 _ rfl
      by_cases hlt : k < s.promises.length
      · have t1 := HC.out.h5.bx.cell 1 _ rfl
        obtain ⟨b, off, rfl, hcell⟩ := prom_at' HC.out.h5.rd k (by rw [HCP.out]; exact hlt)
        rw [col_usedP HOKS.out.1 HOKS.out.2 HM.out k (by rw [HCP.out]; exact hlt)] at hcell
        obtain ⟨ub, hub⟩ : ∃ ub, ub = gB P k := ⟨_, rfl⟩
        rw [← hub] at hcell
        have HUB := Lib.hid (show decide ((k : Int) ∈ l1) = ub by rw [HL1.out, hub]; exact mem_posF_gB P k)
        clear hub
        go_wp2_with fail
        refine wp_region_plan (S := fun W => W = wr.drew) (by kernel_rfl) [(true, 0), (true, 1), (true, 2), (true, 3), (true, 4), (true, 5), (true, 6), (true, 7), (false, 8), (true, 9)] (by kernel_rfl) rfl ?_
        repeat ((refine dyn_take rfl rfl (fun W g => by subst g; go_simp; rfl) ?_); go_simp)
        refine dyn_act rfl rfl (fun K hK => ?_)
        go_wp2_with fail
        refine (laws_hasB l1 k _ _ (Ints.step HC.out.i1 (Below.drew (Below.refl _ _)))).mono ?_
        rintro e w10 ⟨rfl, rfl⟩
        rw [HUB.out]
        simp only []
        refine hK.out _ _ rfl ?_
        clear hK
        repeat ((refine dyn_take rfl rfl (fun W g => by subst g; go_simp; rfl) ?_); go_simp)
        refine dyn_done ?_
        cases ub
        all_goals
          go_wp2_with fail
          go_roundw
          case rel => exact ⟨k + 1, by omega, by go_num, HC.out.step (Below.drew (Below.refl _ _))⟩
          case measure => simp [intOf]; omega
      obtain rfl : k = s.promises.length := by omega
      have HC3 := Lib.hid HC.out
      obtain ⟨wp, hwp⟩ : ∃ wp, wp = wr := ⟨_, rfl⟩
      rw [← hwp] at HC3 y0 y1 ⊢
      clear hwp HC HC2
      go_wp2_with fail
      clear y0 y1
      go_loopw [14] (fun i wr => ∃ k : Nat, k ≤ roots.length + 1 ∧ i = .int .i64 k ∧ Hid (CF w b3 b5 b7 [.slice E0 s.envs.length e0, .slice E1 s.promises.length e1] [.slice F0 s.envs.length f0, .slice F1 s.promises.length f1] [.slice G0 s.envs.length g0, .slice G1 s.promises.length g1] s (colS s E P) (.slice RA roots.length rc) roots (.slice L0 l0.length m0) (.slice L1 l1.length m1) l0 l1 wr)) (fun i _ => roots.length + 1 - (intOf i).toNat)
      case atStart => exact ⟨0, Nat.zero_le _, rfl, HC3.out⟩
      case round =>
        obtain ⟨k, hk, rfl, HC⟩ := hrel
        by_cases hlt : k < roots.length + 1
        · go_upto_if 141 with fail
          go_cut [15] from 135 to 145 (fun ev wx => ∃ en : Int, ev = .int .i64 en ∧ Hid (envU s en = true ∧ gB E en.toNat = true) ∧ Hid (CF w b3 b5 b7 [.slice E0 s.envs.length e0, .slice E1 s.promises.length e1] [.slice F0 s.envs.length f0, .slice F1 s.promises.length f1] [.slice G0 s.envs.length g0, .slice G1 s.promises.length g1] s (colS s E P) (.slice RA roots.length rc) roots (.slice L0 l0.length m0) (.slice L1 l1.length m1) l0 l1 wx))
          case first =>
            by_cases hi : k < roots.length
            · obtain ⟨b, off, rfl, hcell⟩ := int_at HC.out.r k hi
              have HEN := Lib.hid (show envU s roots[k] = true ∧ gB E roots[k].toNat = true from ⟨HOKS.out.2 _ (List.getElem_mem hi), HM.out.root _ (List.getElem_mem hi)⟩)
              go_wp2_with fail
              go_meet
              case rel => exact ⟨roots[k], rfl, HEN.out, HC.out⟩
            · go_wp2_with fail
              go_meet
              case rel => exact ⟨0, rfl, env_zero HOK.out HM.out, HC.out⟩
          case rest =>
          obtain ⟨en, rfl, HEN, HC7⟩ := hcut
          obtain ⟨wq, hwq⟩ : ∃ wq, wq = wc := ⟨_, rfl⟩
          rw [← hwq] at HC7 ⊢
          clear hwq HC
          go_wp2_with fail
          go_loopw [16] (fun i wr => ∃ j : Nat, j ≤ 3 ∧ i = .int .i64 j ∧ Hid (CF w b3 b5 b7 [.slice E0 s.envs.length e0, .slice E1 s.promises.length e1] [.slice F0 s.envs.length f0, .slice F1 s.promises.length f1] [.slice G0 s.envs.length g0, .slice G1 s.promises.length g1] s (colS s E P) (.slice RA roots.length rc) roots (.slice L0 l0.length m0) (.slice L1 l1.length m1) l0 l1 wr)) (fun i _ => 3 - (intOf i).toNat)
          case atStart => exact ⟨0, by omega, rfl, HC7.out⟩
          case round =>
            obtain ⟨j, hj, rfl, HC⟩ := hrel
            by_cases hj3 : j < 3
            · go_upto_region 30 with fail
              go_cut [17] from 150 to 153 (fun nv wx => ∃ nm : List UInt8, nv = .string (str nm) ∧ Hid (CF w b3 b5 b7 [.slice E0 s.envs.length e0, .slice E1 s.promises.length e1] [.slice F0 s.envs.length f0, .slice F1 s.promises.length f1] [.slice G0 s.envs.length g0, .slice G1 s.promises.length g1] s (colS s E P) (.slice RA roots.length rc) roots (.slice L0 l0.length m0) (.slice L1 l1.length m1) l0 l1 wx))
              case first =>
                have hbA := (Below.refl wr.heap.size wr).alloc (Nat.le_refl _) (.cells #[.string (str [120]), .string (str [102]), .string (str [110])] 9)
                have HCA := Lib.hid (HC.out.step hbA)
                clear hbA
                have hj' : j = 0 ∨ j = 1 ∨ j = 2 := by omega
                rcases hj' with rfl | rfl | rfl
                · go_wp2_with fail
                  go_meet
                  case rel => exact ⟨[120], rfl, HCA.out⟩
                · go_wp2_with fail
                  go_meet
                  case rel => exact ⟨[102], rfl, HCA.out⟩
                · go_wp2_with fail
                  go_meet
                  case rel => exact ⟨[110], rfl, HCA.out⟩
              case rest =>
              obtain ⟨nm, rfl, HC8⟩ := hcut
              obtain ⟨wn, hwn⟩ : ∃ wn, wn = wc := ⟨_, rfl⟩
              rw [← hwn] at HC8 ⊢
              clear hwn HC
              have t0 := HC8.out.h7.bx.cell 0 _ rfl
              have t1 := HC8.out.h7.bx.cell 1 _ rfl
              have HVI := Lib.hid (col_valIn HOKS.out.1 HOKS.out.2 HM.out en nm HEN.out.1 HEN.out.2)
              go_wp2_with fail
              refine Calls.mono (impl_ValueIn (colS s E P) en nm _ _ HC8.out.h7.rd (by have := HZC.out; omega)) ?_
              rw [HVI.out]
              rintro e w20 ⟨vcs, rfl, hvo, hb⟩
              have hvok := valIn_ok HOKS.out.1 en nm
              obtain ⟨⟨d, ok⟩, hd⟩ : ∃ p, p = valIn s en nm := ⟨_, rfl⟩
              rw [← hd] at hvo hvok
              have HDE := Lib.hid hd
              dsimp only at hvo hvok
              have HVO := Lib.hid hvok
              rw [← hd]
              clear hd hvok
              obtain ⟨D1, d1, D2, d2, D3, d3, D4, d4, D5, d5, rfl⟩ := hvo.shape
              have hbx := (Below.refl w20.heap.size w20).alloc (Nat.le_refl _) (.cells ([.int .i64 d.kind, .slice D1 d.items.length d1, .slice D2 d.parts.length d2, .slice D3 d.names.length d3, .slice D4 d.cls.length d4, .slice D5 d.levels.length d5, .int .i64 d.code, .int .i64 d.env]).toArray 45)
              have HVB := Lib.hid (VB.make hvo.read)
              have HC9 := Lib.hid ((HC8.out.step hb).step hbx)
              clear hbx hb hvo t0 t1 HC8 HVI
              go_upto_region 32 with fail
              generalize hb18 : w20.heap.size = b18 at HVB ⊢
              clear hb18
              refine gen_w (G := fun W => CF w b3 b5 b7 [.slice E0 s.envs.length e0, .slice E1 s.promises.length e1] [.slice F0 s.envs.length f0, .slice F1 s.promises.length f1] [.slice G0 s.envs.length g0, .slice G1 s.promises.length g1] s (colS s E P) (.slice RA roots.length rc) roots (.slice L0 l0.length m0) (.slice L1 l1.length m1) l0 l1 W ∧ VB b18 [.int .i64 d.kind, .slice D1 d.items.length d1, .slice D2 d.parts.length d2, .slice D3 d.names.length d3, .slice D4 d.cls.length d4, .slice D5 d.levels.length d5, .int .i64 d.code, .int .i64 d.env] d W) (show Ok _ _ from ⟨HC9.out, HVB.out⟩) ?_
              rintro w21 ⟨hcf, hvb⟩
              have HC10 := Lib.hid hcf
              have HV10 := Lib.hid hvb
              clear hcf hvb HC9 HVB
              generalize Value.tuple #[.agg #[.int .i64 d.kind, .slice D1 d.items.length d1, .slice D2 d.parts.length d2, .slice D3 d.names.length d3, .slice D4 d.cls.length d4, .slice D5 d.levels.length d5, .int .i64 d.code, .int .i64 d.env], .bool ok] = V154
              generalize Value.agg #[.int .i64 d.kind, .slice D1 d.items.length d1, .slice D2 d.parts.length d2, .slice D3 d.names.length d3, .slice D4 d.cls.length d4, .slice D5 d.levels.length d5, .int .i64 d.code, .int .i64 d.env] = V159
              have y0 := HC10.out.h3.bx.cell 0 _ rfl
              have y1 := HC10.out.h3.bx.cell 1 _ rfl
              go_wp2_with fail
              refine Calls.mono (spec_ValueIn s en nm _ _ HC10.out.h3.rd (by have := HZ.out; omega)) ?_
              rw [← HDE.out]
              rintro e w22 ⟨wcs, rfl, hvo, hb⟩
              obtain ⟨K1, q1, K2, q2, K3, q3, K4, q4, K5, q5, rfl⟩ := hvo.shape
              have hbx := (Below.refl w22.heap.size w22).alloc (Nat.le_refl _) (.cells ([.int .i64 d.kind, .slice K1 d.items.length q1, .slice K2 d.parts.length q2, .slice K3 d.names.length q3, .slice K4 d.cls.length q4, .slice K5 d.levels.length q5, .int .i64 d.code, .int .i64 d.env]).toArray 45)
              have HVC := Lib.hid (VB.make hvo.read)
              have HV11 := Lib.hid ((HV10.out.step hb).step hbx)
              have HC11 := Lib.hid ((HC10.out.step hb).step hbx)
              clear hbx hb hvo y0 y1 HC10 HV10
              go_upto_region 33 with fail
              generalize hb20 : w22.heap.size = b20 at HVC ⊢
              clear hb20
              refine gen_w (G := fun W => CF w b3 b5 b7 [.slice E0 s.envs.length e0, .slice E1 s.promises.length e1] [.slice F0 s.envs.length f0, .slice F1 s.promises.length f1] [.slice G0 s.envs.length g0, .slice G1 s.promises.length g1] s (colS s E P) (.slice RA roots.length rc) roots (.slice L0 l0.length m0) (.slice L1 l1.length m1) l0 l1 W ∧ VB b18 [.int .i64 d.kind, .slice D1 d.items.length d1, .slice D2 d.parts.length d2, .slice D3 d.names.length d3, .slice D4 d.cls.length d4, .slice D5 d.levels.length d5, .int .i64 d.code, .int .i64 d.env] d W ∧ VB b20 [.int .i64 d.kind, .slice K1 d.items.length q1, .slice K2 d.parts.length q2, .slice K3 d.names.length q3, .slice K4 d.cls.length q4, .slice K5 d.levels.length q5, .int .i64 d.code, .int .i64 d.env] d W) (show Ok _ _ from ⟨HC11.out, HV11.out, HVC.out⟩) ?_
              rintro w23 ⟨hcf, hvb, hvc⟩
              have HC12 := Lib.hid hcf
              have HV12 := Lib.hid hvb
              have HW12 := Lib.hid hvc
              clear hcf hvb hvc HC11 HV11 HVC
              generalize Value.tuple #[.agg #[.int .i64 d.kind, .slice K1 d.items.length q1, .slice K2 d.parts.length q2, .slice K3 d.names.length q3, .slice K4 d.cls.length q4, .slice K5 d.levels.length q5, .int .i64 d.code, .int .i64 d.env], .bool ok] = V161
              generalize Value.agg #[.int .i64 d.kind, .slice K1 d.items.length q1, .slice K2 d.parts.length q2, .slice K3 d.names.length q3, .slice K4 d.cls.length q4, .slice K5 d.levels.length q5, .int .i64 d.code, .int .i64 d.env] = V166
              have a0 := HV12.out.bx.cell 0 _ rfl
              have a1 := HV12.out.bx.cell 1 _ rfl
              have a2 := HV12.out.bx.cell 2 _ rfl
              have a3 := HV12.out.bx.cell 3 _ rfl
              have a4 := HV12.out.bx.cell 4 _ rfl
              have a5 := HV12.out.bx.cell 5 _ rfl
              have a6 := HV12.out.bx.cell 6 _ rfl
              have a7 := HV12.out.bx.cell 7 _ rfl
              have c0 := HW12.out.bx.cell 0 _ rfl
              have c1 := HW12.out.bx.cell 1 _ rfl
              have c2 := HW12.out.bx.cell 2 _ rfl
              have c3 := HW12.out.bx.cell 3 _ rfl
              have c4 := HW12.out.bx.cell 4 _ rfl
              have c5 := HW12.out.bx.cell 5 _ rfl
              have c6 := HW12.out.bx.cell 6 _ rfl
              have c7 := HW12.out.bx.cell 7 _ rfl
              cases ok
              all_goals
                go_wp2_with fail
                refine Calls.mono (spec_EqualVectors_same d _ _ _ HV12.out.rd HW12.out.rd HVO.out.1 (by have := HVO.out.2; have := HZ.out; omega)) ?_
                rintro e w24 ⟨rfl, hb⟩
                have HC13 := Lib.hid (HC12.out.step hb)
                clear hb
                go_wp2_with fail
                go_roundw
                case rel => first | exact ⟨j + 1, by omega, by go_num, HC13.out⟩ | ((repeat apply Exists.intro); refine ⟨⟨j + 1, by omega, ?_, HC13.out⟩, ?_⟩; rotate_left; rfl; go_num)
                case measure => simp [intOf]; omega
            obtain rfl : j = 3 := by omega
            go_wp2_with fail
            go_roundw
            case rel => first | exact ⟨k + 1, by omega, by go_num, HC.out⟩ | ((repeat apply Exists.intro); refine ⟨⟨k + 1, by omega, ?_, HC.out⟩, ?_⟩; rotate_left; rfl; go_num)
            case measure => simp [intOf]; omega
        obtain rfl : k = roots.length + 1 := by omega
        have t0 := HC.out.h7.bx.cell 0 _ rfl
        have t1 := HC.out.h7.bx.cell 1 _ rfl
        go_wp2_with fail
        refine Calls.mono (impl_ReachableIn (colS s E P) roots _ _ _ HC.out.h7.rd HC.out.r (by have := HZC.out; omega)) ?_
        intro e w11 hret
        obtain ⟨E', P', M0, j0, M1, j1, k0, k1, hM, rfl, hi0, hi1, hl0, hl1, hb⟩ := reach_true hret (rootsOk_col HOK.out HM.out)
        obtain ⟨rfl, rfl⟩ := (col_marked HM.out).unique hM
        rw [← HL0.out] at hl0
        rw [← HL1.out] at hl1
        subst hl0 hl1
        have HC4 := Lib.hid (HC.out.step hb)
        have HI0 := Lib.hid hi0
        have HI1 := Lib.hid hi1
        clear hret hM hi0 hi1 hb t0 t1 HC
        go_wp2_with fail
        refine Calls.mono (laws_sameInts_same k0 _ _ _ HI0.out HC4.out.i0) ?_
        rintro e w12 ⟨rfl, hb⟩
        have HC5 := Lib.hid (HC4.out.step hb)
        have HI5 := Lib.hid (Ints.step HI1.out hb)
        clear hb HC4 HI0 HI1
        go_wp2_with fail
        refine Calls.mono (laws_sameInts_same k1 _ _ _ HI5.out HC5.out.i1) ?_
        rintro e w13 ⟨rfl, hb⟩
        have HC6 := Lib.hid (HC5.out.step hb)
        clear hb
        go_wp2_with fail
        go_ret
        exact ⟨rfl, HC6.out.bl⟩
set_option maxRecDepth 100000 in
theorem lifted (os : Os) (started : os.Started) (H : Type) (enc : TypeId × Value → H) :
    ReturnsInHanded {} Tryz.checked os 9 .any (Rows.fnCollectsSpec.pre6 enc Tryz.prog Tryz.f9 Rows.fnCollectsRow.domain false) (Rows.fnCollectsSpec.post enc Tryz.prog Tryz.f9 false true false false) := by
  refine returnsInHanded_of_change (C := Tryz.checked) own started (by kernel_rfl) Tryz.func9
    (ChangeSpec.witness6 (enc := enc) (C := Tryz.checked) false ⟨#[], #[.slice none 0 0], []⟩ 8 (by kernel_rfl) (by kernel_rfl) (by kernel_rfl) (by kernel_rfl)) ?_
  intro W base args ds gs before hval0 hW hcnd _
  have hval : ∀ (j : Nat) t v, Tryz.f9.params[j]? = some t → args[j]? = some v → Value.okWide Tryz.prog W .any base t v := hval0
  have hW' := hW
  obtain ⟨p, q, hA0, hV, rfl, hfz, hnd⟩ := hW
  have hA : DataW.TrodAll enc Tryz.prog W 0 (fun _ => true) true Tryz.f9.params.toList args.toList ds p := hA0
  rw [Tryz.params9] at hA hval
  obtain ⟨v0, vs0, d0, ds0, p0, q0, hargs, rfl, rfl, h0, r0⟩ := trodAll_cons hA
  obtain ⟨rfl, rfl, rfl⟩ := trodAll_nil r0
  obtain rfl : args = #[v0] := by cases args; simp_all
  obtain ⟨rfl, rfl⟩ := trodVars_none hV
  obtain ⟨x0, u0⟩ := open_bytes Tryz.underlying64 Tryz.underlying5 (by kernel_rfl) (hval 0 64 v0 rfl rfl) h0
  clear hA0 hval0
  refine (walk v0 x0 u0).mono fun e W' ⟨he, hg⟩ => ?_
  subst he
  exact ⟨_, rfl, law_post laidOut hW' rfl rfl Tryz.underlying4 rfl rfl rfl (by intro t ht; rw [Tryz.params9] at ht; have ht2 : t ∈ [64] := ht; simp only [List.mem_cons, List.not_mem_nil, or_false] at ht2; rcases ht2 with rfl <;> exact ⟨by kernel_rfl, of_decide_eq_true (by kernel_rfl)⟩) hg⟩

theorem fact0 : jf0 Tryz.prog 9 Tryz.f9 Rows.fnCollectsSpec Rows.fnCollectsRow = true := by kernel_rfl
theorem fact1 : jf1 Tryz.prog 9 Tryz.f9 Rows.fnCollectsSpec Rows.fnCollectsRow = true := by kernel_rfl
theorem fact2 : jf2 Tryz.prog 9 Tryz.f9 Rows.fnCollectsSpec Rows.fnCollectsRow = true := by kernel_rfl
theorem fact3 : jf3 Tryz.prog 9 Tryz.f9 Rows.fnCollectsSpec Rows.fnCollectsRow = true := by kernel_rfl
theorem fact4 : jf4 Tryz.prog 9 Tryz.f9 Rows.fnCollectsSpec Rows.fnCollectsRow = true := by kernel_rfl
theorem fact5 : jf5 Tryz.prog 9 Tryz.f9 Rows.fnCollectsSpec Rows.fnCollectsRow = true := by kernel_rfl
theorem fact6 : jf6 Tryz.prog 9 Tryz.f9 Rows.fnCollectsSpec Rows.fnCollectsRow = true := by kernel_rfl
theorem fact7 : jf7 Tryz.prog 9 Tryz.f9 Rows.fnCollectsSpec Rows.fnCollectsRow = true := by kernel_rfl
theorem fact8 : jf8 Tryz.prog 9 Tryz.f9 Rows.fnCollectsSpec Rows.fnCollectsRow = true := by kernel_rfl
theorem fact9 : jf9 Tryz.prog 9 Tryz.f9 Rows.fnCollectsSpec Rows.fnCollectsRow = true := by kernel_rfl
theorem fact10 : jf10 Tryz.prog 9 Tryz.f9 Rows.fnCollectsSpec Rows.fnCollectsRow = true := by kernel_rfl
theorem fact11 : jf11 Tryz.prog 9 Tryz.f9 Rows.fnCollectsSpec Rows.fnCollectsRow = true := by kernel_rfl
theorem fact12 : jf12 Tryz.prog 9 Tryz.f9 Rows.fnCollectsSpec Rows.fnCollectsRow = true := by kernel_rfl
theorem fact13 : jf13 Tryz.prog 9 Tryz.f9 Rows.fnCollectsSpec Rows.fnCollectsRow = true := by kernel_rfl
theorem fact14 : jf14 Tryz.prog 9 Tryz.f9 Rows.fnCollectsSpec Rows.fnCollectsRow = true := by kernel_rfl
theorem fact15 : jf15 Tryz.prog 9 Tryz.f9 Rows.fnCollectsSpec Rows.fnCollectsRow = true := by kernel_rfl
theorem fact16 : jf16 Tryz.prog 9 Tryz.f9 Rows.fnCollectsSpec Rows.fnCollectsRow = true := by kernel_rfl
theorem fact17 : jf17 Tryz.prog 9 Tryz.f9 Rows.fnCollectsSpec Rows.fnCollectsRow = true := by kernel_rfl
theorem fact18 : jf18 Tryz.prog 9 Tryz.f9 Rows.fnCollectsSpec Rows.fnCollectsRow = true := by kernel_rfl
theorem fact19 : jf19 Tryz.prog 9 Tryz.f9 Rows.fnCollectsSpec Rows.fnCollectsRow = true := by kernel_rfl
theorem fact20 : jf20 Tryz.prog 9 Tryz.f9 Rows.fnCollectsSpec Rows.fnCollectsRow = true := by kernel_rfl
theorem fact21 : jf21 Tryz.prog 9 Tryz.f9 Rows.fnCollectsSpec Rows.fnCollectsRow = true := by kernel_rfl
theorem fact22 : jf22 Tryz.prog 9 Tryz.f9 Rows.fnCollectsSpec Rows.fnCollectsRow = true := by kernel_rfl
theorem fact23 : jf23 Tryz.prog 9 Tryz.f9 Rows.fnCollectsSpec Rows.fnCollectsRow = true := by kernel_rfl
theorem fact24 : jf24 Tryz.prog 9 Tryz.f9 Rows.fnCollectsSpec Rows.fnCollectsRow = true := by kernel_rfl
theorem fact25 : jf25 Tryz.prog 9 Tryz.f9 Rows.fnCollectsSpec Rows.fnCollectsRow = true := by kernel_rfl
theorem fact26 : jf26 Tryz.prog 9 Tryz.f9 Rows.fnCollectsSpec Rows.fnCollectsRow = true := by kernel_rfl
theorem fact27 : jf27 Tryz.prog 9 Tryz.f9 Rows.fnCollectsSpec Rows.fnCollectsRow = true := by kernel_rfl
theorem fact28 : jf28 Tryz.prog 9 Tryz.f9 Rows.fnCollectsSpec Rows.fnCollectsRow = true := by kernel_rfl
theorem fact29 : jf29 Tryz.prog 9 Tryz.f9 Rows.fnCollectsSpec Rows.fnCollectsRow = true := by kernel_rfl
theorem fact30 : jf30 Tryz.prog 9 Tryz.f9 Rows.fnCollectsSpec Rows.fnCollectsRow = true := by kernel_rfl
theorem fact31 : jf31 Tryz.prog 9 Tryz.f9 Rows.fnCollectsSpec Rows.fnCollectsRow = true := by kernel_rfl
theorem over : Rows.fnCollectsRow.holds Tryz.pinned (OpenSpec.ofChange Rows.fnCollectsSpec) :=
  OpenClaim.holds_of_wide 9 Tryz.f9 rfl rfl rfl rfl rfl rfl rfl ⟨rfl, rfl, rfl, rfl, rfl⟩ rfl rfl rfl rfl rfl (by kernel_rfl) Tryz.func9 (joined fact0 fact1 fact2 fact3 fact4 fact5 fact6 fact7 fact8 fact9 fact10 fact11 fact12 fact13 fact14 fact15 fact16 fact17 fact18 fact19 fact20 fact21 fact22 fact23 fact24 fact25 fact26 fact27 fact28 fact29 fact30 fact31)
    (of_decide_eq_true (by kernel_rfl)) (by unfold Func.isWrapper; first | (rw [if_pos (by decide +kernel)]; kernel_rfl) | (rw [if_neg (by decide +kernel)]; exact ⟨rfl, rfl⟩))
    (fun os started H enc _ => lifted os started H enc)

/-- THE STATEMENT -/
theorem proved : Rows.FnCollectsSaid :=
  over
#print axioms proved
end fnCollects
end Go.Proofs.YtejieacdfjpfnaaGreat
