/-
  Contracts: define, of the program and of the reference: a name is bound in an environment of a store, in place.
-/
import Derived.Test.YtejieacdfjpfnaaGreatStDef
namespace Go.Proofs.YtejieacdfjpfnaaGreat
set_option maxRecDepth 100000
open Go.ChangeShapes Go.WideShapes Go.ChangeAt Go.RowKit Go.Deep
set_option linter.unusedVariables false
set_option maxRecDepth 100000

/-- what define gives back -/
def RetDef (lo r6 : Nat) (cs : List Value) (d : StoreD) (w : World) (e : Ending) (w' : World) : Prop := e = .returned (.tuple #[]) ∧ Blk w' r6 33 cs ∧ StoreO (fun b => Rng lo w'.heap.size b ∧ b ≠ r6) w' cs d ∧ Below lo w w'

/-- what the loads of a region look at -/
structure DT (r6 g bx : Nat) (cs xcs gcs : List Value) (W : World) : Prop where
  b6 : Blk W r6 33 cs
  bx : Blk W bx 96 xcs
  bg : Blk W g 71 gcs
theorem DT.step {r6 g bx : Nat} {cs xcs gcs : List Value} {W W' : World} (h : Ok (DT r6 g bx cs xcs gcs) W) (hb : Below W.heap.size W W') : Ok (DT r6 g bx cs xcs gcs) W' :=
  have h' : DT r6 g bx cs xcs gcs W := h
  ⟨h'.b6.below hb, h'.bx.below hb, h'.bg.below hb⟩
theorem DT.grow {r6 g bx : Nat} {cs xcs gcs : List Value} {W W' : World} {row : Option Nat} (h : Ok (DT r6 g bx cs xcs gcs) W) (hg : W.grownBy W' row) (h1 : some r6 ≠ row) (h2 : some g ≠ row) (h3 : some bx ≠ row) : Ok (DT r6 g bx cs xcs gcs) W' :=
  have h' : DT r6 g bx cs xcs gcs W := h
  ⟨cell_grown hg h'.b6 h1, cell_grown hg h'.bx h3, cell_grown hg h'.bg h2⟩

theorem DT.x {r6 g bx : Nat} {cs xcs gcs : List Value} {W : World} (h : Ok (DT r6 g bx cs xcs gcs) W) (j : Nat) (u : Value) (hu : xcs[j]? = some u) : W.cell? ⟨bx, j, none⟩ = some u := (show DT r6 g bx cs xcs gcs W from h).bx.cell j u hu
theorem DT.s {r6 g bx : Nat} {cs xcs gcs : List Value} {W : World} (h : Ok (DT r6 g bx cs xcs gcs) W) (j : Nat) (u : Value) (hu : cs[j]? = some u) : W.cell? ⟨r6, j, none⟩ = some u := (show DT r6 g bx cs xcs gcs W from h).b6.cell j u hu
theorem DT.m {r6 g bx : Nat} {cs xcs gcs pre ecs rest : List Value} {W : World} (h : Ok (DT r6 g bx cs xcs gcs) W) (hg : gcs = pre ++ ecs ++ rest) {o : Nat} (ho : pre.length = o) (j : Nat) (u : Value) (hu : ecs[j]? = some u) : W.cell? ⟨g, o + j, none⟩ = some u :=
  (show Blk W g 71 (pre ++ ecs ++ rest) from hg ▸ (show DT r6 g bx cs xcs gcs W from h).bg).mid ho j u hu
theorem DT.f {r6 g bx : Nat} {cs xcs gcs : List Value} {W : World} (h : Ok (DT r6 g bx cs xcs gcs) W) (j : Nat) : W.frozen? ⟨g, j, none⟩ = false := (show DT r6 g bx cs xcs gcs W from h).bg.frozen j
theorem len12 {l : List Value} (h : l.length = 12) : ∃ u0 u1 u2 u3 u4 u5 u6 u7 u8 u9 u10 u11, l = [u0, u1, u2, u3, u4, u5, u6, u7, u8, u9, u10, u11] := by
  match l, h with
  | [u0, u1, u2, u3, u4, u5, u6, u7, u8, u9, u10, u11], _ => exact ⟨_, _, _, _, _, _, _, _, _, _, _, _, rfl⟩
/-- a slot is put in the place of another -/
theorem def_put {s : StoreD} {k : Nat} {hk : k < s.envs.length} {w W : World} {lo r6 g g2 j : Nat} {cs pre rest pre2 rest2 ys : List Value} {N M : Option Addr} {n m : Nat} {SN SM SP KS : Nat → Prop} {pv : Value} {x : SlotD} {a0 a1 a2 a3 a4 a5 a6 a7 a8 a9 a10 a11 : Value} (hW : Below w.heap.size w W)
    (dh : DH w lo r6 g SN SM SP KS) (b6 : Blk w r6 33 cs) (bg : Blk w g 71 (pre ++ [Value.bool s.envs[k].used, Value.int .i64 s.envs[k].parent, Value.slice N s.envs[k].names.length n, Value.slice M s.envs[k].slots.length m] ++ rest)) (oN : TxtO SN w (.slice N s.envs[k].names.length n) s.envs[k].names) (oP : PromisesO SP w pv s.promises)
    (hx : SlotO (Rng (r6 + 1) w.heap.size) w [a0, a1, a2, a3, a4, a5, a6, a7, a8, a9, a10, a11] x) (hg2 : SM g2) (hblk : Blk w g2 96 (pre2 ++ ys ++ rest2)) (hpre2 : pre2.length = j * 12) (hys : ys.length = 12)
    (hcl2 : ∀ (w' : World) (xcs : List Value) (x : SlotD) (T : Nat → Prop), xcs.length = 12 → Blk w' g2 96 (pre2 ++ xcs ++ rest2) → SlotO T w' xcs x → (∀ b, SM b → ¬ T b) → Keeps (fun b => SM b ∧ b ≠ g2) w w' → SlotsO (fun b => SM b ∨ T b) w' (.slice M s.envs[k].slots.length m) (s.envs[k].slots.set j x))
    (hcl : ∀ (w' : World) (N' M' : Option Addr) (n' m' : Nat) (ns : List (List UInt8)) (ss : List SlotD) (SN' SM' : Nat → Prop), w.heap.size ≤ w'.heap.size →
        Blk w' g 71 (pre ++ [.bool s.envs[k].used, .int .i64 s.envs[k].parent, .slice N' ns.length n', .slice M' ss.length m'] ++ rest) →
        TxtO SN' w' (.slice N' ns.length n') ns → SlotsO SM' w' (.slice M' ss.length m') ss → (∀ b, SN' b → (SN b ∨ SM b ∨ Rng (r6 + 1) w'.heap.size b) ∧ ¬ SM' b) → (∀ b, SM' b → SN b ∨ SM b ∨ Rng (r6 + 1) w'.heap.size b) →
        PromisesO SP w' pv s.promises → Keeps KS w w' → StoreO (fun b => Rng lo w'.heap.size b ∧ b ≠ r6) w' cs ⟨s.envs.set k ⟨s.envs[k].used, s.envs[k].parent, ns, ss⟩, s.promises⟩)
    (w' : World) (hw' : w' = ((((((((((((W.setCell ⟨g2, j * 12, none⟩ a0).setCell ⟨g2, j * 12 + 1, none⟩ a1).setCell ⟨g2, j * 12 + 2, none⟩ a2).setCell ⟨g2, j * 12 + 3, none⟩ a3).setCell ⟨g2, j * 12 + 4, none⟩ a4).setCell ⟨g2, j * 12 + 5, none⟩ a5).setCell ⟨g2, j * 12 + 6, none⟩ a6).setCell ⟨g2, j * 12 + 7, none⟩ a7).setCell ⟨g2, j * 12 + 8, none⟩ a8).setCell ⟨g2, j * 12 + 9, none⟩ a9).setCell ⟨g2, j * 12 + 10, none⟩ a10).setCell ⟨g2, j * 12 + 11, none⟩ a11)) :
    Blk w' r6 33 cs ∧ StoreO (fun b => Rng lo w'.heap.size b ∧ b ≠ r6) w' cs ⟨s.envs.set k ⟨s.envs[k].used, s.envs[k].parent, s.envs[k].names, s.envs[k].slots.set j x⟩, s.promises⟩ ∧ Below lo w w' := by
  have hr := dh.r
  have hg1 := dh.g1
  have hM2 := dh.M g2 hg2
  have hs := hW.size
  have hsz : w'.heap.size = W.heap.size := by subst hw'; simp [World.setCell]
  have k12 : Keeps (fun b => b ≠ g2) W w' := by subst hw'; exact keeps12 (fun h => h rfl) a0 a1 a2 a3 a4 a5 a6 a7 a8 a9 a10 a11
  have b12 : Blk w' g2 96 (pre2 ++ [a0, a1, a2, a3, a4, a5, a6, a7, a8, a9, a10, a11] ++ rest2) := by subst hw'; exact Blk.mid12 (hblk.below hW) hpre2 hys a0 a1 a2 a3 a4 a5 a6 a7 a8 a9 a10 a11
  have bel : Below lo w w' := by subst hw'; exact below12 (hW.mono (by omega)) hM2.1 a0 a1 a2 a3 a4 a5 a6 a7 a8 a9 a10 a11
  have kk : ∀ S : Nat → Prop, (∀ b, S b → b ≠ g2) → Keeps S w w' := fun S h => (Keeps.of_below S hW).trans (k12.mono h)
  have hxT : SlotO (Rng (r6 + 1) w.heap.size) w' [a0, a1, a2, a3, a4, a5, a6, a7, a8, a9, a10, a11] x := SlotO.keeps hx (kk _ fun b h e => by have := h.1; omega)
  have hss := hcl2 w' _ x _ rfl b12 hxT (fun b h h2 => by have := (dh.M b h).2.1; have := h2.1; omega) (kk _ fun b h => h.2)
  have hN2 : ∀ b, SN b → b ≠ g2 := fun b h e => (dh.N b h).2.2.2 (e ▸ hg2)
  refine ⟨Blk.keeps b6 (kk (fun b => b ≠ g2) fun b h => h) (by omega), ?_, bel⟩
  have h8 := hcl w' N M n m s.envs[k].names (s.envs[k].slots.set j x) SN (fun b => SM b ∨ Rng (r6 + 1) w.heap.size b) (by omega) (by simpa using Blk.keeps bg (kk (fun b => b ≠ g2) fun b h => h) (fun e => hM2.2.2.1 e.symm)) (TxtO.keeps oN (kk _ hN2)) (by simpa using hss)
    (fun b h => ⟨.inl h, fun h2 => h2.elim (fun h2 => (dh.N b h).2.2.2 h2) (fun h2 => by have := (dh.N b h).2.1; have := h2.1; omega)⟩) (fun b h => h.elim (fun h => .inr (.inl h)) (fun h => .inr (.inr ⟨h.1, by have := h.2; omega⟩)))
    (PromisesO.keeps oP (kk _ fun b h e => (dh.P b h).2.2.2.2 (e ▸ hg2))) (kk _ fun b h e => (dh.K b h).2.2.2.2 (e ▸ hg2))
  simpa using h8

set_option maxHeartbeats 8000000 in
theorem impl_define (s : StoreD) (k : Nat) (hk : k < s.envs.length) (nm : List UInt8) (hnm : nm.length ≤ maxLen) (x : SlotD) (cs xcs : List Value) (lo r6 : Nat) (w : World) (hb6 : Blk w r6 33 cs) (ho : StoreO (Rng lo r6) w cs s) (hlo : lo ≤ r6)
    (hx : SlotO (Rng (r6 + 1) w.heap.size) w xcs x) (hlen : s.envs[k].names.length = s.envs[k].slots.length) (hz : s.envs[k].slots.length ≤ 600000000000) (hzl : s.envs.length ≤ 600000000000) :
    Calls Tryz.prog 85 #[.pointer (some ⟨r6, 0, none⟩), .int .i64 k, .string (str nm), .agg xcs.toArray] w (RetDef lo r6 cs (defS s k hk nm x) w) := by
  have hr6 := hb6.lt
  obtain ⟨g, cap, pre, rest, N, M, n, m, SN, SM, SP, KS, pv, rfl, hcap, hmax, hpre, hi64, dh, bg, oN, oM, oP, hclose⟩ := store_edit ho k hk hlo hr6
  obtain ⟨E1, m1, E2, m2, E3, m3, E4, m4, E5, m5, EP, ep, EL, el, rfl⟩ := hx.shape12
  have hg1 := dh.g1
  have hfl := findB_le s.envs[k].names nm
  have HLEN := Lib.hid hlen
  have hzn : s.envs[k].names.length ≤ 600000000000 := by omega
  clear hlen
  have HDH := Lib.hid dh
  have HCL := Lib.hid hclose
  have OM := Lib.hid oM
  have OP := Lib.hid oP
  have ON := Lib.hid oN
  have OX := Lib.hid hx
  have HB6 := Lib.hid hb6
  have HBG := Lib.hid bg
  clear hb6 ho dh bg oN oM oP hclose hx
  obtain ⟨G, g0, HG, HBX⟩ := good1 w 96 [.int .i64 x.kind, .int .i64 x.value.kind, .slice E1 x.value.items.length m1, .slice E2 x.value.parts.length m2, .slice E3 x.value.names.length m3, .slice E4 x.value.cls.length m4, .slice E5 x.value.levels.length m5, .int .i64 x.value.code, .int .i64 x.value.env, .int .i64 x.promise, .slice EP x.promises.length ep, .slice EL x.labels.length el]
  have HR6 := Lib.hid (fun W (h : Ok G W) => show Blk W r6 33 [.slice (some ⟨g, 0, none⟩) s.envs.length cap, pv] from ((HG.out.below h).block _ hr6).trans HB6.out)
  have HRG := Lib.hid (fun W (h : Ok G W) => show Blk W g 71 (pre ++ [Value.bool s.envs[k].used, Value.int .i64 s.envs[k].parent, Value.slice N s.envs[k].names.length n, Value.slice M s.envs[k].slots.length m] ++ rest) from ((HG.out.below h).block _ (by omega)).trans HBG.out)
  have t0 := fun W (h : Ok G W) => (HR6.out W h).cell 0 _ rfl
  have e2 := fun W (h : Ok G W) => (HRG.out W h).mid hpre 2 _ rfl
  have e3 := fun W (h : Ok G W) => (HRG.out W h).mid hpre 3 _ rfl
  go_enter Tryz.func85, Tryz.ntmps85
  go_upto_region 1 with fail
  refine gen_w g0 ?_
  clear g0
  intro W0 g0
  go_wp2_with fail
  refine Calls.mono (impl_textIndex s.envs[k].names nm _ _ (TxtO.keeps ON.out (Keeps.of_below _ (HG.out.below g0))).read) ?_
  rintro e w1 ⟨rfl, rfl⟩
  by_cases hneg : findB s.envs[k].names nm < 0
  · have HN := Lib.hid (show defS s k hk nm x = ⟨s.envs.set k ⟨s.envs[k].used, s.envs[k].parent, s.envs[k].names ++ [nm], s.envs[k].slots ++ [x]⟩, s.promises⟩ by unfold defS defE; rw [if_pos hneg])
    obtain ⟨c6, hc6⟩ : ∃ l : List Value, l = [.slice (some ⟨g, 0, none⟩) s.envs.length cap, pv] := ⟨_, rfl⟩
    obtain ⟨xc, hxc⟩ : ∃ l : List Value, l = [.int .i64 x.kind, .int .i64 x.value.kind, .slice E1 x.value.items.length m1, .slice E2 x.value.parts.length m2, .slice E3 x.value.names.length m3, .slice E4 x.value.cls.length m4, .slice E5 x.value.levels.length m5, .int .i64 x.value.code, .int .i64 x.value.env, .int .i64 x.promise, .slice EP x.promises.length ep, .slice EL x.labels.length el] := ⟨_, rfl⟩
    obtain ⟨gc, hgc⟩ : ∃ l : List Value, l = pre ++ [Value.bool s.envs[k].used, Value.int .i64 s.envs[k].parent, Value.slice N s.envs[k].names.length n, Value.slice M s.envs[k].slots.length m] ++ rest := ⟨_, rfl⟩
    have HC6 := Lib.hid hc6
    have HXC := Lib.hid hxc
    have HGC := Lib.hid hgc
    clear hc6 hxc hgc
    obtain ⟨hown, hvb, hpush⟩ := TxtO.push_ (TxtO.keeps ON.out (Keeps.of_below _ (HG.out.below g0))) (lo := lo) (fun b h => (HDH.out.N b h).1) nm hnm
    have HPU := Lib.hid hpush
    clear hpush
    go_wp2_with (at_builtin; go_must (refine wpList_push rfl _ _ 43 rfl lo 9 (.string ByteArray.empty) 1 16 Tryz.underlying43 info_strD rfl (by decide) _ _ _ _ _ rfl rfl (by exact hown) rfl (by simp [Value.oneCell']) (by omega) (by omega) (by have := (HG.out.below g0).size; omega) ?_); intro v1 w3 ho3 hg3 hbk3 hb3; obtain ⟨A1, n1, rfl⟩ := own_shapeC ho3; have hg3' : W0.grownBy w3 (Value.slice N s.envs[k].names.length n).ownBlock := hg3; have FZ := Lib.hid (fun o => (frozen_grown hg3' (HRG.out _ g0) o (fun e => (HDH.out.N g (hvb g e.symm)).2.2.1 rfl))); have CZ := Lib.hid (cell_grown hg3' (HRG.out _ g0) (fun e => (HDH.out.N g (hvb g e.symm)).2.2.1 rfl)); have q2 := CZ.out.mid hpre 2 _ rfl; have f2 := FZ.out (k * 4 + 2); have D2 := Lib.hid (def_names (k := k) HDH.out (HG.out.below g0) (HBX.out _ g0) HB6.out hpre HBG.out OM.out OP.out OX.out hvb (HPU.out _ _ ho3) (fun b e => (ho3.lt b e).2) hg3 hbk3 hb3))
    clear e2 e3
    refine gen_w (G := DM2 w lo r6 g [.slice (some ⟨g, 0, none⟩) s.envs.length cap, pv] [.int .i64 x.kind, .int .i64 x.value.kind, .slice E1 x.value.items.length m1, .slice E2 x.value.parts.length m2, .slice E3 x.value.names.length m3, .slice E4 x.value.cls.length m4, .slice E5 x.value.levels.length m5, .int .i64 x.value.code, .int .i64 x.value.env, .int .i64 x.promise, .slice EP x.promises.length ep, .slice EL x.labels.length el] pre rest s.envs[k] nm x A1 n1 M m SN SM SP KS pv s.promises) (show Ok _ _ from D2.out) ?_
    clear D2 
    intro W5 g5
    have g6 : DM2 w lo r6 g [.slice (some ⟨g, 0, none⟩) s.envs.length cap, pv] [.int .i64 x.kind, .int .i64 x.value.kind, .slice E1 x.value.items.length m1, .slice E2 x.value.parts.length m2, .slice E3 x.value.names.length m3, .slice E4 x.value.cls.length m4, .slice E5 x.value.levels.length m5, .int .i64 x.value.code, .int .i64 x.value.env, .int .i64 x.promise, .slice EP x.promises.length ep, .slice EL x.labels.length el] pre rest s.envs[k] nm x A1 n1 M m SN SM SP KS pv s.promises W5.drew := DM2.step HDH.out g5 (Below.drew (Below.refl _ _))
    have G6 := Lib.hid g6
    have h65 := g6.top
    obtain ⟨gn, hgn⟩ : ∃ l : List Value, l = pre ++ [Value.bool s.envs[k].used, Value.int .i64 s.envs[k].parent, Value.slice A1 (s.envs[k].names.length + 1) n1, Value.slice M s.envs[k].slots.length m] ++ rest := ⟨_, rfl⟩
    have HGN := Lib.hid hgn
    clear hgn
    have gT : Ok (DT r6 g w.heap.size c6 xc gn) W5.drew := ⟨by rw [HC6.out]; exact g6.b6, by rw [HXC.out]; exact g6.bx, by rw [HGN.out]; exact g6.bg⟩
    have r0 := fun W (h : Ok (DT r6 g w.heap.size c6 xc gn) W) => DT.s h 0 _ ((congrArg (fun l => l[0]?) HC6.out).trans rfl)
    have r3 := fun W (h : Ok (DT r6 g w.heap.size c6 xc gn) W) => DT.m h HGN.out hpre 3 _ rfl
    have xs0 := fun W (h : Ok (DT r6 g w.heap.size c6 xc gn) W) => DT.x h 0 _ ((congrArg (fun l => l[0]?) HXC.out).trans rfl)
    have xs1 := fun W (h : Ok (DT r6 g w.heap.size c6 xc gn) W) => DT.x h 1 _ ((congrArg (fun l => l[1]?) HXC.out).trans rfl)
    have xs2 := fun W (h : Ok (DT r6 g w.heap.size c6 xc gn) W) => DT.x h 2 _ ((congrArg (fun l => l[2]?) HXC.out).trans rfl)
    have xs3 := fun W (h : Ok (DT r6 g w.heap.size c6 xc gn) W) => DT.x h 3 _ ((congrArg (fun l => l[3]?) HXC.out).trans rfl)
    have xs4 := fun W (h : Ok (DT r6 g w.heap.size c6 xc gn) W) => DT.x h 4 _ ((congrArg (fun l => l[4]?) HXC.out).trans rfl)
    have xs5 := fun W (h : Ok (DT r6 g w.heap.size c6 xc gn) W) => DT.x h 5 _ ((congrArg (fun l => l[5]?) HXC.out).trans rfl)
    have xs6 := fun W (h : Ok (DT r6 g w.heap.size c6 xc gn) W) => DT.x h 6 _ ((congrArg (fun l => l[6]?) HXC.out).trans rfl)
    have xs7 := fun W (h : Ok (DT r6 g w.heap.size c6 xc gn) W) => DT.x h 7 _ ((congrArg (fun l => l[7]?) HXC.out).trans rfl)
    have xs8 := fun W (h : Ok (DT r6 g w.heap.size c6 xc gn) W) => DT.x h 8 _ ((congrArg (fun l => l[8]?) HXC.out).trans rfl)
    have xs9 := fun W (h : Ok (DT r6 g w.heap.size c6 xc gn) W) => DT.x h 9 _ ((congrArg (fun l => l[9]?) HXC.out).trans rfl)
    have xs10 := fun W (h : Ok (DT r6 g w.heap.size c6 xc gn) W) => DT.x h 10 _ ((congrArg (fun l => l[10]?) HXC.out).trans rfl)
    have xs11 := fun W (h : Ok (DT r6 g w.heap.size c6 xc gn) W) => DT.x h 11 _ ((congrArg (fun l => l[11]?) HXC.out).trans rfl)
    obtain ⟨xs, hown2, hvb2, hpush2⟩ := SlO.pushD (lo := lo) (T := Rng (r6 + 1) w.heap.size) (fun h k => h.keeps k) (fun h k => h.mono k) (show SlO SM W5.drew 96 12 SlotO _ s.envs[k].slots from g6.oM) (fun b h => ⟨(HDH.out.M b h).1, by have := (HDH.out.M b h).2.1; omega⟩) x [.int .i64 x.kind, .int .i64 x.value.kind, .slice E1 x.value.items.length m1, .slice E2 x.value.parts.length m2, .slice E3 x.value.names.length m3, .slice E4 x.value.cls.length m4, .slice E5 x.value.levels.length m5, .int .i64 x.value.code, .int .i64 x.value.env, .int .i64 x.promise, .slice EP x.promises.length ep, .slice EL x.labels.length el] rfl (show SlotO _ _ _ _ from g6.oX) (fun b h => by have := h.2; omega) (fun b h h2 => by have := (HDH.out.M b h).2.1; have := h2.1; omega)
    have HPU2 := Lib.hid hpush2
    clear hpush2 g5 g6 t0
    go_wp2_with fail
    refine wp_region_phase (T := Ok (DT r6 g w.heap.size c6 xc gn)) (by kernel_rfl) [(2, 0), (2, 1), (2, 2), (2, 3), (1, 4), (1, 5), (0, 6), (0, 7), (2, 8), (2, 9), (0, 10)] [10] (by kernel_rfl) gT ?_
    repeat ((first | (refine dynL_take rfl rfl (fun W g => by go_simp; rfl) ?_) | (refine dynL_pure rfl rfl (fun W => by go_simp; rfl) ?_)); go_simp)
    refine dynL_act rfl rfl (fun K hK => ?_)
    go_wp2_with fail
    refine hK.out _ _ (DT.step gT ((Below.refl _ _).alloc (Nat.le_refl _) _)) ?_
    clear hK
    refine dynL_act rfl rfl (fun K hK => ?_)
    refine wp_push (.tmp 38) (.tmp 40) 69 rfl lo 96 (.agg #[.int .i64 0, .int .i64 0, .slice none 0 0, .slice none 0 0, .slice none 0 0, .slice none 0 0, .slice none 0 0, .int .i64 0, .int .i64 0, .int .i64 0, .slice none 0 0, .slice none 0 0]) 12 208 Tryz.underlying69 info_Slot rfl (by decide) W5.drew (.slice M s.envs[k].slots.length m) s.envs[k].slots.length xs #[.int .i64 x.kind, .int .i64 x.value.kind, .slice E1 x.value.items.length m1, .slice E2 x.value.parts.length m2, .slice E3 x.value.names.length m3, .slice E4 x.value.cls.length m4, .slice E5 x.value.levels.length m5, .int .i64 x.value.code, .int .i64 x.value.env, .int .i64 x.promise, .slice EP x.promises.length ep, .slice EL x.labels.length el] rfl rfl hown2 rfl (by simp [Value.oneCell']) (by omega) (by omega) (by have : W5.drew.heap.size = W5.heap.size := rfl; omega) ?_
    intro v1 w7 ho7 hg7 hbk7 hb7
    obtain ⟨A2, n2, rfl⟩ := own_shapeC ho7
    have gT7 := DT.grow gT hg7 (fun e => by have := (HDH.out.M _ (hvb2 _ e.symm)).2.1; omega) (fun e => (HDH.out.M _ (hvb2 _ e.symm)).2.2.1 rfl) (fun e => by have := (HDH.out.M _ (hvb2 _ e.symm)).2.1; omega)
    have DS := Lib.hid (def_slots (k := k) HDH.out G6.out hpre hvb2 (HPU2.out _ _ ho7 hg7 hbk7) (fun b e => (ho7.lt b e).2) hg7 hbk7 hb7 _ rfl)
    refine hK.out _ _ gT7 ?_
    clear hK
    go_simp
    repeat ((first | (refine dynL_take rfl rfl (fun W g => by go_simp; rfl) ?_) | (refine dynL_pure rfl rfl (fun W => by go_simp; rfl) ?_)); go_simp)
    have f3 := DT.f gT7 (k * 4 + 3)
    refine dynL_last rfl (by simp) rfl (fun K hK => ?_)
    go_wp2_with fail
    refine hK.out _ _ ?_
    clear hK
    refine dynL_done ?_
    go_wp2_with fail
    obtain ⟨c1, c2, c3, c4, c5, c6, c7, c8, c9⟩ := DS.out
    refine bodyPost_ret (v := .tuple #[]) (by kernel_rfl) rfl ?_
    refine ⟨rfl, c1, ?_, c2⟩
    rw [HN.out]
    exact HCL.out _ A1 A2 n1 n2 (s.envs[k].names ++ [nm]) (s.envs[k].slots ++ [x]) _ _ (by rw [size_sc]; have := hb7.size; have : W5.drew.heap.size = W5.heap.size := rfl; omega) (by simpa using c3) (by simpa using c4) (by simpa using c5) c8 c9 c6 c7
  · obtain ⟨j, hj⟩ := Int.eq_ofNat_of_zero_le (show 0 ≤ findB s.envs[k].names nm by omega)
    have hjl : j < s.envs[k].slots.length := by have := HLEN.out; omega
    have HN := Lib.hid (show defS s k hk nm x = ⟨s.envs.set k ⟨s.envs[k].used, s.envs[k].parent, s.envs[k].names, s.envs[k].slots.set j x⟩, s.promises⟩ by unfold defS defE; rw [if_neg hneg, hj]; rfl)
    rw [hj]
    clear hneg
    obtain ⟨g2, cap2, pre2, rest2, ys, hv2, hcap2, hmax2, hg2, hpre2, hys, hblk2, hcl2⟩ := slot_edit OM.out j hjl
    simp only [Value.slice.injEq, true_and] at hv2
    obtain ⟨rfl, rfl⟩ := hv2
    have HC2 := Lib.hid hcl2
    have HB2 := Lib.hid hblk2
    clear hcl2 hblk2
    have gd := HG.out.drew g0
    obtain ⟨u0, u1, u2, u3, u4, u5, u6, u7, u8, u9, u10, u11, rfl⟩ := len12 hys
    have xs0 := fun W (h : Ok G W) => (HBX.out W h).cell 0 _ rfl
    have xs1 := fun W (h : Ok G W) => (HBX.out W h).cell 1 _ rfl
    have xs2 := fun W (h : Ok G W) => (HBX.out W h).cell 2 _ rfl
    have xs3 := fun W (h : Ok G W) => (HBX.out W h).cell 3 _ rfl
    have xs4 := fun W (h : Ok G W) => (HBX.out W h).cell 4 _ rfl
    have xs5 := fun W (h : Ok G W) => (HBX.out W h).cell 5 _ rfl
    have xs6 := fun W (h : Ok G W) => (HBX.out W h).cell 6 _ rfl
    have xs7 := fun W (h : Ok G W) => (HBX.out W h).cell 7 _ rfl
    have xs8 := fun W (h : Ok G W) => (HBX.out W h).cell 8 _ rfl
    have xs9 := fun W (h : Ok G W) => (HBX.out W h).cell 9 _ rfl
    have xs10 := fun W (h : Ok G W) => (HBX.out W h).cell 10 _ rfl
    have xs11 := fun W (h : Ok G W) => (HBX.out W h).cell 11 _ rfl
    go_wp2_with fail
    refine wp_region_phase (T := Ok G) (by kernel_rfl) [(2, 0), (2, 1), (2, 2), (1, 3), (2, 4), (1, 5), (2, 6), (0, 7)] [7] (by kernel_rfl) gd ?_
    refine gen_w gd ?_
    clear gd g0
    intro W1 gd
    have M2 := Lib.hid (HB2.out.below (HG.out.below gd))
    have z0 := M2.out.frozen (j * 12)
    have v0 := (show W1.cell? ⟨g2, j * 12, none⟩ = some u0 by simpa using M2.out.mid hpre2 0 _ rfl)
    have z1 := M2.out.frozen (j * 12 + 1)
    have v1 := M2.out.mid hpre2 1 _ rfl
    have z2 := M2.out.frozen (j * 12 + 2)
    have v2 := M2.out.mid hpre2 2 _ rfl
    have z3 := M2.out.frozen (j * 12 + 3)
    have v3 := M2.out.mid hpre2 3 _ rfl
    have z4 := M2.out.frozen (j * 12 + 4)
    have v4 := M2.out.mid hpre2 4 _ rfl
    have z5 := M2.out.frozen (j * 12 + 5)
    have v5 := M2.out.mid hpre2 5 _ rfl
    have z6 := M2.out.frozen (j * 12 + 6)
    have v6 := M2.out.mid hpre2 6 _ rfl
    have z7 := M2.out.frozen (j * 12 + 7)
    have v7 := M2.out.mid hpre2 7 _ rfl
    have z8 := M2.out.frozen (j * 12 + 8)
    have v8 := M2.out.mid hpre2 8 _ rfl
    have z9 := M2.out.frozen (j * 12 + 9)
    have v9 := M2.out.mid hpre2 9 _ rfl
    have z10 := M2.out.frozen (j * 12 + 10)
    have v10 := M2.out.mid hpre2 10 _ rfl
    have z11 := M2.out.frozen (j * 12 + 11)
    have v11 := M2.out.mid hpre2 11 _ rfl
    repeat ((first | (refine dynL_take rfl rfl (fun W g => by go_simp; rfl) ?_) | (refine dynL_pure rfl rfl (fun W => by go_simp; rfl) ?_)); go_simp)
    refine dynL_last rfl (by simp) rfl (fun K hK => ?_)
    go_wp2_with fail
    refine hK.out _ _ ?_
    clear hK
    refine dynL_done ?_
    go_wp2_with fail
    obtain ⟨c1, c2, c3⟩ := def_put (HG.out.below gd) HDH.out HB6.out HBG.out ON.out OP.out OX.out hg2 HB2.out hpre2 hys HC2.out HCL.out _ rfl
    refine bodyPost_end (v := .tuple #[]) (by kernel_rfl) rfl ?_
    refine ⟨rfl, c1, ?_, c3⟩
    rw [HN.out]
    exact c2

set_option maxHeartbeats 8000000 in
theorem spec_l26Define (s : StoreD) (k : Nat) (hk : k < s.envs.length) (nm : List UInt8) (hnm : nm.length ≤ maxLen) (x : SlotD) (cs xcs : List Value) (lo r6 : Nat) (w : World) (hb6 : Blk w r6 33 cs) (ho : StoreO (Rng lo r6) w cs s) (hlo : lo ≤ r6)
    (hx : SlotO (Rng (r6 + 1) w.heap.size) w xcs x) (hlen : s.envs[k].names.length = s.envs[k].slots.length) (hz : s.envs[k].slots.length ≤ 600000000000) (hzl : s.envs.length ≤ 600000000000) :
    Calls Tryz.prog 80 #[.pointer (some ⟨r6, 0, none⟩), .int .i64 k, .string (str nm), .agg xcs.toArray] w (RetDef lo r6 cs (defS s k hk nm x) w) := by
  have hr6 := hb6.lt
  obtain ⟨g, cap, pre, rest, N, M, n, m, SN, SM, SP, KS, pv, rfl, hcap, hmax, hpre, hi64, dh, bg, oN, oM, oP, hclose⟩ := store_edit ho k hk hlo hr6
  obtain ⟨E1, m1, E2, m2, E3, m3, E4, m4, E5, m5, EP, ep, EL, el, rfl⟩ := hx.shape12
  have hg1 := dh.g1
  have hfl := findB_le s.envs[k].names nm
  have HLEN := Lib.hid hlen
  have hzn : s.envs[k].names.length ≤ 600000000000 := by omega
  clear hlen
  have HDH := Lib.hid dh
  have HCL := Lib.hid hclose
  have OM := Lib.hid oM
  have OP := Lib.hid oP
  have ON := Lib.hid oN
  have OX := Lib.hid hx
  have HB6 := Lib.hid hb6
  have HBG := Lib.hid bg
  clear hb6 ho dh bg oN oM oP hclose hx
  obtain ⟨G, g0, HG, HBX⟩ := good1 w 96 [.int .i64 x.kind, .int .i64 x.value.kind, .slice E1 x.value.items.length m1, .slice E2 x.value.parts.length m2, .slice E3 x.value.names.length m3, .slice E4 x.value.cls.length m4, .slice E5 x.value.levels.length m5, .int .i64 x.value.code, .int .i64 x.value.env, .int .i64 x.promise, .slice EP x.promises.length ep, .slice EL x.labels.length el]
  have HR6 := Lib.hid (fun W (h : Ok G W) => show Blk W r6 33 [.slice (some ⟨g, 0, none⟩) s.envs.length cap, pv] from ((HG.out.below h).block _ hr6).trans HB6.out)
  have HRG := Lib.hid (fun W (h : Ok G W) => show Blk W g 71 (pre ++ [Value.bool s.envs[k].used, Value.int .i64 s.envs[k].parent, Value.slice N s.envs[k].names.length n, Value.slice M s.envs[k].slots.length m] ++ rest) from ((HG.out.below h).block _ (by omega)).trans HBG.out)
  have t0 := fun W (h : Ok G W) => (HR6.out W h).cell 0 _ rfl
  have e2 := fun W (h : Ok G W) => (HRG.out W h).mid hpre 2 _ rfl
  have e3 := fun W (h : Ok G W) => (HRG.out W h).mid hpre 3 _ rfl
  go_enter Tryz.func80, Tryz.ntmps80
  go_upto_region 1 with fail
  refine gen_w g0 ?_
  clear g0
  intro W0 g0
  go_wp2_with fail
  refine Calls.mono (spec_l1Find s.envs[k].names nm _ _ (TxtO.keeps ON.out (Keeps.of_below _ (HG.out.below g0))).read) ?_
  rintro e w1 ⟨rfl, rfl⟩
  by_cases hneg : findB s.envs[k].names nm < 0
  · have HN := Lib.hid (show defS s k hk nm x = ⟨s.envs.set k ⟨s.envs[k].used, s.envs[k].parent, s.envs[k].names ++ [nm], s.envs[k].slots ++ [x]⟩, s.promises⟩ by unfold defS defE; rw [if_pos hneg])
    obtain ⟨c6, hc6⟩ : ∃ l : List Value, l = [.slice (some ⟨g, 0, none⟩) s.envs.length cap, pv] := ⟨_, rfl⟩
    obtain ⟨xc, hxc⟩ : ∃ l : List Value, l = [.int .i64 x.kind, .int .i64 x.value.kind, .slice E1 x.value.items.length m1, .slice E2 x.value.parts.length m2, .slice E3 x.value.names.length m3, .slice E4 x.value.cls.length m4, .slice E5 x.value.levels.length m5, .int .i64 x.value.code, .int .i64 x.value.env, .int .i64 x.promise, .slice EP x.promises.length ep, .slice EL x.labels.length el] := ⟨_, rfl⟩
    obtain ⟨gc, hgc⟩ : ∃ l : List Value, l = pre ++ [Value.bool s.envs[k].used, Value.int .i64 s.envs[k].parent, Value.slice N s.envs[k].names.length n, Value.slice M s.envs[k].slots.length m] ++ rest := ⟨_, rfl⟩
    have HC6 := Lib.hid hc6
    have HXC := Lib.hid hxc
    have HGC := Lib.hid hgc
    clear hc6 hxc hgc
    have gd := HG.out.drew g0
    obtain ⟨hown, hvb, hpush⟩ := TxtO.push_ (TxtO.keeps ON.out (Keeps.of_below _ (HG.out.below gd))) (lo := lo) (fun b h => (HDH.out.N b h).1) nm hnm
    have HPU := Lib.hid hpush
    clear hpush
    have gT : Ok (DT r6 g w.heap.size c6 xc gc) W0.drew := ⟨by rw [HC6.out]; exact HR6.out _ gd, by rw [HXC.out]; exact HBX.out _ gd, by rw [HGC.out]; exact HRG.out _ gd⟩
    have r0 := fun W (h : Ok (DT r6 g w.heap.size c6 xc gc) W) => DT.s h 0 _ ((congrArg (fun l => l[0]?) HC6.out).trans rfl)
    have r2 := fun W (h : Ok (DT r6 g w.heap.size c6 xc gc) W) => DT.m h HGC.out hpre 2 _ rfl
    clear t0 e2 e3
    go_wp2_with fail
    refine wp_region_phase (T := Ok (DT r6 g w.heap.size c6 xc gc)) (by kernel_rfl) [(2, 0), (2, 1), (2, 2), (1, 3), (2, 4), (2, 5), (2, 6), (2, 7), (1, 8), (2, 9), (2, 10), (2, 11), (1, 12), (2, 13), (0, 14), (0, 15), (2, 16), (2, 17), (0, 18)] [18] (by kernel_rfl) gT ?_
    repeat ((first | (refine dynL_take rfl rfl (fun W g => by go_simp; rfl) ?_) | (refine dynL_pure rfl rfl (fun W => by go_simp; rfl) ?_)); go_simp)
    refine dynL_act rfl rfl (fun K hK => ?_)
    go_wp2_with fail
    refine hK.out _ _ (DT.step gT ((Below.refl _ _).alloc (Nat.le_refl _) _)) ?_
    clear hK
    refine dynL_act rfl rfl (fun K hK => ?_)
    refine wp_push (.tmp 44) (.tmp 46) 43 rfl lo 9 (.string ByteArray.empty) 1 16 Tryz.underlying43 info_strD rfl (by decide) W0.drew (.slice N s.envs[k].names.length n) s.envs[k].names.length _ #[.string (str nm)] rfl rfl hown rfl (by simp [Value.oneCell']) (by omega) (by omega) (by have := (HG.out.below gd).size; omega) ?_
    intro v1 w3 ho3 hg3 hbk3 hb3
    obtain ⟨A1, n1, rfl⟩ := own_shapeC ho3
    have gT3 := DT.grow gT hg3 (fun e => by have := (HDH.out.N _ (hvb _ e.symm)).2.1; omega) (fun e => (HDH.out.N _ (hvb _ e.symm)).2.2.1 rfl) (fun e => by have := (HDH.out.N _ (hvb _ e.symm)).2.1; omega)
    have D2 := Lib.hid (def_names (k := k) HDH.out (HG.out.below gd) (HBX.out _ gd) HB6.out hpre HBG.out OM.out OP.out OX.out hvb (HPU.out _ _ ho3) (fun b e => (ho3.lt b e).2) hg3 hbk3 hb3)
    refine hK.out _ _ gT3 ?_
    clear hK
    go_simp
    repeat ((first | (refine dynL_take rfl rfl (fun W g => by go_simp; rfl) ?_) | (refine dynL_pure rfl rfl (fun W => by go_simp; rfl) ?_)); go_simp)
    have f2 := DT.f gT3 (k * 4 + 2)
    refine dynL_last rfl (by simp) rfl (fun K hK => ?_)
    go_wp2_with fail
    refine hK.out _ _ ?_
    clear hK
    refine dynL_done ?_
    clear f2 hown hvb HPU ho3 hg3 hbk3 hb3 gT3 gT r0 r2
    go_wp2_with fail
    refine gen_w (G := DM2 w lo r6 g [.slice (some ⟨g, 0, none⟩) s.envs.length cap, pv] [.int .i64 x.kind, .int .i64 x.value.kind, .slice E1 x.value.items.length m1, .slice E2 x.value.parts.length m2, .slice E3 x.value.names.length m3, .slice E4 x.value.cls.length m4, .slice E5 x.value.levels.length m5, .int .i64 x.value.code, .int .i64 x.value.env, .int .i64 x.promise, .slice EP x.promises.length ep, .slice EL x.labels.length el] pre rest s.envs[k] nm x A1 n1 M m SN SM SP KS pv s.promises) (show Ok _ _ from D2.out) ?_
    clear D2 
    intro W5 g5
    have g6 : DM2 w lo r6 g [.slice (some ⟨g, 0, none⟩) s.envs.length cap, pv] [.int .i64 x.kind, .int .i64 x.value.kind, .slice E1 x.value.items.length m1, .slice E2 x.value.parts.length m2, .slice E3 x.value.names.length m3, .slice E4 x.value.cls.length m4, .slice E5 x.value.levels.length m5, .int .i64 x.value.code, .int .i64 x.value.env, .int .i64 x.promise, .slice EP x.promises.length ep, .slice EL x.labels.length el] pre rest s.envs[k] nm x A1 n1 M m SN SM SP KS pv s.promises W5.drew := DM2.step HDH.out g5 (Below.drew (Below.refl _ _))
    have G6 := Lib.hid g6
    have h65 := g6.top
    obtain ⟨gn, hgn⟩ : ∃ l : List Value, l = pre ++ [Value.bool s.envs[k].used, Value.int .i64 s.envs[k].parent, Value.slice A1 (s.envs[k].names.length + 1) n1, Value.slice M s.envs[k].slots.length m] ++ rest := ⟨_, rfl⟩
    have HGN := Lib.hid hgn
    clear hgn
    have gT : Ok (DT r6 g w.heap.size c6 xc gn) W5.drew := ⟨by rw [HC6.out]; exact g6.b6, by rw [HXC.out]; exact g6.bx, by rw [HGN.out]; exact g6.bg⟩
    have r0 := fun W (h : Ok (DT r6 g w.heap.size c6 xc gn) W) => DT.s h 0 _ ((congrArg (fun l => l[0]?) HC6.out).trans rfl)
    have r3 := fun W (h : Ok (DT r6 g w.heap.size c6 xc gn) W) => DT.m h HGN.out hpre 3 _ rfl
    have xs0 := fun W (h : Ok (DT r6 g w.heap.size c6 xc gn) W) => DT.x h 0 _ ((congrArg (fun l => l[0]?) HXC.out).trans rfl)
    have xs1 := fun W (h : Ok (DT r6 g w.heap.size c6 xc gn) W) => DT.x h 1 _ ((congrArg (fun l => l[1]?) HXC.out).trans rfl)
    have xs2 := fun W (h : Ok (DT r6 g w.heap.size c6 xc gn) W) => DT.x h 2 _ ((congrArg (fun l => l[2]?) HXC.out).trans rfl)
    have xs3 := fun W (h : Ok (DT r6 g w.heap.size c6 xc gn) W) => DT.x h 3 _ ((congrArg (fun l => l[3]?) HXC.out).trans rfl)
    have xs4 := fun W (h : Ok (DT r6 g w.heap.size c6 xc gn) W) => DT.x h 4 _ ((congrArg (fun l => l[4]?) HXC.out).trans rfl)
    have xs5 := fun W (h : Ok (DT r6 g w.heap.size c6 xc gn) W) => DT.x h 5 _ ((congrArg (fun l => l[5]?) HXC.out).trans rfl)
    have xs6 := fun W (h : Ok (DT r6 g w.heap.size c6 xc gn) W) => DT.x h 6 _ ((congrArg (fun l => l[6]?) HXC.out).trans rfl)
    have xs7 := fun W (h : Ok (DT r6 g w.heap.size c6 xc gn) W) => DT.x h 7 _ ((congrArg (fun l => l[7]?) HXC.out).trans rfl)
    have xs8 := fun W (h : Ok (DT r6 g w.heap.size c6 xc gn) W) => DT.x h 8 _ ((congrArg (fun l => l[8]?) HXC.out).trans rfl)
    have xs9 := fun W (h : Ok (DT r6 g w.heap.size c6 xc gn) W) => DT.x h 9 _ ((congrArg (fun l => l[9]?) HXC.out).trans rfl)
    have xs10 := fun W (h : Ok (DT r6 g w.heap.size c6 xc gn) W) => DT.x h 10 _ ((congrArg (fun l => l[10]?) HXC.out).trans rfl)
    have xs11 := fun W (h : Ok (DT r6 g w.heap.size c6 xc gn) W) => DT.x h 11 _ ((congrArg (fun l => l[11]?) HXC.out).trans rfl)
    obtain ⟨xs, hown2, hvb2, hpush2⟩ := SlO.pushD (lo := lo) (T := Rng (r6 + 1) w.heap.size) (fun h k => h.keeps k) (fun h k => h.mono k) (show SlO SM W5.drew 96 12 SlotO _ s.envs[k].slots from g6.oM) (fun b h => ⟨(HDH.out.M b h).1, by have := (HDH.out.M b h).2.1; omega⟩) x [.int .i64 x.kind, .int .i64 x.value.kind, .slice E1 x.value.items.length m1, .slice E2 x.value.parts.length m2, .slice E3 x.value.names.length m3, .slice E4 x.value.cls.length m4, .slice E5 x.value.levels.length m5, .int .i64 x.value.code, .int .i64 x.value.env, .int .i64 x.promise, .slice EP x.promises.length ep, .slice EL x.labels.length el] rfl (show SlotO _ _ _ _ from g6.oX) (fun b h => by have := h.2; omega) (fun b h h2 => by have := (HDH.out.M b h).2.1; have := h2.1; omega)
    have HPU2 := Lib.hid hpush2
    clear hpush2 g5 g6
    go_wp2_with fail
    refine wp_region_phase (T := Ok (DT r6 g w.heap.size c6 xc gn)) (by kernel_rfl) [(2, 0), (2, 1), (2, 2), (1, 3), (2, 4), (2, 5), (2, 6), (2, 7), (1, 8), (2, 9), (2, 10), (2, 11), (1, 12), (1, 13), (0, 14), (0, 15), (2, 16), (2, 17), (0, 18)] [18] (by kernel_rfl) gT ?_
    repeat ((first | (refine dynL_take rfl rfl (fun W g => by go_simp; rfl) ?_) | (refine dynL_pure rfl rfl (fun W => by go_simp; rfl) ?_)); go_simp)
    refine dynL_act rfl rfl (fun K hK => ?_)
    go_wp2_with fail
    refine hK.out _ _ (DT.step gT ((Below.refl _ _).alloc (Nat.le_refl _) _)) ?_
    clear hK
    refine dynL_act rfl rfl (fun K hK => ?_)
    refine wp_push (.tmp 62) (.tmp 64) 69 rfl lo 96 (.agg #[.int .i64 0, .int .i64 0, .slice none 0 0, .slice none 0 0, .slice none 0 0, .slice none 0 0, .slice none 0 0, .int .i64 0, .int .i64 0, .int .i64 0, .slice none 0 0, .slice none 0 0]) 12 208 Tryz.underlying69 info_Slot rfl (by decide) W5.drew (.slice M s.envs[k].slots.length m) s.envs[k].slots.length xs #[.int .i64 x.kind, .int .i64 x.value.kind, .slice E1 x.value.items.length m1, .slice E2 x.value.parts.length m2, .slice E3 x.value.names.length m3, .slice E4 x.value.cls.length m4, .slice E5 x.value.levels.length m5, .int .i64 x.value.code, .int .i64 x.value.env, .int .i64 x.promise, .slice EP x.promises.length ep, .slice EL x.labels.length el] rfl rfl hown2 rfl (by simp [Value.oneCell']) (by omega) (by omega) (by have : W5.drew.heap.size = W5.heap.size := rfl; omega) ?_
    intro v1 w7 ho7 hg7 hbk7 hb7
    obtain ⟨A2, n2, rfl⟩ := own_shapeC ho7
    have gT7 := DT.grow gT hg7 (fun e => by have := (HDH.out.M _ (hvb2 _ e.symm)).2.1; omega) (fun e => (HDH.out.M _ (hvb2 _ e.symm)).2.2.1 rfl) (fun e => by have := (HDH.out.M _ (hvb2 _ e.symm)).2.1; omega)
    have DS := Lib.hid (def_slots (k := k) HDH.out G6.out hpre hvb2 (HPU2.out _ _ ho7 hg7 hbk7) (fun b e => (ho7.lt b e).2) hg7 hbk7 hb7 _ rfl)
    refine hK.out _ _ gT7 ?_
    clear hK
    go_simp
    repeat ((first | (refine dynL_take rfl rfl (fun W g => by go_simp; rfl) ?_) | (refine dynL_pure rfl rfl (fun W => by go_simp; rfl) ?_)); go_simp)
    have f3 := DT.f gT7 (k * 4 + 3)
    refine dynL_last rfl (by simp) rfl (fun K hK => ?_)
    go_wp2_with fail
    refine hK.out _ _ ?_
    clear hK
    refine dynL_done ?_
    go_wp2_with fail
    obtain ⟨c1, c2, c3, c4, c5, c6, c7, c8, c9⟩ := DS.out
    refine bodyPost_end (v := .tuple #[]) (by kernel_rfl) rfl ?_
    refine ⟨rfl, c1, ?_, c2⟩
    rw [HN.out]
    exact HCL.out _ A1 A2 n1 n2 (s.envs[k].names ++ [nm]) (s.envs[k].slots ++ [x]) _ _ (by rw [size_sc]; have := hb7.size; have : W5.drew.heap.size = W5.heap.size := rfl; omega) (by simpa using c3) (by simpa using c4) (by simpa using c5) c8 c9 c6 c7
  · obtain ⟨j, hj⟩ := Int.eq_ofNat_of_zero_le (show 0 ≤ findB s.envs[k].names nm by omega)
    have hjl : j < s.envs[k].slots.length := by have := HLEN.out; omega
    have HN := Lib.hid (show defS s k hk nm x = ⟨s.envs.set k ⟨s.envs[k].used, s.envs[k].parent, s.envs[k].names, s.envs[k].slots.set j x⟩, s.promises⟩ by unfold defS defE; rw [if_neg hneg, hj]; rfl)
    rw [hj]
    clear hneg
    obtain ⟨g2, cap2, pre2, rest2, ys, hv2, hcap2, hmax2, hg2, hpre2, hys, hblk2, hcl2⟩ := slot_edit OM.out j hjl
    simp only [Value.slice.injEq, true_and] at hv2
    obtain ⟨rfl, rfl⟩ := hv2
    have HC2 := Lib.hid hcl2
    have HB2 := Lib.hid hblk2
    clear hcl2 hblk2
    have gd := HG.out.drew g0
    obtain ⟨u0, u1, u2, u3, u4, u5, u6, u7, u8, u9, u10, u11, rfl⟩ := len12 hys
    have xs0 := fun W (h : Ok G W) => (HBX.out W h).cell 0 _ rfl
    have xs1 := fun W (h : Ok G W) => (HBX.out W h).cell 1 _ rfl
    have xs2 := fun W (h : Ok G W) => (HBX.out W h).cell 2 _ rfl
    have xs3 := fun W (h : Ok G W) => (HBX.out W h).cell 3 _ rfl
    have xs4 := fun W (h : Ok G W) => (HBX.out W h).cell 4 _ rfl
    have xs5 := fun W (h : Ok G W) => (HBX.out W h).cell 5 _ rfl
    have xs6 := fun W (h : Ok G W) => (HBX.out W h).cell 6 _ rfl
    have xs7 := fun W (h : Ok G W) => (HBX.out W h).cell 7 _ rfl
    have xs8 := fun W (h : Ok G W) => (HBX.out W h).cell 8 _ rfl
    have xs9 := fun W (h : Ok G W) => (HBX.out W h).cell 9 _ rfl
    have xs10 := fun W (h : Ok G W) => (HBX.out W h).cell 10 _ rfl
    have xs11 := fun W (h : Ok G W) => (HBX.out W h).cell 11 _ rfl
    go_wp2_with fail
    refine wp_region_phase (T := Ok G) (by kernel_rfl) [(2, 0), (2, 1), (2, 2), (1, 3), (2, 4), (2, 5), (2, 6), (1, 7), (2, 8), (1, 9), (2, 10), (0, 11)] [11] (by kernel_rfl) gd ?_
    refine gen_w gd ?_
    clear gd g0
    intro W1 gd
    have M2 := Lib.hid (HB2.out.below (HG.out.below gd))
    have z0 := M2.out.frozen (j * 12)
    have v0 := (show W1.cell? ⟨g2, j * 12, none⟩ = some u0 by simpa using M2.out.mid hpre2 0 _ rfl)
    have z1 := M2.out.frozen (j * 12 + 1)
    have v1 := M2.out.mid hpre2 1 _ rfl
    have z2 := M2.out.frozen (j * 12 + 2)
    have v2 := M2.out.mid hpre2 2 _ rfl
    have z3 := M2.out.frozen (j * 12 + 3)
    have v3 := M2.out.mid hpre2 3 _ rfl
    have z4 := M2.out.frozen (j * 12 + 4)
    have v4 := M2.out.mid hpre2 4 _ rfl
    have z5 := M2.out.frozen (j * 12 + 5)
    have v5 := M2.out.mid hpre2 5 _ rfl
    have z6 := M2.out.frozen (j * 12 + 6)
    have v6 := M2.out.mid hpre2 6 _ rfl
    have z7 := M2.out.frozen (j * 12 + 7)
    have v7 := M2.out.mid hpre2 7 _ rfl
    have z8 := M2.out.frozen (j * 12 + 8)
    have v8 := M2.out.mid hpre2 8 _ rfl
    have z9 := M2.out.frozen (j * 12 + 9)
    have v9 := M2.out.mid hpre2 9 _ rfl
    have z10 := M2.out.frozen (j * 12 + 10)
    have v10 := M2.out.mid hpre2 10 _ rfl
    have z11 := M2.out.frozen (j * 12 + 11)
    have v11 := M2.out.mid hpre2 11 _ rfl
    repeat ((first | (refine dynL_take rfl rfl (fun W g => by go_simp; rfl) ?_) | (refine dynL_pure rfl rfl (fun W => by go_simp; rfl) ?_)); go_simp)
    refine dynL_last rfl (by simp) rfl (fun K hK => ?_)
    go_wp2_with fail
    refine hK.out _ _ ?_
    clear hK
    refine dynL_done ?_
    go_wp2_with fail
    obtain ⟨c1, c2, c3⟩ := def_put (HG.out.below gd) HDH.out HB6.out HBG.out ON.out OP.out OX.out hg2 HB2.out hpre2 hys HC2.out HCL.out _ rfl
    refine bodyPost_ret (v := .tuple #[]) (by kernel_rfl) rfl ?_
    refine ⟨rfl, c1, ?_, c3⟩
    rw [HN.out]
    exact c2
end Go.Proofs.YtejieacdfjpfnaaGreat
