/-
  Contracts: define, of the program and of the reference: a name is bound in an environment of a store, in place.
-/
import Derived.Test.YtejieacdfjpfnaaGreatStDef
namespace Go.Proofs.YtejieacdfjpfnaaGreat
set_option maxRecDepth 100000
open Go.ChangeShapes Go.WideShapes Go.ChangeAt Go.RowKit Go.Deep
set_option linter.unusedVariables false
set_option maxRecDepth 100000

/-- what define gives back -/
def RetDef (lo r6 : Nat) (cs : List Value) (d : StoreD) (w : World) (e : Ending) (w' : World) : Prop := e = .returned (.tuple #[]) ∧ Blk w' r6 33 cs ∧ StoreO (fun b => Rng lo w'.heap.size b ∧ b ≠ r6) w' cs d ∧ Below lo w w'

/-- what the loads of a region look at -/
structure DT (r6 g bx : Nat) (cs xcs gcs : List Value) (W : World) : Prop where
  b6 : Blk W r6 33 cs
  bx : Blk W bx 96 xcs
  bg : Blk W g 71 gcs
theorem DT.step {r6 g bx : Nat} {cs xcs gcs : List Value} {W W' : World} (h : Ok (DT r6 g bx cs xcs gcs) W) (hb : Below W.heap.size W W') : Ok (DT r6 g bx cs xcs gcs) W' :=
  have h' : DT r6 g bx cs xcs gcs W := h
  ⟨h'.b6.below hb, h'.bx.below hb, h'.bg.below hb⟩
theorem DT.grow {r6 g bx : Nat} {cs xcs gcs : List Value} {W W' : World} {row : Option Nat} (h : Ok (DT r6 g bx cs xcs gcs) W) (hg : W.grownBy W' row) (h1 : some r6 ≠ row) (h2 : some g ≠ row) (h3 : some bx ≠ row) : Ok (DT r6 g bx cs xcs gcs) W' :=
  have h' : DT r6 g bx cs xcs gcs W := h
  ⟨cell_grown hg h'.b6 h1, cell_grown hg h'.bx h3, cell_grown hg h'.bg h2⟩

theorem DT.x {r6 g bx : Nat} {cs xcs gcs : List Value} {W : World} (h : Ok (DT r6 g bx cs xcs gcs) W) (j : Nat) (u : Value) (hu : xcs[j]? = some u) : W.cell? ⟨bx, j, none⟩ = some u := (show DT r6 g bx cs xcs gcs W from h).bx.cell j u hu
theorem DT.s {r6 g bx : Nat} {cs xcs gcs : List Value} {W : World} (h : Ok (DT r6 g bx cs xcs gcs) W) (j : Nat) (u : Value) (hu : cs[j]? = some u) : W.cell? ⟨r6, j, none⟩ = some u := (show DT r6 g bx cs xcs gcs W from h).b6.cell j u hu
theorem DT.m {r6 g bx : Nat} {cs xcs gcs pre ecs rest : List Value} {W : World} (h : Ok (DT r6 g bx cs xcs gcs) W) (hg : gcs = pre ++ ecs ++ rest) {o : Nat} (ho : pre.length = o) (j : Nat) (u : Value) (hu : ecs[j]? = some u) : W.cell? ⟨g, o + j, none⟩ = some u :=
  (show Blk W g 71 (pre ++ ecs ++ rest) from hg ▸ (show DT r6 g bx cs xcs gcs W from h).bg).mid ho j u hu
theorem DT.f {r6 g bx : Nat} {cs xcs gcs : List Value} {W : World} (h : Ok (DT r6 g bx cs xcs gcs) W) (j : Nat) : W.frozen? ⟨g, j, none⟩ = false := (show DT r6 g bx cs xcs gcs W from h).bg.frozen j
theorem len12 {l : List Value} (h : l.length = 12) : ∃ u0 u1 u2 u3 u4 u5 u6 u7 u8 u9 u10 u11, l = [u0, u1, u2, u3, u4, u5, u6, u7, u8, u9, u10, u11] := by
  match l, h with
  | [u0, u1, u2, u3, u4, u5, u6, u7, u8, u9, u10, u11], _ => exact ⟨_, _, _, _, _, _, _, _, _, _, _, _, rfl⟩
end Go.Proofs.YtejieacdfjpfnaaGreat
