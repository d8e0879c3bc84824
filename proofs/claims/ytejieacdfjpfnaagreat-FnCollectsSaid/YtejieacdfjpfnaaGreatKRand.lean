/-
  Merged texts: IntS, RandP, Rand, RandSkip, RandShuf, RandSamp, RandInts.
-/
import Derived.Test.YtejieacdfjpfnaaGreatKBase
namespace Go.Proofs.YtejieacdfjpfnaaGreat
set_option maxRecDepth 100000
set_option maxRecDepth 100000
open Go.ChangeShapes Go.WideShapes Go.ChangeAt Go.RowKit Go.Deep

theorem Ints.small {w : World} {v : Value} {l : List Int} (h : Ints w v l) : ∀ n ∈ l, I64 n := fun n hn => by
  obtain ⟨A, c, rfl, hlc, hm, HC⟩ := h.open_
  obtain ⟨k, hk, rfl⟩ := List.getElem_of_mem hn
  obtain ⟨_, _, _, _, _, h5⟩ := HC.out k hk
  exact h5
theorem Bools.open_ {w : World} {v : Value} {l : List Bool} (h : Bools w v l) : ∃ A c, v = .slice A l.length c ∧ l.length ≤ c ∧ c ≤ maxLen ∧
    Hid (∀ k (hk : k < l.length), ∃ b off, A = some ⟨b, off, none⟩ ∧ b < w.heap.size ∧ w.cell? ⟨b, off + k, none⟩ = some (.bool l[k])) := by
  obtain ⟨A, c, rfl, hn, hc, hx⟩ := SlR.open_ h
  refine ⟨A, c, rfl, hn, hc, fun k hk => ?_⟩
  obtain ⟨b, off, cs, rfl, hlt, _, hat, rfl⟩ := hx.out k hk
  exact ⟨b, off, rfl, hlt, by simpa using hat 0 _ rfl⟩
theorem Bools.of_own {w : World} {base : Nat} {e : TypeId} {v : Value} {l : List Bool} (h : w.ownsRow base e 1 v l.length (l.map fun n => Value.bool n)) : Bools w v l :=
  SlR.of_own (fun n => [Value.bool n]) l h rfl (map_flat _ l) (fun _ _ => ⟨rfl, rfl⟩)
def IntO (S : Nat → Prop) (w : World) (v : Value) (l : List Int) : Prop := FlO S w 3 1 v l.length (l.map fun n => Value.int .i64 n) ∧ ∀ n ∈ l, I64 n
theorem IntO.keeps {S : Nat → Prop} {w w' : World} {v : Value} {l : List Int} (h : IntO S w v l) (hk : Keeps S w w') : IntO S w' v l := ⟨h.1.keeps hk, h.2⟩
theorem IntO.mono {S S' : Nat → Prop} {w : World} {v : Value} {l : List Int} (h : IntO S w v l) (hs : ∀ b, S b → S' b) : IntO S' w v l := ⟨h.1.mono hs, h.2⟩
theorem IntO.read {S : Nat → Prop} {w : World} {v : Value} {l : List Int} (h : IntO S w v l) : Ints w v l := Ints.of_own h.1.1 h.2
theorem info_int : (Tryz.prog.info? 3).map (fun i => (i.zero, i.size, i.bytes)) = some (some (.int .i64 0), 1, 8) := by kernel_rfl

theorem info_bool : (Tryz.prog.info? 4).map (fun i => (i.zero, i.size, i.bytes)) = some (some (.bool false), 1, 1) := by kernel_rfl

end Go.Proofs.YtejieacdfjpfnaaGreat
namespace Go.Proofs.YtejieacdfjpfnaaGreat
set_option maxRecDepth 100000
set_option linter.unusedVariables false

/-! ### Shuffles -/
end Go.Proofs.YtejieacdfjpfnaaGreat
namespace Go.Proofs.YtejieacdfjpfnaaGreat
set_option maxRecDepth 100000
open Go.ChangeShapes Go.WideShapes Go.ChangeAt Go.RowKit Go.Deep

end Go.Proofs.YtejieacdfjpfnaaGreat
namespace Go.Proofs.YtejieacdfjpfnaaGreat
set_option maxRecDepth 100000
open Go.ChangeShapes Go.WideShapes Go.ChangeAt Go.RowKit Go.Deep

end Go.Proofs.YtejieacdfjpfnaaGreat
namespace Go.Proofs.YtejieacdfjpfnaaGreat
set_option maxRecDepth 100000
open Go.ChangeShapes Go.WideShapes Go.ChangeAt Go.RowKit Go.Deep

end Go.Proofs.YtejieacdfjpfnaaGreat
namespace Go.Proofs.YtejieacdfjpfnaaGreat
set_option maxRecDepth 100000
open Go.ChangeShapes Go.WideShapes Go.ChangeAt Go.RowKit Go.Deep

end Go.Proofs.YtejieacdfjpfnaaGreat
namespace Go.Proofs.YtejieacdfjpfnaaGreat
set_option maxRecDepth 100000
open Go.ChangeShapes Go.WideShapes Go.ChangeAt Go.RowKit Go.Deep

end Go.Proofs.YtejieacdfjpfnaaGreat
