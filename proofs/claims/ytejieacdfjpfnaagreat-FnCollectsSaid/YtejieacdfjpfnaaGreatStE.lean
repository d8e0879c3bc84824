/-
  ExtendStore: contracts; a slice of structs of a value's own is added to or changed.
-/
import Derived.Test.YtejieacdfjpfnaaGreatKGood
import Derived.Test.YtejieacdfjpfnaaGreatStCpy
import Derived.Test.YtejieacdfjpfnaaGreatStoreFind
import Derived.Test.YtejieacdfjpfnaaGreatSpecStore6
namespace Go.Proofs.YtejieacdfjpfnaaGreat
set_option maxRecDepth 100000
open Go.ChangeShapes Go.WideShapes Go.ChangeAt Go.RowKit Go.Deep
set_option linter.unusedVariables false
set_option maxRecDepth 100000

section
variable {α : Type} {S : Nat → Prop} {f : Nat → Nat} {w w' : World} {e : TypeId} {size : Nat} {RO : (Nat → Prop) → World → List Value → α → Prop} {g : Nat} {post : List Value} {ys : List (List Value)} {m : List α}
end
end Go.Proofs.YtejieacdfjpfnaaGreat
namespace Go.Proofs.YtejieacdfjpfnaaGreat
open Go.ChangeShapes Go.WideShapes Go.ChangeAt Go.RowKit Go.Deep
set_option linter.unusedVariables false
set_option maxRecDepth 100000
set_option maxRecDepth 100000

def stZ : StoreD := ⟨[], []⟩
theorem zeroSt (S : Nat → Prop) (w : World) : StoreO S w zSt stZ := ⟨none, 0, none, 0, fun _ => 0, rfl, SlO.nil_ _ _ _ _ _, SlO.nil_ _ _ _ _ _⟩
theorem StoreO.shape2 {S : Nat → Prop} {w : World} {cs : List Value} {d : StoreD} (h : StoreO S w cs d) : ∃ (A0 : Option Addr) (c0 : Nat) (A1 : Option Addr) (c1 : Nat), cs = [.slice A0 d.envs.length c0, .slice A1 d.promises.length c1] := by
  obtain ⟨A0, c0, A1, c1, f, rfl, _⟩ := h
  exact ⟨_, _, _, _, rfl⟩
theorem keepsIn2 {S : Nat → Prop} {r lo : Nat} {w3 : World} (hS : ∀ b, S b → lo ≤ b) (hl : r < lo) (c0 c1 : Value) : Keeps S w3 ((w3.setCell ⟨r, 0, none⟩ c0).setCell ⟨r, 1, none⟩ c1) :=
  ((Keeps.refl _ _).sc (b := r) (o := 0) (fun h => by have := hS _ h; omega) c0).sc (b := r) (o := 1) (fun h => by have := hS _ h; omega) c1
/-- a store is stored into the result's box -/
theorem put2 {w w3 : World} {d : StoreD} {r lo : Nat} {t : TypeId} (c0 c1 : Value) {a0 a1 : Value} (hB : Blk w3 r t [a0, a1]) (ho : StoreO (Rng lo w3.heap.size) w3 [c0, c1] d) (hr : w.heap.size ≤ r) (hl : r < lo) (hb : Below w.heap.size w w3) :
    Ok (fun W => Blk W r t [c0, c1] ∧ StoreO (Rng w.heap.size W.heap.size) W [c0, c1] d ∧ Below w.heap.size w W) ((w3.setCell ⟨r, 0, none⟩ c0).setCell ⟨r, 1, none⟩ c1) := by
  refine ⟨(hB.set_ 0 c0).set_ 1 c1, ?_, below_sc (b := r) (o := 1) (below_sc (b := r) (o := 0) hb hr c0) hr c1⟩
  refine (StoreO.keeps ho (keepsIn2 (fun b h => h.1) hl c0 c1)).mono (fun b h => ⟨by have := h.1; omega, by simpa [World.setCell] using h.2⟩)

theorem okN_zD : okN 3 zD = true := by decide
theorem parts_ok {s : StoreD} (h : storeOk s = true) : PartsOk s := by
  refine ⟨fun j hj k hk => ?_, fun j hj => ?_⟩
  · cases hu : envU s j
    · exfalso
      have h1 : envsOk s = true := by unfold storeOk at h; simp only [Bool.and_eq_true] at h; exact h.1.2
      have h2 : envOk s j s.envs[j] = true := of_decide_eq_true h1 j hj
      rw [envU_at j hj] at hu
      unfold envOk at h2
      rw [if_neg (by simp [hu])] at h2
      unfold enU at h2
      simp only [Bool.and_eq_true, decide_eq_true_eq, beq_iff_eq] at h2
      have : s.envs[j].slots.length = 0 := by first | exact h2.2 | simpa using h2.2
      omega
    · exact vecOk_okN (slot_val ((slots_ok h j hj hu).2 k hk)).1
  · have h1 : promsOk s = true := by unfold storeOk at h; simp only [Bool.and_eq_true] at h; exact h.2
    have h2 := of_decide_eq_true h1 j hj
    unfold prOk at h2
    by_cases hu : s.promises[j].used = true
    · rw [if_pos hu, Bool.and_eq_true] at h2
      exact vecOk_okN (by have := h2.1; unfold prA valFit at this; simp only [Bool.and_eq_true] at this; exact this.1.2.1)
    · rw [if_neg hu] at h2
      unfold prU at h2
      simp only [Bool.and_eq_true] at h2
      rw [zeroV_zD h2.2]
      exact okN_zD

end Go.Proofs.YtejieacdfjpfnaaGreat
