/-
  Calls by the machine: a text of a text; a test of a text and one line.
-/
import Derived.Test.YtkdlekonfjeidaaGreatEngTable
namespace Go.Proofs.YtkdlekonfjeidaaGreat.Eng
open Go.RowKit
set_option linter.unusedVariables false

noncomputable def isStr (t : List Nat) (r : Option (CV × Hp)) : Bool := match r with | some (.str s, _) => leqN s t | _ => false
noncomputable def hOne (x : List Nat) : Hp := mkHp 2 [(1, .row [.str x] 1)] [(1, [(1, 1)])]
section
variable {P : Program}
theorem str_to {fn0 : FuncId → List CV → Hp → Option (CV × Hp)} (hC : CallOk P fn0) {f : FuncId} {s t : List Nat} (hrun : isStr t (fn0 f [.str s] Hp.empty) = true) (u : ByteArray) (w : World) (hu : u.data.toList.map UInt8.toNat = s) :
    Calls P f #[.string u] w fun e w' => Below w.heap.size w w' ∧ ∃ v : ByteArray, e = .returned (.string v) ∧ v.data.toList.map UInt8.toNat = t := by
  unfold isStr at hrun
  split at hrun
  · rename_i c h hr
    rw [leqN_iff] at hrun
    subst hrun
    obtain ⟨g1, _, g2⟩ := hC f _ _ _ _ hr
    have H := empty_rel (fun _ => none) (fun id ri h => by cases h) w.heap.size w
    have := g2 (fun _ => none) w.heap.size w [.string u] H (Nat.le_refl _) (fun id _ _ => rfl) (VRels.cons (.str s u hu) (VRels.nil _))
    refine Calls.mono this ?_
    rintro e' w' ⟨x, ρ', rfl, k1, k2, k3⟩
    obtain ⟨v, rfl, hv⟩ := k3.strI
    exact ⟨k2.below H (Nat.le_refl _), v, rfl, hv⟩
  · cases hrun
theorem hOne_get (x : List Nat) {id : Nat} (hid : id < 32768) : (hOne x).get id = if 1 = id then some (.row [.str x] 1) else none := by
  unfold hOne
  rw [mkHp_get (fun p hp => by simp at hp; subst hp; show 1 < 32768; omega) hid, findA_cons]
  rfl
theorem hOne_fam (x : List Nat) {f : Nat} (hf : f < 32768) : (hOne x).fam f = if 1 = f then some [(1, 1)] else none := by
  unfold hOne
  rw [mkHp_fam (fun p hp => by simp at hp; subst hp; decide) hf, findA_cons]
  rfl
theorem hOne_next (x : List Nat) : (hOne x).next = 2 := mkHp_next _ _ _
def rhoOne (b : Nat) : Rn := fun id => if id = 1 then some ⟨b, 1⟩ else none
theorem hOne_rel (x : List Nat) {w : World} {b : Nat} {t : TypeId} {z : ByteArray} (hz : z.data.toList.map UInt8.toNat = x) (hb : w.heap[b]? = some (.cells #[.string z] t (0, 0))) : HRel (rhoOne b) (hOne x) b w := by
  refine ⟨fun id ri h => ?_, fun id c hid h => ?_, fun i j ci cj ri rj hi hj hij h1 h2 _ _ _ => ?_, fun i cs f hi h => ?_, fun f l p hf h hp => ?_, fun i cs f hi h => ?_⟩
  · unfold rhoOne at h
    split at h
    · omega
    · cases h
  · rw [hOne_get x hid] at h
    split at h
    · rename_i e
      subst e
      injection h with h
      subst h
      refine ⟨⟨b, 1⟩, rfl, Nat.le_refl _, #[.string z], ⟨t, (0, 0), hb, fun o ho => by simp⟩, rfl, Nat.le_refl _, fun j c hj => ?_⟩
      cases j with
      | zero =>
        simp at hj
        subst hj
        exact ⟨rfl, _, rfl, .str x z hz⟩
      | succ j => simp at hj
    · cases h
  · rw [hOne_get x hi] at h1
    rw [hOne_get x hj] at h2
    split at h1
    · split at h2
      · omega
      · cases h2
    · cases h1
  · rw [hOne_get x hi] at h
    split at h
    · rename_i e
      injection h with h
      injection h with h1 h2
      subst e h1 h2
      exact ⟨by omega, [(1, 1)], by rw [hOne_fam x (by omega)]; rfl, by simp⟩
    · cases h
  · rw [hOne_fam x hf] at h
    split at h
    · injection h with h
      subst h
      simp at hp
      subst hp
      decide
    · cases h
  · rw [hOne_get x hi] at h
    split at h
    · injection h with h
      injection h with h1 h2
      subst h2
      simp [rhoOne]
    · cases h
/-- a test of a text and one line that lies in a block of its own -/
theorem shows_to {fn0 : FuncId → List CV → Hp → Option (CV × Hp)} (hC : CallOk P fn0) {f : FuncId} {s x : List Nat} (hrun : isT (fn0 f [.str s, .sl 1 0 1 1] (hOne x)) = true) (u z : ByteArray) (w : World) (b : Nat) (t : TypeId) (hu : u.data.toList.map UInt8.toNat = s) (hz : z.data.toList.map UInt8.toNat = x)
    (hb : w.heap[b]? = some (.cells #[.string z] t (0, 0))) : Calls P f #[.string u, .slice (some ⟨b, 0, none⟩) 1 1] w fun e w' => e = .returned (.bool true) ∧ Below b w w' := by
  obtain ⟨h', hr⟩ := isT_some hrun
  obtain ⟨g1, _, g2⟩ := hC f _ _ _ _ hr
  have H := hOne_rel x hz hb
  have hlt : b ≤ w.heap.size := Nat.le_of_lt (Array.getElem?_eq_some_iff.1 hb).1
  have := g2 (rhoOne b) b w [.string u, .slice (some ⟨b, 0, none⟩) 1 1] H hlt (fun id h1 h2 => by
    rw [hOne_next] at h1
    unfold rhoOne
    rw [if_neg (by omega)]) (VRels.cons (.str s u hu) (VRels.cons (.sl 1 0 1 1 ⟨b, 1⟩ ⟨b, 0, none⟩ 1 rfl (Nat.le_refl _) (.inl ⟨rfl, by simp⟩)) (VRels.nil _)))
  refine Calls.mono this ?_
  rintro e w' ⟨v, ρ', rfl, h1, h2, h3⟩
  rw [h3.boolI]
  exact ⟨rfl, h2.below H hlt⟩
end
end Go.Proofs.YtkdlekonfjeidaaGreat.Eng
