/-
  The targets of a segment's jumps: the program's.
-/
import Derived.Test.YtjdfancbmjnjfaaGreatJumps
import Derived.Test.YtjdfancbmjnjfaaGreatVecOk
namespace Go.Proofs.YtjdfancbmjnjfaaGreat
set_option maxRecDepth 100000
open Go.ChangeShapes Go.WideShapes Go.ChangeAt Go.RowKit Go.Deep
set_option linter.unusedVariables false

def posF (p : Nat → Bool) (n : Nat) : List Int := ((List.range n).filter fun (k : Nat) => p k).map fun (n : Nat) => (n : Int)
theorem posF_succ (p : Nat → Bool) (n : Nat) : posF p (n + 1) = posF p n ++ (if p n then [(n : Int)] else []) := by
  unfold posF
  rw [List.range_succ, List.filter_append, List.map_append]
  congr 1
  by_cases h : p n = true <;> simp [h]

def ledB (l : List InstrD) (j : Nat) (pc : Nat) : Bool := (l.take j).any (hitB pc)
def ledL (l : List InstrD) (n j : Nat) : List Value := ((List.range n).map (ledB l j)).map fun b => Value.bool b
theorem ledL_length (l : List InstrD) (n j : Nat) : (ledL l n j).length = n := by simp [ledL]
theorem ledL_zero (l : List InstrD) (n : Nat) : ledL l n 0 = (madeCells (Value.bool false).cells n).toList := by
  apply List.ext_getElem
  · simp [ledL, madeCells]
  · intro i h1 h2
    simp [ledL, madeCells, ledB, Value.cells, Nat.mod_one]
theorem ledL_same (l : List InstrD) (n j : Nat) (hj : j < l.length) (h : ∀ pc : Nat, pc < n → hitB pc l[j] = false) : ledL l n (j + 1) = ledL l n j := by
  apply List.ext_getElem
  · simp [ledL]
  · intro i h1 h2
    have hi : i < n := by simpa [ledL] using h1
    have := any_succ (hitB i) l j hj
    simp [ledL, ledB, this, h i hi]
theorem ledL_set (l : List InstrD) (n j a : Nat) (hj : j < l.length) (ha : a < n) (hJ : isJ l[j].op = true) (hA : l[j].arg = a) : ledL l n (j + 1) = (ledL l n j).set a (Value.bool true) := by
  apply List.ext_getElem
  · simp [ledL]
  · intro i h1 h2
    have hi : i < n := by simpa [ledL] using h1
    have := any_succ (hitB i) l j hj
    rw [List.getElem_set]
    by_cases h : a = i
    · subst h
      simp [ledL, ledB, this, hitB, hJ, hA]
    · have h3 : hitB i l[j] = false := by simp [hitB, hJ, hA]; omega
      simp [ledL, ledB, this, h, h3]

theorem Blk.own' {W : World} {g : Nat} {e : TypeId} {cs : List Value} {size n : Nat} (h : Blk W g e cs) (hl : cs.length = n * size) (hn : n ≤ maxLen) : W.ownsRow 0 e size (.slice (some ⟨g, 0, none⟩) n n) n cs :=
  ⟨hl, .inr ⟨g, n, cs.toArray, rfl, Nat.zero_le _, h, Nat.le_refl _, hn, by simpa using hl, by rw [← hl]; simp⟩⟩
theorem InstrR.slices {w : World} {cs : List Value} {d : InstrD} (h : InstrR w cs d) : ∃ (A4 : Option Addr) (c4 : Nat) (A1 : Option Addr) (c1 : Nat) (A2 : Option Addr) (c2 : Nat) (A3 : Option Addr) (c3 : Nat) (A5 : Option Addr) (c5 : Nat) (A6 : Option Addr) (c6 : Nat), cs = [.int .i64 d.op, .int .i64 d.arg, .int .i64 d.count, .string (str d.text), .slice A4 d.labels.length c4, .int .i64 d.value.kind, .slice A1 d.value.items.length c1, .slice A2 d.value.parts.length c2, .slice A3 d.value.names.length c3, .slice A5 d.value.cls.length c5, .slice A6 d.value.levels.length c6, .int .i64 d.value.code, .int .i64 d.value.env] := by
  obtain ⟨v4, v51, v52, v53, v54, v55, rfl, _, _, _, _, t4, t5⟩ := h
  obtain ⟨A4, c4, rfl, _⟩ := Txts.open_ t4
  obtain ⟨n, A1, c1, A2, c2, A3, c3, A5, c5, A6, c6, he, _⟩ := VecR.open_ t5
  simp only [List.cons.injEq, and_true, true_and] at he
  obtain ⟨rfl, rfl, rfl, rfl, rfl⟩ := he
  exact ⟨_, _, _, _, _, _, _, _, _, _, _, _, rfl⟩

end Go.Proofs.YtjdfancbmjnjfaaGreat
