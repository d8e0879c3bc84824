/-
  Contracts of the laws' helpers on slices of strings: sizes, copies, comparisons, marks.
-/
import Derived.Test.YtkdlekonfjeidaaGreatFind
import Derived.Test.YtkdlekonfjeidaaGreatMem
import Derived.Deep.RegionHeld3
namespace Go.Proofs.YtkdlekonfjeidaaGreat
set_option maxRecDepth 100000
open Go.ChangeShapes Go.WideShapes Go.ChangeAt Go.RowKit Go.Deep

/-- what a size function answers: what is left of 'left', or -1 -/
def szR (left : Int) (n : Nat) : Int := if (n : Int) ≤ left then left - n else -1
def szL (l : List (List UInt8)) : Nat := l.length + (l.map List.length).sum

theorem sum_take_succ (l : List (List UInt8)) (k : Nat) (h : k < l.length) : ((l.take (k + 1)).map List.length).sum = ((l.take k).map List.length).sum + l[k].length := by
  rw [List.take_succ_eq_append_getElem h, List.map_append, List.sum_append]; simp
theorem sum_take_le (l : List (List UInt8)) (k : Nat) : ((l.take k).map List.length).sum ≤ (l.map List.length).sum := by
  have h : (l.map List.length).sum = ((l.take k).map List.length).sum + ((l.drop k).map List.length).sum := by
    rw [← List.sum_append, ← List.map_append, List.take_append_drop]
  omega
theorem sum_take_all (l : List (List UInt8)) (k : Nat) (h : l.length ≤ k) : ((l.take k).map List.length).sum = (l.map List.length).sum := by
  rw [List.take_of_length_le h]

theorem szR_neg {left : Int} {n : Nat} (h : ¬ (n : Int) ≤ left) : szR left n = -1 := by unfold szR; rw [if_neg h]
theorem szR_pos {left : Int} {n : Nat} (h : (n : Int) ≤ left) : szR left n = left - n := by unfold szR; rw [if_pos h]
theorem szL_length (l : List (List UInt8)) : l.length ≤ szL l := by unfold szL; omega
theorem szL_mem (l : List (List UInt8)) (s : List UInt8) (h : s ∈ l) : s.length ≤ szL l := by
  unfold szL
  induction l with
  | nil => simp at h
  | cons x l ih =>
    simp only [List.mem_cons] at h
    simp only [List.length_cons, List.map_cons, List.sum_cons]
    rcases h with rfl | h
    · omega
    · have := ih h; omega


theorem eq_of_all {α : Type} {l m : List α} (hl : l.length = m.length) (h : ∀ j (h1 : j < l.length) (h2 : j < m.length), l[j] = m[j]) : l = m := List.ext_getElem hl h

/-- both lists are one -/
def eqL {α : Type} [DecidableEq α] (l m : List α) : Bool := decide (l = m)
theorem eqL_len {α : Type} [DecidableEq α] {l m : List α} (h : l.length ≠ m.length) : eqL l m = false := by simp [eqL]; rintro rfl; exact h rfl
theorem eqL_at {α : Type} [DecidableEq α] {l m : List α} (k : Nat) (h1 : k < l.length) (h2 : k < m.length) (h : l[k] ≠ m[k]) : eqL l m = false := by simp [eqL]; rintro rfl; exact h rfl
theorem eqL_all {α : Type} [DecidableEq α] {l m : List α} (hl : l.length = m.length) (h : ∀ j (h1 : j < l.length) (h2 : j < m.length), l[j] = m[j]) : eqL l m = true := by simp [eqL]; exact List.ext_getElem hl h

/-- string([]byte{x}) -/
theorem run_conv1 {P : Program} (src dst e : TypeId) (hs : P.underlying src = some (.slice e)) (he : P.underlying e = some (.int .u8)) (hd : P.underlying dst = some .string) (w : World) (x : Int) (h0 : 0 ≤ x) (h1 : x < 256) :
    (convert src dst (.slice (some ⟨w.heap.size, 0, none⟩) 1 1)).run P (w.alloc (.cells #[.int .u8 x] e)) = .ok (.string (str [UInt8.ofNat x.toNat])) (w.alloc (.cells #[.int .u8 x] e)) := by
  refine run_convert_bytes_back (P := P) (w.alloc (.cells #[.int .u8 x] e)) src dst e ⟨w.heap.size, 0, none⟩ 1 [UInt8.ofNat x.toNat] hs he hd (fun j hj => ?_)
  have : j = 0 := by simpa using hj
  subst this
  have hg : (w.alloc (.cells #[.int .u8 x] e)).heap[w.heap.size]? = some (.cells #[.int .u8 x] e) := heap_alloc_new w _
  have e1 : (UInt8.ofNat x.toNat).toNat = x.toNat := by rw [UInt8.toNat_ofNat']; omega
  simp only [List.getElem_cons_zero, e1, Int.toNat_of_nonneg h0]
  simp [World.cell?, Addr.add]
  rw [← Array.getElem?_eq_getElem, hg]
  rfl

def digs : Nat → Nat → List UInt8 → List UInt8
  | 0, _, out => out
  | f + 1, k, out => if k = 0 then out else digs f (k / 10) (UInt8.ofNat (48 + k % 10) :: out)
def markT (k : Nat) : List UInt8 := 109 :: digs k k []

theorem digs_step (f n : Nat) (o : List UInt8) (h : 0 < n) (hf : n ≤ f) : ∃ f', n / 10 ≤ f' ∧ digs f n o = digs f' (n / 10) (UInt8.ofNat (48 + n % 10) :: o) := by
  cases f with
  | zero => omega
  | succ f => exact ⟨f, by omega, by rw [digs, if_neg (by omega)]⟩
theorem digs_zero (f : Nat) (o : List UInt8) : digs f 0 o = o := by cases f <;> simp [digs]

def markL (k n : Nat) : List (List UInt8) := (List.range n).map fun i => markT (k + i)
theorem markL_length (k n : Nat) : (markL k n).length = n := by simp [markL]
theorem markL_at (k n i : Nat) (h : i < (markL k n).length) : (markL k n)[i] = markT (k + i) := by simp [markL]
theorem markL_succ (k n : Nat) : markL k (n + 1) = markL k n ++ [markT (k + n)] := by simp [markL, List.range_succ]

theorem set_mid {α : Type} (l : List α) (xs : List α) (j : Nat) (u : α) (hl : l.length = j) (hj : j < xs.length) : (l ++ xs.drop j).set j u = (l ++ [u]) ++ xs.drop (j + 1) := by
  subst hl
  rw [List.set_append_right _ _ (Nat.le_refl _), Nat.sub_self, List.drop_eq_getElem_cons hj, List.set_cons_zero]
  simp [List.append_assoc]

theorem eqL_self {α : Type} [DecidableEq α] (l : List α) : eqL l l = true := by simp [eqL]

theorem own_kept {w w' : World} {base : Nat} {e : TypeId} {size n : Nat} {v : Value} {xs : List Value} {row : Option Nat} (h : w.ownsRow base e size v n xs) (hg : w.grownBy w' row) (hne : v.ownBlock = none ∨ v.ownBlock ≠ row) : w'.ownsRow base e size v n xs := h.kept hg hne

theorem below_mark {B : Nat} {a w w' : World} {base : Nat} {e : TypeId} {size n : Nat} {v : Value} {xs : List Value} (hb : Below B a w) (h : w.ownsRow base e size v n xs) (hB : B ≤ base) (hBw : B ≤ w.heap.size) (hg : w.grownBy w' v.ownBlock) : Below B a w' :=
  hb.grown hg hBw (fun k hk => Nat.le_trans hB (h.lt k hk).1)

theorem markT_small (k : Nat) (h : k ≤ 4611686018427387904) : (markT k).length ≤ maxLen := by
  have : ∀ f n (o : List UInt8), n ≤ f → (digs f n o).length ≤ o.length + n := by
    intro f
    induction f with
    | zero => intro n o hn; simp [digs]
    | succ f ih =>
      intro n o hn
      rw [digs]
      split
      · omega
      · have := ih (n / 10) (UInt8.ofNat (48 + n % 10) :: o) (by omega)
        rw [List.length_cons] at this
        omega
  have h1 := this k k [] (Nat.le_refl _)
  simp at h1
  simp [markT]
  unfold maxLen
  omega
theorem markL_small (k n : Nat) (h : k + n ≤ 4611686018427387904) : ∀ s ∈ markL k n, s.length ≤ maxLen := by
  intro s hs
  simp only [markL, List.mem_map, List.mem_range] at hs
  obtain ⟨i, hi, rfl⟩ := hs
  exact markT_small _ (by omega)
theorem txts_marked {w : World} {base n k : Nat} {e : TypeId} {v : Value} (h : w.ownsRow base e 1 v n ((markL k n).map fun s => Value.string (str s))) (hk : k + n ≤ 4611686018427387904) : Txts w v (markL k n) :=
  Txts.of_own (by rw [markL_length]; exact h) (markL_small k n hk)
theorem Txts.small {w : World} {v : Value} {l : List (List UInt8)} (h : Txts w v l) : ∀ s ∈ l, s.length ≤ maxLen := fun s hs => by
  obtain ⟨A, c, rfl, hlc, hm, HC⟩ := h.open_
  obtain ⟨k, hk, rfl⟩ := List.getElem_of_mem hs
  obtain ⟨_, _, _, _, _, h5⟩ := HC.out k hk
  exact h5

end Go.Proofs.YtkdlekonfjeidaaGreat
