/-
  Opening a law's arguments: what can be read as data lies in memory as slices of strings, ints and so on.
-/
import Derived.Test.YtconhpilbndpkaaMem
namespace Go.Proofs.Ytconhpilbndpkaa
set_option maxRecDepth 100000
open Go.ChangeShapes Go.WideShapes Go.ChangeAt Go.RowKit Go.Deep
open Go.ChangeMaps (open_string shut_string)

theorem cells_int : Try.prog.cellsOf 3 = 1 := by kernel_rfl
theorem cells_string : Try.prog.cellsOf 9 = 1 := by kernel_rfl
theorem cells_bool : Try.prog.cellsOf 4 = 1 := by kernel_rfl

section
variable {H : Type} {enc : TypeId × Value → H} {P : Program} {w : World} {base : Nat} {spare : Nat → Bool} {held : Bool}

theorem build_list {α : Type} (n : Nat) (p : Nat → α → Prop) (h : ∀ i, i < n → ∃ x, p i x) : ∃ l : List α, l.length = n ∧ ∀ i (hi : i < l.length), p i l[i] := by
  induction n with
  | zero => exact ⟨[], rfl, fun i hi => absurd hi (by simp)⟩
  | succ n ih =>
    obtain ⟨l, hl, hp⟩ := ih (fun i hi => h i (by omega))
    obtain ⟨x, hx⟩ := h n (by omega)
    refine ⟨l ++ [x], by simp [hl], fun i hi => ?_⟩
    by_cases hi' : i < l.length
    · rw [List.getElem_append_left hi']; exact hp i hi'
    · have : i = n := by simp at hi; omega
      subst this
      rw [List.getElem_append_right (by omega)]
      simpa using hx

theorem spot_none {w : World} {a : Addr} {v : Value} (h : w.cell? a = some v) : a.spot = none := by
  unfold World.cell? at h
  split at h
  · split at h
    · cases h
    · rename_i hs; simpa using hs
  · cases h

theorem open_slr {α : Type} {t e : TypeId} {size fuel : Nat} {cs : List Value} {x : DataW H × List MemPlace} (ht : P.underlying t = some (.slice e)) (hc : P.cellsOf e = size) (hsz : 0 < size) (R : List Value → α → Prop)
    (hR : ∀ n cs d pl, n < fuel → DataW.trod enc P w base spare held n e cs = some (d, pl) → ∃ x, R cs x)
    (h : DataW.trod enc P w base spare held fuel t cs = some x) : ∃ v l, cs = [v] ∧ SlR w size R v l := by
  rcases DataW.trod_slice ht h with ⟨rfl, _⟩ | ⟨a, len, cap, elems, rest, n, hfu, rfl, rfl, hb, hl, hm, hlen, hel, hsp, hns⟩
  · exact ⟨_, [], rfl, SlR.nil_ _ _ _⟩
  · have hcell : ∀ i, i < len → ∃ y : List Value × α, y.1.length = size ∧ R y.1 y.2 ∧ ∀ j, j < size → w.cell? ((a.add (i * size)).add j) = y.1[j]? := by
      intro i hi
      have h1 := hel i hi
      rw [hc] at h1
      have hy : elems[i]? = some (elems[i]'(by omega)) := List.getElem?_eq_getElem (by omega)
      rw [hy, Option.bind_eq_some_iff] at h1
      obtain ⟨cs', h2, h3⟩ := h1
      obtain ⟨x, hx⟩ := hR n cs' (elems[i]'(by omega)).1 (elems[i]'(by omega)).2 (by omega) h3
      obtain ⟨_, h4, h5⟩ := World.cells?_some h2
      exact ⟨(cs', x), h4, hx, h5⟩
    obtain ⟨l, hl', hp⟩ := build_list len _ hcell
    refine ⟨_, l.map (·.2), rfl, some a, cap, by simp [hl'], by simp; omega, hm, fun h0 => ?_⟩
    simp at h0
    obtain ⟨b, off, spot⟩ := a
    obtain ⟨g1, g2, g3⟩ := hp 0 h0
    have h6 := g3 0 hsz
    rw [List.getElem?_eq_getElem (by omega)] at h6
    have hsn : spot = none := by
      have := spot_none h6
      simpa [Addr.add] using this
    subst hsn
    rw [add_plain, add_plain] at h6
    refine ⟨b, off, rfl, World.block_lt_of_cell? w _ h6, fun k hk => ?_⟩
    simp at hk
    obtain ⟨q1, q2, q3⟩ := hp k hk
    refine ⟨l[k].1, q1, fun j u hu => ?_, by simpa using q2⟩
    have hj : j < size := by have := (List.getElem?_eq_some_iff.1 hu).1; omega
    have := q3 j hj
    rw [add_plain, add_plain, hu] at this
    exact this

theorem open_str {t : TypeId} {n : Nat} {cs : List Value} {x : DataW H × List MemPlace} (ht : P.underlying t = some .string) (h : DataW.trod enc P w base spare held n t cs = some x) : ∃ s, StrR cs s := by
  obtain ⟨s, rfl, _, hs⟩ := DataW.trod_string ht h
  obtain ⟨l, rfl⟩ := exists_str s
  exact ⟨l, rfl, by rwa [str_size] at hs⟩
theorem i64_of_wf {n : Int} (h : (Lit.int .i64 n).wf = true) : I64 n := by
  have h' : -9223372036854775808 ≤ n ∧ n ≤ 9223372036854775807 := by simpa [Lit.wf, IntKind.min, IntKind.max, IntKind.signed, IntKind.bits] using h
  exact h'
theorem open_i64 {t : TypeId} {n : Nat} {cs : List Value} {x : DataW H × List MemPlace} (ht : P.underlying t = some (.int .i64)) (h : DataW.trod enc P w base spare held n t cs = some x) : ∃ s, IntR cs s := by
  obtain ⟨s, rfl, _, hs⟩ := DataW.trod_int ht h
  exact ⟨s, rfl, i64_of_wf hs⟩
theorem open_boo {t : TypeId} {n : Nat} {cs : List Value} {x : DataW H × List MemPlace} (ht : P.underlying t = some .bool) (h : DataW.trod enc P w base spare held n t cs = some x) : ∃ s, BoolR cs s := by
  obtain ⟨s, rfl, _⟩ := DataW.trod_bool ht h
  exact ⟨s, rfl⟩

/-- the fields of a struct, each with its own cells -/
theorem open_field {t : TypeId} {fs : Array Field} {fuel : Nat} {cs : List Value} {x : DataW H × List MemPlace} (ht : P.underlying t = some (.struct fs)) (h : DataW.trod enc P w base spare held fuel t cs = some x) :
    cs.length = P.cellsOf t ∧ ∃ n, n + 1 = fuel ∧ ∀ (j : Nat) (f : Field), fs[j]? = some f → ∃ y, DataW.trod enc P w base spare held n f.type ((cs.drop f.offset).take (P.cellsOf f.type)) = some y := by
  obtain ⟨xs, n, hn, _, hlen, hxl, hg⟩ := DataW.trod_struct ht h
  refine ⟨hlen, n, hn.symm, fun j f hj => ?_⟩
  have hjl : j < fs.size := (Array.getElem?_eq_some_iff.1 hj).1
  exact ⟨_, (hg j f hj).trans (List.getElem?_eq_getElem (by omega))⟩

theorem open_txts {t e : TypeId} {v : Value} {d : DataW H} {p : List MemPlace} (ht : P.underlying t = some (.slice e)) (he : P.underlying e = some .string) (hc : P.cellsOf e = 1) {r : Reach} {b0 : Nat} (hv : Value.okWide P w r b0 t v) (h : DataW.Trod enc P w base spare held t v d p) : ∃ l, Txts w v l := by
  obtain ⟨a, len, cap, rfl⟩ := okWide_slice ht hv
  obtain ⟨fuel, hf⟩ := h
  obtain ⟨v, l, hcs, hl⟩ := open_slr ht hc (by omega) StrR (fun _ _ _ _ _ h => open_str he h) hf
  have : v = .slice a len cap := by simpa [Value.cells] using hcs.symm
  subst this
  exact ⟨l, hl⟩
end
end Go.Proofs.Ytconhpilbndpkaa
