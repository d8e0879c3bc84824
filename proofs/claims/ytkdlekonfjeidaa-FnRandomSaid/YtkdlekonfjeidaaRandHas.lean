/-
  Contracts: the reference's beginnings of random orders; what a list of numbers has; what is drawn.
-/
import Derived.Test.YtkdlekonfjeidaaRandInts
import Derived.Test.YtkdlekonfjeidaaDraw
namespace Go.Proofs.Ytkdlekonfjeidaa
set_option maxRecDepth 100000
open Go.ChangeShapes Go.WideShapes Go.ChangeAt Go.RowKit Go.Deep

set_option maxHeartbeats 400000 in
theorem laws_has (l : List Int) (x : Int) (v : Value) (w : World) (h : Ints w v l) (hx : x ∈ l) :
    Calls Try.prog 9 #[v, .int .i64 x] w fun e w' => e = .returned (.bool true) ∧ w = w' := by
  obtain ⟨A, c, rfl, hlc, hm, HC⟩ := h.open_
  have HX := Lib.hid hx
  clear h hx
  unfold maxLen at hm
  go_enter Try.func9, Try.ntmps9
  go_wp2
  go_loop [5] (fun i => ∃ k : Nat, k ≤ l.length ∧ i = .int .i64 k ∧ Hid (∀ j (h : j < l.length), j < k → l[j] ≠ x)) (fun i => l.length - (intOf i).toNat)
  case atStart => exact ⟨0, Nat.zero_le _, rfl, fun j h hj => absurd hj (by omega)⟩
  case round =>
    obtain ⟨k, hk, rfl, hn⟩ := hrel
    by_cases hlt : k < l.length
    · obtain ⟨b, off, rfl, hbl, hcell, _⟩ := HC.out k hlt
      by_cases he : l[k] = x
      · have hb1 : (l[k] == x) = true := by simp [he]
        go_wp2
        go_ret
        exact ⟨rfl, rfl⟩
      · have hb1 : (l[k] == x) = false := by simp [he]
        go_wp2
        go_round
        case rel => exact ⟨k + 1, by omega, by go_num, fun j h hj => by rcases Nat.lt_succ_iff_lt_or_eq.1 hj with h1 | rfl; exact hn.out j h h1; exact he⟩
        case measure => simp [intOf]; omega
    · exfalso
      obtain ⟨j, hj, rfl⟩ := List.getElem_of_mem HX.out
      exact hn.out j hj (by omega) rfl

set_option maxHeartbeats 1000000 in
theorem spec_SampleOf (s n : Int) (k : Nat) (w : World) (h1 : -1 ≤ n) (h2 : n ≤ 10) (hk : k ≤ (shufA s n).1.length) (hl : (shufA s n).1.length ≤ 10) :
    Calls Try.prog 11 #[.int .i64 s, .int .i64 n, .int .i64 k] w (SmA w ((shufA s n).1.take k) (shufA s n).2) := by
  have HI := Lib.hid (shufA_i64 s n (by omega))
  have HC := Lib.hid (fun w => spec_ShuffleA s n w h1 h2)
  generalize shufA s n = p at *
  obtain ⟨l, t⟩ := p
  dsimp only at hk hl HI HC ⊢
  go_enter Try.func11, Try.ntmps11
  go_wp2_with fail
  refine (HC.out _).mono ?_
  rintro e w1 ⟨v, rfl, ho, hb⟩
  have HT := Lib.hid (show Ints w1 v l from Ints.of_own ho HI.out)
  have HB := Lib.hid hb
  have HTI := Lib.hid (show ∀ x ∈ l.take k, I64 x from fun x hx => HI.out x (List.mem_of_mem_take hx))
  rcases ho.2 with ⟨rfl, hz⟩ | ⟨g, cap, cur, rfl, hgb, hg, hnc, hcm, hcs, htake⟩
  · have hz' : l.length = 0 := hz
    obtain rfl : k = 0 := by omega
    have hln : l = [] := List.eq_nil_of_length_eq_zero hz'
    subst hln
    clear ho hb hz hk
    dsimp only
    go_wp2_with fail
    refine (spec_l1In_i 0 0 0 _).mono ?_
    rw [show (decide ((0 : Int) ≤ 0) && decide ((0 : Int) ≤ 0)) = true by decide]
    rintro e w1' ⟨rfl, rfl⟩
    have HS : Src (w1.alloc (.cells #[] 3)) 1 none 0 [] := ⟨rfl, fun u hu => (by cases hu), fun h => absurd h (by omega)⟩
    go_wp2_with (at_builtin; go_must (refine wpList_cat rfl _ _ 26 rfl w1.heap.size 3 (.int .i64 0) 1 8 Try.underlying26 info_int rfl (by decide) _ _ 0 [] rfl (by exact owns_new w1 _ 1 0 _ 0 [] rfl (Nat.le_refl _) (by unfold maxLen; omega) rfl rfl) _ 0 _ _ rfl (by exact HS) (by omega) (by omega) (by simp) ?_); intro v1 w2 ho1 _ _ hb1)
    go_ret2
    exact ⟨_, rfl, Ints.of_own (l := []) (by simpa using ho1) (fun x hx => by cases hx), HB.out.trans ((((Below.refl _ _).alloc (Nat.le_refl _) _).trans hb1).mono HB.out.size)⟩
  · unfold maxLen at hcm
    have hlc : l.length ≤ cap := hnc
    have hcell : ∀ q, (hq : q < l.length) → w1.cell? ⟨g, q, none⟩ = some (.int .i64 l[q]) := fun q hq => by
      have h9 := ho.cellAt q (by show q < l.length * 1; omega)
      rw [h9, List.getElem?_map, List.getElem?_eq_getElem hq]; rfl
    have hglt : g < w1.heap.size := (Array.getElem?_eq_some_iff.1 hg).1
    have HS := Lib.hid (show Src (w1.alloc (.cells #[] 3)) 1 (some ⟨g, 0, none⟩) k ((l.take k).map iv) from by
      refine ⟨by simp; omega, fun u hu => by (obtain ⟨x, _, rfl⟩ := List.mem_map.1 hu; rfl), fun _ => ⟨g, 0, rfl, fun q u hu => ?_⟩⟩
      have hq : q < k := by have := (List.getElem?_eq_some_iff.1 hu).1; simp at this; omega
      have h9 := (World.cell?_alloc_lt w1 (.cells #[] 3) ⟨g, 0 + q, none⟩ hglt).trans (by simpa using hcell q (by omega))
      rw [h9]
      rw [List.getElem?_map, List.getElem?_take, if_pos hq, List.getElem?_eq_getElem (by omega)] at hu
      exact hu)
    clear ho hb hg hcs htake hnc hcell
    dsimp only at HT ⊢
    go_wp2_with fail
    refine (spec_l1In_i k 0 l.length _).mono ?_
    rw [show (decide ((0 : Int) ≤ k) && decide ((k : Int) ≤ l.length)) = true by simp; omega]
    rintro e w1' ⟨rfl, rfl⟩
    go_wp2_with (at_builtin; go_must (refine wpList_cat rfl _ _ 26 rfl w1.heap.size 3 (.int .i64 0) 1 8 Try.underlying26 info_int rfl (by decide) _ _ 0 [] rfl (by exact owns_new w1 _ 1 0 _ 0 [] rfl (Nat.le_refl _) (by unfold maxLen; omega) rfl rfl) _ k _ _ rfl (by exact HS.out) (by omega) (by omega) (by simp) ?_); intro v1 w2 ho1 _ _ hb1)
    go_ret2
    exact ⟨_, rfl, Ints.of_own (l := l.take k) (by have h9 := ho1; simp only [List.nil_append, Nat.zero_add] at h9; rw [List.length_take, Nat.min_eq_left hk]; exact h9) HTI.out, HB.out.trans ((((Below.refl _ _).alloc (Nat.le_refl _) _).trans hb1).mono HB.out.size)⟩

def RetDS (w : World) (e : Ending) (w' : World) : Prop := ∃ s n : Int, e = .returned (.tuple #[.int .i64 s, .int .i64 n]) ∧ -1 ≤ n ∧ n ≤ 10 ∧ I64 s ∧ Below w.heap.size w w'
/-- a state, or a number that is none -/
def DrawsSt (g : Nat) (v : Value) (l : List Nat) (w : World) (e : Ending) (w' : World) : Prop := ∃ s : Int, e = .returned (.int .i64 s) ∧ I64 s ∧ Cur w' g v l ∧ Only g w w'
end Go.Proofs.Ytkdlekonfjeidaa
