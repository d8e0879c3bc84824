/-
  Contracts: beginnings of random orders; comparisons of lists of numbers.
-/
import Derived.Test.YtkdlekonfjeidaaRandSamp
namespace Go.Proofs.Ytkdlekonfjeidaa
set_option maxRecDepth 100000
open Go.ChangeShapes Go.WideShapes Go.ChangeAt Go.RowKit Go.Deep

theorem ints_take {w : World} {A : Option Addr} {n c : Nat} {l : List Int} (h : Ints w (.slice A n c) l) (k : Nat) (hk : k ≤ l.length) : Ints w (.slice A k c) (l.take k) := by
  obtain ⟨A', c', he, hlc, hc, hx⟩ := h
  injection he with e1 e2 e3
  subst e1 e2 e3
  refine ⟨A, c, by rw [List.length_take, Nat.min_eq_left hk], by rw [List.length_take]; omega, hc, fun h0 => ?_⟩
  rw [List.length_take] at h0
  obtain ⟨b, off, hA, hlt, hat⟩ := hx (by omega)
  refine ⟨b, off, hA, hlt, fun j hj => ?_⟩
  rw [List.length_take] at hj
  obtain ⟨cs, g1, g2, g3⟩ := hat j (by omega)
  exact ⟨cs, g1, g2, by rw [List.getElem_take]; exact g3⟩

def SmA (w : World) (l : List Int) (t : Int) (e : Ending) (w' : World) : Prop :=
  ∃ v, e = .returned (.tuple #[v, .int .i64 t]) ∧ Ints w' v l ∧ Below w.heap.size w w'

set_option maxHeartbeats 1000000 in
theorem impl_SampleOf (s n : Int) (k : Nat) (w : World) (h1 : -1 ≤ n) (h2 : n ≤ 10) (hk : k ≤ (shufA s n).1.length) (hl : (shufA s n).1.length ≤ 10) :
    Calls Try.prog 10 #[.int .i64 s, .int .i64 n, .int .i64 k] w (SmA w ((shufA s n).1.take k) (shufA s n).2) := by
  have HI := Lib.hid (shufA_i64 s n (by omega))
  have HC := Lib.hid (fun w => impl_ShuffleA s n w h1 h2)
  generalize shufA s n = p at *
  obtain ⟨l, t⟩ := p
  dsimp only at hk hl HI HC ⊢
  go_enter Try.func10, Try.ntmps10
  go_wp2_with fail
  refine (HC.out _).mono ?_
  rintro e w1 ⟨v, rfl, ho, hb⟩
  have HT := Lib.hid (show Ints w1 v l from Ints.of_own ho HI.out)
  have HB := Lib.hid hb
  rcases ho.2 with ⟨rfl, hz⟩ | ⟨g, cap, cur, rfl, hgb, hg, hnc, hcm, hcs, htake⟩
  · have hz' : l.length = 0 := hz
    obtain rfl : k = 0 := by omega
    clear ho hb hz hk
    dsimp only
    go_wp2_with fail
    go_ret2
    exact ⟨_, rfl, ints_take HT.out 0 (Nat.zero_le _), HB.out⟩
  · unfold maxLen at hcm
    have hlc : l.length ≤ cap := hnc
    clear ho hb hg hcs htake hnc
    dsimp only at HT ⊢
    go_wp2_with fail
    go_ret2
    exact ⟨_, rfl, by first | exact ints_take HT.out k hk | simpa using ints_take HT.out k hk, HB.out⟩

set_option maxHeartbeats 400000 in
theorem laws_sameInts (l m : List Int) (v u : Value) (w : World) (h : Ints w v l) (h' : Ints w u m) :
    Calls Try.prog 8 #[v, u] w fun e w' => e = .returned (.bool (eqL l m)) ∧ ∃ n, w' = w.drewN n := by
  obtain ⟨A, c, rfl, hlc, hm, HC⟩ := h.open_
  obtain ⟨A', c', rfl, hlc', hm', HC'⟩ := h'.open_
  clear h h'
  unfold maxLen at hm hm'
  by_cases hlen : l.length = m.length
  · have hL := Lib.hid hlen
    have hb1 : ((l.length : Int) != (m.length : Int)) = false := by simp [hlen]
    have hb2 : (l.length != m.length) = false := by simp [hlen]
    have hle : l.length ≤ m.length := by omega
    clear hlen
    go_enter Try.func8, Try.ntmps8
    go_wp2
    go_loopw [5] (fun i wr => ∃ k : Nat, k ≤ l.length ∧ i = .int .i64 k ∧ Hid (∀ j (h1 : j < l.length) (h2 : j < m.length), j < k → l[j] = m[j]) ∧ ∃ n, wr = w.drewN n) (fun i _ => l.length - (intOf i).toNat)
    case atStart => exact ⟨0, Nat.zero_le _, rfl, fun j h hj _ => absurd hj (by omega), 0, rfl⟩
    case round =>
      obtain ⟨k, hk, rfl, hn, n, rfl⟩ := hrel
      by_cases hlt : k < l.length
      · obtain ⟨b, off, rfl, hbl, hcell, hsz⟩ := HC.out k hlt
        have hlt' : k < m.length := by omega
        obtain ⟨b', off', rfl, hbl', hcell', hsz'⟩ := HC'.out k hlt'
        go_wp2
        go_quiet (fail)
        go_wp2
        · go_ret
          exact ⟨ret_bool (eqL_at k hlt hlt' (by have h9 : (l[k] != m[k]) = true := by assumption
                                                 simpa using h9)).symm, n + nq, by rw [World.drewN_drewN]⟩
        · have h9 : (l[k] != m[k]) = false := by assumption
          go_roundw
          case rel => exact ⟨k + 1, by omega, by go_num, fun j h1 h2 hj => by rcases Nat.lt_succ_iff_lt_or_eq.1 hj with h3 | rfl; exact hn.out j h1 h2 h3; simpa using h9, _, rfl⟩
          case measure => simp [intOf]; omega
      · go_wp2
        go_ret
        exact ⟨ret_bool (eqL_all hL.out (fun j h1 h2 => hn.out j h1 h2 (by omega))).symm, _, rfl⟩
  · have hb1 : ((l.length : Int) != (m.length : Int)) = true := by simp; omega
    have hb2 : (l.length != m.length) = true := by simp; omega
    go_enter Try.func8, Try.ntmps8
    go_wp2
    go_ret
    exact ⟨ret_bool (eqL_len hlen).symm, 0, rfl⟩
end Go.Proofs.Ytkdlekonfjeidaa
