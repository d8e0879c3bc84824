/-
  Contracts: the comparisons of two lists of strings (spec.l4Strings, laws.sameTexts, impl.sameTexts) say whether they are one.
-/
import Derived.Test.YtjdfancbmjnjfaaGreatStrs
namespace Go.Proofs.YtjdfancbmjnjfaaGreat
set_option maxRecDepth 100000
open Go.ChangeShapes Go.WideShapes Go.ChangeAt Go.RowKit Go.Deep

set_option maxHeartbeats 400000 in
theorem spec_l4Strings (l m : List (List UInt8)) (v u : Value) (w : World) (h : Txts w v l) (h' : Txts w u m) :
    Calls Tryz.prog 34 #[v, u] w fun e w' => e = .returned (.bool (eqL l m)) ∧ ∃ n, w' = w.drewN n := by
  obtain ⟨A, c, rfl, hlc, hm, HC⟩ := h.open_
  obtain ⟨A', c', rfl, hlc', hm', HC'⟩ := h'.open_
  clear h h'
  unfold maxLen at hm hm'
  by_cases hlen : l.length = m.length
  · have hL := Lib.hid hlen
    have hb1 : ((l.length : Int) != (m.length : Int)) = false := by simp [hlen]
    have hb2 : (l.length != m.length) = false := by simp [hlen]
    have hle : l.length ≤ m.length := by omega
    clear hlen
    go_enter Tryz.func34, Tryz.ntmps34
    go_wp2
    go_loopw [5] (fun i wr => ∃ k : Nat, k ≤ l.length ∧ i = .int .i64 k ∧ Hid (∀ j (h1 : j < l.length) (h2 : j < m.length), j < k → l[j] = m[j]) ∧ ∃ n, wr = w.drewN n) (fun i _ => l.length - (intOf i).toNat)
    case atStart => exact ⟨0, Nat.zero_le _, rfl, fun j h hj _ => absurd hj (by omega), 0, rfl⟩
    case round =>
      obtain ⟨k, hk, rfl, hn, n, rfl⟩ := hrel
      by_cases hlt : k < l.length
      · obtain ⟨b, off, rfl, hbl, hcell, hsz⟩ := HC.out k hlt
        have hlt' : k < m.length := by omega
        obtain ⟨b', off', rfl, hbl', hcell', hsz'⟩ := HC'.out k hlt'
        go_wp2
        go_quiet (fail)
        go_wp2
        · go_ret
          exact ⟨ret_bool (eqL_at k hlt hlt' (by have h9 : (!l[k] == m[k]) = true := by assumption
                                                 simpa using h9)).symm, n + nq, by rw [World.drewN_drewN]⟩
        · have h9 : (!l[k] == m[k]) = false := by assumption
          go_roundw
          case rel => exact ⟨k + 1, by omega, by go_num, fun j h1 h2 hj => by rcases Nat.lt_succ_iff_lt_or_eq.1 hj with h3 | rfl; exact hn.out j h1 h2 h3; simpa using h9, _, rfl⟩
          case measure => simp [intOf]; omega
      · go_wp2
        go_ret
        exact ⟨ret_bool (eqL_all hL.out (fun j h1 h2 => hn.out j h1 h2 (by omega))).symm, _, rfl⟩
  · have hb1 : ((l.length : Int) != (m.length : Int)) = true := by simp; omega
    have hb2 : (l.length != m.length) = true := by simp; omega
    go_enter Tryz.func34, Tryz.ntmps34
    go_wp2
    go_ret
    exact ⟨ret_bool (eqL_len hlen).symm, 0, rfl⟩

set_option maxHeartbeats 400000 in
theorem impl_sameTexts (l m : List (List UInt8)) (v u : Value) (w : World) (h : Txts w v l) (h' : Txts w u m) :
    Calls Tryz.prog 65 #[v, u] w fun e w' => e = .returned (.bool (eqL l m)) ∧ ∃ n, w' = w.drewN n := by
  obtain ⟨A, c, rfl, hlc, hm, HC⟩ := h.open_
  obtain ⟨A', c', rfl, hlc', hm', HC'⟩ := h'.open_
  clear h h'
  unfold maxLen at hm hm'
  by_cases hlen : l.length = m.length
  · have hL := Lib.hid hlen
    have hb1 : ((l.length : Int) != (m.length : Int)) = false := by simp [hlen]
    have hb2 : (l.length != m.length) = false := by simp [hlen]
    have hle : l.length ≤ m.length := by omega
    clear hlen
    go_enter Tryz.func65, Tryz.ntmps65
    go_wp2
    go_loopw [13] (fun i wr => ∃ k : Nat, k ≤ l.length ∧ i = .int .i64 k ∧ Hid (∀ j (h1 : j < l.length) (h2 : j < m.length), j < k → l[j] = m[j]) ∧ ∃ n, wr = w.drewN n) (fun i _ => l.length - (intOf i).toNat)
    case atStart => exact ⟨0, Nat.zero_le _, rfl, fun j h hj _ => absurd hj (by omega), 0, rfl⟩
    case round =>
      obtain ⟨k, hk, rfl, hn, n, rfl⟩ := hrel
      by_cases hlt : k < l.length
      · obtain ⟨b, off, rfl, hbl, hcell, hsz⟩ := HC.out k hlt
        have hlt' : k < m.length := by omega
        obtain ⟨b', off', rfl, hbl', hcell', hsz'⟩ := HC'.out k hlt'
        go_wp2
        go_quiet (fail)
        go_wp2
        · go_ret
          exact ⟨ret_bool (eqL_at k hlt hlt' (by have h9 : (!l[k] == m[k]) = true := by assumption
                                                 simpa using h9)).symm, n + nq, by rw [World.drewN_drewN]⟩
        · have h9 : (!l[k] == m[k]) = false := by assumption
          go_roundw
          case rel => exact ⟨k + 1, by omega, by go_num, fun j h1 h2 hj => by rcases Nat.lt_succ_iff_lt_or_eq.1 hj with h3 | rfl; exact hn.out j h1 h2 h3; simpa using h9, _, rfl⟩
          case measure => simp [intOf]; omega
      · go_wp2
        go_ret
        exact ⟨ret_bool (eqL_all hL.out (fun j h1 h2 => hn.out j h1 h2 (by omega))).symm, _, rfl⟩
  · have hb1 : ((l.length : Int) != (m.length : Int)) = true := by simp; omega
    have hb2 : (l.length != m.length) = true := by simp; omega
    go_enter Tryz.func65, Tryz.ntmps65
    go_wp2
    go_ret
    exact ⟨ret_bool (eqL_len hlen).symm, 0, rfl⟩

end Go.Proofs.YtjdfancbmjnjfaaGreat
