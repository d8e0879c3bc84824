/-
  Merged texts: Same, StoreOk1, StoreOk2.
-/
import Derived.Test.YtejieacdfjpfnaaGreatKBase
import Derived.Test.YtejieacdfjpfnaaGreatKSt
import Derived.Test.YtejieacdfjpfnaaGreatKOk5
import Derived.Deep.DeepCutAuto
import Derived.Deep.Light
namespace Go.Proofs.YtejieacdfjpfnaaGreat
set_option maxRecDepth 100000
set_option maxRecDepth 100000
open Go.ChangeShapes Go.WideShapes Go.ChangeAt Go.RowKit Go.Deep

set_option maxHeartbeats 400000 in
theorem spec_l4Strings (l m : List (List UInt8)) (v u : Value) (w : World) (h : Txts w v l) (h' : Txts w u m) :
    Calls Tryz.prog 132 #[v, u] w fun e w' => e = .returned (.bool (eqL l m)) ∧ ∃ n, w' = w.drewN n := by
  obtain ⟨A, c, rfl, hlc, hm, HC⟩ := h.open_
  obtain ⟨A', c', rfl, hlc', hm', HC'⟩ := h'.open_
  clear h h'
  unfold maxLen at hm hm'
  by_cases hlen : l.length = m.length
  · have hL := Lib.hid hlen
    have hb1 : ((l.length : Int) != (m.length : Int)) = false := by simp [hlen]
    have hb2 : (l.length != m.length) = false := by simp [hlen]
    have hle : l.length ≤ m.length := by omega
    clear hlen
    go_enter Tryz.func132, Tryz.ntmps132
    go_wp2
    go_loopw [5] (fun i wr => ∃ k : Nat, k ≤ l.length ∧ i = .int .i64 k ∧ Hid (∀ j (h1 : j < l.length) (h2 : j < m.length), j < k → l[j] = m[j]) ∧ ∃ n, wr = w.drewN n) (fun i _ => l.length - (intOf i).toNat)
    case atStart => exact ⟨0, Nat.zero_le _, rfl, fun j h hj _ => absurd hj (by omega), 0, rfl⟩
    case round =>
      obtain ⟨k, hk, rfl, hn, n, rfl⟩ := hrel
      by_cases hlt : k < l.length
      · obtain ⟨b, off, rfl, hbl, hcell, hsz⟩ := HC.out k hlt
        have hlt' : k < m.length := by omega
        obtain ⟨b', off', rfl, hbl', hcell', hsz'⟩ := HC'.out k hlt'
        go_wp2
        go_quiet (fail)
        go_wp2
        · go_ret
          exact ⟨ret_bool (eqL_at k hlt hlt' (by have h9 : (!l[k] == m[k]) = true := by assumption
                                                 simpa using h9)).symm, n + nq, by rw [World.drewN_drewN]⟩
        · have h9 : (!l[k] == m[k]) = false := by assumption
          go_roundw
          case rel => exact ⟨k + 1, by omega, by go_num, fun j h1 h2 hj => by rcases Nat.lt_succ_iff_lt_or_eq.1 hj with h3 | rfl; exact hn.out j h1 h2 h3; simpa using h9, _, rfl⟩
          case measure => simp [intOf]; omega
      · go_wp2
        go_ret
        exact ⟨ret_bool (eqL_all hL.out (fun j h1 h2 => hn.out j h1 h2 (by omega))).symm, _, rfl⟩
  · have hb1 : ((l.length : Int) != (m.length : Int)) = true := by simp; omega
    have hb2 : (l.length != m.length) = true := by simp; omega
    go_enter Tryz.func132, Tryz.ntmps132
    go_wp2
    go_ret
    exact ⟨ret_bool (eqL_len hlen).symm, 0, rfl⟩

set_option maxHeartbeats 400000 in
theorem impl_sameTexts (l m : List (List UInt8)) (v u : Value) (w : World) (h : Txts w v l) (h' : Txts w u m) :
    Calls Tryz.prog 163 #[v, u] w fun e w' => e = .returned (.bool (eqL l m)) ∧ ∃ n, w' = w.drewN n := by
  obtain ⟨A, c, rfl, hlc, hm, HC⟩ := h.open_
  obtain ⟨A', c', rfl, hlc', hm', HC'⟩ := h'.open_
  clear h h'
  unfold maxLen at hm hm'
  by_cases hlen : l.length = m.length
  · have hL := Lib.hid hlen
    have hb1 : ((l.length : Int) != (m.length : Int)) = false := by simp [hlen]
    have hb2 : (l.length != m.length) = false := by simp [hlen]
    have hle : l.length ≤ m.length := by omega
    clear hlen
    go_enter Tryz.func163, Tryz.ntmps163
    go_wp2
    go_loopw [13] (fun i wr => ∃ k : Nat, k ≤ l.length ∧ i = .int .i64 k ∧ Hid (∀ j (h1 : j < l.length) (h2 : j < m.length), j < k → l[j] = m[j]) ∧ ∃ n, wr = w.drewN n) (fun i _ => l.length - (intOf i).toNat)
    case atStart => exact ⟨0, Nat.zero_le _, rfl, fun j h hj _ => absurd hj (by omega), 0, rfl⟩
    case round =>
      obtain ⟨k, hk, rfl, hn, n, rfl⟩ := hrel
      by_cases hlt : k < l.length
      · obtain ⟨b, off, rfl, hbl, hcell, hsz⟩ := HC.out k hlt
        have hlt' : k < m.length := by omega
        obtain ⟨b', off', rfl, hbl', hcell', hsz'⟩ := HC'.out k hlt'
        go_wp2
        go_quiet (fail)
        go_wp2
        · go_ret
          exact ⟨ret_bool (eqL_at k hlt hlt' (by have h9 : (!l[k] == m[k]) = true := by assumption
                                                 simpa using h9)).symm, n + nq, by rw [World.drewN_drewN]⟩
        · have h9 : (!l[k] == m[k]) = false := by assumption
          go_roundw
          case rel => exact ⟨k + 1, by omega, by go_num, fun j h1 h2 hj => by rcases Nat.lt_succ_iff_lt_or_eq.1 hj with h3 | rfl; exact hn.out j h1 h2 h3; simpa using h9, _, rfl⟩
          case measure => simp [intOf]; omega
      · go_wp2
        go_ret
        exact ⟨ret_bool (eqL_all hL.out (fun j h1 h2 => hn.out j h1 h2 (by omega))).symm, _, rfl⟩
  · have hb1 : ((l.length : Int) != (m.length : Int)) = true := by simp; omega
    have hb2 : (l.length != m.length) = true := by simp; omega
    go_enter Tryz.func163, Tryz.ntmps163
    go_wp2
    go_ret
    exact ⟨ret_bool (eqL_len hlen).symm, 0, rfl⟩

end Go.Proofs.YtejieacdfjpfnaaGreat
namespace Go.Proofs.YtejieacdfjpfnaaGreat
set_option maxRecDepth 100000
open Go.ChangeShapes Go.WideShapes Go.ChangeAt Go.RowKit Go.Deep

def envU (s : StoreD) (e : Int) : Bool := decide (0 ≤ e) && ((s.envs[e.toNat]?).map EnvD.used).getD false
def promU (s : StoreD) (p : Int) : Bool := decide (0 ≤ p) && ((s.promises[p.toNat]?).map PromD.used).getD false
theorem envU_neg {s : StoreD} {e : Int} (h : ¬ 0 ≤ e) : envU s e = false := by simp [envU]; intro h'; omega
theorem envU_big {s : StoreD} {e : Int} (h : ¬ e < s.envs.length) : envU s e = false := by
  unfold envU
  rw [List.getElem?_eq_none (by omega)]
  simp
theorem envU_at {s : StoreD} (k : Nat) (h : k < s.envs.length) : envU s k = s.envs[k].used := by
  unfold envU
  rw [Int.toNat_natCast, List.getElem?_eq_getElem h]
  simp
theorem promU_neg {s : StoreD} {e : Int} (h : ¬ 0 ≤ e) : promU s e = false := by simp [promU]; intro h'; omega
theorem promU_big {s : StoreD} {e : Int} (h : ¬ e < s.promises.length) : promU s e = false := by
  unfold promU
  rw [List.getElem?_eq_none (by omega)]
  simp
theorem promU_at {s : StoreD} (k : Nat) (h : k < s.promises.length) : promU s k = s.promises[k].used := by
  unfold promU
  rw [Int.toNat_natCast, List.getElem?_eq_getElem h]
  simp

theorem StoreR.open_ {w : World} {cs : List Value} {s : StoreD} (h : StoreR w cs s) : ∃ (E0 : Option Addr) (e0 : Nat) (E1 : Option Addr) (e1 : Nat), cs = [.slice E0 s.envs.length e0, .slice E1 s.promises.length e1] ∧ s.envs.length ≤ 9223372036854775807 ∧ s.promises.length ≤ 9223372036854775807 ∧
    Hid (∀ k (hk : k < s.envs.length), ∃ b off cs, E0 = some ⟨b, off, none⟩ ∧ b < w.heap.size ∧ cs.length = 4 ∧ At w b (off + k * 4) cs ∧ EnvR w cs s.envs[k]) ∧
    Hid (∀ k (hk : k < s.promises.length), ∃ b off cs, E1 = some ⟨b, off, none⟩ ∧ b < w.heap.size ∧ cs.length = 12 ∧ At w b (off + k * 12) cs ∧ PromiseR w cs s.promises[k]) := by
  obtain ⟨v0, v1, rfl, h0, h1⟩ := h
  obtain ⟨A, c, rfl, hl, hm, HC⟩ := SlR.open_ h0
  obtain ⟨A', c', rfl, hl', hm', HC'⟩ := SlR.open_ h1
  exact ⟨A, c, A', c', rfl, SlR.length_le h0, SlR.length_le h1, HC, HC'⟩

set_option maxHeartbeats 1000000 in
theorem impl_envUsed (s : StoreD) (e : Int) (cs : List Value) (w : World) (h : StoreR w cs s) :
    Calls Tryz.prog 71 #[.agg cs.toArray, .int .i64 e] w (RetB (envU s e) w) := by
  obtain ⟨E0, e0, E1, e1, rfl, l0, l1, HE, HP⟩ := h.open_
  clear h
  by_cases h0 : 0 ≤ e
  rotate_left
  · have HQ := Lib.hid (envU_neg (s := s) h0)
    go_enter Tryz.func71, Tryz.ntmps71
    go_wp2
    go_ret
    exact ⟨ret_bool HQ.out.symm, below_alloc1 _ _⟩
  by_cases h1 : e < s.envs.length
  rotate_left
  · have HQ := Lib.hid (envU_big (s := s) h1)
    go_enter Tryz.func71, Tryz.ntmps71
    go_wp2
    go_ret
    exact ⟨ret_bool HQ.out.symm, below_alloc1 _ _⟩
  obtain ⟨k, rfl⟩ := Int.eq_ofNat_of_zero_le h0
  have hlt : k < s.envs.length := by omega
  have HQ := Lib.hid (envU_at (s := s) k hlt)
  obtain ⟨b, off, cs, rfl, hbl, _, hat, v2, v3, rfl, _⟩ := HE.out k hlt
  have y0 := ((below_alloc1 w (.cells #[.slice (some ⟨b, off, none⟩) s.envs.length e0, .slice E1 s.promises.length e1] 33)).cell (p := ⟨b, off + k * 4, none⟩) hbl).trans (by simpa using hat 0 _ rfl)
  clear hat
  go_enter Tryz.func71, Tryz.ntmps71
  go_wp2
  go_ret
  exact ⟨ret_bool HQ.out.symm, below_alloc1 _ _⟩

set_option maxHeartbeats 1000000 in
theorem impl_promiseUsed (s : StoreD) (e : Int) (cs : List Value) (w : World) (h : StoreR w cs s) :
    Calls Tryz.prog 146 #[.agg cs.toArray, .int .i64 e] w (RetB (promU s e) w) := by
  obtain ⟨E0, e0, E1, e1, rfl, l0, l1, HE, HP⟩ := h.open_
  clear h
  by_cases h0 : 0 ≤ e
  rotate_left
  · have HQ := Lib.hid (promU_neg (s := s) h0)
    go_enter Tryz.func146, Tryz.ntmps146
    go_wp2
    go_ret
    exact ⟨ret_bool HQ.out.symm, below_alloc1 _ _⟩
  by_cases h1 : e < s.promises.length
  rotate_left
  · have HQ := Lib.hid (promU_big (s := s) h1)
    go_enter Tryz.func146, Tryz.ntmps146
    go_wp2
    go_ret
    exact ⟨ret_bool HQ.out.symm, below_alloc1 _ _⟩
  obtain ⟨k, rfl⟩ := Int.eq_ofNat_of_zero_le h0
  have hlt : k < s.promises.length := by omega
  have HQ := Lib.hid (promU_at (s := s) k hlt)
  obtain ⟨b, off, cs, rfl, hbl, _, hat, v1, v2, v3, v4, v5, rfl, _⟩ := HP.out k hlt
  have y0 := ((below_alloc1 w (.cells #[.slice E0 s.envs.length e0, .slice (some ⟨b, off, none⟩) s.promises.length e1] 33)).cell (p := ⟨b, off + k * 12, none⟩) hbl).trans (by simpa using hat 0 _ rfl)
  clear hat
  go_enter Tryz.func146, Tryz.ntmps146
  go_wp2
  go_ret
  exact ⟨ret_bool HQ.out.symm, below_alloc1 _ _⟩

mutual
def funFit (s : StoreD) : VecD → Bool
  | .mk k _ p _ _ _ _ en => (k != 5 || envU s en) && funFits s p
def funFits (s : StoreD) : List VecD → Bool
  | [] => true
  | d :: l => funFit s d && funFits s l
end
theorem funFits_eq (s : StoreD) (l : List VecD) : funFits s l = l.all (funFit s) := by
  induction l with
  | nil => rfl
  | cons d l ih => rw [funFits, ih]; rfl
theorem funFit_eq (s : StoreD) (d : VecD) : funFit s d = ((d.kind != 5 || envU s d.env) && d.parts.all (funFit s)) := by
  cases d with
  | mk k i p n c l co en => rw [funFit, funFits_eq]; rfl
def valFit (s : StoreD) (d : VecD) : Bool := vecOk d && funFit s d

set_option maxHeartbeats 2000000 in
theorem impl_functionsFit_n (s : StoreD) (n : Nat) : ∀ (d : VecD) (ss cs : List Value) (w : World), StoreR w ss s → VectorR n w cs d →
    Calls Tryz.prog 142 #[.agg ss.toArray, .agg cs.toArray] w (RetB (funFit s d) w) := by
  induction n with
  | zero => intro d ss cs w _ h; exact h.elim
  | succ n ih =>
  intro d ss cs w hs h
  have IH := Lib.hid ih
  clear ih
  have HS := Lib.hid hs
  obtain ⟨E0, e0, E1, e1, rfl, l0, l1, _⟩ := hs.open_
  clear hs
  obtain ⟨v1, v2, v3, v4, v5, rfl, h0, h1, h2, h3, h4, h5, h6, h7⟩ := h
  obtain ⟨A1, c1, rfl⟩ := SlR.shape h1
  obtain ⟨A2, c2, rfl⟩ := SlR.shape h2
  obtain ⟨A3, c3, rfl⟩ := SlR.shape h3
  obtain ⟨A4, c4, rfl⟩ := SlR.shape h4
  obtain ⟨A5, c5, rfl⟩ := SlR.shape h5
  obtain ⟨_, _, e2, hlc2, hm2, HC2⟩ := SlR.open_ h2
  injection e2 with e21 e22 e23
  subst e21 e23
  clear e22
  unfold maxLen at hm2
  clear h1 h2 h3 h4 h5
  have HQ := Lib.hid (funFit_eq s d)
  have HX0 := Lib.hid (show ExL w w.heap.size [(w.heap.size + 1, 45, [.int .i64 d.kind, .slice A1 d.items.length c1, .slice A2 d.parts.length c2, .slice A3 d.names.length c3, .slice A4 d.cls.length c4, .slice A5 d.levels.length c5, .int .i64 d.code, .int .i64 d.env]), (w.heap.size, 33, [.slice E0 s.envs.length e0, .slice E1 s.promises.length e1])] ((w.alloc (.cells #[.slice E0 s.envs.length e0, .slice E1 s.promises.length e1] 33)).alloc (.cells #[.int .i64 d.kind, .slice A1 d.items.length c1, .slice A2 d.parts.length c2, .slice A3 d.names.length c3, .slice A4 d.cls.length c4, .slice A5 d.levels.length c5, .int .i64 d.code, .int .i64 d.env] 45)) from by simpa using ((ExL.start w).push 33 [.slice E0 s.envs.length e0, .slice E1 s.promises.length e1]).push 45 [.int .i64 d.kind, .slice A1 d.items.length c1, .slice A2 d.parts.length c2, .slice A3 d.names.length c3, .slice A4 d.cls.length c4, .slice A5 d.levels.length c5, .int .i64 d.code, .int .i64 d.env])
  cases k5 : (d.kind == 5)
  rotate_left
  · have HK5 := Lib.hid (show (d.kind != 5) = false by rw [bne, k5]; rfl)
    go_enter Tryz.func142, Tryz.ntmps142
    go_wp2_with fail
    refine abs_w (ExL w w.heap.size [(w.heap.size + 1, 45, [.int .i64 d.kind, .slice A1 d.items.length c1, .slice A2 d.parts.length c2, .slice A3 d.names.length c3, .slice A4 d.cls.length c4, .slice A5 d.levels.length c5, .int .i64 d.code, .int .i64 d.env]), (w.heap.size, 33, [.slice E0 s.envs.length e0, .slice E1 s.promises.length e1])]) HX0.out ?_
    rintro W0 hX
    refine (impl_envUsed s d.env _ W0 (HS.out.below hX.2.1)).mono ?_
    rintro e w1 ⟨rfl, hb⟩
    have HX1 := Lib.hid (hX.below hb)
    clear hb hX
    cases hu : envU s d.env
    · go_wp2_with fail
      go_ret
      exact ⟨ret_bool (by rw [HQ.out, HK5.out, hu]; rfl), HX1.out.2.1⟩
    have HU := Lib.hid hu
    clear hu
    have x2 := HX1.out.b0.cell 2 _ rfl
    have HFF := Lib.hid (show funFit s d = d.parts.all (funFit s) by rw [HQ.out, HK5.out, HU.out]; rfl)
    go_wp2_with fail
    clear x2
    go_loopw [20] (fun i wr => ∃ k : Nat, k ≤ d.parts.length ∧ i = .int .i64 k ∧ Hid (∀ j (h : j < d.parts.length), j < k → funFit s d.parts[j] = true) ∧ Hid (ExL w w.heap.size [(w.heap.size + 1, 45, [.int .i64 d.kind, .slice A1 d.items.length c1, .slice A2 d.parts.length c2, .slice A3 d.names.length c3, .slice A4 d.cls.length c4, .slice A5 d.levels.length c5, .int .i64 d.code, .int .i64 d.env]), (w.heap.size, 33, [.slice E0 s.envs.length e0, .slice E1 s.promises.length e1])] wr)) (fun i _ => d.parts.length - (intOf i).toNat)
    case atStart => exact ⟨0, Nat.zero_le _, rfl, fun j _ h => absurd h (by omega), HX1.out⟩
    case round =>
      obtain ⟨k, hk, rfl, hn, HX⟩ := hrel
      have x0 := HX.out.b0.cell 0 _ rfl
      have x1 := HX.out.b0.cell 1 _ rfl
      have x2 := HX.out.b0.cell 2 _ rfl
      have x3 := HX.out.b0.cell 3 _ rfl
      have x4 := HX.out.b0.cell 4 _ rfl
      have x5 := HX.out.b0.cell 5 _ rfl
      have x6 := HX.out.b0.cell 6 _ rfl
      have x7 := HX.out.b0.cell 7 _ rfl
      have s0 := HX.out.tail.b0.cell 0 _ rfl
      have s1 := HX.out.tail.b0.cell 1 _ rfl
      have hlw : w.heap.size + 1 < wr.heap.size := HX.out.b0.lt
      have hlw0 : w.heap.size < wr.heap.size := by omega
      by_cases hlt : k < d.parts.length
      · obtain ⟨b, off, cs, rfl, hbl, hlen, hat, hvr⟩ := HC2.out k hlt
        have HPN := Lib.hid hvr
        have HPV := Lib.hid (show VecR w cs d.parts[k] from ⟨n, hvr⟩)
        clear hvr
        obtain ⟨_, B1, b1, B2, b2, B3, b3, B4, b4, B5, b5, rfl, _⟩ := HPV.out.open_
        have y0 := (HX.out.2.1.cell (p := ⟨b, off + k * 8, none⟩) hbl).trans (by simpa using hat 0 _ rfl)
        have y1 := (HX.out.2.1.cell (p := ⟨b, off + k * 8 + 1, none⟩) hbl).trans (hat 1 _ rfl)
        have y2 := (HX.out.2.1.cell (p := ⟨b, off + k * 8 + 2, none⟩) hbl).trans (hat 2 _ rfl)
        have y3 := (HX.out.2.1.cell (p := ⟨b, off + k * 8 + 3, none⟩) hbl).trans (hat 3 _ rfl)
        have y4 := (HX.out.2.1.cell (p := ⟨b, off + k * 8 + 4, none⟩) hbl).trans (hat 4 _ rfl)
        have y5 := (HX.out.2.1.cell (p := ⟨b, off + k * 8 + 5, none⟩) hbl).trans (hat 5 _ rfl)
        have y6 := (HX.out.2.1.cell (p := ⟨b, off + k * 8 + 6, none⟩) hbl).trans (hat 6 _ rfl)
        have y7 := (HX.out.2.1.cell (p := ⟨b, off + k * 8 + 7, none⟩) hbl).trans (hat 7 _ rfl)
        clear hat
        go_wp2_with fail
        refine abs_w (ExL w w.heap.size [(w.heap.size + 1, 45, [.int .i64 d.kind, .slice A1 d.items.length c1, .slice (some ⟨b, off, none⟩) d.parts.length c2, .slice A3 d.names.length c3, .slice A4 d.cls.length c4, .slice A5 d.levels.length c5, .int .i64 d.code, .int .i64 d.env]), (w.heap.size, 33, [.slice E0 s.envs.length e0, .slice E1 s.promises.length e1])]) (by have := (HX.out.push 45 [.int .i64 d.parts[k].kind, .slice B1 d.parts[k].items.length b1, .slice B2 d.parts[k].parts.length b2, .slice B3 d.parts[k].names.length b3, .slice B4 d.parts[k].cls.length b4, .slice B5 d.parts[k].levels.length b5, .int .i64 d.parts[k].code, .int .i64 d.parts[k].env]).tail; exact this) ?_
        rintro W hX
        refine (IH.out d.parts[k] _ _ W (HS.out.below hX.2.1) (HPN.out.below hX.2.1)).mono ?_
        rintro e w2 ⟨rfl, hb⟩
        have HX2 := Lib.hid (hX.below hb)
        clear hX hb x0 x1 x2 x3 x4 x5 x6 x7 y0 y1 y2 y3 y4 y5 y6 y7 s0 s1
        cases hq : funFit s d.parts[k]
        · go_wp2_with fail
          go_ret
          exact ⟨ret_bool (by
            rw [HFF.out]
            have : d.parts.all (funFit s) = false := by
              simp only [List.all_eq_false]
              exact ⟨d.parts[k], List.getElem_mem hlt, by simp [hq]⟩
            rw [this]), HX2.out.2.1⟩
        · have HQ2 := Lib.hid hq
          clear hq
          go_wp2_with fail
          go_roundw
          case rel => exact ⟨k + 1, by omega, by go_num, fun j h1 hj => by rcases Nat.lt_succ_iff_lt_or_eq.1 hj with h3 | rfl; exact hn.out j h1 h3; exact HQ2.out, HX2.out⟩
          case measure => simp [intOf]; omega
      · go_wp2_with fail
        go_ret
        exact ⟨ret_bool (by
          rw [HFF.out]
          have : d.parts.all (funFit s) = true := by
            simp only [List.all_eq_true]
            intro p hp
            obtain ⟨j, hj, rfl⟩ := List.getElem_of_mem hp
            exact hn.out j hj (by omega)
          rw [this]), HX.out.2.1⟩
  have HK5 := Lib.hid (show (d.kind != 5) = true by rw [bne, k5]; rfl)
  have HX1 := HX0
  have HFF := Lib.hid (show funFit s d = d.parts.all (funFit s) by rw [HQ.out, HK5.out]; rfl)
  go_enter Tryz.func142, Tryz.ntmps142
  go_wp2_with fail
  go_loopw [20] (fun i wr => ∃ k : Nat, k ≤ d.parts.length ∧ i = .int .i64 k ∧ Hid (∀ j (h : j < d.parts.length), j < k → funFit s d.parts[j] = true) ∧ Hid (ExL w w.heap.size [(w.heap.size + 1, 45, [.int .i64 d.kind, .slice A1 d.items.length c1, .slice A2 d.parts.length c2, .slice A3 d.names.length c3, .slice A4 d.cls.length c4, .slice A5 d.levels.length c5, .int .i64 d.code, .int .i64 d.env]), (w.heap.size, 33, [.slice E0 s.envs.length e0, .slice E1 s.promises.length e1])] wr)) (fun i _ => d.parts.length - (intOf i).toNat)
  case atStart => exact ⟨0, Nat.zero_le _, rfl, fun j _ h => absurd h (by omega), HX1.out⟩
  case round =>
    obtain ⟨k, hk, rfl, hn, HX⟩ := hrel
    have x0 := HX.out.b0.cell 0 _ rfl
    have x1 := HX.out.b0.cell 1 _ rfl
    have x2 := HX.out.b0.cell 2 _ rfl
    have x3 := HX.out.b0.cell 3 _ rfl
    have x4 := HX.out.b0.cell 4 _ rfl
    have x5 := HX.out.b0.cell 5 _ rfl
    have x6 := HX.out.b0.cell 6 _ rfl
    have x7 := HX.out.b0.cell 7 _ rfl
    have s0 := HX.out.tail.b0.cell 0 _ rfl
    have s1 := HX.out.tail.b0.cell 1 _ rfl
    have hlw : w.heap.size + 1 < wr.heap.size := HX.out.b0.lt
    have hlw0 : w.heap.size < wr.heap.size := by omega
    by_cases hlt : k < d.parts.length
    · obtain ⟨b, off, cs, rfl, hbl, hlen, hat, hvr⟩ := HC2.out k hlt
      have HPN := Lib.hid hvr
      have HPV := Lib.hid (show VecR w cs d.parts[k] from ⟨n, hvr⟩)
      clear hvr
      obtain ⟨_, B1, b1, B2, b2, B3, b3, B4, b4, B5, b5, rfl, _⟩ := HPV.out.open_
      have y0 := (HX.out.2.1.cell (p := ⟨b, off + k * 8, none⟩) hbl).trans (by simpa using hat 0 _ rfl)
      have y1 := (HX.out.2.1.cell (p := ⟨b, off + k * 8 + 1, none⟩) hbl).trans (hat 1 _ rfl)
      have y2 := (HX.out.2.1.cell (p := ⟨b, off + k * 8 + 2, none⟩) hbl).trans (hat 2 _ rfl)
      have y3 := (HX.out.2.1.cell (p := ⟨b, off + k * 8 + 3, none⟩) hbl).trans (hat 3 _ rfl)
      have y4 := (HX.out.2.1.cell (p := ⟨b, off + k * 8 + 4, none⟩) hbl).trans (hat 4 _ rfl)
      have y5 := (HX.out.2.1.cell (p := ⟨b, off + k * 8 + 5, none⟩) hbl).trans (hat 5 _ rfl)
      have y6 := (HX.out.2.1.cell (p := ⟨b, off + k * 8 + 6, none⟩) hbl).trans (hat 6 _ rfl)
      have y7 := (HX.out.2.1.cell (p := ⟨b, off + k * 8 + 7, none⟩) hbl).trans (hat 7 _ rfl)
      clear hat
      go_wp2_with fail
      refine abs_w (ExL w w.heap.size [(w.heap.size + 1, 45, [.int .i64 d.kind, .slice A1 d.items.length c1, .slice (some ⟨b, off, none⟩) d.parts.length c2, .slice A3 d.names.length c3, .slice A4 d.cls.length c4, .slice A5 d.levels.length c5, .int .i64 d.code, .int .i64 d.env]), (w.heap.size, 33, [.slice E0 s.envs.length e0, .slice E1 s.promises.length e1])]) (by have := (HX.out.push 45 [.int .i64 d.parts[k].kind, .slice B1 d.parts[k].items.length b1, .slice B2 d.parts[k].parts.length b2, .slice B3 d.parts[k].names.length b3, .slice B4 d.parts[k].cls.length b4, .slice B5 d.parts[k].levels.length b5, .int .i64 d.parts[k].code, .int .i64 d.parts[k].env]).tail; exact this) ?_
      rintro W hX
      refine (IH.out d.parts[k] _ _ W (HS.out.below hX.2.1) (HPN.out.below hX.2.1)).mono ?_
      rintro e w2 ⟨rfl, hb⟩
      have HX2 := Lib.hid (hX.below hb)
      clear hX hb x0 x1 x2 x3 x4 x5 x6 x7 y0 y1 y2 y3 y4 y5 y6 y7 s0 s1
      cases hq : funFit s d.parts[k]
      · go_wp2_with fail
        go_ret
        exact ⟨ret_bool (by
          rw [HFF.out]
          have : d.parts.all (funFit s) = false := by
            simp only [List.all_eq_false]
            exact ⟨d.parts[k], List.getElem_mem hlt, by simp [hq]⟩
          rw [this]), HX2.out.2.1⟩
      · have HQ2 := Lib.hid hq
        clear hq
        go_wp2_with fail
        go_roundw
        case rel => exact ⟨k + 1, by omega, by go_num, fun j h1 hj => by rcases Nat.lt_succ_iff_lt_or_eq.1 hj with h3 | rfl; exact hn.out j h1 h3; exact HQ2.out, HX2.out⟩
        case measure => simp [intOf]; omega
    · go_wp2_with fail
      go_ret
      exact ⟨ret_bool (by
        rw [HFF.out]
        have : d.parts.all (funFit s) = true := by
          simp only [List.all_eq_true]
          intro p hp
          obtain ⟨j, hj, rfl⟩ := List.getElem_of_mem hp
          exact hn.out j hj (by omega)
        rw [this]), HX.out.2.1⟩
theorem impl_functionsFit (s : StoreD) (d : VecD) (ss cs : List Value) (w : World) (hs : StoreR w ss s) (h : VecR w cs d) :
    Calls Tryz.prog 142 #[.agg ss.toArray, .agg cs.toArray] w (RetB (funFit s d) w) := by
  obtain ⟨n, h⟩ := h
  exact impl_functionsFit_n s n d ss cs w hs h

end Go.Proofs.YtejieacdfjpfnaaGreat
namespace Go.Proofs.YtejieacdfjpfnaaGreat
set_option maxRecDepth 100000
open Go.ChangeShapes Go.WideShapes Go.ChangeAt Go.RowKit Go.Deep

def zeroV (d : VecD) : Bool := d.kind == 0 && d.code == 0 && d.env == 0 && decide (d.names.length = 0) && decide (d.cls.length = 0) && decide (d.levels.length = 0) && decide (d.items.length = 0) && decide (d.parts.length = 0)
theorem eqL_nil (l : List (List UInt8)) : eqL l [] = decide (l.length = 0) := by cases l <;> simp [eqL]
theorem sameTexts_nil (l : List (List UInt8)) (v : Value) (w : World) (h : Txts w v l) :
    Calls Tryz.prog 163 #[v, .slice none 0 0] w fun e w' => e = .returned (.bool (decide (l.length = 0))) ∧ ∃ n, w' = w.drewN n := by
  have := impl_sameTexts l [] v (.slice none 0 0) w h (SlR.nil_ _ _ _)
  rw [eqL_nil] at this
  exact this
theorem sameTexts_nil_t (l : List (List UInt8)) (v : Value) (w : World) (h : Txts w v l) (h0 : l.length = 0) :
    Calls Tryz.prog 163 #[v, .slice none 0 0] w fun e w' => e = .returned (.bool true) ∧ ∃ n, w' = w.drewN n := by
  have := sameTexts_nil l v w h
  rw [decide_eq_true h0] at this
  exact this
theorem sameTexts_nil_f (l : List (List UInt8)) (v : Value) (w : World) (h : Txts w v l) (h0 : ¬ l.length = 0) :
    Calls Tryz.prog 163 #[v, .slice none 0 0] w fun e w' => e = .returned (.bool false) ∧ ∃ n, w' = w.drewN n := by
  have := sameTexts_nil l v w h
  rw [decide_eq_false h0] at this
  exact this

set_option maxHeartbeats 2000000 in
theorem impl_equal_zero (d : VecD) (cs : List Value) (w : World) (h : VecR w cs d) :
    Calls Tryz.prog 147 #[.agg cs.toArray, .agg #[.int .i64 0, .slice none 0 0, .slice none 0 0, .slice none 0 0, .slice none 0 0, .slice none 0 0, .int .i64 0, .int .i64 0]] w (RetB (zeroV d) w) := by
  obtain ⟨n, A1, c1, A2, c2, A3, c3, A4, c4, A5, c5, rfl, k0, k1, k2, l1, l2, l3, l4, l5, HV⟩ := h.open_
  clear h
  have HBK := Lib.hid (show Ex2 w w.heap.size w.heap.size 45 [.int .i64 d.kind, .slice A1 d.items.length c1, .slice A2 d.parts.length c2, .slice A3 d.names.length c3, .slice A4 d.cls.length c4, .slice A5 d.levels.length c5, .int .i64 d.code, .int .i64 d.env] (w.heap.size + 1) 45 [.int .i64 0, .slice none 0 0, .slice none 0 0, .slice none 0 0, .slice none 0 0, .slice none 0 0, .int .i64 0, .int .i64 0] ((w.alloc (.cells #[.int .i64 d.kind, .slice A1 d.items.length c1, .slice A2 d.parts.length c2, .slice A3 d.names.length c3, .slice A4 d.cls.length c4, .slice A5 d.levels.length c5, .int .i64 d.code, .int .i64 d.env] 45)).alloc (.cells #[.int .i64 0, .slice none 0 0, .slice none 0 0, .slice none 0 0, .slice none 0 0, .slice none 0 0, .int .i64 0, .int .i64 0] 45)) from ⟨(Blk.new _ _ _).alloc _, by have := Blk.new (w.alloc (.cells #[.int .i64 d.kind, .slice A1 d.items.length c1, .slice A2 d.parts.length c2, .slice A3 d.names.length c3, .slice A4 d.cls.length c4, .slice A5 d.levels.length c5, .int .i64 d.code, .int .i64 d.env] 45)) 45 [.int .i64 0, .slice none 0 0, .slice none 0 0, .slice none 0 0, .slice none 0 0, .slice none 0 0, .int .i64 0, .int .i64 0]; simpa using this, (below_alloc1 _ _).alloc (by simp) _, by simp; omega⟩)
  go_enter Tryz.func147, Tryz.ntmps147
  go_upto_region 1 with fail
  generalize (Value.agg #[.int .i64 d.kind, .slice A1 d.items.length c1, .slice A2 d.parts.length c2, .slice A3 d.names.length c3, .slice A4 d.cls.length c4, .slice A5 d.levels.length c5, .int .i64 d.code, .int .i64 d.env]) = V0
  generalize ((w.alloc (.cells #[.int .i64 d.kind, .slice A1 d.items.length c1, .slice A2 d.parts.length c2, .slice A3 d.names.length c3, .slice A4 d.cls.length c4, .slice A5 d.levels.length c5, .int .i64 d.code, .int .i64 d.env] 45)).alloc (.cells #[.int .i64 0, .slice none 0 0, .slice none 0 0, .slice none 0 0, .slice none 0 0, .slice none 0 0, .int .i64 0, .int .i64 0] 45)) = W0 at HBK ⊢
  have HBW := Lib.hid HBK.out.2.2.1
  have x0 := HBK.out.1.cell 0 _ rfl
  have x1 := HBK.out.1.cell 1 _ rfl
  have x2 := HBK.out.1.cell 2 _ rfl
  have x3 := HBK.out.1.cell 3 _ rfl
  have x4 := HBK.out.1.cell 4 _ rfl
  have x5 := HBK.out.1.cell 5 _ rfl
  have x6 := HBK.out.1.cell 6 _ rfl
  have x7 := HBK.out.1.cell 7 _ rfl
  have z0 := HBK.out.2.1.cell 0 _ rfl
  have z1 := HBK.out.2.1.cell 1 _ rfl
  have z2 := HBK.out.2.1.cell 2 _ rfl
  have z3 := HBK.out.2.1.cell 3 _ rfl
  have z4 := HBK.out.2.1.cell 4 _ rfl
  have z5 := HBK.out.2.1.cell 5 _ rfl
  have z6 := HBK.out.2.1.cell 6 _ rfl
  have z7 := HBK.out.2.1.cell 7 _ rfl
  go_cut [67] from 7 to 67 (fun s wx => s = .bool (!zeroV d) ∧ ∃ n, wx = W0.drewN n)
  case first =>
    by_cases q3 : d.names.length = 0 <;> by_cases q4 : d.cls.length = 0 <;> by_cases q5 : d.levels.length = 0
    all_goals
      have Q3 := Lib.hid q3
      have Q4 := Lib.hid q4
      have Q5 := Lib.hid q5
      clear q3 q4 q5
      go_wp2_with (go_at_call 163; first | (refine (sameTexts_nil_t _ _ _ (by first | exact HV.out.2.2.1.below HBW.out | exact (HV.out.2.2.2.1.below HBW.out).drewN _ | exact (HV.out.2.2.2.2.below HBW.out).drewN _ | exact ((HV.out.2.2.2.2.below HBW.out).drewN _).drewN _) (by first | exact Q3.out | exact Q4.out | exact Q5.out)).mono ?_; rintro e w' ⟨rfl, nq, rfl⟩) | (refine (sameTexts_nil_f _ _ _ (by first | exact HV.out.2.2.1.below HBW.out | exact (HV.out.2.2.2.1.below HBW.out).drewN _ | exact (HV.out.2.2.2.2.below HBW.out).drewN _ | exact ((HV.out.2.2.2.2.below HBW.out).drewN _).drewN _) (by first | exact Q3.out | exact Q4.out | exact Q5.out)).mono ?_; rintro e w' ⟨rfl, nq, rfl⟩))
      all_goals
        go_meet
        case rel => exact ⟨by congr 1; go_light; have := Q3.out; have := Q4.out; have := Q5.out; grind [zeroV], by first | exact ⟨0, rfl⟩ | exact ⟨_, rfl⟩ | exact ⟨_, (World.drewN_drewN _ _ _)⟩ | exact ⟨_, by simp only [World.drewN_drewN]; rfl⟩⟩
  obtain ⟨rfl, nd, rfl⟩ := hcut
  cases hz : zeroV d
  · go_wp2_with fail
    go_ret
    exact ⟨ret_bool (by rw [hz]), below_drewN HBW.out _⟩
  have hi0 : d.items.length ≤ 0 := by grind [zeroV]
  have hp0 : d.parts.length ≤ 0 := by grind [zeroV]
  have HZ := Lib.hid hz
  clear hz
  go_wp2_with fail
  go_loop [71] (fun i => i = .int .i64 0) (fun _ => 0)
  case atStart => rfl
  case round =>
    subst hrel
    go_wp2_with fail
    go_loop [89] (fun i => i = .int .i64 0) (fun _ => 0)
    case atStart => rfl
    case round =>
      subst hrel
      go_wp2_with fail
      go_ret
      exact ⟨ret_bool (by rw [HZ.out]), below_drewN HBW.out _⟩

theorem impl_isZeroVector (d : VecD) (cs : List Value) (w : World) (h : VecR w cs d) :
    Calls Tryz.prog 130 #[.agg cs.toArray] w (RetB (zeroV d) w) := by
  have HI := Lib.hid h
  obtain ⟨n, A1, c1, A2, c2, A3, c3, A4, c4, A5, c5, rfl, k0, k1, k2, l1, l2, l3, l4, l5, HV⟩ := h.open_
  clear h
  go_enter Tryz.func130, Tryz.ntmps130
  go_wp2_with fail
  refine abs_w (fun W => Below w.heap.size w W) (below_alloc1 _ _) ?_
  rintro W hB
  refine (impl_equal_zero d _ _ (HI.out.below hB)).mono ?_
  rintro e w1 ⟨rfl, hb⟩
  have HB := Lib.hid (hB.trans (hb.mono hB.size))
  clear hb hB
  go_wp2_with fail
  go_ret
  exact ⟨rfl, HB.out⟩

set_option maxHeartbeats 1000000 in
theorem impl_valueFits (s : StoreD) (d : VecD) (ss cs : List Value) (w : World) (hs : StoreR w ss s) (h : VecR w cs d) (hz : szVector d ≤ 1000000000000) :
    Calls Tryz.prog 122 #[.agg ss.toArray, .agg cs.toArray] w (RetB (valFit s d) w) := by
  have HS := Lib.hid hs
  obtain ⟨E0, e0, E1, e1, rfl, l0, l1, _⟩ := hs.open_
  have HI := Lib.hid h
  obtain ⟨n, A1, c1, A2, c2, A3, c3, A4, c4, A5, c5, rfl, k0, k1, k2, m1, m2, m3, m4, m5, HV⟩ := h.open_
  clear h hs
  have HX0 := Lib.hid (show ExL w w.heap.size [(w.heap.size + 1, 45, [.int .i64 d.kind, .slice A1 d.items.length c1, .slice A2 d.parts.length c2, .slice A3 d.names.length c3, .slice A4 d.cls.length c4, .slice A5 d.levels.length c5, .int .i64 d.code, .int .i64 d.env]), (w.heap.size, 33, [.slice E0 s.envs.length e0, .slice E1 s.promises.length e1])] ((w.alloc (.cells #[.slice E0 s.envs.length e0, .slice E1 s.promises.length e1] 33)).alloc (.cells #[.int .i64 d.kind, .slice A1 d.items.length c1, .slice A2 d.parts.length c2, .slice A3 d.names.length c3, .slice A4 d.cls.length c4, .slice A5 d.levels.length c5, .int .i64 d.code, .int .i64 d.env] 45)) from by simpa using ((ExL.start w).push 33 [.slice E0 s.envs.length e0, .slice E1 s.promises.length e1]).push 45 [.int .i64 d.kind, .slice A1 d.items.length c1, .slice A2 d.parts.length c2, .slice A3 d.names.length c3, .slice A4 d.cls.length c4, .slice A5 d.levels.length c5, .int .i64 d.code, .int .i64 d.env])
  go_enter Tryz.func122, Tryz.ntmps122
  go_wp2_with fail
  refine abs_w (ExL w w.heap.size [(w.heap.size + 1, 45, [.int .i64 d.kind, .slice A1 d.items.length c1, .slice A2 d.parts.length c2, .slice A3 d.names.length c3, .slice A4 d.cls.length c4, .slice A5 d.levels.length c5, .int .i64 d.code, .int .i64 d.env]), (w.heap.size, 33, [.slice E0 s.envs.length e0, .slice E1 s.promises.length e1])]) HX0.out ?_
  rintro W0 hX
  refine (impl_IsVector d _ W0 (HI.out.below hX.2.1) hz).mono ?_
  rintro e w1 ⟨rfl, hb⟩
  have HX1 := Lib.hid (hX.below hb)
  clear hb hX
  cases hv : vecOk d
  · go_wp2_with fail
    go_ret
    exact ⟨ret_bool (by simp [valFit, hv]), HX1.out.2.1⟩
  have HVV := Lib.hid hv
  clear hv
  have x0 := HX1.out.b0.cell 0 _ rfl
  have x1 := HX1.out.b0.cell 1 _ rfl
  have x2 := HX1.out.b0.cell 2 _ rfl
  have x3 := HX1.out.b0.cell 3 _ rfl
  have x4 := HX1.out.b0.cell 4 _ rfl
  have x5 := HX1.out.b0.cell 5 _ rfl
  have x6 := HX1.out.b0.cell 6 _ rfl
  have x7 := HX1.out.b0.cell 7 _ rfl
  have s0 := HX1.out.tail.b0.cell 0 _ rfl
  have s1 := HX1.out.tail.b0.cell 1 _ rfl
  go_wp2_with fail
  refine (impl_functionsFit s d _ _ _ (HS.out.below HX1.out.2.1) (HI.out.below HX1.out.2.1)).mono ?_
  rintro e w2 ⟨rfl, hb⟩
  have HX2 := Lib.hid (HX1.out.below hb)
  clear hb s0 s1 x0 x1 x2 x3 x4 x5 x6 x7
  go_wp2_with fail
  go_ret
  exact ⟨ret_bool (by rw [valFit, HVV.out]; rfl), HX2.out.2.1⟩

end Go.Proofs.YtejieacdfjpfnaaGreat
