/-
  Contracts: environments and promises that are there, and values that fit a store, of the program.
-/
import Derived.Test.YtejieacdfjpfnaaGreatGStore
import Derived.Test.YtejieacdfjpfnaaGreatVecOk4
import Derived.Test.YtejieacdfjpfnaaGreatSame
namespace Go.Proofs.YtejieacdfjpfnaaGreat
set_option maxRecDepth 100000
open Go.ChangeShapes Go.WideShapes Go.ChangeAt Go.RowKit Go.Deep

def envU (s : StoreD) (e : Int) : Bool := decide (0 ≤ e) && ((s.envs[e.toNat]?).map EnvD.used).getD false
def promU (s : StoreD) (p : Int) : Bool := decide (0 ≤ p) && ((s.promises[p.toNat]?).map PromD.used).getD false
theorem envU_neg {s : StoreD} {e : Int} (h : ¬ 0 ≤ e) : envU s e = false := by simp [envU]; intro h'; omega
theorem envU_big {s : StoreD} {e : Int} (h : ¬ e < s.envs.length) : envU s e = false := by
  unfold envU
  rw [List.getElem?_eq_none (by omega)]
  simp
theorem envU_at {s : StoreD} (k : Nat) (h : k < s.envs.length) : envU s k = s.envs[k].used := by
  unfold envU
  rw [Int.toNat_natCast, List.getElem?_eq_getElem h]
  simp
theorem promU_neg {s : StoreD} {e : Int} (h : ¬ 0 ≤ e) : promU s e = false := by simp [promU]; intro h'; omega
theorem promU_big {s : StoreD} {e : Int} (h : ¬ e < s.promises.length) : promU s e = false := by
  unfold promU
  rw [List.getElem?_eq_none (by omega)]
  simp
theorem promU_at {s : StoreD} (k : Nat) (h : k < s.promises.length) : promU s k = s.promises[k].used := by
  unfold promU
  rw [Int.toNat_natCast, List.getElem?_eq_getElem h]
  simp

theorem StoreR.open_ {w : World} {cs : List Value} {s : StoreD} (h : StoreR w cs s) : ∃ (E0 : Option Addr) (e0 : Nat) (E1 : Option Addr) (e1 : Nat), cs = [.slice E0 s.envs.length e0, .slice E1 s.promises.length e1] ∧ s.envs.length ≤ 9223372036854775807 ∧ s.promises.length ≤ 9223372036854775807 ∧
    Hid (∀ k (hk : k < s.envs.length), ∃ b off cs, E0 = some ⟨b, off, none⟩ ∧ b < w.heap.size ∧ cs.length = 4 ∧ At w b (off + k * 4) cs ∧ EnvR w cs s.envs[k]) ∧
    Hid (∀ k (hk : k < s.promises.length), ∃ b off cs, E1 = some ⟨b, off, none⟩ ∧ b < w.heap.size ∧ cs.length = 12 ∧ At w b (off + k * 12) cs ∧ PromiseR w cs s.promises[k]) := by
  obtain ⟨v0, v1, rfl, h0, h1⟩ := h
  obtain ⟨A, c, rfl, hl, hm, HC⟩ := SlR.open_ h0
  obtain ⟨A', c', rfl, hl', hm', HC'⟩ := SlR.open_ h1
  exact ⟨A, c, A', c', rfl, SlR.length_le h0, SlR.length_le h1, HC, HC'⟩

set_option maxHeartbeats 1000000 in
theorem impl_envUsed (s : StoreD) (e : Int) (cs : List Value) (w : World) (h : StoreR w cs s) :
    Calls Tryz.prog 71 #[.agg cs.toArray, .int .i64 e] w (RetB (envU s e) w) := by
  obtain ⟨E0, e0, E1, e1, rfl, l0, l1, HE, HP⟩ := h.open_
  clear h
  by_cases h0 : 0 ≤ e
  rotate_left
  · have HQ := Lib.hid (envU_neg (s := s) h0)
    go_enter Tryz.func71, Tryz.ntmps71
    go_wp2
    go_ret
    exact ⟨ret_bool HQ.out.symm, below_alloc1 _ _⟩
  by_cases h1 : e < s.envs.length
  rotate_left
  · have HQ := Lib.hid (envU_big (s := s) h1)
    go_enter Tryz.func71, Tryz.ntmps71
    go_wp2
    go_ret
    exact ⟨ret_bool HQ.out.symm, below_alloc1 _ _⟩
  obtain ⟨k, rfl⟩ := Int.eq_ofNat_of_zero_le h0
  have hlt : k < s.envs.length := by omega
  have HQ := Lib.hid (envU_at (s := s) k hlt)
  obtain ⟨b, off, cs, rfl, hbl, _, hat, v2, v3, rfl, _⟩ := HE.out k hlt
  have y0 := ((below_alloc1 w (.cells #[.slice (some ⟨b, off, none⟩) s.envs.length e0, .slice E1 s.promises.length e1] 33)).cell (p := ⟨b, off + k * 4, none⟩) hbl).trans (by simpa using hat 0 _ rfl)
  clear hat
  go_enter Tryz.func71, Tryz.ntmps71
  go_wp2
  go_ret
  exact ⟨ret_bool HQ.out.symm, below_alloc1 _ _⟩

set_option maxHeartbeats 1000000 in
theorem impl_promiseUsed (s : StoreD) (e : Int) (cs : List Value) (w : World) (h : StoreR w cs s) :
    Calls Tryz.prog 146 #[.agg cs.toArray, .int .i64 e] w (RetB (promU s e) w) := by
  obtain ⟨E0, e0, E1, e1, rfl, l0, l1, HE, HP⟩ := h.open_
  clear h
  by_cases h0 : 0 ≤ e
  rotate_left
  · have HQ := Lib.hid (promU_neg (s := s) h0)
    go_enter Tryz.func146, Tryz.ntmps146
    go_wp2
    go_ret
    exact ⟨ret_bool HQ.out.symm, below_alloc1 _ _⟩
  by_cases h1 : e < s.promises.length
  rotate_left
  · have HQ := Lib.hid (promU_big (s := s) h1)
    go_enter Tryz.func146, Tryz.ntmps146
    go_wp2
    go_ret
    exact ⟨ret_bool HQ.out.symm, below_alloc1 _ _⟩
  obtain ⟨k, rfl⟩ := Int.eq_ofNat_of_zero_le h0
  have hlt : k < s.promises.length := by omega
  have HQ := Lib.hid (promU_at (s := s) k hlt)
  obtain ⟨b, off, cs, rfl, hbl, _, hat, v1, v2, v3, v4, v5, rfl, _⟩ := HP.out k hlt
  have y0 := ((below_alloc1 w (.cells #[.slice E0 s.envs.length e0, .slice (some ⟨b, off, none⟩) s.promises.length e1] 33)).cell (p := ⟨b, off + k * 12, none⟩) hbl).trans (by simpa using hat 0 _ rfl)
  clear hat
  go_enter Tryz.func146, Tryz.ntmps146
  go_wp2
  go_ret
  exact ⟨ret_bool HQ.out.symm, below_alloc1 _ _⟩

mutual
def funFit (s : StoreD) : VecD → Bool
  | .mk k _ p _ _ _ _ en => (k != 5 || envU s en) && funFits s p
def funFits (s : StoreD) : List VecD → Bool
  | [] => true
  | d :: l => funFit s d && funFits s l
end
theorem funFits_eq (s : StoreD) (l : List VecD) : funFits s l = l.all (funFit s) := by
  induction l with
  | nil => rfl
  | cons d l ih => rw [funFits, ih]; rfl
theorem funFit_eq (s : StoreD) (d : VecD) : funFit s d = ((d.kind != 5 || envU s d.env) && d.parts.all (funFit s)) := by
  cases d with
  | mk k i p n c l co en => rw [funFit, funFits_eq]; rfl
def valFit (s : StoreD) (d : VecD) : Bool := vecOk d && funFit s d

set_option maxHeartbeats 2000000 in
theorem impl_functionsFit_n (s : StoreD) (n : Nat) : ∀ (d : VecD) (ss cs : List Value) (w : World), StoreR w ss s → VectorR n w cs d →
    Calls Tryz.prog 142 #[.agg ss.toArray, .agg cs.toArray] w (RetB (funFit s d) w) := by
  induction n with
  | zero => intro d ss cs w _ h; exact h.elim
  | succ n ih =>
  intro d ss cs w hs h
  have IH := Lib.hid ih
  clear ih
  have HS := Lib.hid hs
  obtain ⟨E0, e0, E1, e1, rfl, l0, l1, _⟩ := hs.open_
  clear hs
  obtain ⟨v1, v2, v3, v4, v5, rfl, h0, h1, h2, h3, h4, h5, h6, h7⟩ := h
  obtain ⟨A1, c1, rfl⟩ := SlR.shape h1
  obtain ⟨A2, c2, rfl⟩ := SlR.shape h2
  obtain ⟨A3, c3, rfl⟩ := SlR.shape h3
  obtain ⟨A4, c4, rfl⟩ := SlR.shape h4
  obtain ⟨A5, c5, rfl⟩ := SlR.shape h5
  obtain ⟨_, _, e2, hlc2, hm2, HC2⟩ := SlR.open_ h2
  injection e2 with e21 e22 e23
  subst e21 e23
  clear e22
  unfold maxLen at hm2
  clear h1 h2 h3 h4 h5
  have HQ := Lib.hid (funFit_eq s d)
  have HX0 := Lib.hid (show ExL w w.heap.size [(w.heap.size + 1, 45, [.int .i64 d.kind, .slice A1 d.items.length c1, .slice A2 d.parts.length c2, .slice A3 d.names.length c3, .slice A4 d.cls.length c4, .slice A5 d.levels.length c5, .int .i64 d.code, .int .i64 d.env]), (w.heap.size, 33, [.slice E0 s.envs.length e0, .slice E1 s.promises.length e1])] ((w.alloc (.cells #[.slice E0 s.envs.length e0, .slice E1 s.promises.length e1] 33)).alloc (.cells #[.int .i64 d.kind, .slice A1 d.items.length c1, .slice A2 d.parts.length c2, .slice A3 d.names.length c3, .slice A4 d.cls.length c4, .slice A5 d.levels.length c5, .int .i64 d.code, .int .i64 d.env] 45)) from by simpa using ((ExL.start w).push 33 [.slice E0 s.envs.length e0, .slice E1 s.promises.length e1]).push 45 [.int .i64 d.kind, .slice A1 d.items.length c1, .slice A2 d.parts.length c2, .slice A3 d.names.length c3, .slice A4 d.cls.length c4, .slice A5 d.levels.length c5, .int .i64 d.code, .int .i64 d.env])
  cases k5 : (d.kind == 5)
  rotate_left
  · have HK5 := Lib.hid (show (d.kind != 5) = false by rw [bne, k5]; rfl)
    go_enter Tryz.func142, Tryz.ntmps142
    go_wp2_with fail
    refine abs_w (ExL w w.heap.size [(w.heap.size + 1, 45, [.int .i64 d.kind, .slice A1 d.items.length c1, .slice A2 d.parts.length c2, .slice A3 d.names.length c3, .slice A4 d.cls.length c4, .slice A5 d.levels.length c5, .int .i64 d.code, .int .i64 d.env]), (w.heap.size, 33, [.slice E0 s.envs.length e0, .slice E1 s.promises.length e1])]) HX0.out ?_
    rintro W0 hX
    refine (impl_envUsed s d.env _ W0 (HS.out.below hX.2.1)).mono ?_
    rintro e w1 ⟨rfl, hb⟩
    have HX1 := Lib.hid (hX.below hb)
    clear hb hX
    cases hu : envU s d.env
    · go_wp2_with fail
      go_ret
      exact ⟨ret_bool (by rw [HQ.out, HK5.out, hu]; rfl), HX1.out.2.1⟩
    have HU := Lib.hid hu
    clear hu
    have x2 := HX1.out.b0.cell 2 _ rfl
    have HFF := Lib.hid (show funFit s d = d.parts.all (funFit s) by rw [HQ.out, HK5.out, HU.out]; rfl)
    go_wp2_with fail
    clear x2
    go_loopw [20] (fun i wr => ∃ k : Nat, k ≤ d.parts.length ∧ i = .int .i64 k ∧ Hid (∀ j (h : j < d.parts.length), j < k → funFit s d.parts[j] = true) ∧ Hid (ExL w w.heap.size [(w.heap.size + 1, 45, [.int .i64 d.kind, .slice A1 d.items.length c1, .slice A2 d.parts.length c2, .slice A3 d.names.length c3, .slice A4 d.cls.length c4, .slice A5 d.levels.length c5, .int .i64 d.code, .int .i64 d.env]), (w.heap.size, 33, [.slice E0 s.envs.length e0, .slice E1 s.promises.length e1])] wr)) (fun i _ => d.parts.length - (intOf i).toNat)
    case atStart => exact ⟨0, Nat.zero_le _, rfl, fun j _ h => absurd h (by omega), HX1.out⟩
    case round =>
      obtain ⟨k, hk, rfl, hn, HX⟩ := hrel
      have x0 := HX.out.b0.cell 0 _ rfl
      have x1 := HX.out.b0.cell 1 _ rfl
      have x2 := HX.out.b0.cell 2 _ rfl
      have x3 := HX.out.b0.cell 3 _ rfl
      have x4 := HX.out.b0.cell 4 _ rfl
      have x5 := HX.out.b0.cell 5 _ rfl
      have x6 := HX.out.b0.cell 6 _ rfl
      have x7 := HX.out.b0.cell 7 _ rfl
      have s0 := HX.out.tail.b0.cell 0 _ rfl
      have s1 := HX.out.tail.b0.cell 1 _ rfl
      have hlw : w.heap.size + 1 < wr.heap.size := HX.out.b0.lt
      have hlw0 : w.heap.size < wr.heap.size := by omega
      by_cases hlt : k < d.parts.length
      · obtain ⟨b, off, cs, rfl, hbl, hlen, hat, hvr⟩ := HC2.out k hlt
        have HPN := Lib.hid hvr
        have HPV := Lib.hid (show VecR w cs d.parts[k] from ⟨n, hvr⟩)
        clear hvr
        obtain ⟨_, B1, b1, B2, b2, B3, b3, B4, b4, B5, b5, rfl, _⟩ := HPV.out.open_
        have y0 := (HX.out.2.1.cell (p := ⟨b, off + k * 8, none⟩) hbl).trans (by simpa using hat 0 _ rfl)
        have y1 := (HX.out.2.1.cell (p := ⟨b, off + k * 8 + 1, none⟩) hbl).trans (hat 1 _ rfl)
        have y2 := (HX.out.2.1.cell (p := ⟨b, off + k * 8 + 2, none⟩) hbl).trans (hat 2 _ rfl)
        have y3 := (HX.out.2.1.cell (p := ⟨b, off + k * 8 + 3, none⟩) hbl).trans (hat 3 _ rfl)
        have y4 := (HX.out.2.1.cell (p := ⟨b, off + k * 8 + 4, none⟩) hbl).trans (hat 4 _ rfl)
        have y5 := (HX.out.2.1.cell (p := ⟨b, off + k * 8 + 5, none⟩) hbl).trans (hat 5 _ rfl)
        have y6 := (HX.out.2.1.cell (p := ⟨b, off + k * 8 + 6, none⟩) hbl).trans (hat 6 _ rfl)
        have y7 := (HX.out.2.1.cell (p := ⟨b, off + k * 8 + 7, none⟩) hbl).trans (hat 7 _ rfl)
        clear hat
        go_wp2_with fail
        refine abs_w (ExL w w.heap.size [(w.heap.size + 1, 45, [.int .i64 d.kind, .slice A1 d.items.length c1, .slice (some ⟨b, off, none⟩) d.parts.length c2, .slice A3 d.names.length c3, .slice A4 d.cls.length c4, .slice A5 d.levels.length c5, .int .i64 d.code, .int .i64 d.env]), (w.heap.size, 33, [.slice E0 s.envs.length e0, .slice E1 s.promises.length e1])]) (by have := (HX.out.push 45 [.int .i64 d.parts[k].kind, .slice B1 d.parts[k].items.length b1, .slice B2 d.parts[k].parts.length b2, .slice B3 d.parts[k].names.length b3, .slice B4 d.parts[k].cls.length b4, .slice B5 d.parts[k].levels.length b5, .int .i64 d.parts[k].code, .int .i64 d.parts[k].env]).tail; exact this) ?_
        rintro W hX
        refine (IH.out d.parts[k] _ _ W (HS.out.below hX.2.1) (HPN.out.below hX.2.1)).mono ?_
        rintro e w2 ⟨rfl, hb⟩
        have HX2 := Lib.hid (hX.below hb)
        clear hX hb x0 x1 x2 x3 x4 x5 x6 x7 y0 y1 y2 y3 y4 y5 y6 y7 s0 s1
        cases hq : funFit s d.parts[k]
        · go_wp2_with fail
          go_ret
          exact ⟨ret_bool (by
            rw [HFF.out]
            have : d.parts.all (funFit s) = false := by
              simp only [List.all_eq_false]
              exact ⟨d.parts[k], List.getElem_mem hlt, by simp [hq]⟩
            rw [this]), HX2.out.2.1⟩
        · have HQ2 := Lib.hid hq
          clear hq
          go_wp2_with fail
          go_roundw
          case rel => exact ⟨k + 1, by omega, by go_num, fun j h1 hj => by rcases Nat.lt_succ_iff_lt_or_eq.1 hj with h3 | rfl; exact hn.out j h1 h3; exact HQ2.out, HX2.out⟩
          case measure => simp [intOf]; omega
      · go_wp2_with fail
        go_ret
        exact ⟨ret_bool (by
          rw [HFF.out]
          have : d.parts.all (funFit s) = true := by
            simp only [List.all_eq_true]
            intro p hp
            obtain ⟨j, hj, rfl⟩ := List.getElem_of_mem hp
            exact hn.out j hj (by omega)
          rw [this]), HX.out.2.1⟩
  have HK5 := Lib.hid (show (d.kind != 5) = true by rw [bne, k5]; rfl)
  have HX1 := HX0
  have HFF := Lib.hid (show funFit s d = d.parts.all (funFit s) by rw [HQ.out, HK5.out]; rfl)
  go_enter Tryz.func142, Tryz.ntmps142
  go_wp2_with fail
  go_loopw [20] (fun i wr => ∃ k : Nat, k ≤ d.parts.length ∧ i = .int .i64 k ∧ Hid (∀ j (h : j < d.parts.length), j < k → funFit s d.parts[j] = true) ∧ Hid (ExL w w.heap.size [(w.heap.size + 1, 45, [.int .i64 d.kind, .slice A1 d.items.length c1, .slice A2 d.parts.length c2, .slice A3 d.names.length c3, .slice A4 d.cls.length c4, .slice A5 d.levels.length c5, .int .i64 d.code, .int .i64 d.env]), (w.heap.size, 33, [.slice E0 s.envs.length e0, .slice E1 s.promises.length e1])] wr)) (fun i _ => d.parts.length - (intOf i).toNat)
  case atStart => exact ⟨0, Nat.zero_le _, rfl, fun j _ h => absurd h (by omega), HX1.out⟩
  case round =>
    obtain ⟨k, hk, rfl, hn, HX⟩ := hrel
    have x0 := HX.out.b0.cell 0 _ rfl
    have x1 := HX.out.b0.cell 1 _ rfl
    have x2 := HX.out.b0.cell 2 _ rfl
    have x3 := HX.out.b0.cell 3 _ rfl
    have x4 := HX.out.b0.cell 4 _ rfl
    have x5 := HX.out.b0.cell 5 _ rfl
    have x6 := HX.out.b0.cell 6 _ rfl
    have x7 := HX.out.b0.cell 7 _ rfl
    have s0 := HX.out.tail.b0.cell 0 _ rfl
    have s1 := HX.out.tail.b0.cell 1 _ rfl
    have hlw : w.heap.size + 1 < wr.heap.size := HX.out.b0.lt
    have hlw0 : w.heap.size < wr.heap.size := by omega
    by_cases hlt : k < d.parts.length
    · obtain ⟨b, off, cs, rfl, hbl, hlen, hat, hvr⟩ := HC2.out k hlt
      have HPN := Lib.hid hvr
      have HPV := Lib.hid (show VecR w cs d.parts[k] from ⟨n, hvr⟩)
      clear hvr
      obtain ⟨_, B1, b1, B2, b2, B3, b3, B4, b4, B5, b5, rfl, _⟩ := HPV.out.open_
      have y0 := (HX.out.2.1.cell (p := ⟨b, off + k * 8, none⟩) hbl).trans (by simpa using hat 0 _ rfl)
      have y1 := (HX.out.2.1.cell (p := ⟨b, off + k * 8 + 1, none⟩) hbl).trans (hat 1 _ rfl)
      have y2 := (HX.out.2.1.cell (p := ⟨b, off + k * 8 + 2, none⟩) hbl).trans (hat 2 _ rfl)
      have y3 := (HX.out.2.1.cell (p := ⟨b, off + k * 8 + 3, none⟩) hbl).trans (hat 3 _ rfl)
      have y4 := (HX.out.2.1.cell (p := ⟨b, off + k * 8 + 4, none⟩) hbl).trans (hat 4 _ rfl)
      have y5 := (HX.out.2.1.cell (p := ⟨b, off + k * 8 + 5, none⟩) hbl).trans (hat 5 _ rfl)
      have y6 := (HX.out.2.1.cell (p := ⟨b, off + k * 8 + 6, none⟩) hbl).trans (hat 6 _ rfl)
      have y7 := (HX.out.2.1.cell (p := ⟨b, off + k * 8 + 7, none⟩) hbl).trans (hat 7 _ rfl)
      clear hat
      go_wp2_with fail
      refine abs_w (ExL w w.heap.size [(w.heap.size + 1, 45, [.int .i64 d.kind, .slice A1 d.items.length c1, .slice (some ⟨b, off, none⟩) d.parts.length c2, .slice A3 d.names.length c3, .slice A4 d.cls.length c4, .slice A5 d.levels.length c5, .int .i64 d.code, .int .i64 d.env]), (w.heap.size, 33, [.slice E0 s.envs.length e0, .slice E1 s.promises.length e1])]) (by have := (HX.out.push 45 [.int .i64 d.parts[k].kind, .slice B1 d.parts[k].items.length b1, .slice B2 d.parts[k].parts.length b2, .slice B3 d.parts[k].names.length b3, .slice B4 d.parts[k].cls.length b4, .slice B5 d.parts[k].levels.length b5, .int .i64 d.parts[k].code, .int .i64 d.parts[k].env]).tail; exact this) ?_
      rintro W hX
      refine (IH.out d.parts[k] _ _ W (HS.out.below hX.2.1) (HPN.out.below hX.2.1)).mono ?_
      rintro e w2 ⟨rfl, hb⟩
      have HX2 := Lib.hid (hX.below hb)
      clear hX hb x0 x1 x2 x3 x4 x5 x6 x7 y0 y1 y2 y3 y4 y5 y6 y7 s0 s1
      cases hq : funFit s d.parts[k]
      · go_wp2_with fail
        go_ret
        exact ⟨ret_bool (by
          rw [HFF.out]
          have : d.parts.all (funFit s) = false := by
            simp only [List.all_eq_false]
            exact ⟨d.parts[k], List.getElem_mem hlt, by simp [hq]⟩
          rw [this]), HX2.out.2.1⟩
      · have HQ2 := Lib.hid hq
        clear hq
        go_wp2_with fail
        go_roundw
        case rel => exact ⟨k + 1, by omega, by go_num, fun j h1 hj => by rcases Nat.lt_succ_iff_lt_or_eq.1 hj with h3 | rfl; exact hn.out j h1 h3; exact HQ2.out, HX2.out⟩
        case measure => simp [intOf]; omega
    · go_wp2_with fail
      go_ret
      exact ⟨ret_bool (by
        rw [HFF.out]
        have : d.parts.all (funFit s) = true := by
          simp only [List.all_eq_true]
          intro p hp
          obtain ⟨j, hj, rfl⟩ := List.getElem_of_mem hp
          exact hn.out j hj (by omega)
        rw [this]), HX.out.2.1⟩
theorem impl_functionsFit (s : StoreD) (d : VecD) (ss cs : List Value) (w : World) (hs : StoreR w ss s) (h : VecR w cs d) :
    Calls Tryz.prog 142 #[.agg ss.toArray, .agg cs.toArray] w (RetB (funFit s d) w) := by
  obtain ⟨n, h⟩ := h
  exact impl_functionsFit_n s n d ss cs w hs h

end Go.Proofs.YtejieacdfjpfnaaGreat
