/-
  Contract: IsStore, of the program.
-/
import Derived.Test.YtejieacdfjpfnaaGreatStoreOk4
import Derived.Test.YtejieacdfjpfnaaGreatStoreOk5
namespace Go.Proofs.YtejieacdfjpfnaaGreat
set_option maxRecDepth 100000
open Go.ChangeShapes Go.WideShapes Go.ChangeAt Go.RowKit Go.Deep

def envsOk (s : StoreD) : Bool := decide (∀ k (h : k < s.envs.length), envOk s k s.envs[k] = true)
def promsOk (s : StoreD) : Bool := decide (∀ k (h : k < s.promises.length), prOk s s.promises[k] = true)
def storeOk (s : StoreD) : Bool := decide (0 < s.envs.length) && ((s.envs[0]?).map EnvD.used).getD false && envsOk s && promsOk s
theorem sz_env {s : StoreD} (k : Nat) (h : k < s.envs.length) : szEnv s.envs[k] ≤ szStore s := by
  have h1 := szS_at szEnv s.envs k h
  unfold szStore
  omega
theorem sz_prom {s : StoreD} (k : Nat) (h : k < s.promises.length) : szVector s.promises[k].value ≤ szStore s := by
  have h1 := szS_at szPromise s.promises k h
  have h2 : szVector s.promises[k].value ≤ szPromise s.promises[k] := by unfold szPromise; omega
  unfold szStore
  omega

set_option maxHeartbeats 4000000 in
theorem impl_IsStore (s : StoreD) (ss : List Value) (w : World) (hs : StoreR w ss s) (hz : szStore s ≤ 1000000000000) :
    Calls Tryz.prog 38 #[.agg ss.toArray] w (RetB (storeOk s) w) := by
  have HS := Lib.hid hs
  obtain ⟨E0, e0, E1, e1, rfl, l0, l1, HE, HP⟩ := hs.open_
  clear hs
  have HX0 := Lib.hid (show ExL w w.heap.size [(w.heap.size, 33, [.slice E0 s.envs.length e0, .slice E1 s.promises.length e1])] (w.alloc (.cells #[.slice E0 s.envs.length e0, .slice E1 s.promises.length e1] 33)) from (ExL.start w).push 33 [.slice E0 s.envs.length e0, .slice E1 s.promises.length e1])
  by_cases hl : 0 < s.envs.length
  rotate_left
  · have HQ := Lib.hid (show storeOk s = false by simp only [storeOk, decide_eq_false hl]; rfl)
    have bl : ((s.envs.length : Int) == 0) = true := beq_iff_eq.2 (by omega)
    have bl2 : decide (s.envs.length = 0) = true := decide_eq_true (by omega)
    go_enter Tryz.func38, Tryz.ntmps38
    go_wp2_with fail
    go_ret
    exact ⟨ret_bool HQ.out.symm, below_alloc1 _ _⟩
  have bl : ((s.envs.length : Int) == 0) = false := beq_eq_false_iff_ne.2 (by omega)
  have bl2 : decide (s.envs.length = 0) = false := decide_eq_false (by omega)
  have HQ := Lib.hid (show storeOk s = (s.envs[0].used && envsOk s && promsOk s) by simp only [storeOk, decide_eq_true hl, List.getElem?_eq_getElem hl]; rfl)
  have HY := Lib.hid (show ∃ b off, E0 = some ⟨b, off, none⟩ ∧ (w.alloc (.cells #[.slice E0 s.envs.length e0, .slice E1 s.promises.length e1] 33)).cell? ⟨b, off, none⟩ = some (.bool s.envs[0].used) from by
    obtain ⟨b, off, cs, hE, hbl, _, hat, v2, v3, rfl, _⟩ := HE.out 0 hl
    exact ⟨b, off, hE, ((below_alloc1 w (.cells #[.slice E0 s.envs.length e0, .slice E1 s.promises.length e1] 33)).cell (p := ⟨b, off, none⟩) hbl).trans (by simpa using hat 0 _ rfl)⟩)
  obtain ⟨b0, off0, rfl, y0⟩ := HY.out
  clear HY
  cases hu : s.envs[0].used
  · rw [hu] at y0
    go_enter Tryz.func38, Tryz.ntmps38
    go_wp2_with fail
    go_ret
    exact ⟨ret_bool (by rw [HQ.out, hu]; rfl), below_alloc1 _ _⟩
  rw [hu] at y0
  have HU := Lib.hid hu
  clear hu
  go_enter Tryz.func38, Tryz.ntmps38
  go_wp2_with fail
  clear y0
  go_loopw [21] (fun i wr => ∃ k : Nat, k ≤ s.envs.length ∧ i = .int .i64 k ∧ Hid (∀ j (h : j < s.envs.length), j < k → envOk s j s.envs[j] = true) ∧ Hid (ExL w w.heap.size [(w.heap.size, 33, [.slice (some ⟨b0, off0, none⟩) s.envs.length e0, .slice E1 s.promises.length e1])] wr)) (fun i _ => s.envs.length - (intOf i).toNat)
  case atStart => exact ⟨0, Nat.zero_le _, rfl, fun j _ h => absurd h (by omega), HX0.out⟩
  case round =>
    obtain ⟨k, hk, rfl, hn, HX⟩ := hrel
    have s0 := HX.out.b0.cell 0 _ rfl
    have s1 := HX.out.b0.cell 1 _ rfl
    by_cases hlt : k < s.envs.length
    · have hzk := sz_env k hlt
      go_wp2_with fail
      refine (impl_envRight s k hlt _ _ (HS.out.below HX.out.2.1) (by omega)).mono ?_
      rintro e w2 ⟨rfl, hb⟩
      have HX2 := Lib.hid (HX.out.below hb)
      clear hb s0 s1
      cases hq : envOk s k s.envs[k]
      · go_wp2_with fail
        go_ret
        exact ⟨ret_bool (by
          rw [HQ.out]
          have : envsOk s = false := decide_eq_false (fun h' => by rw [h' k hlt] at hq; cases hq)
          rw [this]
          simp), HX2.out.2.1⟩
      · have HQ2 := Lib.hid hq
        clear hq
        go_wp2_with fail
        go_roundw
        case rel => exact ⟨k + 1, by omega, by go_num, fun j h1 hj => by (rcases Nat.lt_succ_iff_lt_or_eq.1 hj with h3 | rfl); exact hn.out j h1 h3; exact HQ2.out, HX2.out⟩
        case measure => simp [intOf]; omega
    have HEO := Lib.hid (show envsOk s = true from decide_eq_true (fun j h => hn.out j h (by omega)))
    clear hn
    go_wp2_with fail
    obtain ⟨wo, rfl⟩ : ∃ wo : World, wo = wr := ⟨_, rfl⟩
    go_loopw [32] (fun i wr => ∃ k : Nat, k ≤ s.promises.length ∧ i = .int .i64 k ∧ Hid (∀ j (h : j < s.promises.length), j < k → prOk s s.promises[j] = true) ∧ Hid (ExL w w.heap.size [(w.heap.size, 33, [.slice (some ⟨b0, off0, none⟩) s.envs.length e0, .slice E1 s.promises.length e1])] wr)) (fun i _ => s.promises.length - (intOf i).toNat)
    case atStart => exact ⟨0, Nat.zero_le _, rfl, fun j _ h => absurd h (by omega), HX.out⟩
    case round =>
      clear HX s0 s1 hk hlt
      obtain ⟨k, hk, rfl, hn, HX⟩ := hrel
      have s0 := HX.out.b0.cell 0 _ rfl
      have s1 := HX.out.b0.cell 1 _ rfl
      have hlw : w.heap.size < wr.heap.size := HX.out.b0.lt
      by_cases hlt : k < s.promises.length
      · have hzk := sz_prom k hlt
        obtain ⟨b, off, cs, rfl, hbl, _, hat, hr⟩ := HP.out k hlt
        have HPR := Lib.hid hr
        obtain ⟨A1, c1, A2, c2, A3, c3, A4, c4, A5, c5, rfl, i0, i1, i2, _⟩ := hr.open_
        clear hr
        have y0 := (HX.out.2.1.cell (p := ⟨b, off + k * 12, none⟩) hbl).trans (by simpa using hat 0 _ rfl)
        have y1 := (HX.out.2.1.cell (p := ⟨b, off + k * 12 + 1, none⟩) hbl).trans (hat 1 _ rfl)
        have y2 := (HX.out.2.1.cell (p := ⟨b, off + k * 12 + 2, none⟩) hbl).trans (hat 2 _ rfl)
        have y3 := (HX.out.2.1.cell (p := ⟨b, off + k * 12 + 3, none⟩) hbl).trans (hat 3 _ rfl)
        have y4 := (HX.out.2.1.cell (p := ⟨b, off + k * 12 + 4, none⟩) hbl).trans (hat 4 _ rfl)
        have y5 := (HX.out.2.1.cell (p := ⟨b, off + k * 12 + 5, none⟩) hbl).trans (hat 5 _ rfl)
        have y6 := (HX.out.2.1.cell (p := ⟨b, off + k * 12 + 6, none⟩) hbl).trans (hat 6 _ rfl)
        have y7 := (HX.out.2.1.cell (p := ⟨b, off + k * 12 + 7, none⟩) hbl).trans (hat 7 _ rfl)
        have y8 := (HX.out.2.1.cell (p := ⟨b, off + k * 12 + 8, none⟩) hbl).trans (hat 8 _ rfl)
        have y9 := (HX.out.2.1.cell (p := ⟨b, off + k * 12 + 9, none⟩) hbl).trans (hat 9 _ rfl)
        have y10 := (HX.out.2.1.cell (p := ⟨b, off + k * 12 + 10, none⟩) hbl).trans (hat 10 _ rfl)
        have y11 := (HX.out.2.1.cell (p := ⟨b, off + k * 12 + 11, none⟩) hbl).trans (hat 11 _ rfl)
        clear hat
        go_wp2_with fail
        refine abs_w (ExL w w.heap.size [(w.heap.size, 33, [.slice (some ⟨b0, off0, none⟩) s.envs.length e0, .slice (some ⟨b, off, none⟩) s.promises.length e1])]) (by have := (HX.out.push 74 [.bool s.promises[k].used, .int .i64 s.promises[k].code, .int .i64 s.promises[k].env, .int .i64 s.promises[k].state, .int .i64 s.promises[k].value.kind, .slice A1 s.promises[k].value.items.length c1, .slice A2 s.promises[k].value.parts.length c2, .slice A3 s.promises[k].value.names.length c3, .slice A4 s.promises[k].value.cls.length c4, .slice A5 s.promises[k].value.levels.length c5, .int .i64 s.promises[k].value.code, .int .i64 s.promises[k].value.env]).tail; exact this) ?_
        rintro W hX
        refine (impl_promiseRight s s.promises[k] _ _ W (HS.out.below hX.2.1) (HPR.out.below hX.2.1) (by omega)).mono ?_
        rintro e w2 ⟨rfl, hb⟩
        have HX2 := Lib.hid (hX.below hb)
        clear hX hb s0 s1 y0 y1 y2 y3 y4 y5 y6 y7 y8 y9 y10 y11
        cases hq : prOk s s.promises[k]
        · go_wp2_with fail
          go_ret
          exact ⟨ret_bool (by
            rw [HQ.out]
            have : promsOk s = false := decide_eq_false (fun h' => by rw [h' k hlt] at hq; cases hq)
            rw [this]
            simp), HX2.out.2.1⟩
        · have HQ2 := Lib.hid hq
          clear hq
          go_wp2_with fail
          go_roundw
          case rel => exact ⟨k + 1, by omega, by go_num, fun j h1 hj => by (rcases Nat.lt_succ_iff_lt_or_eq.1 hj with h3 | rfl); exact hn.out j h1 h3; exact HQ2.out, HX2.out⟩
          case measure => simp [intOf]; omega
      · have HPO := Lib.hid (show promsOk s = true from decide_eq_true (fun j h => hn.out j h (by omega)))
        go_wp2_with fail
        go_ret
        exact ⟨ret_bool (by rw [HQ.out, HU.out, HEO.out, HPO.out]; rfl), HX.out.2.1⟩

end Go.Proofs.YtejieacdfjpfnaaGreat
