/-
  Contract: promiseRight, of the program.
-/
import Derived.Test.YtejieacdfjpfnaaGreatKSt1
namespace Go.Proofs.YtejieacdfjpfnaaGreat
set_option maxRecDepth 100000
open Go.ChangeShapes Go.WideShapes Go.ChangeAt Go.RowKit Go.Deep

theorem PromiseR.open_ {w : World} {cs : List Value} {x : PromD} (h : PromiseR w cs x) : ∃ (A1 : Option Addr) (c1 : Nat) (A2 : Option Addr) (c2 : Nat) (A3 : Option Addr) (c3 : Nat) (A4 : Option Addr) (c4 : Nat) (A5 : Option Addr) (c5 : Nat),
    cs = [.bool x.used, .int .i64 x.code, .int .i64 x.env, .int .i64 x.state, .int .i64 x.value.kind, .slice A1 x.value.items.length c1, .slice A2 x.value.parts.length c2, .slice A3 x.value.names.length c3, .slice A4 x.value.cls.length c4, .slice A5 x.value.levels.length c5, .int .i64 x.value.code, .int .i64 x.value.env] ∧ I64 x.code ∧ I64 x.env ∧ I64 x.state ∧ Hid (VecR w [.int .i64 x.value.kind, .slice A1 x.value.items.length c1, .slice A2 x.value.parts.length c2, .slice A3 x.value.names.length c3, .slice A4 x.value.cls.length c4, .slice A5 x.value.levels.length c5, .int .i64 x.value.code, .int .i64 x.value.env] x.value) := by
  obtain ⟨v11, v12, v13, v14, v15, rfl, _, h0, h2, h3, h1⟩ := h
  obtain ⟨_, A1, c1, A2, c2, A3, c3, A4, c4, A5, c5, he, _⟩ := h1.open_
  simp only [List.cons.injEq, and_true, true_and] at he
  obtain ⟨rfl, rfl, rfl, rfl, rfl⟩ := he
  exact ⟨A1, c1, A2, c2, A3, c3, A4, c4, A5, c5, rfl, h0, h2, h3, h1⟩

def prA (s : StoreD) (x : PromD) : Bool := decide (0 ≤ x.state) && decide (x.state ≤ 2) && decide (0 ≤ x.code) && decide (x.code ≤ 99999) && valFit s x.value && envU s x.env
def prU (x : PromD) : Bool := x.code == 0 && x.env == 0 && x.state == 0 && zeroV x.value
def prOk (s : StoreD) (x : PromD) : Bool := if x.used = true then prA s x && (if x.state = 2 then x.env == 0 else zeroV x.value) else prU x

set_option maxHeartbeats 4000000 in
theorem impl_promiseRight (s : StoreD) (x : PromD) (ss cs : List Value) (w : World) (hs : StoreR w ss s) (h : PromiseR w cs x) (hz : szVector x.value ≤ 1000000000000) :
    Calls Tryz.prog 91 #[.agg ss.toArray, .agg cs.toArray] w (RetB (prOk s x) w) := by
  have HS := Lib.hid hs
  obtain ⟨E0, e0, E1, e1, rfl, l0, l1, _⟩ := hs.open_
  obtain ⟨A1, c1, A2, c2, A3, c3, A4, c4, A5, c5, rfl, k0, k1, k2, HV⟩ := h.open_
  clear h hs
  have HX0 := Lib.hid (show ExL w w.heap.size [(w.heap.size + 1, 74, [.bool x.used, .int .i64 x.code, .int .i64 x.env, .int .i64 x.state, .int .i64 x.value.kind, .slice A1 x.value.items.length c1, .slice A2 x.value.parts.length c2, .slice A3 x.value.names.length c3, .slice A4 x.value.cls.length c4, .slice A5 x.value.levels.length c5, .int .i64 x.value.code, .int .i64 x.value.env]), (w.heap.size, 33, [.slice E0 s.envs.length e0, .slice E1 s.promises.length e1])] ((w.alloc (.cells #[.slice E0 s.envs.length e0, .slice E1 s.promises.length e1] 33)).alloc (.cells #[.bool x.used, .int .i64 x.code, .int .i64 x.env, .int .i64 x.state, .int .i64 x.value.kind, .slice A1 x.value.items.length c1, .slice A2 x.value.parts.length c2, .slice A3 x.value.names.length c3, .slice A4 x.value.cls.length c4, .slice A5 x.value.levels.length c5, .int .i64 x.value.code, .int .i64 x.value.env] 74)) from by simpa using ((ExL.start w).push 33 [.slice E0 s.envs.length e0, .slice E1 s.promises.length e1]).push 74 [.bool x.used, .int .i64 x.code, .int .i64 x.env, .int .i64 x.state, .int .i64 x.value.kind, .slice A1 x.value.items.length c1, .slice A2 x.value.parts.length c2, .slice A3 x.value.names.length c3, .slice A4 x.value.cls.length c4, .slice A5 x.value.levels.length c5, .int .i64 x.value.code, .int .i64 x.value.env])
  go_enter Tryz.func91, Tryz.ntmps91
  go_upto_region 1 with fail
  generalize ((w.alloc (.cells #[.slice E0 s.envs.length e0, .slice E1 s.promises.length e1] 33)).alloc (.cells #[.bool x.used, .int .i64 x.code, .int .i64 x.env, .int .i64 x.state, .int .i64 x.value.kind, .slice A1 x.value.items.length c1, .slice A2 x.value.parts.length c2, .slice A3 x.value.names.length c3, .slice A4 x.value.cls.length c4, .slice A5 x.value.levels.length c5, .int .i64 x.value.code, .int .i64 x.value.env] 74)) = W0 at HX0 ⊢
  generalize (Value.agg #[.bool x.used, .int .i64 x.code, .int .i64 x.env, .int .i64 x.state, .int .i64 x.value.kind, .slice A1 x.value.items.length c1, .slice A2 x.value.parts.length c2, .slice A3 x.value.names.length c3, .slice A4 x.value.cls.length c4, .slice A5 x.value.levels.length c5, .int .i64 x.value.code, .int .i64 x.value.env]) = V1
  generalize (Value.agg #[.slice E0 s.envs.length e0, .slice E1 s.promises.length e1]) = V0
  have x0 := HX0.out.b0.cell 0 _ rfl
  have x1 := HX0.out.b0.cell 1 _ rfl
  have x2 := HX0.out.b0.cell 2 _ rfl
  have x3 := HX0.out.b0.cell 3 _ rfl
  have x4 := HX0.out.b0.cell 4 _ rfl
  have x5 := HX0.out.b0.cell 5 _ rfl
  have x6 := HX0.out.b0.cell 6 _ rfl
  have x7 := HX0.out.b0.cell 7 _ rfl
  have x8 := HX0.out.b0.cell 8 _ rfl
  have x9 := HX0.out.b0.cell 9 _ rfl
  have x10 := HX0.out.b0.cell 10 _ rfl
  have x11 := HX0.out.b0.cell 11 _ rfl
  have xs0 := HX0.out.tail.b0.cell 0 _ rfl
  have xs1 := HX0.out.tail.b0.cell 1 _ rfl
  cases hu : x.used
  · have HQ := Lib.hid (show prOk s x = prU x by simp [prOk, hu])
    rw [hu] at x0
    cases hzv : zeroV x.value
    all_goals
      have HZV := Lib.hid hzv
      clear hzv
      go_wp2_with (go_at_call 130; refine (impl_isZeroVector x.value _ _ (HV.out.below HX0.out.2.1)).mono ?_; rintro e w2 ⟨rfl, hb⟩; rw [HZV.out]; have HX2 := Lib.hid (HX0.out.below hb); clear hb)
      all_goals
        go_ret
        exact ⟨ret_bool (by rw [HQ.out]; go_light; have := HZV.out; grind [prU]), by first | exact HX2.out.2.1 | exact HX0.out.2.1⟩
  have HQ := Lib.hid (show prOk s x = (prA s x && (if x.state = 2 then x.env == 0 else zeroV x.value)) by simp [prOk, hu])
  rw [hu] at x0
  clear hu
  go_upto_region 3 with fail
  go_cut [57] from 26 to 57 (fun v wx => v = .bool (!prA s x) ∧ Hid (ExL w w.heap.size [(w.heap.size + 1, 74, [.bool x.used, .int .i64 x.code, .int .i64 x.env, .int .i64 x.state, .int .i64 x.value.kind, .slice A1 x.value.items.length c1, .slice A2 x.value.parts.length c2, .slice A3 x.value.names.length c3, .slice A4 x.value.cls.length c4, .slice A5 x.value.levels.length c5, .int .i64 x.value.code, .int .i64 x.value.env]), (w.heap.size, 33, [.slice E0 s.envs.length e0, .slice E1 s.promises.length e1])] wx))
  case first =>
    cases hvf : valFit s x.value <;> cases hev : envU s x.env
    all_goals
      have HVF := Lib.hid hvf
      have HEV := Lib.hid hev
      clear hvf hev
      go_wp2_with (first | (go_at_call 122; refine (impl_valueFits s x.value _ _ _ (HS.out.below HX0.out.2.1) (HV.out.below HX0.out.2.1) hz).mono ?_; rintro e w1 ⟨rfl, hb⟩; rw [HVF.out]; have HX1 := Lib.hid (HX0.out.below hb); clear hb; have y0 := HX1.out.b0.cell 0 _ rfl; have y1 := HX1.out.b0.cell 1 _ rfl; have y2 := HX1.out.b0.cell 2 _ rfl; have y3 := HX1.out.b0.cell 3 _ rfl; have y4 := HX1.out.b0.cell 4 _ rfl; have y5 := HX1.out.b0.cell 5 _ rfl; have y6 := HX1.out.b0.cell 6 _ rfl; have y7 := HX1.out.b0.cell 7 _ rfl; have y8 := HX1.out.b0.cell 8 _ rfl; have y9 := HX1.out.b0.cell 9 _ rfl; have y10 := HX1.out.b0.cell 10 _ rfl; have y11 := HX1.out.b0.cell 11 _ rfl; have ys0 := HX1.out.tail.b0.cell 0 _ rfl; have ys1 := HX1.out.tail.b0.cell 1 _ rfl) | (go_at_call 71; refine (impl_envUsed s x.env _ _ (HS.out.below HX1.out.2.1)).mono ?_; rintro e w2 ⟨rfl, hb⟩; rw [HEV.out]; have HX2 := Lib.hid (HX1.out.below hb); clear hb))
      all_goals
        go_meet
        case rel => exact ⟨by congr 1; go_light; have := HVF.out; have := HEV.out; grind [prA], by first | exact HX2.out | exact HX1.out | exact HX0.out⟩
  obtain ⟨rfl, HX1⟩ := hcut
  clear HX0 x0 x1 x2 x3 x4 x5 x6 x7 x8 x9 x10 x11 xs0 xs1
  cases hA : prA s x
  · go_wp2_with fail
    go_ret
    exact ⟨ret_bool (by rw [HQ.out, hA]; rfl), HX1.out.2.1⟩
  have HA := Lib.hid hA
  clear hA
  have x0 := HX1.out.b0.cell 0 _ rfl
  have x1 := HX1.out.b0.cell 1 _ rfl
  have x2 := HX1.out.b0.cell 2 _ rfl
  have x3 := HX1.out.b0.cell 3 _ rfl
  have x4 := HX1.out.b0.cell 4 _ rfl
  have x5 := HX1.out.b0.cell 5 _ rfl
  have x6 := HX1.out.b0.cell 6 _ rfl
  have x7 := HX1.out.b0.cell 7 _ rfl
  have x8 := HX1.out.b0.cell 8 _ rfl
  have x9 := HX1.out.b0.cell 9 _ rfl
  have x10 := HX1.out.b0.cell 10 _ rfl
  have x11 := HX1.out.b0.cell 11 _ rfl
  have xs0 := HX1.out.tail.b0.cell 0 _ rfl
  have xs1 := HX1.out.tail.b0.cell 1 _ rfl
  by_cases h2 : x.state = 2
  · have HQ2 := Lib.hid (show prOk s x = (x.env == 0) by rw [HQ.out, HA.out, if_pos h2]; rfl)
    have b2 : (x.state == 2) = true := by simp [h2]
    clear h2
    go_wp2_with fail
    go_ret
    exact ⟨ret_bool (by rw [HQ2.out]), HX1.out.2.1⟩
  · have HQ2 := Lib.hid (show prOk s x = zeroV x.value by rw [HQ.out, HA.out, if_neg h2]; rfl)
    have b2 : (x.state == 2) = false := by simp [h2]
    clear h2
    go_wp2_with (go_at_call 130; refine (impl_isZeroVector x.value _ _ (HV.out.below HX1.out.2.1)).mono ?_; rintro e w2 ⟨rfl, hb⟩; have HX2 := Lib.hid (HX1.out.below hb); clear hb)
    go_ret
    exact ⟨ret_bool (by rw [HQ2.out]), HX2.out.2.1⟩

end Go.Proofs.YtejieacdfjpfnaaGreat
