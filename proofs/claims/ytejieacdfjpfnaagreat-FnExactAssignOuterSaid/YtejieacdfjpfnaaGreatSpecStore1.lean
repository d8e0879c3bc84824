/-
  Contracts: vectors that are the zero value; promises that are there, of the reference.
-/
import Derived.Test.YtejieacdfjpfnaaGreatStoreOk2
import Derived.Test.YtejieacdfjpfnaaGreatVecOk5
import Derived.Deep.DeepCutAuto
import Derived.Deep.Light
namespace Go.Proofs.YtejieacdfjpfnaaGreat
set_option maxRecDepth 100000
open Go.ChangeShapes Go.WideShapes Go.ChangeAt Go.RowKit Go.Deep

theorem l4Strings_nil (l : List (List UInt8)) (v : Value) (w : World) (h : Txts w v l) :
    Calls Tryz.prog 132 #[v, .slice none 0 0] w fun e w' => e = .returned (.bool (decide (l.length = 0))) ∧ ∃ n, w' = w.drewN n := by
  have := spec_l4Strings l [] v (.slice none 0 0) w h (SlR.nil_ _ _ _)
  rw [eqL_nil] at this
  exact this
theorem l4Strings_nil_t (l : List (List UInt8)) (v : Value) (w : World) (h : Txts w v l) (h0 : l.length = 0) :
    Calls Tryz.prog 132 #[v, .slice none 0 0] w fun e w' => e = .returned (.bool true) ∧ ∃ n, w' = w.drewN n := by
  have := l4Strings_nil l v w h
  rw [decide_eq_true h0] at this
  exact this
theorem l4Strings_nil_f (l : List (List UInt8)) (v : Value) (w : World) (h : Txts w v l) (h0 : ¬ l.length = 0) :
    Calls Tryz.prog 132 #[v, .slice none 0 0] w fun e w' => e = .returned (.bool false) ∧ ∃ n, w' = w.drewN n := by
  have := l4Strings_nil l v w h
  rw [decide_eq_false h0] at this
  exact this

set_option maxHeartbeats 2000000 in
theorem spec_l4Same_zero (d : VecD) (cs : List Value) (w : World) (h : VecR w cs d) :
    Calls Tryz.prog 94 #[.agg cs.toArray, .agg #[.int .i64 0, .slice none 0 0, .slice none 0 0, .slice none 0 0, .slice none 0 0, .slice none 0 0, .int .i64 0, .int .i64 0]] w (RetB (zeroV d) w) := by
  obtain ⟨n, A1, c1, A2, c2, A3, c3, A4, c4, A5, c5, rfl, k0, k1, k2, l1, l2, l3, l4, l5, HV⟩ := h.open_
  clear h
  have HBK := Lib.hid (show Ex2 w w.heap.size w.heap.size 45 [.int .i64 d.kind, .slice A1 d.items.length c1, .slice A2 d.parts.length c2, .slice A3 d.names.length c3, .slice A4 d.cls.length c4, .slice A5 d.levels.length c5, .int .i64 d.code, .int .i64 d.env] (w.heap.size + 1) 45 [.int .i64 0, .slice none 0 0, .slice none 0 0, .slice none 0 0, .slice none 0 0, .slice none 0 0, .int .i64 0, .int .i64 0] ((w.alloc (.cells #[.int .i64 d.kind, .slice A1 d.items.length c1, .slice A2 d.parts.length c2, .slice A3 d.names.length c3, .slice A4 d.cls.length c4, .slice A5 d.levels.length c5, .int .i64 d.code, .int .i64 d.env] 45)).alloc (.cells #[.int .i64 0, .slice none 0 0, .slice none 0 0, .slice none 0 0, .slice none 0 0, .slice none 0 0, .int .i64 0, .int .i64 0] 45)) from ⟨(Blk.new _ _ _).alloc _, by have := Blk.new (w.alloc (.cells #[.int .i64 d.kind, .slice A1 d.items.length c1, .slice A2 d.parts.length c2, .slice A3 d.names.length c3, .slice A4 d.cls.length c4, .slice A5 d.levels.length c5, .int .i64 d.code, .int .i64 d.env] 45)) 45 [.int .i64 0, .slice none 0 0, .slice none 0 0, .slice none 0 0, .slice none 0 0, .slice none 0 0, .int .i64 0, .int .i64 0]; simpa using this, (below_alloc1 _ _).alloc (by simp) _, by simp; omega⟩)
  go_enter Tryz.func94, Tryz.ntmps94
  go_upto_region 1 with fail
  generalize (Value.agg #[.int .i64 d.kind, .slice A1 d.items.length c1, .slice A2 d.parts.length c2, .slice A3 d.names.length c3, .slice A4 d.cls.length c4, .slice A5 d.levels.length c5, .int .i64 d.code, .int .i64 d.env]) = V0
  generalize ((w.alloc (.cells #[.int .i64 d.kind, .slice A1 d.items.length c1, .slice A2 d.parts.length c2, .slice A3 d.names.length c3, .slice A4 d.cls.length c4, .slice A5 d.levels.length c5, .int .i64 d.code, .int .i64 d.env] 45)).alloc (.cells #[.int .i64 0, .slice none 0 0, .slice none 0 0, .slice none 0 0, .slice none 0 0, .slice none 0 0, .int .i64 0, .int .i64 0] 45)) = W0 at HBK ⊢
  have HBW := Lib.hid HBK.out.2.2.1
  have x0 := HBK.out.1.cell 0 _ rfl
  have x1 := HBK.out.1.cell 1 _ rfl
  have x2 := HBK.out.1.cell 2 _ rfl
  have x3 := HBK.out.1.cell 3 _ rfl
  have x4 := HBK.out.1.cell 4 _ rfl
  have x5 := HBK.out.1.cell 5 _ rfl
  have x6 := HBK.out.1.cell 6 _ rfl
  have x7 := HBK.out.1.cell 7 _ rfl
  have z0 := HBK.out.2.1.cell 0 _ rfl
  have z1 := HBK.out.2.1.cell 1 _ rfl
  have z2 := HBK.out.2.1.cell 2 _ rfl
  have z3 := HBK.out.2.1.cell 3 _ rfl
  have z4 := HBK.out.2.1.cell 4 _ rfl
  have z5 := HBK.out.2.1.cell 5 _ rfl
  have z6 := HBK.out.2.1.cell 6 _ rfl
  have z7 := HBK.out.2.1.cell 7 _ rfl
  go_cut [67] from 7 to 67 (fun s wx => s = .bool (!zeroV d) ∧ ∃ n, wx = W0.drewN n)
  case first =>
    by_cases q3 : d.names.length = 0 <;> by_cases q4 : d.cls.length = 0 <;> by_cases q5 : d.levels.length = 0
    all_goals
      have Q3 := Lib.hid q3
      have Q4 := Lib.hid q4
      have Q5 := Lib.hid q5
      clear q3 q4 q5
      go_wp2_with (go_at_call 132; first | (refine (l4Strings_nil_t _ _ _ (by first | exact HV.out.2.2.1.below HBW.out | exact (HV.out.2.2.2.1.below HBW.out).drewN _ | exact (HV.out.2.2.2.2.below HBW.out).drewN _ | exact ((HV.out.2.2.2.2.below HBW.out).drewN _).drewN _) (by first | exact Q3.out | exact Q4.out | exact Q5.out)).mono ?_; rintro e w' ⟨rfl, nq, rfl⟩) | (refine (l4Strings_nil_f _ _ _ (by first | exact HV.out.2.2.1.below HBW.out | exact (HV.out.2.2.2.1.below HBW.out).drewN _ | exact (HV.out.2.2.2.2.below HBW.out).drewN _ | exact ((HV.out.2.2.2.2.below HBW.out).drewN _).drewN _) (by first | exact Q3.out | exact Q4.out | exact Q5.out)).mono ?_; rintro e w' ⟨rfl, nq, rfl⟩))
      all_goals
        go_meet
        case rel => exact ⟨by congr 1; go_light; have := Q3.out; have := Q4.out; have := Q5.out; grind [zeroV], by first | exact ⟨0, rfl⟩ | exact ⟨_, rfl⟩ | exact ⟨_, (World.drewN_drewN _ _ _)⟩ | exact ⟨_, by simp only [World.drewN_drewN]; rfl⟩⟩
  obtain ⟨rfl, nd, rfl⟩ := hcut
  cases hz : zeroV d
  · go_wp2_with fail
    go_ret
    exact ⟨ret_bool (by rw [hz]), below_drewN HBW.out _⟩
  have hi0 : d.items.length ≤ 0 := by grind [zeroV]
  have hp0 : d.parts.length ≤ 0 := by grind [zeroV]
  have HZ := Lib.hid hz
  clear hz
  go_wp2_with fail
  go_loop [5] (fun i => i = .int .i64 0) (fun _ => 0)
  case atStart => rfl
  case round =>
    subst hrel
    go_wp2_with fail
    go_loop [6] (fun i => i = .int .i64 0) (fun _ => 0)
    case atStart => rfl
    case round =>
      subst hrel
      go_wp2_with fail
      go_ret
      exact ⟨ret_bool (by rw [HZ.out]), below_drewN HBW.out _⟩


set_option maxHeartbeats 1000000 in
theorem spec_l26Promise (s : StoreD) (e : Int) (cs : List Value) (w : World) (h : StoreR w cs s) :
    Calls Tryz.prog 148 #[.agg cs.toArray, .int .i64 e] w (RetB (promU s e) w) := by
  obtain ⟨E0, e0, E1, e1, rfl, l0, l1, HE, HP⟩ := h.open_
  clear h
  by_cases h0 : 0 ≤ e ∧ e ≤ (s.promises.length : Int) - 1
  rotate_left
  · have HQ := Lib.hid (show promU s e = false by by_cases h1 : 0 ≤ e; exact promU_big (by omega); exact promU_neg h1)
    go_enter Tryz.func148, Tryz.ntmps148
    go_wp2_with (go_at_call 93; refine (spec_l1In_f _ _ _ _ (by omega)).mono ?_; rintro e w' ⟨rfl, rfl⟩)
    go_ret
    exact ⟨ret_bool HQ.out.symm, below_alloc1 _ _⟩
  obtain ⟨k, rfl⟩ := Int.eq_ofNat_of_zero_le h0.1
  have hlt : k < s.promises.length := by omega
  have HQ := Lib.hid (promU_at (s := s) k hlt)
  obtain ⟨b, off, cs, rfl, hbl, _, hat, v1, v2, v3, v4, v5, rfl, _⟩ := HP.out k hlt
  have y0 := ((below_alloc1 w (.cells #[.slice E0 s.envs.length e0, .slice (some ⟨b, off, none⟩) s.promises.length e1] 33)).cell (p := ⟨b, off + k * 12, none⟩) hbl).trans (by simpa using hat 0 _ rfl)
  clear hat
  go_enter Tryz.func148, Tryz.ntmps148
  go_wp2_with (go_at_call 93; refine (spec_l1In_t _ _ _ _ (by omega) (by omega)).mono ?_; rintro e w' ⟨rfl, rfl⟩)
  go_ret
  exact ⟨ret_bool HQ.out.symm, below_alloc1 _ _⟩

end Go.Proofs.YtejieacdfjpfnaaGreat
