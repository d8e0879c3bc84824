/-
  Contracts: values that fit a store; vectors that are the zero value, of the program.
-/
import Derived.Test.YtejieacdfjpfnaaGreatStoreOk1
import Derived.Deep.DeepCutAuto
import Derived.Deep.Light
namespace Go.Proofs.YtejieacdfjpfnaaGreat
set_option maxRecDepth 100000
open Go.ChangeShapes Go.WideShapes Go.ChangeAt Go.RowKit Go.Deep

def zeroV (d : VecD) : Bool := d.kind == 0 && d.code == 0 && d.env == 0 && decide (d.names.length = 0) && decide (d.cls.length = 0) && decide (d.levels.length = 0) && decide (d.items.length = 0) && decide (d.parts.length = 0)
theorem eqL_nil (l : List (List UInt8)) : eqL l [] = decide (l.length = 0) := by cases l <;> simp [eqL]
theorem sameTexts_nil (l : List (List UInt8)) (v : Value) (w : World) (h : Txts w v l) :
    Calls Tryz.prog 163 #[v, .slice none 0 0] w fun e w' => e = .returned (.bool (decide (l.length = 0))) ∧ ∃ n, w' = w.drewN n := by
  have := impl_sameTexts l [] v (.slice none 0 0) w h (SlR.nil_ _ _ _)
  rw [eqL_nil] at this
  exact this
theorem sameTexts_nil_t (l : List (List UInt8)) (v : Value) (w : World) (h : Txts w v l) (h0 : l.length = 0) :
    Calls Tryz.prog 163 #[v, .slice none 0 0] w fun e w' => e = .returned (.bool true) ∧ ∃ n, w' = w.drewN n := by
  have := sameTexts_nil l v w h
  rw [decide_eq_true h0] at this
  exact this
theorem sameTexts_nil_f (l : List (List UInt8)) (v : Value) (w : World) (h : Txts w v l) (h0 : ¬ l.length = 0) :
    Calls Tryz.prog 163 #[v, .slice none 0 0] w fun e w' => e = .returned (.bool false) ∧ ∃ n, w' = w.drewN n := by
  have := sameTexts_nil l v w h
  rw [decide_eq_false h0] at this
  exact this

set_option maxHeartbeats 2000000 in
theorem impl_equal_zero (d : VecD) (cs : List Value) (w : World) (h : VecR w cs d) :
    Calls Tryz.prog 147 #[.agg cs.toArray, .agg #[.int .i64 0, .slice none 0 0, .slice none 0 0, .slice none 0 0, .slice none 0 0, .slice none 0 0, .int .i64 0, .int .i64 0]] w (RetB (zeroV d) w) := by
  obtain ⟨n, A1, c1, A2, c2, A3, c3, A4, c4, A5, c5, rfl, k0, k1, k2, l1, l2, l3, l4, l5, HV⟩ := h.open_
  clear h
  have HBK := Lib.hid (show Ex2 w w.heap.size w.heap.size 45 [.int .i64 d.kind, .slice A1 d.items.length c1, .slice A2 d.parts.length c2, .slice A3 d.names.length c3, .slice A4 d.cls.length c4, .slice A5 d.levels.length c5, .int .i64 d.code, .int .i64 d.env] (w.heap.size + 1) 45 [.int .i64 0, .slice none 0 0, .slice none 0 0, .slice none 0 0, .slice none 0 0, .slice none 0 0, .int .i64 0, .int .i64 0] ((w.alloc (.cells #[.int .i64 d.kind, .slice A1 d.items.length c1, .slice A2 d.parts.length c2, .slice A3 d.names.length c3, .slice A4 d.cls.length c4, .slice A5 d.levels.length c5, .int .i64 d.code, .int .i64 d.env] 45)).alloc (.cells #[.int .i64 0, .slice none 0 0, .slice none 0 0, .slice none 0 0, .slice none 0 0, .slice none 0 0, .int .i64 0, .int .i64 0] 45)) from ⟨(Blk.new _ _ _).alloc _, by have := Blk.new (w.alloc (.cells #[.int .i64 d.kind, .slice A1 d.items.length c1, .slice A2 d.parts.length c2, .slice A3 d.names.length c3, .slice A4 d.cls.length c4, .slice A5 d.levels.length c5, .int .i64 d.code, .int .i64 d.env] 45)) 45 [.int .i64 0, .slice none 0 0, .slice none 0 0, .slice none 0 0, .slice none 0 0, .slice none 0 0, .int .i64 0, .int .i64 0]; simpa using this, (below_alloc1 _ _).alloc (by simp) _, by simp; omega⟩)
  go_enter Tryz.func147, Tryz.ntmps147
  go_upto_region 1 with fail
  generalize (Value.agg #[.int .i64 d.kind, .slice A1 d.items.length c1, .slice A2 d.parts.length c2, .slice A3 d.names.length c3, .slice A4 d.cls.length c4, .slice A5 d.levels.length c5, .int .i64 d.code, .int .i64 d.env]) = V0
  generalize ((w.alloc (.cells #[.int .i64 d.kind, .slice A1 d.items.length c1, .slice A2 d.parts.length c2, .slice A3 d.names.length c3, .slice A4 d.cls.length c4, .slice A5 d.levels.length c5, .int .i64 d.code, .int .i64 d.env] 45)).alloc (.cells #[.int .i64 0, .slice none 0 0, .slice none 0 0, .slice none 0 0, .slice none 0 0, .slice none 0 0, .int .i64 0, .int .i64 0] 45)) = W0 at HBK ⊢
  have HBW := Lib.hid HBK.out.2.2.1
  have x0 := HBK.out.1.cell 0 _ rfl
  have x1 := HBK.out.1.cell 1 _ rfl
  have x2 := HBK.out.1.cell 2 _ rfl
  have x3 := HBK.out.1.cell 3 _ rfl
  have x4 := HBK.out.1.cell 4 _ rfl
  have x5 := HBK.out.1.cell 5 _ rfl
  have x6 := HBK.out.1.cell 6 _ rfl
  have x7 := HBK.out.1.cell 7 _ rfl
  have z0 := HBK.out.2.1.cell 0 _ rfl
  have z1 := HBK.out.2.1.cell 1 _ rfl
  have z2 := HBK.out.2.1.cell 2 _ rfl
  have z3 := HBK.out.2.1.cell 3 _ rfl
  have z4 := HBK.out.2.1.cell 4 _ rfl
  have z5 := HBK.out.2.1.cell 5 _ rfl
  have z6 := HBK.out.2.1.cell 6 _ rfl
  have z7 := HBK.out.2.1.cell 7 _ rfl
  go_cut [67] from 7 to 67 (fun s wx => s = .bool (!zeroV d) ∧ ∃ n, wx = W0.drewN n)
  case first =>
    by_cases q3 : d.names.length = 0 <;> by_cases q4 : d.cls.length = 0 <;> by_cases q5 : d.levels.length = 0
    all_goals
      have Q3 := Lib.hid q3
      have Q4 := Lib.hid q4
      have Q5 := Lib.hid q5
      clear q3 q4 q5
      go_wp2_with (go_at_call 163; first | (refine (sameTexts_nil_t _ _ _ (by first | exact HV.out.2.2.1.below HBW.out | exact (HV.out.2.2.2.1.below HBW.out).drewN _ | exact (HV.out.2.2.2.2.below HBW.out).drewN _ | exact ((HV.out.2.2.2.2.below HBW.out).drewN _).drewN _) (by first | exact Q3.out | exact Q4.out | exact Q5.out)).mono ?_; rintro e w' ⟨rfl, nq, rfl⟩) | (refine (sameTexts_nil_f _ _ _ (by first | exact HV.out.2.2.1.below HBW.out | exact (HV.out.2.2.2.1.below HBW.out).drewN _ | exact (HV.out.2.2.2.2.below HBW.out).drewN _ | exact ((HV.out.2.2.2.2.below HBW.out).drewN _).drewN _) (by first | exact Q3.out | exact Q4.out | exact Q5.out)).mono ?_; rintro e w' ⟨rfl, nq, rfl⟩))
      all_goals
        go_meet
        case rel => exact ⟨by congr 1; go_light; have := Q3.out; have := Q4.out; have := Q5.out; grind [zeroV], by first | exact ⟨0, rfl⟩ | exact ⟨_, rfl⟩ | exact ⟨_, (World.drewN_drewN _ _ _)⟩ | exact ⟨_, by simp only [World.drewN_drewN]; rfl⟩⟩
  obtain ⟨rfl, nd, rfl⟩ := hcut
  cases hz : zeroV d
  · go_wp2_with fail
    go_ret
    exact ⟨ret_bool (by rw [hz]), below_drewN HBW.out _⟩
  have hi0 : d.items.length ≤ 0 := by grind [zeroV]
  have hp0 : d.parts.length ≤ 0 := by grind [zeroV]
  have HZ := Lib.hid hz
  clear hz
  go_wp2_with fail
  go_loop [71] (fun i => i = .int .i64 0) (fun _ => 0)
  case atStart => rfl
  case round =>
    subst hrel
    go_wp2_with fail
    go_loop [89] (fun i => i = .int .i64 0) (fun _ => 0)
    case atStart => rfl
    case round =>
      subst hrel
      go_wp2_with fail
      go_ret
      exact ⟨ret_bool (by rw [HZ.out]), below_drewN HBW.out _⟩

theorem impl_isZeroVector (d : VecD) (cs : List Value) (w : World) (h : VecR w cs d) :
    Calls Tryz.prog 130 #[.agg cs.toArray] w (RetB (zeroV d) w) := by
  have HI := Lib.hid h
  obtain ⟨n, A1, c1, A2, c2, A3, c3, A4, c4, A5, c5, rfl, k0, k1, k2, l1, l2, l3, l4, l5, HV⟩ := h.open_
  clear h
  go_enter Tryz.func130, Tryz.ntmps130
  go_wp2_with fail
  refine abs_w (fun W => Below w.heap.size w W) (below_alloc1 _ _) ?_
  rintro W hB
  refine (impl_equal_zero d _ _ (HI.out.below hB)).mono ?_
  rintro e w1 ⟨rfl, hb⟩
  have HB := Lib.hid (hB.trans (hb.mono hB.size))
  clear hb hB
  go_wp2_with fail
  go_ret
  exact ⟨rfl, HB.out⟩

set_option maxHeartbeats 1000000 in
theorem impl_valueFits (s : StoreD) (d : VecD) (ss cs : List Value) (w : World) (hs : StoreR w ss s) (h : VecR w cs d) (hz : szVector d ≤ 1000000000000) :
    Calls Tryz.prog 122 #[.agg ss.toArray, .agg cs.toArray] w (RetB (valFit s d) w) := by
  have HS := Lib.hid hs
  obtain ⟨E0, e0, E1, e1, rfl, l0, l1, _⟩ := hs.open_
  have HI := Lib.hid h
  obtain ⟨n, A1, c1, A2, c2, A3, c3, A4, c4, A5, c5, rfl, k0, k1, k2, m1, m2, m3, m4, m5, HV⟩ := h.open_
  clear h hs
  have HX0 := Lib.hid (show ExL w w.heap.size [(w.heap.size + 1, 45, [.int .i64 d.kind, .slice A1 d.items.length c1, .slice A2 d.parts.length c2, .slice A3 d.names.length c3, .slice A4 d.cls.length c4, .slice A5 d.levels.length c5, .int .i64 d.code, .int .i64 d.env]), (w.heap.size, 33, [.slice E0 s.envs.length e0, .slice E1 s.promises.length e1])] ((w.alloc (.cells #[.slice E0 s.envs.length e0, .slice E1 s.promises.length e1] 33)).alloc (.cells #[.int .i64 d.kind, .slice A1 d.items.length c1, .slice A2 d.parts.length c2, .slice A3 d.names.length c3, .slice A4 d.cls.length c4, .slice A5 d.levels.length c5, .int .i64 d.code, .int .i64 d.env] 45)) from by simpa using ((ExL.start w).push 33 [.slice E0 s.envs.length e0, .slice E1 s.promises.length e1]).push 45 [.int .i64 d.kind, .slice A1 d.items.length c1, .slice A2 d.parts.length c2, .slice A3 d.names.length c3, .slice A4 d.cls.length c4, .slice A5 d.levels.length c5, .int .i64 d.code, .int .i64 d.env])
  go_enter Tryz.func122, Tryz.ntmps122
  go_wp2_with fail
  refine abs_w (ExL w w.heap.size [(w.heap.size + 1, 45, [.int .i64 d.kind, .slice A1 d.items.length c1, .slice A2 d.parts.length c2, .slice A3 d.names.length c3, .slice A4 d.cls.length c4, .slice A5 d.levels.length c5, .int .i64 d.code, .int .i64 d.env]), (w.heap.size, 33, [.slice E0 s.envs.length e0, .slice E1 s.promises.length e1])]) HX0.out ?_
  rintro W0 hX
  refine (impl_IsVector d _ W0 (HI.out.below hX.2.1) hz).mono ?_
  rintro e w1 ⟨rfl, hb⟩
  have HX1 := Lib.hid (hX.below hb)
  clear hb hX
  cases hv : vecOk d
  · go_wp2_with fail
    go_ret
    exact ⟨ret_bool (by simp [valFit, hv]), HX1.out.2.1⟩
  have HVV := Lib.hid hv
  clear hv
  have x0 := HX1.out.b0.cell 0 _ rfl
  have x1 := HX1.out.b0.cell 1 _ rfl
  have x2 := HX1.out.b0.cell 2 _ rfl
  have x3 := HX1.out.b0.cell 3 _ rfl
  have x4 := HX1.out.b0.cell 4 _ rfl
  have x5 := HX1.out.b0.cell 5 _ rfl
  have x6 := HX1.out.b0.cell 6 _ rfl
  have x7 := HX1.out.b0.cell 7 _ rfl
  have s0 := HX1.out.tail.b0.cell 0 _ rfl
  have s1 := HX1.out.tail.b0.cell 1 _ rfl
  go_wp2_with fail
  refine (impl_functionsFit s d _ _ _ (HS.out.below HX1.out.2.1) (HI.out.below HX1.out.2.1)).mono ?_
  rintro e w2 ⟨rfl, hb⟩
  have HX2 := Lib.hid (HX1.out.below hb)
  clear hb s0 s1 x0 x1 x2 x3 x4 x5 x6 x7
  go_wp2_with fail
  go_ret
  exact ⟨ret_bool (by rw [valFit, HVV.out]; rfl), HX2.out.2.1⟩

end Go.Proofs.YtejieacdfjpfnaaGreat
