/-
  Merged texts: SpecStore1, SpecStore2.
-/
import Derived.Test.YtejieacdfjpfnaaGreatKSt1
import Derived.Test.YtejieacdfjpfnaaGreatKOk5
import Derived.Deep.DeepCutAuto
import Derived.Deep.Light
namespace Go.Proofs.YtejieacdfjpfnaaGreat
set_option maxRecDepth 100000
set_option maxRecDepth 100000
open Go.ChangeShapes Go.WideShapes Go.ChangeAt Go.RowKit Go.Deep

theorem l4Strings_nil (l : List (List UInt8)) (v : Value) (w : World) (h : Txts w v l) :
    Calls Tryz.prog 132 #[v, .slice none 0 0] w fun e w' => e = .returned (.bool (decide (l.length = 0))) ∧ ∃ n, w' = w.drewN n := by
  have := spec_l4Strings l [] v (.slice none 0 0) w h (SlR.nil_ _ _ _)
  rw [eqL_nil] at this
  exact this
theorem l4Strings_nil_t (l : List (List UInt8)) (v : Value) (w : World) (h : Txts w v l) (h0 : l.length = 0) :
    Calls Tryz.prog 132 #[v, .slice none 0 0] w fun e w' => e = .returned (.bool true) ∧ ∃ n, w' = w.drewN n := by
  have := l4Strings_nil l v w h
  rw [decide_eq_true h0] at this
  exact this
theorem l4Strings_nil_f (l : List (List UInt8)) (v : Value) (w : World) (h : Txts w v l) (h0 : ¬ l.length = 0) :
    Calls Tryz.prog 132 #[v, .slice none 0 0] w fun e w' => e = .returned (.bool false) ∧ ∃ n, w' = w.drewN n := by
  have := l4Strings_nil l v w h
  rw [decide_eq_false h0] at this
  exact this

set_option maxHeartbeats 2000000 in
theorem spec_l4Same_zero (d : VecD) (cs : List Value) (w : World) (h : VecR w cs d) :
    Calls Tryz.prog 94 #[.agg cs.toArray, .agg #[.int .i64 0, .slice none 0 0, .slice none 0 0, .slice none 0 0, .slice none 0 0, .slice none 0 0, .int .i64 0, .int .i64 0]] w (RetB (zeroV d) w) := by
  obtain ⟨n, A1, c1, A2, c2, A3, c3, A4, c4, A5, c5, rfl, k0, k1, k2, l1, l2, l3, l4, l5, HV⟩ := h.open_
  clear h
  have HBK := Lib.hid (show Ex2 w w.heap.size w.heap.size 45 [.int .i64 d.kind, .slice A1 d.items.length c1, .slice A2 d.parts.length c2, .slice A3 d.names.length c3, .slice A4 d.cls.length c4, .slice A5 d.levels.length c5, .int .i64 d.code, .int .i64 d.env] (w.heap.size + 1) 45 [.int .i64 0, .slice none 0 0, .slice none 0 0, .slice none 0 0, .slice none 0 0, .slice none 0 0, .int .i64 0, .int .i64 0] ((w.alloc (.cells #[.int .i64 d.kind, .slice A1 d.items.length c1, .slice A2 d.parts.length c2, .slice A3 d.names.length c3, .slice A4 d.cls.length c4, .slice A5 d.levels.length c5, .int .i64 d.code, .int .i64 d.env] 45)).alloc (.cells #[.int .i64 0, .slice none 0 0, .slice none 0 0, .slice none 0 0, .slice none 0 0, .slice none 0 0, .int .i64 0, .int .i64 0] 45)) from ⟨(Blk.new _ _ _).alloc _, by have := Blk.new (w.alloc (.cells #[.int .i64 d.kind, .slice A1 d.items.length c1, .slice A2 d.parts.length c2, .slice A3 d.names.length c3, .slice A4 d.cls.length c4, .slice A5 d.levels.length c5, .int .i64 d.code, .int .i64 d.env] 45)) 45 [.int .i64 0, .slice none 0 0, .slice none 0 0, .slice none 0 0, .slice none 0 0, .slice none 0 0, .int .i64 0, .int .i64 0]; simpa using this, (below_alloc1 _ _).alloc (by simp) _, by simp; omega⟩)
  go_enter Tryz.func94, Tryz.ntmps94
  go_upto_region 1 with fail
  generalize (Value.agg #[.int .i64 d.kind, .slice A1 d.items.length c1, .slice A2 d.parts.length c2, .slice A3 d.names.length c3, .slice A4 d.cls.length c4, .slice A5 d.levels.length c5, .int .i64 d.code, .int .i64 d.env]) = V0
  generalize ((w.alloc (.cells #[.int .i64 d.kind, .slice A1 d.items.length c1, .slice A2 d.parts.length c2, .slice A3 d.names.length c3, .slice A4 d.cls.length c4, .slice A5 d.levels.length c5, .int .i64 d.code, .int .i64 d.env] 45)).alloc (.cells #[.int .i64 0, .slice none 0 0, .slice none 0 0, .slice none 0 0, .slice none 0 0, .slice none 0 0, .int .i64 0, .int .i64 0] 45)) = W0 at HBK ⊢
  have HBW := Lib.hid HBK.out.2.2.1
  have x0 := HBK.out.1.cell 0 _ rfl
  have x1 := HBK.out.1.cell 1 _ rfl
  have x2 := HBK.out.1.cell 2 _ rfl
  have x3 := HBK.out.1.cell 3 _ rfl
  have x4 := HBK.out.1.cell 4 _ rfl
  have x5 := HBK.out.1.cell 5 _ rfl
  have x6 := HBK.out.1.cell 6 _ rfl
  have x7 := HBK.out.1.cell 7 _ rfl
  have z0 := HBK.out.2.1.cell 0 _ rfl
  have z1 := HBK.out.2.1.cell 1 _ rfl
  have z2 := HBK.out.2.1.cell 2 _ rfl
  have z3 := HBK.out.2.1.cell 3 _ rfl
  have z4 := HBK.out.2.1.cell 4 _ rfl
  have z5 := HBK.out.2.1.cell 5 _ rfl
  have z6 := HBK.out.2.1.cell 6 _ rfl
  have z7 := HBK.out.2.1.cell 7 _ rfl
  go_cut [67] from 7 to 67 (fun s wx => s = .bool (!zeroV d) ∧ ∃ n, wx = W0.drewN n)
  case first =>
    by_cases q3 : d.names.length = 0 <;> by_cases q4 : d.cls.length = 0 <;> by_cases q5 : d.levels.length = 0
    all_goals
      have Q3 := Lib.hid q3
      have Q4 := Lib.hid q4
      have Q5 := Lib.hid q5
      clear q3 q4 q5
      go_wp2_with (go_at_call 132; first | (refine (l4Strings_nil_t _ _ _ (by first | exact HV.out.2.2.1.below HBW.out | exact (HV.out.2.2.2.1.below HBW.out).drewN _ | exact (HV.out.2.2.2.2.below HBW.out).drewN _ | exact ((HV.out.2.2.2.2.below HBW.out).drewN _).drewN _) (by first | exact Q3.out | exact Q4.out | exact Q5.out)).mono ?_; rintro e w' ⟨rfl, nq, rfl⟩) | (refine (l4Strings_nil_f _ _ _ (by first | exact HV.out.2.2.1.below HBW.out | exact (HV.out.2.2.2.1.below HBW.out).drewN _ | exact (HV.out.2.2.2.2.below HBW.out).drewN _ | exact ((HV.out.2.2.2.2.below HBW.out).drewN _).drewN _) (by first | exact Q3.out | exact Q4.out | exact Q5.out)).mono ?_; rintro e w' ⟨rfl, nq, rfl⟩))
      all_goals
        go_meet
        case rel => exact ⟨by congr 1; go_light; have := Q3.out; have := Q4.out; have := Q5.out; grind [zeroV], by first | exact ⟨0, rfl⟩ | exact ⟨_, rfl⟩ | exact ⟨_, (World.drewN_drewN _ _ _)⟩ | exact ⟨_, by simp only [World.drewN_drewN]; rfl⟩⟩
  obtain ⟨rfl, nd, rfl⟩ := hcut
  cases hz : zeroV d
  · go_wp2_with fail
    go_ret
    exact ⟨ret_bool (by rw [hz]), below_drewN HBW.out _⟩
  have hi0 : d.items.length ≤ 0 := by grind [zeroV]
  have hp0 : d.parts.length ≤ 0 := by grind [zeroV]
  have HZ := Lib.hid hz
  clear hz
  go_wp2_with fail
  go_loop [5] (fun i => i = .int .i64 0) (fun _ => 0)
  case atStart => rfl
  case round =>
    subst hrel
    go_wp2_with fail
    go_loop [6] (fun i => i = .int .i64 0) (fun _ => 0)
    case atStart => rfl
    case round =>
      subst hrel
      go_wp2_with fail
      go_ret
      exact ⟨ret_bool (by rw [HZ.out]), below_drewN HBW.out _⟩


set_option maxHeartbeats 1000000 in
theorem spec_l26Promise (s : StoreD) (e : Int) (cs : List Value) (w : World) (h : StoreR w cs s) :
    Calls Tryz.prog 148 #[.agg cs.toArray, .int .i64 e] w (RetB (promU s e) w) := by
  obtain ⟨E0, e0, E1, e1, rfl, l0, l1, HE, HP⟩ := h.open_
  clear h
  by_cases h0 : 0 ≤ e ∧ e ≤ (s.promises.length : Int) - 1
  rotate_left
  · have HQ := Lib.hid (show promU s e = false by by_cases h1 : 0 ≤ e; exact promU_big (by omega); exact promU_neg h1)
    go_enter Tryz.func148, Tryz.ntmps148
    go_wp2_with (go_at_call 93; refine (spec_l1In_f _ _ _ _ (by omega)).mono ?_; rintro e w' ⟨rfl, rfl⟩)
    go_ret
    exact ⟨ret_bool HQ.out.symm, below_alloc1 _ _⟩
  obtain ⟨k, rfl⟩ := Int.eq_ofNat_of_zero_le h0.1
  have hlt : k < s.promises.length := by omega
  have HQ := Lib.hid (promU_at (s := s) k hlt)
  obtain ⟨b, off, cs, rfl, hbl, _, hat, v1, v2, v3, v4, v5, rfl, _⟩ := HP.out k hlt
  have y0 := ((below_alloc1 w (.cells #[.slice E0 s.envs.length e0, .slice (some ⟨b, off, none⟩) s.promises.length e1] 33)).cell (p := ⟨b, off + k * 12, none⟩) hbl).trans (by simpa using hat 0 _ rfl)
  clear hat
  go_enter Tryz.func148, Tryz.ntmps148
  go_wp2_with (go_at_call 93; refine (spec_l1In_t _ _ _ _ (by omega) (by omega)).mono ?_; rintro e w' ⟨rfl, rfl⟩)
  go_ret
  exact ⟨ret_bool HQ.out.symm, below_alloc1 _ _⟩

end Go.Proofs.YtejieacdfjpfnaaGreat
namespace Go.Proofs.YtejieacdfjpfnaaGreat
set_option maxRecDepth 100000
open Go.ChangeShapes Go.WideShapes Go.ChangeAt Go.RowKit Go.Deep

mutual
def funFitS (s : StoreD) : VecD → Bool
  | .mk k _ p _ _ _ _ en => if k = 5 then envU s en else funFitSs s p
def funFitSs (s : StoreD) : List VecD → Bool
  | [] => true
  | d :: l => funFitS s d && funFitSs s l
end
theorem funFitSs_eq (s : StoreD) (l : List VecD) : funFitSs s l = l.all (funFitS s) := by
  induction l with
  | nil => rfl
  | cons d l ih => rw [funFitSs, ih]; rfl
theorem funFitS_eq (s : StoreD) (d : VecD) : funFitS s d = if d.kind = 5 then envU s d.env else d.parts.all (funFitS s) := by
  cases d with
  | mk k i p n c l co en => rw [funFitS, funFitSs_eq]; rfl
theorem shape_fun {d : VecD} (h : shapeOk d = true) (hk : d.kind = 5) : d.parts = [] := by
  have hD : sD d = true := by unfold shapeOk at h; simp only [Bool.and_eq_true] at h; exact h.1.1.1.1.2
  have : d.parts.isEmpty = true := by grind [sD]
  exact List.isEmpty_iff.1 this
theorem funFit_ok (s : StoreD) : ∀ (n : Nat) (d : VecD), okN n d = true → funFitS s d = funFit s d := by
  intro n
  induction n with
  | zero =>
    intro d h
    rw [okN, Bool.and_eq_true] at h
    have hp : d.parts = [] := List.isEmpty_iff.1 h.2
    rw [funFitS_eq, funFit_eq, hp]
    by_cases hk : d.kind = 5 <;> simp [hk]
  | succ n ih =>
    intro d h
    rw [okN, Bool.and_eq_true, List.all_eq_true] at h
    rw [funFitS_eq, funFit_eq]
    by_cases hk : d.kind = 5
    · rw [shape_fun h.1 hk]; simp [hk]
    · rw [if_neg hk]
      have : d.parts.all (funFitS s) = d.parts.all (funFit s) := by
        rw [Bool.eq_iff_iff, List.all_eq_true, List.all_eq_true]
        exact ⟨fun h' p hp => by rw [← ih p (h.2 p hp)]; exact h' p hp, fun h' p hp => by rw [ih p (h.2 p hp)]; exact h' p hp⟩
      rw [this]
      simp [hk]

set_option maxHeartbeats 2000000 in
theorem spec_l26Function_n (s : StoreD) (n : Nat) : ∀ (d : VecD) (ss cs : List Value) (w : World), StoreR w ss s → VectorR n w cs d →
    Calls Tryz.prog 118 #[.agg ss.toArray, .agg cs.toArray] w (RetB (funFitS s d) w) := by
  induction n with
  | zero => intro d ss cs w _ h; exact h.elim
  | succ n ih =>
  intro d ss cs w hs h
  have IH := Lib.hid ih
  clear ih
  have HS := Lib.hid hs
  obtain ⟨E0, e0, E1, e1, rfl, l0, l1, HE, _⟩ := hs.open_
  clear hs
  obtain ⟨v1, v2, v3, v4, v5, rfl, h0, h1, h2, h3, h4, h5, h6, h7⟩ := h
  obtain ⟨A1, c1, rfl⟩ := SlR.shape h1
  obtain ⟨A2, c2, rfl⟩ := SlR.shape h2
  obtain ⟨A3, c3, rfl⟩ := SlR.shape h3
  obtain ⟨A4, c4, rfl⟩ := SlR.shape h4
  obtain ⟨A5, c5, rfl⟩ := SlR.shape h5
  obtain ⟨_, _, e2, hlc2, hm2, HC2⟩ := SlR.open_ h2
  injection e2 with e21 e22 e23
  subst e21 e23
  clear e22
  unfold maxLen at hm2
  clear h1 h2 h3 h4 h5
  have HQ := Lib.hid (funFitS_eq s d)
  have HX0 := Lib.hid (show ExL w w.heap.size [(w.heap.size + 1, 45, [.int .i64 d.kind, .slice A1 d.items.length c1, .slice A2 d.parts.length c2, .slice A3 d.names.length c3, .slice A4 d.cls.length c4, .slice A5 d.levels.length c5, .int .i64 d.code, .int .i64 d.env]), (w.heap.size, 33, [.slice E0 s.envs.length e0, .slice E1 s.promises.length e1])] ((w.alloc (.cells #[.slice E0 s.envs.length e0, .slice E1 s.promises.length e1] 33)).alloc (.cells #[.int .i64 d.kind, .slice A1 d.items.length c1, .slice A2 d.parts.length c2, .slice A3 d.names.length c3, .slice A4 d.cls.length c4, .slice A5 d.levels.length c5, .int .i64 d.code, .int .i64 d.env] 45)) from by simpa using ((ExL.start w).push 33 [.slice E0 s.envs.length e0, .slice E1 s.promises.length e1]).push 45 [.int .i64 d.kind, .slice A1 d.items.length c1, .slice A2 d.parts.length c2, .slice A3 d.names.length c3, .slice A4 d.cls.length c4, .slice A5 d.levels.length c5, .int .i64 d.code, .int .i64 d.env])
  by_cases k5 : d.kind = 5
  · have HF := Lib.hid (show funFitS s d = envU s d.env by rw [HQ.out, if_pos k5])
    have b5 : (d.kind == 5) = true := by simp [k5]
    clear k5
    by_cases hr : 0 ≤ d.env ∧ d.env ≤ (s.envs.length : Int) - 1
    rotate_left
    · have HU := Lib.hid (show envU s d.env = false by by_cases h1 : 0 ≤ d.env; exact envU_big (by omega); exact envU_neg h1)
      go_enter Tryz.func118, Tryz.ntmps118
      go_wp2_with (go_at_call 93; refine (spec_l1In_f _ _ _ _ (by omega)).mono ?_; rintro e w' ⟨rfl, rfl⟩)
      go_ret
      exact ⟨ret_bool (by rw [HF.out, HU.out]), HX0.out.2.1⟩
    obtain ⟨k, hk⟩ := Int.eq_ofNat_of_zero_le hr.1
    have hlt : k < s.envs.length := by omega
    have HU := Lib.hid (show envU s d.env = s.envs[k].used by rw [hk]; exact envU_at k hlt)
    obtain ⟨b, off, cs, rfl, hbl, _, hat, v2, v3, rfl, _⟩ := HE.out k hlt
    have HX0' := HX0
    have hkt : d.env.toNat = k := by omega
    have y0 := (HX0'.out.2.1.cell (p := ⟨b, off + d.env.toNat * 4, none⟩) hbl).trans (show w.cell? ⟨b, off + d.env.toNat * 4, none⟩ = some (.bool s.envs[k].used) from by rw [hkt]; simpa using hat 0 _ rfl)
    clear hat hkt hk
    have r1 : 0 ≤ d.env := hr.1
    have r2 : d.env < s.envs.length := by omega
    clear hr
    go_enter Tryz.func118, Tryz.ntmps118
    go_wp2_with (go_at_call 93; refine (spec_l1In_t _ _ _ _ (by omega) (by omega)).mono ?_; rintro e w' ⟨rfl, rfl⟩)
    go_ret
    exact ⟨ret_bool (by rw [HF.out, HU.out]), HX0.out.2.1⟩
  have HF := Lib.hid (show funFitS s d = d.parts.all (funFitS s) by rw [HQ.out, if_neg k5])
  have b5 : (d.kind == 5) = false := by simp [k5]
  clear k5
  go_enter Tryz.func118, Tryz.ntmps118
  go_wp2_with fail
  go_loopw [5] (fun i wr => ∃ k : Nat, k ≤ d.parts.length ∧ i = .int .i64 k ∧ Hid (∀ j (h : j < d.parts.length), j < k → funFitS s d.parts[j] = true) ∧ Hid (ExL w w.heap.size [(w.heap.size + 1, 45, [.int .i64 d.kind, .slice A1 d.items.length c1, .slice A2 d.parts.length c2, .slice A3 d.names.length c3, .slice A4 d.cls.length c4, .slice A5 d.levels.length c5, .int .i64 d.code, .int .i64 d.env]), (w.heap.size, 33, [.slice E0 s.envs.length e0, .slice E1 s.promises.length e1])] wr)) (fun i _ => d.parts.length - (intOf i).toNat)
  case atStart => exact ⟨0, Nat.zero_le _, rfl, fun j _ h => absurd h (by omega), HX0.out⟩
  case round =>
    obtain ⟨k, hk, rfl, hn, HX⟩ := hrel
    have x2 := HX.out.b0.cell 2 _ rfl
    have s0 := HX.out.tail.b0.cell 0 _ rfl
    have s1 := HX.out.tail.b0.cell 1 _ rfl
    by_cases hlt : k < d.parts.length
    · obtain ⟨b, off, cs, rfl, hbl, hlen, hat, hvr⟩ := HC2.out k hlt
      have HPN := Lib.hid hvr
      have HPV := Lib.hid (show VecR w cs d.parts[k] from ⟨n, hvr⟩)
      clear hvr
      obtain ⟨_, B1, b1, B2, b2, B3, b3, B4, b4, B5, b5', rfl, _⟩ := HPV.out.open_
      have y0 := (HX.out.2.1.cell (p := ⟨b, off + k * 8, none⟩) hbl).trans (by simpa using hat 0 _ rfl)
      have y1 := (HX.out.2.1.cell (p := ⟨b, off + k * 8 + 1, none⟩) hbl).trans (hat 1 _ rfl)
      have y2 := (HX.out.2.1.cell (p := ⟨b, off + k * 8 + 2, none⟩) hbl).trans (hat 2 _ rfl)
      have y3 := (HX.out.2.1.cell (p := ⟨b, off + k * 8 + 3, none⟩) hbl).trans (hat 3 _ rfl)
      have y4 := (HX.out.2.1.cell (p := ⟨b, off + k * 8 + 4, none⟩) hbl).trans (hat 4 _ rfl)
      have y5 := (HX.out.2.1.cell (p := ⟨b, off + k * 8 + 5, none⟩) hbl).trans (hat 5 _ rfl)
      have y6 := (HX.out.2.1.cell (p := ⟨b, off + k * 8 + 6, none⟩) hbl).trans (hat 6 _ rfl)
      have y7 := (HX.out.2.1.cell (p := ⟨b, off + k * 8 + 7, none⟩) hbl).trans (hat 7 _ rfl)
      clear hat
      go_wp2_with fail
      go_still_tail 6, (by kernel_rfl)
      change wpList _ _ _ _ _ wr.drew
      have HXd := Lib.hid (HX.out.drew)
      clear x2 s0 s1 y0 y1 y2 y3 y4 y5 y6 y7
      generalize wr.drew = w2 at HXd ⊢
      go_wp2_with fail
      refine (IH.out d.parts[k] _ _ _ (HS.out.below HXd.out.2.1) (HPN.out.below HXd.out.2.1)).mono ?_
      rintro e w3 ⟨rfl, hb⟩
      have HX2 := Lib.hid (HXd.out.below hb)
      clear hb HXd
      cases hq : funFitS s d.parts[k]
      · go_wp2_with fail
        go_ret
        exact ⟨ret_bool (by
          rw [HF.out]
          have : d.parts.all (funFitS s) = false := by
            simp only [List.all_eq_false]
            exact ⟨d.parts[k], List.getElem_mem hlt, by simp [hq]⟩
          rw [this]), HX2.out.2.1⟩
      · have HQ2 := Lib.hid hq
        clear hq
        go_wp2_with fail
        go_roundw
        case rel => exact ⟨k + 1, by omega, by go_num, fun j h1 hj => by (rcases Nat.lt_succ_iff_lt_or_eq.1 hj with h3 | rfl); exact hn.out j h1 h3; exact HQ2.out, HX2.out⟩
        case measure => simp [intOf]; omega
    · go_wp2_with fail
      go_ret
      exact ⟨ret_bool (by
        rw [HF.out]
        have : d.parts.all (funFitS s) = true := by
          simp only [List.all_eq_true]
          intro p hp
          obtain ⟨j, hj, rfl⟩ := List.getElem_of_mem hp
          exact hn.out j hj (by omega)
        rw [this]), HX.out.2.1⟩
theorem spec_l26Function (s : StoreD) (d : VecD) (ss cs : List Value) (w : World) (hs : StoreR w ss s) (h : VecR w cs d) :
    Calls Tryz.prog 118 #[.agg ss.toArray, .agg cs.toArray] w (RetB (funFitS s d) w) := by
  obtain ⟨n, h⟩ := h
  exact spec_l26Function_n s n d ss cs w hs h

set_option maxHeartbeats 1000000 in
theorem spec_l26Value (s : StoreD) (d : VecD) (ss cs : List Value) (w : World) (hs : StoreR w ss s) (h : VecR w cs d) (hz : szVector d ≤ 1000000000000) :
    Calls Tryz.prog 79 #[.agg ss.toArray, .agg cs.toArray] w (RetB (valFit s d) w) := by
  have HS := Lib.hid hs
  obtain ⟨E0, e0, E1, e1, rfl, l0, l1, _⟩ := hs.open_
  have HI := Lib.hid h
  obtain ⟨n, A1, c1, A2, c2, A3, c3, A4, c4, A5, c5, rfl, k0, k1, k2, m1, m2, m3, m4, m5, HV⟩ := h.open_
  clear h hs
  have HX0 := Lib.hid (show ExL w w.heap.size [(w.heap.size + 1, 45, [.int .i64 d.kind, .slice A1 d.items.length c1, .slice A2 d.parts.length c2, .slice A3 d.names.length c3, .slice A4 d.cls.length c4, .slice A5 d.levels.length c5, .int .i64 d.code, .int .i64 d.env]), (w.heap.size, 33, [.slice E0 s.envs.length e0, .slice E1 s.promises.length e1])] ((w.alloc (.cells #[.slice E0 s.envs.length e0, .slice E1 s.promises.length e1] 33)).alloc (.cells #[.int .i64 d.kind, .slice A1 d.items.length c1, .slice A2 d.parts.length c2, .slice A3 d.names.length c3, .slice A4 d.cls.length c4, .slice A5 d.levels.length c5, .int .i64 d.code, .int .i64 d.env] 45)) from by simpa using ((ExL.start w).push 33 [.slice E0 s.envs.length e0, .slice E1 s.promises.length e1]).push 45 [.int .i64 d.kind, .slice A1 d.items.length c1, .slice A2 d.parts.length c2, .slice A3 d.names.length c3, .slice A4 d.cls.length c4, .slice A5 d.levels.length c5, .int .i64 d.code, .int .i64 d.env])
  go_enter Tryz.func79, Tryz.ntmps79
  go_wp2_with fail
  refine abs_w (ExL w w.heap.size [(w.heap.size + 1, 45, [.int .i64 d.kind, .slice A1 d.items.length c1, .slice A2 d.parts.length c2, .slice A3 d.names.length c3, .slice A4 d.cls.length c4, .slice A5 d.levels.length c5, .int .i64 d.code, .int .i64 d.env]), (w.heap.size, 33, [.slice E0 s.envs.length e0, .slice E1 s.promises.length e1])]) HX0.out ?_
  rintro W0 hX
  refine (spec_IsVector d _ W0 (HI.out.below hX.2.1) hz).mono ?_
  rintro e w1 ⟨rfl, hb⟩
  have HX1 := Lib.hid (hX.below hb)
  clear hb hX
  cases hv : vecOk d
  · go_wp2_with fail
    go_ret
    exact ⟨ret_bool (by simp [valFit, hv]), HX1.out.2.1⟩
  have HVV := Lib.hid hv
  have HFF := Lib.hid (funFit_ok s 3 d (by unfold vecOk at hv; rw [Bool.and_eq_true] at hv; exact hv.1))
  clear hv
  have x0 := HX1.out.b0.cell 0 _ rfl
  have x1 := HX1.out.b0.cell 1 _ rfl
  have x2 := HX1.out.b0.cell 2 _ rfl
  have x3 := HX1.out.b0.cell 3 _ rfl
  have x4 := HX1.out.b0.cell 4 _ rfl
  have x5 := HX1.out.b0.cell 5 _ rfl
  have x6 := HX1.out.b0.cell 6 _ rfl
  have x7 := HX1.out.b0.cell 7 _ rfl
  have s0 := HX1.out.tail.b0.cell 0 _ rfl
  have s1 := HX1.out.tail.b0.cell 1 _ rfl
  go_wp2_with fail
  refine (spec_l26Function s d _ _ _ (HS.out.below HX1.out.2.1) (HI.out.below HX1.out.2.1)).mono ?_
  rintro e w2 ⟨rfl, hb⟩
  have HX2 := Lib.hid (HX1.out.below hb)
  clear hb s0 s1 x0 x1 x2 x3 x4 x5 x6 x7
  go_wp2_with fail
  go_ret
  exact ⟨ret_bool (by rw [valFit, HVV.out, HFF.out]; rfl), HX2.out.2.1⟩

end Go.Proofs.YtejieacdfjpfnaaGreat
