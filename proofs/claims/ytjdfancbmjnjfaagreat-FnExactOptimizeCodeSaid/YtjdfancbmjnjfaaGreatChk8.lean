/-
  Contract: spec.l32Instr.
-/
import Derived.Test.YtjdfancbmjnjfaaGreatChk6
namespace Go.Proofs.YtjdfancbmjnjfaaGreat
set_option maxRecDepth 100000
open Go.ChangeShapes Go.WideShapes Go.ChangeAt Go.RowKit Go.Deep
set_option linter.unusedVariables false
set_option linter.unusedSimpArgs false

theorem InstrR.vec {w : World} {cs : List Value} {d : InstrD} (h : InstrR w cs d) : ∃ v1 v2 v3 v4 v5, VecR w [.int .i64 d.value.kind, v1, v2, v3, v4, v5, .int .i64 d.value.code, .int .i64 d.value.env] d.value ∧ cs.drop 5 = [.int .i64 d.value.kind, v1, v2, v3, v4, v5, .int .i64 d.value.code, .int .i64 d.value.env] := by
  obtain ⟨v4, v51, v52, v53, v54, v55, rfl, _, _, _, _, _, h5⟩ := h
  exact ⟨_, _, _, _, _, h5, rfl⟩
set_option maxHeartbeats 4000000 in
theorem spec_l32Instr_a (d : CodeD) (cs : List Value) (i pc N : Nat) (w : World) (h : BytecodeR w cs d) (hi : i < d.segments.length) (hpc : pc < d.segments[i].instrs.length) (hN : N = d.segments[i].instrs.length) (hns : d.segments.length ≤ 1000000) (hni : N ≤ 1000000)
    (hsl : ∀ s ∈ d.segments[i].instrs[pc].labels, s.length ≤ 1000000000000) (hzv : szVector d.segments[i].instrs[pc].value ≤ 1000000000000) (hop : d.segments[i].instrs[pc].op = 4) :
    Calls Tryz.prog 51 #[.agg cs.toArray, .int .i64 i, .int .i64 pc, .int .i64 N] w (RetB (insB d.segments.length i pc N d.segments[i].instrs[pc]) w) := by
  obtain ⟨v0, v1, v2, rfl, q0, q1, q2⟩ := h
  obtain ⟨A, c, rfl, hlc, hm, HC⟩ := SlR.open_ q0
  clear q0 q1 q2
  unfold maxLen at hm
  obtain ⟨b, off, sc, rfl, hbl, _, hat, hr⟩ := HC.out i hi
  obtain ⟨u0, u1, u2, rfl, r0, r1, r2⟩ := hr
  obtain ⟨A', c', rfl, hlc', hm', HI⟩ := SlR.open_ r2
  clear r0 r1 r2 HC
  unfold maxLen at hm'
  obtain ⟨b2, off2, ic, rfl, hbl2, _, hat2, hr'⟩ := HI.out pc hpc
  clear HI
  have HIR := Lib.hid hr'
  obtain ⟨A4, c4, A1, c1, A2, c2, A3, c3, A5, c5, A6, c6, rfl⟩ := hr'.slices
  clear hr'
  rw [← hN] at hat hpc hlc'
  clear hN
  generalize d.segments[i].instrs[pc] = x at hat2 HIR hsl hzv hop ⊢
  have HSL := Lib.hid hsl
  have HZV := Lib.hid hzv
  clear hsl hzv
  have HV := Lib.hid (show VecR w [.int .i64 x.value.kind, .slice A1 x.value.items.length c1, .slice A2 x.value.parts.length c2, .slice A3 x.value.names.length c3, .slice A5 x.value.cls.length c5, .slice A6 x.value.levels.length c6, .int .i64 x.value.code, .int .i64 x.value.env] x.value from by
    obtain ⟨v1, v2, v3, v4, v5, h1, h2⟩ := HIR.out.vec
    simp only [List.drop_succ_cons, List.drop_zero] at h2
    rw [h2]
    exact h1)
  obtain ⟨G, g0, HG, B1⟩ := good1 w 31 [.slice (some ⟨b, off, none⟩) d.segments.length c, v1, v2]
  obtain ⟨xs0, xs1, xs2⟩ := pk_f3 B1
  obtain ⟨z0, z1, z2⟩ := pk_e3 HG hbl hat
  obtain ⟨q0, q1, q2, q3, q4, q5, q6, q7, q8, q9, q10, q11, q12⟩ := pk_e13 HG hbl2 hat2
  clear hat hat2
  go_enter Tryz.func51, Tryz.ntmps51
  go_upto_region 1 with fail
  refine gen_w g0 ?_
  clear g0
  intro W0 g0
  obtain ⟨G', g1, HG', B'⟩ := good1 W0 63 [.int .i64 x.op, .int .i64 x.arg, .int .i64 x.count, .string (str x.text), .slice A4 x.labels.length c4, .int .i64 x.value.kind, .slice A1 x.value.items.length c1, .slice A2 x.value.parts.length c2, .slice A3 x.value.names.length c3, .slice A5 x.value.cls.length c5, .slice A6 x.value.levels.length c6, .int .i64 x.value.code, .int .i64 x.value.env]
  have hGG := fun W (h : Ok G' W) => HG.out.step g0 (HG'.out.below h)
  obtain ⟨y0, y1, y2, y3, y4, y5, y6, y7, y8, y9, y10, y11, y12⟩ := pk_f13 B'
  have ys0 := fun W (h : Ok G' W) => xs0 W (hGG W h)
  have HT := Lib.hid (show topC x.op = 200 by simp [topC, hop])
  have p4 : (x.op == 4) = true := by simp [hop]
  clear hop
  go_upto_region 7 with fail
  refine gen_w g1 ?_
  clear g1 g0 z0 z1 z2 q0 q1 q2 q3 q4 q5 q6 q7 q8 q9 q10 q11 q12 xs0 xs1 xs2
  intro W1 g1
  by_cases h01 : 0 ≤ x.op ∧ x.op ≤ 33
  rotate_left
  · go_wp2_with fail
    refine Calls.mono (spec_l1In_f x.op 0 33 _ h01) ?_
    rintro e w9 ⟨rfl, rfl⟩
    have HN := Lib.hid (show insB d.segments.length i pc N x = false by simp only [insB, insR]; simp; intro h9 h8; exact absurd ⟨h9, h8⟩ h01)
    go_wp2_with fail
    go_ret
    exact ⟨ret_bool HN.out.symm, HG.out.below (hGG _ g1)⟩
  obtain ⟨h0, h1⟩ := h01
  go_wp2_with fail
  refine Calls.mono (spec_l1In_t x.op 0 33 _ h0 h1) ?_
  rintro e w9 ⟨rfl, rfl⟩
  go_wp2_with fail
  refine Calls.mono (spec_l32Text x.op h0 h1 x _ _ rfl (HIR.out.below (HG.out.below (hGG _ g1)))) ?_
  rintro e w9 ⟨rfl, hb⟩
  replace g1 := HG'.out.step g1 hb
  clear hb
  cases e1 : txtB x.op x.text
  · have HN := Lib.hid (show insB d.segments.length i pc N x = false by simp [insB, insR, e1])
    go_wp2_with fail
    go_ret
    exact ⟨ret_bool HN.out.symm, HG.out.below (hGG _ g1)⟩
  go_wp2_with fail
  refine Calls.mono (spec_l32Labels x.op h0 h1 x _ _ rfl (HIR.out.below (HG.out.below (hGG _ g1))) HSL.out) ?_
  rintro e w9 ⟨rfl, hb⟩
  replace g1 := HG'.out.step g1 hb
  clear hb
  cases e2 : lblB x.op x.labels
  · have HN := Lib.hid (show insB d.segments.length i pc N x = false by simp [insB, insR, e2])
    go_wp2_with fail
    go_ret
    exact ⟨ret_bool HN.out.symm, HG.out.below (hGG _ g1)⟩
  by_cases c01 : 0 ≤ x.count ∧ x.count ≤ 200
  rotate_left
  · go_wp2_with fail
    refine Calls.mono (spec_l1In_f x.count 0 200 _ c01) ?_
    rintro e w9 ⟨rfl, rfl⟩
    have HN := Lib.hid (show insB d.segments.length i pc N x = false by simp only [insB, insR, HT.out]; simp; intro _ _ _ _ h9 h8; exact absurd ⟨h9, h8⟩ c01)
    go_wp2_with fail
    go_ret
    exact ⟨ret_bool HN.out.symm, HG.out.below (hGG _ g1)⟩
  go_wp2_with fail
  refine Calls.mono (spec_l1In_t x.count 0 200 _ c01.1 c01.2) ?_
  rintro e w9 ⟨rfl, rfl⟩
  have C01 := Lib.hid c01
  clear c01
  go_wp2_with fail
  refine Calls.mono (spec_IsVector x.value _ _ (HV.out.below (HG.out.below (hGG _ g1))) HZV.out) ?_
  rintro e w9 ⟨rfl, hb⟩
  replace g1 := HG'.out.step g1 hb
  clear hb
  cases e3 : vecOk x.value
  · have HN := Lib.hid (show insB d.segments.length i pc N x = false by simp [insB, insR, valB, e3])
    go_wp2_with fail
    go_ret
    exact ⟨ret_bool HN.out.symm, HG.out.below (hGG _ g1)⟩
  cases q0 : (x.op == 0) <;> cases q9 : (x.value.kind == 0)
  · have b0 : (x.op != 0) = true := by rw [bne, q0]; rfl
    have b9 : (x.value.kind != 0) = true := by rw [bne, q9]; rfl
    have Q0 := Lib.hid q0
    have Q9 := Lib.hid q9
    clear q0 q9
    have HN := Lib.hid (show insB d.segments.length i pc N x = false by simp [insB, insR, valB, Q0.out, Q9.out])
    go_wp2_with fail
    go_ret
    exact ⟨ret_bool HN.out.symm, HG.out.below (hGG _ g1)⟩
  all_goals
    have b0 : (x.op != 0) = !(x.op == 0) := rfl
    have b9 : (x.value.kind != 0) = !(x.value.kind == 0) := rfl
    rw [q0] at b0
    rw [q9] at b9
    have Q0 := Lib.hid q0
    have Q9 := Lib.hid q9
    clear q0 q9
    go_wp2_with fail
    refine Calls.mono (spec_l30HasFunction x.value _ _ (HV.out.below (HG.out.below (hGG _ g1)))) ?_
    rintro e w9 ⟨rfl, hb⟩
    replace g1 := HG'.out.step g1 hb
    clear hb
    cases e4 : hasFun x.value
    rotate_left
    · have HN := Lib.hid (show insB d.segments.length i pc N x = false by simp [insB, insR, valB, e4])
      go_wp2_with fail
      go_ret
      exact ⟨ret_bool HN.out.symm, HG.out.below (hGG _ g1)⟩
    have HR := Lib.hid (show insR x = true by simp [insR, valB, h0, h1, e1, e2, e3, e4, HT.out, C01.out.1, C01.out.2, Q0.out, Q9.out])
    clear e1 e2 e3 e4
    go_wp2_with fail
    refine Calls.mono (spec_l32Refers x.op h0 h1 _) ?_
    rintro e w9 ⟨rfl, rfl⟩
    cases r1 : refOp x.op
    rotate_left
    · have R1 := Lib.hid r1
      clear r1
      go_wp2_with fail
      refine Calls.mono (spec_l1In x.arg _ _ _) ?_
      rintro e w9 ⟨rfl, rfl⟩
      have HN := Lib.hid (show insB d.segments.length i pc N x = argB d.segments.length i pc N x.op x.arg by simp [insB, HR.out])
      go_wp2_with fail
      go_ret
      exact ⟨ret_bool (by rw [HN.out]; simp [argB, R1.out]), HG.out.below (hGG _ g1)⟩
    have R1 := Lib.hid r1
    clear r1
    cases q13 : (x.op == 13)
    rotate_left
    · have Q13 := Lib.hid (show x.op = 13 by simpa using q13)
      go_wp2_with fail
      refine Calls.mono (spec_l1In x.arg _ _ _) ?_
      rintro e w9 ⟨rfl, rfl⟩
      have HN := Lib.hid (show insB d.segments.length i pc N x = argB d.segments.length i pc N x.op x.arg by simp [insB, HR.out])
      go_wp2_with fail
      go_ret
      exact ⟨ret_bool (by rw [HN.out]; simp [argB, Q13.out, refOp]), HG.out.below (hGG _ g1)⟩
    have Q13 := Lib.hid (show x.op ≠ 13 by simpa using q13)
    go_wp2_with fail
    refine Calls.mono (spec_l32Jumps x.op _) ?_
    rintro e w9 ⟨rfl, rfl⟩
    cases j1 : isJ x.op
    rotate_left
    · have J1 := Lib.hid (show jmpOp x.op = true from j1)
      clear j1
      go_wp2_with fail
      refine Calls.mono (spec_l1In x.arg _ _ _) ?_
      rintro e w9 ⟨rfl, rfl⟩
      have HN := Lib.hid (show insB d.segments.length i pc N x = argB d.segments.length i pc N x.op x.arg by simp [insB, HR.out])
      go_wp2_with fail
      go_ret
      exact ⟨ret_bool (by rw [HN.out]; simp [argB, R1.out, Q13.out, J1.out]), HG.out.below (hGG _ g1)⟩
    have J1 := Lib.hid (show jmpOp x.op = false from j1)
    clear j1
    have HN := Lib.hid (show insB d.segments.length i pc N x = argB d.segments.length i pc N x.op x.arg by simp [insB, HR.out])
    go_wp2_with fail
    go_ret
    exact ⟨ret_bool (by rw [HN.out]; simp [argB, R1.out, Q13.out, J1.out]), HG.out.below (hGG _ g1)⟩
set_option maxHeartbeats 4000000 in
theorem spec_l32Instr_b (d : CodeD) (cs : List Value) (i pc N : Nat) (w : World) (h : BytecodeR w cs d) (hi : i < d.segments.length) (hpc : pc < d.segments[i].instrs.length) (hN : N = d.segments[i].instrs.length) (hns : d.segments.length ≤ 1000000) (hni : N ≤ 1000000)
    (hsl : ∀ s ∈ d.segments[i].instrs[pc].labels, s.length ≤ 1000000000000) (hzv : szVector d.segments[i].instrs[pc].value ≤ 1000000000000) (hop : d.segments[i].instrs[pc].op = 5) :
    Calls Tryz.prog 51 #[.agg cs.toArray, .int .i64 i, .int .i64 pc, .int .i64 N] w (RetB (insB d.segments.length i pc N d.segments[i].instrs[pc]) w) := by
  obtain ⟨v0, v1, v2, rfl, q0, q1, q2⟩ := h
  obtain ⟨A, c, rfl, hlc, hm, HC⟩ := SlR.open_ q0
  clear q0 q1 q2
  unfold maxLen at hm
  obtain ⟨b, off, sc, rfl, hbl, _, hat, hr⟩ := HC.out i hi
  obtain ⟨u0, u1, u2, rfl, r0, r1, r2⟩ := hr
  obtain ⟨A', c', rfl, hlc', hm', HI⟩ := SlR.open_ r2
  clear r0 r1 r2 HC
  unfold maxLen at hm'
  obtain ⟨b2, off2, ic, rfl, hbl2, _, hat2, hr'⟩ := HI.out pc hpc
  clear HI
  have HIR := Lib.hid hr'
  obtain ⟨A4, c4, A1, c1, A2, c2, A3, c3, A5, c5, A6, c6, rfl⟩ := hr'.slices
  clear hr'
  rw [← hN] at hat hpc hlc'
  clear hN
  generalize d.segments[i].instrs[pc] = x at hat2 HIR hsl hzv hop ⊢
  have HSL := Lib.hid hsl
  have HZV := Lib.hid hzv
  clear hsl hzv
  have HV := Lib.hid (show VecR w [.int .i64 x.value.kind, .slice A1 x.value.items.length c1, .slice A2 x.value.parts.length c2, .slice A3 x.value.names.length c3, .slice A5 x.value.cls.length c5, .slice A6 x.value.levels.length c6, .int .i64 x.value.code, .int .i64 x.value.env] x.value from by
    obtain ⟨v1, v2, v3, v4, v5, h1, h2⟩ := HIR.out.vec
    simp only [List.drop_succ_cons, List.drop_zero] at h2
    rw [h2]
    exact h1)
  obtain ⟨G, g0, HG, B1⟩ := good1 w 31 [.slice (some ⟨b, off, none⟩) d.segments.length c, v1, v2]
  obtain ⟨xs0, xs1, xs2⟩ := pk_f3 B1
  obtain ⟨z0, z1, z2⟩ := pk_e3 HG hbl hat
  obtain ⟨q0, q1, q2, q3, q4, q5, q6, q7, q8, q9, q10, q11, q12⟩ := pk_e13 HG hbl2 hat2
  clear hat hat2
  go_enter Tryz.func51, Tryz.ntmps51
  go_upto_region 1 with fail
  refine gen_w g0 ?_
  clear g0
  intro W0 g0
  obtain ⟨G', g1, HG', B'⟩ := good1 W0 63 [.int .i64 x.op, .int .i64 x.arg, .int .i64 x.count, .string (str x.text), .slice A4 x.labels.length c4, .int .i64 x.value.kind, .slice A1 x.value.items.length c1, .slice A2 x.value.parts.length c2, .slice A3 x.value.names.length c3, .slice A5 x.value.cls.length c5, .slice A6 x.value.levels.length c6, .int .i64 x.value.code, .int .i64 x.value.env]
  have hGG := fun W (h : Ok G' W) => HG.out.step g0 (HG'.out.below h)
  obtain ⟨y0, y1, y2, y3, y4, y5, y6, y7, y8, y9, y10, y11, y12⟩ := pk_f13 B'
  have ys0 := fun W (h : Ok G' W) => xs0 W (hGG W h)
  have HT := Lib.hid (show topC x.op = 200 by simp [topC, hop])
  have p4 : (x.op == 4) = false := by simp [hop]
  have p5 : (x.op == 5) = true := by simp [hop]
  clear hop
  go_upto_region 7 with fail
  refine gen_w g1 ?_
  clear g1 g0 z0 z1 z2 q0 q1 q2 q3 q4 q5 q6 q7 q8 q9 q10 q11 q12 xs0 xs1 xs2
  intro W1 g1
  by_cases h01 : 0 ≤ x.op ∧ x.op ≤ 33
  rotate_left
  · go_wp2_with fail
    refine Calls.mono (spec_l1In_f x.op 0 33 _ h01) ?_
    rintro e w9 ⟨rfl, rfl⟩
    have HN := Lib.hid (show insB d.segments.length i pc N x = false by simp only [insB, insR]; simp; intro h9 h8; exact absurd ⟨h9, h8⟩ h01)
    go_wp2_with fail
    go_ret
    exact ⟨ret_bool HN.out.symm, HG.out.below (hGG _ g1)⟩
  obtain ⟨h0, h1⟩ := h01
  go_wp2_with fail
  refine Calls.mono (spec_l1In_t x.op 0 33 _ h0 h1) ?_
  rintro e w9 ⟨rfl, rfl⟩
  go_wp2_with fail
  refine Calls.mono (spec_l32Text x.op h0 h1 x _ _ rfl (HIR.out.below (HG.out.below (hGG _ g1)))) ?_
  rintro e w9 ⟨rfl, hb⟩
  replace g1 := HG'.out.step g1 hb
  clear hb
  cases e1 : txtB x.op x.text
  · have HN := Lib.hid (show insB d.segments.length i pc N x = false by simp [insB, insR, e1])
    go_wp2_with fail
    go_ret
    exact ⟨ret_bool HN.out.symm, HG.out.below (hGG _ g1)⟩
  go_wp2_with fail
  refine Calls.mono (spec_l32Labels x.op h0 h1 x _ _ rfl (HIR.out.below (HG.out.below (hGG _ g1))) HSL.out) ?_
  rintro e w9 ⟨rfl, hb⟩
  replace g1 := HG'.out.step g1 hb
  clear hb
  cases e2 : lblB x.op x.labels
  · have HN := Lib.hid (show insB d.segments.length i pc N x = false by simp [insB, insR, e2])
    go_wp2_with fail
    go_ret
    exact ⟨ret_bool HN.out.symm, HG.out.below (hGG _ g1)⟩
  by_cases c01 : 0 ≤ x.count ∧ x.count ≤ 200
  rotate_left
  · go_wp2_with fail
    refine Calls.mono (spec_l1In_f x.count 0 200 _ c01) ?_
    rintro e w9 ⟨rfl, rfl⟩
    have HN := Lib.hid (show insB d.segments.length i pc N x = false by simp only [insB, insR, HT.out]; simp; intro _ _ _ _ h9 h8; exact absurd ⟨h9, h8⟩ c01)
    go_wp2_with fail
    go_ret
    exact ⟨ret_bool HN.out.symm, HG.out.below (hGG _ g1)⟩
  go_wp2_with fail
  refine Calls.mono (spec_l1In_t x.count 0 200 _ c01.1 c01.2) ?_
  rintro e w9 ⟨rfl, rfl⟩
  have C01 := Lib.hid c01
  clear c01
  go_wp2_with fail
  refine Calls.mono (spec_IsVector x.value _ _ (HV.out.below (HG.out.below (hGG _ g1))) HZV.out) ?_
  rintro e w9 ⟨rfl, hb⟩
  replace g1 := HG'.out.step g1 hb
  clear hb
  cases e3 : vecOk x.value
  · have HN := Lib.hid (show insB d.segments.length i pc N x = false by simp [insB, insR, valB, e3])
    go_wp2_with fail
    go_ret
    exact ⟨ret_bool HN.out.symm, HG.out.below (hGG _ g1)⟩
  cases q0 : (x.op == 0) <;> cases q9 : (x.value.kind == 0)
  · have b0 : (x.op != 0) = true := by rw [bne, q0]; rfl
    have b9 : (x.value.kind != 0) = true := by rw [bne, q9]; rfl
    have Q0 := Lib.hid q0
    have Q9 := Lib.hid q9
    clear q0 q9
    have HN := Lib.hid (show insB d.segments.length i pc N x = false by simp [insB, insR, valB, Q0.out, Q9.out])
    go_wp2_with fail
    go_ret
    exact ⟨ret_bool HN.out.symm, HG.out.below (hGG _ g1)⟩
  all_goals
    have b0 : (x.op != 0) = !(x.op == 0) := rfl
    have b9 : (x.value.kind != 0) = !(x.value.kind == 0) := rfl
    rw [q0] at b0
    rw [q9] at b9
    have Q0 := Lib.hid q0
    have Q9 := Lib.hid q9
    clear q0 q9
    go_wp2_with fail
    refine Calls.mono (spec_l30HasFunction x.value _ _ (HV.out.below (HG.out.below (hGG _ g1)))) ?_
    rintro e w9 ⟨rfl, hb⟩
    replace g1 := HG'.out.step g1 hb
    clear hb
    cases e4 : hasFun x.value
    rotate_left
    · have HN := Lib.hid (show insB d.segments.length i pc N x = false by simp [insB, insR, valB, e4])
      go_wp2_with fail
      go_ret
      exact ⟨ret_bool HN.out.symm, HG.out.below (hGG _ g1)⟩
    have HR := Lib.hid (show insR x = true by simp [insR, valB, h0, h1, e1, e2, e3, e4, HT.out, C01.out.1, C01.out.2, Q0.out, Q9.out])
    clear e1 e2 e3 e4
    go_wp2_with fail
    refine Calls.mono (spec_l32Refers x.op h0 h1 _) ?_
    rintro e w9 ⟨rfl, rfl⟩
    cases r1 : refOp x.op
    rotate_left
    · have R1 := Lib.hid r1
      clear r1
      go_wp2_with fail
      refine Calls.mono (spec_l1In x.arg _ _ _) ?_
      rintro e w9 ⟨rfl, rfl⟩
      have HN := Lib.hid (show insB d.segments.length i pc N x = argB d.segments.length i pc N x.op x.arg by simp [insB, HR.out])
      go_wp2_with fail
      go_ret
      exact ⟨ret_bool (by rw [HN.out]; simp [argB, R1.out]), HG.out.below (hGG _ g1)⟩
    have R1 := Lib.hid r1
    clear r1
    cases q13 : (x.op == 13)
    rotate_left
    · have Q13 := Lib.hid (show x.op = 13 by simpa using q13)
      go_wp2_with fail
      refine Calls.mono (spec_l1In x.arg _ _ _) ?_
      rintro e w9 ⟨rfl, rfl⟩
      have HN := Lib.hid (show insB d.segments.length i pc N x = argB d.segments.length i pc N x.op x.arg by simp [insB, HR.out])
      go_wp2_with fail
      go_ret
      exact ⟨ret_bool (by rw [HN.out]; simp [argB, Q13.out, refOp]), HG.out.below (hGG _ g1)⟩
    have Q13 := Lib.hid (show x.op ≠ 13 by simpa using q13)
    go_wp2_with fail
    refine Calls.mono (spec_l32Jumps x.op _) ?_
    rintro e w9 ⟨rfl, rfl⟩
    cases j1 : isJ x.op
    rotate_left
    · have J1 := Lib.hid (show jmpOp x.op = true from j1)
      clear j1
      go_wp2_with fail
      refine Calls.mono (spec_l1In x.arg _ _ _) ?_
      rintro e w9 ⟨rfl, rfl⟩
      have HN := Lib.hid (show insB d.segments.length i pc N x = argB d.segments.length i pc N x.op x.arg by simp [insB, HR.out])
      go_wp2_with fail
      go_ret
      exact ⟨ret_bool (by rw [HN.out]; simp [argB, R1.out, Q13.out, J1.out]), HG.out.below (hGG _ g1)⟩
    have J1 := Lib.hid (show jmpOp x.op = false from j1)
    clear j1
    have HN := Lib.hid (show insB d.segments.length i pc N x = argB d.segments.length i pc N x.op x.arg by simp [insB, HR.out])
    go_wp2_with fail
    go_ret
    exact ⟨ret_bool (by rw [HN.out]; simp [argB, R1.out, Q13.out, J1.out]), HG.out.below (hGG _ g1)⟩
set_option maxHeartbeats 4000000 in
theorem spec_l32Instr_c (d : CodeD) (cs : List Value) (i pc N : Nat) (w : World) (h : BytecodeR w cs d) (hi : i < d.segments.length) (hpc : pc < d.segments[i].instrs.length) (hN : N = d.segments[i].instrs.length) (hns : d.segments.length ≤ 1000000) (hni : N ≤ 1000000)
    (hsl : ∀ s ∈ d.segments[i].instrs[pc].labels, s.length ≤ 1000000000000) (hzv : szVector d.segments[i].instrs[pc].value ≤ 1000000000000) (hop : d.segments[i].instrs[pc].op = 28) :
    Calls Tryz.prog 51 #[.agg cs.toArray, .int .i64 i, .int .i64 pc, .int .i64 N] w (RetB (insB d.segments.length i pc N d.segments[i].instrs[pc]) w) := by
  obtain ⟨v0, v1, v2, rfl, q0, q1, q2⟩ := h
  obtain ⟨A, c, rfl, hlc, hm, HC⟩ := SlR.open_ q0
  clear q0 q1 q2
  unfold maxLen at hm
  obtain ⟨b, off, sc, rfl, hbl, _, hat, hr⟩ := HC.out i hi
  obtain ⟨u0, u1, u2, rfl, r0, r1, r2⟩ := hr
  obtain ⟨A', c', rfl, hlc', hm', HI⟩ := SlR.open_ r2
  clear r0 r1 r2 HC
  unfold maxLen at hm'
  obtain ⟨b2, off2, ic, rfl, hbl2, _, hat2, hr'⟩ := HI.out pc hpc
  clear HI
  have HIR := Lib.hid hr'
  obtain ⟨A4, c4, A1, c1, A2, c2, A3, c3, A5, c5, A6, c6, rfl⟩ := hr'.slices
  clear hr'
  rw [← hN] at hat hpc hlc'
  clear hN
  generalize d.segments[i].instrs[pc] = x at hat2 HIR hsl hzv hop ⊢
  have HSL := Lib.hid hsl
  have HZV := Lib.hid hzv
  clear hsl hzv
  have HV := Lib.hid (show VecR w [.int .i64 x.value.kind, .slice A1 x.value.items.length c1, .slice A2 x.value.parts.length c2, .slice A3 x.value.names.length c3, .slice A5 x.value.cls.length c5, .slice A6 x.value.levels.length c6, .int .i64 x.value.code, .int .i64 x.value.env] x.value from by
    obtain ⟨v1, v2, v3, v4, v5, h1, h2⟩ := HIR.out.vec
    simp only [List.drop_succ_cons, List.drop_zero] at h2
    rw [h2]
    exact h1)
  obtain ⟨G, g0, HG, B1⟩ := good1 w 31 [.slice (some ⟨b, off, none⟩) d.segments.length c, v1, v2]
  obtain ⟨xs0, xs1, xs2⟩ := pk_f3 B1
  obtain ⟨z0, z1, z2⟩ := pk_e3 HG hbl hat
  obtain ⟨q0, q1, q2, q3, q4, q5, q6, q7, q8, q9, q10, q11, q12⟩ := pk_e13 HG hbl2 hat2
  clear hat hat2
  go_enter Tryz.func51, Tryz.ntmps51
  go_upto_region 1 with fail
  refine gen_w g0 ?_
  clear g0
  intro W0 g0
  obtain ⟨G', g1, HG', B'⟩ := good1 W0 63 [.int .i64 x.op, .int .i64 x.arg, .int .i64 x.count, .string (str x.text), .slice A4 x.labels.length c4, .int .i64 x.value.kind, .slice A1 x.value.items.length c1, .slice A2 x.value.parts.length c2, .slice A3 x.value.names.length c3, .slice A5 x.value.cls.length c5, .slice A6 x.value.levels.length c6, .int .i64 x.value.code, .int .i64 x.value.env]
  have hGG := fun W (h : Ok G' W) => HG.out.step g0 (HG'.out.below h)
  obtain ⟨y0, y1, y2, y3, y4, y5, y6, y7, y8, y9, y10, y11, y12⟩ := pk_f13 B'
  have ys0 := fun W (h : Ok G' W) => xs0 W (hGG W h)
  have HT := Lib.hid (show topC x.op = 2 by simp [topC, hop])
  have p4 : (x.op == 4) = false := by simp [hop]
  have p5 : (x.op == 5) = false := by simp [hop]
  have p28 : (x.op == 28) = true := by simp [hop]
  clear hop
  go_upto_region 7 with fail
  refine gen_w g1 ?_
  clear g1 g0 z0 z1 z2 q0 q1 q2 q3 q4 q5 q6 q7 q8 q9 q10 q11 q12 xs0 xs1 xs2
  intro W1 g1
  by_cases h01 : 0 ≤ x.op ∧ x.op ≤ 33
  rotate_left
  · go_wp2_with fail
    refine Calls.mono (spec_l1In_f x.op 0 33 _ h01) ?_
    rintro e w9 ⟨rfl, rfl⟩
    have HN := Lib.hid (show insB d.segments.length i pc N x = false by simp only [insB, insR]; simp; intro h9 h8; exact absurd ⟨h9, h8⟩ h01)
    go_wp2_with fail
    go_ret
    exact ⟨ret_bool HN.out.symm, HG.out.below (hGG _ g1)⟩
  obtain ⟨h0, h1⟩ := h01
  go_wp2_with fail
  refine Calls.mono (spec_l1In_t x.op 0 33 _ h0 h1) ?_
  rintro e w9 ⟨rfl, rfl⟩
  go_wp2_with fail
  refine Calls.mono (spec_l32Text x.op h0 h1 x _ _ rfl (HIR.out.below (HG.out.below (hGG _ g1)))) ?_
  rintro e w9 ⟨rfl, hb⟩
  replace g1 := HG'.out.step g1 hb
  clear hb
  cases e1 : txtB x.op x.text
  · have HN := Lib.hid (show insB d.segments.length i pc N x = false by simp [insB, insR, e1])
    go_wp2_with fail
    go_ret
    exact ⟨ret_bool HN.out.symm, HG.out.below (hGG _ g1)⟩
  go_wp2_with fail
  refine Calls.mono (spec_l32Labels x.op h0 h1 x _ _ rfl (HIR.out.below (HG.out.below (hGG _ g1))) HSL.out) ?_
  rintro e w9 ⟨rfl, hb⟩
  replace g1 := HG'.out.step g1 hb
  clear hb
  cases e2 : lblB x.op x.labels
  · have HN := Lib.hid (show insB d.segments.length i pc N x = false by simp [insB, insR, e2])
    go_wp2_with fail
    go_ret
    exact ⟨ret_bool HN.out.symm, HG.out.below (hGG _ g1)⟩
  by_cases c01 : 0 ≤ x.count ∧ x.count ≤ 2
  rotate_left
  · go_wp2_with fail
    refine Calls.mono (spec_l1In_f x.count 0 2 _ c01) ?_
    rintro e w9 ⟨rfl, rfl⟩
    have HN := Lib.hid (show insB d.segments.length i pc N x = false by simp only [insB, insR, HT.out]; simp; intro _ _ _ _ h9 h8; exact absurd ⟨h9, h8⟩ c01)
    go_wp2_with fail
    go_ret
    exact ⟨ret_bool HN.out.symm, HG.out.below (hGG _ g1)⟩
  go_wp2_with fail
  refine Calls.mono (spec_l1In_t x.count 0 2 _ c01.1 c01.2) ?_
  rintro e w9 ⟨rfl, rfl⟩
  have C01 := Lib.hid c01
  clear c01
  go_wp2_with fail
  refine Calls.mono (spec_IsVector x.value _ _ (HV.out.below (HG.out.below (hGG _ g1))) HZV.out) ?_
  rintro e w9 ⟨rfl, hb⟩
  replace g1 := HG'.out.step g1 hb
  clear hb
  cases e3 : vecOk x.value
  · have HN := Lib.hid (show insB d.segments.length i pc N x = false by simp [insB, insR, valB, e3])
    go_wp2_with fail
    go_ret
    exact ⟨ret_bool HN.out.symm, HG.out.below (hGG _ g1)⟩
  cases q0 : (x.op == 0) <;> cases q9 : (x.value.kind == 0)
  · have b0 : (x.op != 0) = true := by rw [bne, q0]; rfl
    have b9 : (x.value.kind != 0) = true := by rw [bne, q9]; rfl
    have Q0 := Lib.hid q0
    have Q9 := Lib.hid q9
    clear q0 q9
    have HN := Lib.hid (show insB d.segments.length i pc N x = false by simp [insB, insR, valB, Q0.out, Q9.out])
    go_wp2_with fail
    go_ret
    exact ⟨ret_bool HN.out.symm, HG.out.below (hGG _ g1)⟩
  all_goals
    have b0 : (x.op != 0) = !(x.op == 0) := rfl
    have b9 : (x.value.kind != 0) = !(x.value.kind == 0) := rfl
    rw [q0] at b0
    rw [q9] at b9
    have Q0 := Lib.hid q0
    have Q9 := Lib.hid q9
    clear q0 q9
    go_wp2_with fail
    refine Calls.mono (spec_l30HasFunction x.value _ _ (HV.out.below (HG.out.below (hGG _ g1)))) ?_
    rintro e w9 ⟨rfl, hb⟩
    replace g1 := HG'.out.step g1 hb
    clear hb
    cases e4 : hasFun x.value
    rotate_left
    · have HN := Lib.hid (show insB d.segments.length i pc N x = false by simp [insB, insR, valB, e4])
      go_wp2_with fail
      go_ret
      exact ⟨ret_bool HN.out.symm, HG.out.below (hGG _ g1)⟩
    have HR := Lib.hid (show insR x = true by simp [insR, valB, h0, h1, e1, e2, e3, e4, HT.out, C01.out.1, C01.out.2, Q0.out, Q9.out])
    clear e1 e2 e3 e4
    go_wp2_with fail
    refine Calls.mono (spec_l32Refers x.op h0 h1 _) ?_
    rintro e w9 ⟨rfl, rfl⟩
    cases r1 : refOp x.op
    rotate_left
    · have R1 := Lib.hid r1
      clear r1
      go_wp2_with fail
      refine Calls.mono (spec_l1In x.arg _ _ _) ?_
      rintro e w9 ⟨rfl, rfl⟩
      have HN := Lib.hid (show insB d.segments.length i pc N x = argB d.segments.length i pc N x.op x.arg by simp [insB, HR.out])
      go_wp2_with fail
      go_ret
      exact ⟨ret_bool (by rw [HN.out]; simp [argB, R1.out]), HG.out.below (hGG _ g1)⟩
    have R1 := Lib.hid r1
    clear r1
    cases q13 : (x.op == 13)
    rotate_left
    · have Q13 := Lib.hid (show x.op = 13 by simpa using q13)
      go_wp2_with fail
      refine Calls.mono (spec_l1In x.arg _ _ _) ?_
      rintro e w9 ⟨rfl, rfl⟩
      have HN := Lib.hid (show insB d.segments.length i pc N x = argB d.segments.length i pc N x.op x.arg by simp [insB, HR.out])
      go_wp2_with fail
      go_ret
      exact ⟨ret_bool (by rw [HN.out]; simp [argB, Q13.out, refOp]), HG.out.below (hGG _ g1)⟩
    have Q13 := Lib.hid (show x.op ≠ 13 by simpa using q13)
    go_wp2_with fail
    refine Calls.mono (spec_l32Jumps x.op _) ?_
    rintro e w9 ⟨rfl, rfl⟩
    cases j1 : isJ x.op
    rotate_left
    · have J1 := Lib.hid (show jmpOp x.op = true from j1)
      clear j1
      go_wp2_with fail
      refine Calls.mono (spec_l1In x.arg _ _ _) ?_
      rintro e w9 ⟨rfl, rfl⟩
      have HN := Lib.hid (show insB d.segments.length i pc N x = argB d.segments.length i pc N x.op x.arg by simp [insB, HR.out])
      go_wp2_with fail
      go_ret
      exact ⟨ret_bool (by rw [HN.out]; simp [argB, R1.out, Q13.out, J1.out]), HG.out.below (hGG _ g1)⟩
    have J1 := Lib.hid (show jmpOp x.op = false from j1)
    clear j1
    have HN := Lib.hid (show insB d.segments.length i pc N x = argB d.segments.length i pc N x.op x.arg by simp [insB, HR.out])
    go_wp2_with fail
    go_ret
    exact ⟨ret_bool (by rw [HN.out]; simp [argB, R1.out, Q13.out, J1.out]), HG.out.below (hGG _ g1)⟩
set_option maxHeartbeats 4000000 in
theorem spec_l32Instr_d (d : CodeD) (cs : List Value) (i pc N : Nat) (w : World) (h : BytecodeR w cs d) (hi : i < d.segments.length) (hpc : pc < d.segments[i].instrs.length) (hN : N = d.segments[i].instrs.length) (hns : d.segments.length ≤ 1000000) (hni : N ≤ 1000000)
    (hsl : ∀ s ∈ d.segments[i].instrs[pc].labels, s.length ≤ 1000000000000) (hzv : szVector d.segments[i].instrs[pc].value ≤ 1000000000000) (hop : d.segments[i].instrs[pc].op ≠ 4 ∧ d.segments[i].instrs[pc].op ≠ 5 ∧ d.segments[i].instrs[pc].op ≠ 28) :
    Calls Tryz.prog 51 #[.agg cs.toArray, .int .i64 i, .int .i64 pc, .int .i64 N] w (RetB (insB d.segments.length i pc N d.segments[i].instrs[pc]) w) := by
  obtain ⟨v0, v1, v2, rfl, q0, q1, q2⟩ := h
  obtain ⟨A, c, rfl, hlc, hm, HC⟩ := SlR.open_ q0
  clear q0 q1 q2
  unfold maxLen at hm
  obtain ⟨b, off, sc, rfl, hbl, _, hat, hr⟩ := HC.out i hi
  obtain ⟨u0, u1, u2, rfl, r0, r1, r2⟩ := hr
  obtain ⟨A', c', rfl, hlc', hm', HI⟩ := SlR.open_ r2
  clear r0 r1 r2 HC
  unfold maxLen at hm'
  obtain ⟨b2, off2, ic, rfl, hbl2, _, hat2, hr'⟩ := HI.out pc hpc
  clear HI
  have HIR := Lib.hid hr'
  obtain ⟨A4, c4, A1, c1, A2, c2, A3, c3, A5, c5, A6, c6, rfl⟩ := hr'.slices
  clear hr'
  rw [← hN] at hat hpc hlc'
  clear hN
  generalize d.segments[i].instrs[pc] = x at hat2 HIR hsl hzv hop ⊢
  have HSL := Lib.hid hsl
  have HZV := Lib.hid hzv
  clear hsl hzv
  have HV := Lib.hid (show VecR w [.int .i64 x.value.kind, .slice A1 x.value.items.length c1, .slice A2 x.value.parts.length c2, .slice A3 x.value.names.length c3, .slice A5 x.value.cls.length c5, .slice A6 x.value.levels.length c6, .int .i64 x.value.code, .int .i64 x.value.env] x.value from by
    obtain ⟨v1, v2, v3, v4, v5, h1, h2⟩ := HIR.out.vec
    simp only [List.drop_succ_cons, List.drop_zero] at h2
    rw [h2]
    exact h1)
  obtain ⟨G, g0, HG, B1⟩ := good1 w 31 [.slice (some ⟨b, off, none⟩) d.segments.length c, v1, v2]
  obtain ⟨xs0, xs1, xs2⟩ := pk_f3 B1
  obtain ⟨z0, z1, z2⟩ := pk_e3 HG hbl hat
  obtain ⟨q0, q1, q2, q3, q4, q5, q6, q7, q8, q9, q10, q11, q12⟩ := pk_e13 HG hbl2 hat2
  clear hat hat2
  go_enter Tryz.func51, Tryz.ntmps51
  go_upto_region 1 with fail
  refine gen_w g0 ?_
  clear g0
  intro W0 g0
  obtain ⟨G', g1, HG', B'⟩ := good1 W0 63 [.int .i64 x.op, .int .i64 x.arg, .int .i64 x.count, .string (str x.text), .slice A4 x.labels.length c4, .int .i64 x.value.kind, .slice A1 x.value.items.length c1, .slice A2 x.value.parts.length c2, .slice A3 x.value.names.length c3, .slice A5 x.value.cls.length c5, .slice A6 x.value.levels.length c6, .int .i64 x.value.code, .int .i64 x.value.env]
  have hGG := fun W (h : Ok G' W) => HG.out.step g0 (HG'.out.below h)
  obtain ⟨y0, y1, y2, y3, y4, y5, y6, y7, y8, y9, y10, y11, y12⟩ := pk_f13 B'
  have ys0 := fun W (h : Ok G' W) => xs0 W (hGG W h)
  have HT := Lib.hid (show topC x.op = 0 by simp [topC, hop])
  have p4 : (x.op == 4) = false := by simp [hop]
  have p5 : (x.op == 5) = false := by simp [hop]
  have p28 : (x.op == 28) = false := by simp [hop]
  clear hop
  go_upto_region 7 with fail
  refine gen_w g1 ?_
  clear g1 g0 z0 z1 z2 q0 q1 q2 q3 q4 q5 q6 q7 q8 q9 q10 q11 q12 xs0 xs1 xs2
  intro W1 g1
  by_cases h01 : 0 ≤ x.op ∧ x.op ≤ 33
  rotate_left
  · go_wp2_with fail
    refine Calls.mono (spec_l1In_f x.op 0 33 _ h01) ?_
    rintro e w9 ⟨rfl, rfl⟩
    have HN := Lib.hid (show insB d.segments.length i pc N x = false by simp only [insB, insR]; simp; intro h9 h8; exact absurd ⟨h9, h8⟩ h01)
    go_wp2_with fail
    go_ret
    exact ⟨ret_bool HN.out.symm, HG.out.below (hGG _ g1)⟩
  obtain ⟨h0, h1⟩ := h01
  go_wp2_with fail
  refine Calls.mono (spec_l1In_t x.op 0 33 _ h0 h1) ?_
  rintro e w9 ⟨rfl, rfl⟩
  go_wp2_with fail
  refine Calls.mono (spec_l32Text x.op h0 h1 x _ _ rfl (HIR.out.below (HG.out.below (hGG _ g1)))) ?_
  rintro e w9 ⟨rfl, hb⟩
  replace g1 := HG'.out.step g1 hb
  clear hb
  cases e1 : txtB x.op x.text
  · have HN := Lib.hid (show insB d.segments.length i pc N x = false by simp [insB, insR, e1])
    go_wp2_with fail
    go_ret
    exact ⟨ret_bool HN.out.symm, HG.out.below (hGG _ g1)⟩
  go_wp2_with fail
  refine Calls.mono (spec_l32Labels x.op h0 h1 x _ _ rfl (HIR.out.below (HG.out.below (hGG _ g1))) HSL.out) ?_
  rintro e w9 ⟨rfl, hb⟩
  replace g1 := HG'.out.step g1 hb
  clear hb
  cases e2 : lblB x.op x.labels
  · have HN := Lib.hid (show insB d.segments.length i pc N x = false by simp [insB, insR, e2])
    go_wp2_with fail
    go_ret
    exact ⟨ret_bool HN.out.symm, HG.out.below (hGG _ g1)⟩
  by_cases c01 : 0 ≤ x.count ∧ x.count ≤ 0
  rotate_left
  · go_wp2_with fail
    refine Calls.mono (spec_l1In_f x.count 0 0 _ c01) ?_
    rintro e w9 ⟨rfl, rfl⟩
    have HN := Lib.hid (show insB d.segments.length i pc N x = false by simp only [insB, insR, HT.out]; simp; intro _ _ _ _ h9 h8; exact absurd ⟨h9, h8⟩ c01)
    go_wp2_with fail
    go_ret
    exact ⟨ret_bool HN.out.symm, HG.out.below (hGG _ g1)⟩
  go_wp2_with fail
  refine Calls.mono (spec_l1In_t x.count 0 0 _ c01.1 c01.2) ?_
  rintro e w9 ⟨rfl, rfl⟩
  have C01 := Lib.hid c01
  clear c01
  go_wp2_with fail
  refine Calls.mono (spec_IsVector x.value _ _ (HV.out.below (HG.out.below (hGG _ g1))) HZV.out) ?_
  rintro e w9 ⟨rfl, hb⟩
  replace g1 := HG'.out.step g1 hb
  clear hb
  cases e3 : vecOk x.value
  · have HN := Lib.hid (show insB d.segments.length i pc N x = false by simp [insB, insR, valB, e3])
    go_wp2_with fail
    go_ret
    exact ⟨ret_bool HN.out.symm, HG.out.below (hGG _ g1)⟩
  cases q0 : (x.op == 0) <;> cases q9 : (x.value.kind == 0)
  · have b0 : (x.op != 0) = true := by rw [bne, q0]; rfl
    have b9 : (x.value.kind != 0) = true := by rw [bne, q9]; rfl
    have Q0 := Lib.hid q0
    have Q9 := Lib.hid q9
    clear q0 q9
    have HN := Lib.hid (show insB d.segments.length i pc N x = false by simp [insB, insR, valB, Q0.out, Q9.out])
    go_wp2_with fail
    go_ret
    exact ⟨ret_bool HN.out.symm, HG.out.below (hGG _ g1)⟩
  all_goals
    have b0 : (x.op != 0) = !(x.op == 0) := rfl
    have b9 : (x.value.kind != 0) = !(x.value.kind == 0) := rfl
    rw [q0] at b0
    rw [q9] at b9
    have Q0 := Lib.hid q0
    have Q9 := Lib.hid q9
    clear q0 q9
    go_wp2_with fail
    refine Calls.mono (spec_l30HasFunction x.value _ _ (HV.out.below (HG.out.below (hGG _ g1)))) ?_
    rintro e w9 ⟨rfl, hb⟩
    replace g1 := HG'.out.step g1 hb
    clear hb
    cases e4 : hasFun x.value
    rotate_left
    · have HN := Lib.hid (show insB d.segments.length i pc N x = false by simp [insB, insR, valB, e4])
      go_wp2_with fail
      go_ret
      exact ⟨ret_bool HN.out.symm, HG.out.below (hGG _ g1)⟩
    have HR := Lib.hid (show insR x = true by simp [insR, valB, h0, h1, e1, e2, e3, e4, HT.out, C01.out.1, C01.out.2, Q0.out, Q9.out])
    clear e1 e2 e3 e4
    go_wp2_with fail
    refine Calls.mono (spec_l32Refers x.op h0 h1 _) ?_
    rintro e w9 ⟨rfl, rfl⟩
    cases r1 : refOp x.op
    rotate_left
    · have R1 := Lib.hid r1
      clear r1
      go_wp2_with fail
      refine Calls.mono (spec_l1In x.arg _ _ _) ?_
      rintro e w9 ⟨rfl, rfl⟩
      have HN := Lib.hid (show insB d.segments.length i pc N x = argB d.segments.length i pc N x.op x.arg by simp [insB, HR.out])
      go_wp2_with fail
      go_ret
      exact ⟨ret_bool (by rw [HN.out]; simp [argB, R1.out]), HG.out.below (hGG _ g1)⟩
    have R1 := Lib.hid r1
    clear r1
    cases q13 : (x.op == 13)
    rotate_left
    · have Q13 := Lib.hid (show x.op = 13 by simpa using q13)
      go_wp2_with fail
      refine Calls.mono (spec_l1In x.arg _ _ _) ?_
      rintro e w9 ⟨rfl, rfl⟩
      have HN := Lib.hid (show insB d.segments.length i pc N x = argB d.segments.length i pc N x.op x.arg by simp [insB, HR.out])
      go_wp2_with fail
      go_ret
      exact ⟨ret_bool (by rw [HN.out]; simp [argB, Q13.out, refOp]), HG.out.below (hGG _ g1)⟩
    have Q13 := Lib.hid (show x.op ≠ 13 by simpa using q13)
    go_wp2_with fail
    refine Calls.mono (spec_l32Jumps x.op _) ?_
    rintro e w9 ⟨rfl, rfl⟩
    cases j1 : isJ x.op
    rotate_left
    · have J1 := Lib.hid (show jmpOp x.op = true from j1)
      clear j1
      go_wp2_with fail
      refine Calls.mono (spec_l1In x.arg _ _ _) ?_
      rintro e w9 ⟨rfl, rfl⟩
      have HN := Lib.hid (show insB d.segments.length i pc N x = argB d.segments.length i pc N x.op x.arg by simp [insB, HR.out])
      go_wp2_with fail
      go_ret
      exact ⟨ret_bool (by rw [HN.out]; simp [argB, R1.out, Q13.out, J1.out]), HG.out.below (hGG _ g1)⟩
    have J1 := Lib.hid (show jmpOp x.op = false from j1)
    clear j1
    have HN := Lib.hid (show insB d.segments.length i pc N x = argB d.segments.length i pc N x.op x.arg by simp [insB, HR.out])
    go_wp2_with fail
    go_ret
    exact ⟨ret_bool (by rw [HN.out]; simp [argB, R1.out, Q13.out, J1.out]), HG.out.below (hGG _ g1)⟩
theorem spec_l32Instr (d : CodeD) (cs : List Value) (i pc N : Nat) (w : World) (h : BytecodeR w cs d) (hi : i < d.segments.length) (hpc : pc < d.segments[i].instrs.length) (hN : N = d.segments[i].instrs.length) (hns : d.segments.length ≤ 1000000) (hni : N ≤ 1000000)
    (hsl : ∀ s ∈ d.segments[i].instrs[pc].labels, s.length ≤ 1000000000000) (hzv : szVector d.segments[i].instrs[pc].value ≤ 1000000000000) :
    Calls Tryz.prog 51 #[.agg cs.toArray, .int .i64 i, .int .i64 pc, .int .i64 N] w (RetB (insB d.segments.length i pc N d.segments[i].instrs[pc]) w) := by
  by_cases h4 : d.segments[i].instrs[pc].op = 4
  · exact spec_l32Instr_a d cs i pc N w h hi hpc hN hns hni hsl hzv h4
  by_cases h5 : d.segments[i].instrs[pc].op = 5
  · exact spec_l32Instr_b d cs i pc N w h hi hpc hN hns hni hsl hzv h5
  by_cases h28 : d.segments[i].instrs[pc].op = 28
  · exact spec_l32Instr_c d cs i pc N w h hi hpc hN hns hni hsl hzv h28
  · exact spec_l32Instr_d d cs i pc N w h hi hpc hN hns hni hsl hzv ⟨h4, h5, h28⟩
end Go.Proofs.YtjdfancbmjnjfaaGreat
