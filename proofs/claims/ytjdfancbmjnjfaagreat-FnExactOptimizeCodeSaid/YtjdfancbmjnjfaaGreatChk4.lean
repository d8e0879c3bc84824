/-
  Contracts: what an instruction makes of the operands, of the program and of the reference.
-/
import Derived.Test.YtjdfancbmjnjfaaGreatChk1
namespace Go.Proofs.YtjdfancbmjnjfaaGreat
set_option maxRecDepth 100000
open Go.ChangeShapes Go.WideShapes Go.ChangeAt Go.RowKit Go.Deep
set_option linter.unusedVariables false
set_option linter.unusedSimpArgs false

def RetOS (o : Option (List UInt8)) (w : World) (e : Ending) (w' : World) : Prop := e = .returned (.tuple #[.string (str (o.getD [])), .bool o.isSome]) ∧ w = w'
theorem str_ext (s : List UInt8) (a b : Nat) : (str s).extract a b = str ((s.drop a).take (b - a)) := by
  apply ByteArray.ext
  simp [str, ByteArray.extract, ByteArray.copySlice]
theorem repB_at {s need give : List UInt8} {n : Nat} (hn : s.length = need.length + n) : repB s need give = if s.drop n == need then some (s.take n ++ give) else none := by
  unfold repB
  rw [show s.length - need.length = n by omega]
  by_cases h : s.drop n = need
  · rw [if_pos ⟨by omega, h⟩, if_pos (by simpa using h)]
  · rw [if_neg (fun h2 => h h2.2), if_neg (by simpa using h)]
set_option maxHeartbeats 1000000 in
theorem impl_operands (s need give : List UInt8) (w : World) (h1 : s.length ≤ 1000000) (h2 : need.length ≤ 1000000) (h3 : give.length ≤ 1000000) :
    Calls Tryz.prog 126 #[.string (str s), .string (str need), .string (str give)] w (RetOS (repB s need give) w) := by
  by_cases hl : need.length ≤ s.length
  rotate_left
  · have HN := Lib.hid (show repB s need give = none by simp [repB, hl])
    go_enter Tryz.func126, Tryz.ntmps126
    go_wp2_with fail
    go_ret2
    exact ⟨by rw [HN.out]; rfl, rfl⟩
  obtain ⟨n, hn⟩ : ∃ n, s.length = need.length + n := ⟨s.length - need.length, by omega⟩
  have HN := Lib.hid (repB_at (give := give) hn)
  have he1 : (str s).extract n (need.length + n) = str (s.drop n) := by rw [str_ext, List.take_of_length_le (by simp; omega)]
  have he2 : (str s).extract 0 n = str (s.take n) := by rw [str_ext, List.drop_zero, Nat.sub_zero]
  go_enter Tryz.func126, Tryz.ntmps126
  cases hq : (s.drop n == need)
  all_goals
    rw [hq] at HN
    go_wp2_with fail
    go_ret2
    exact ⟨by rw [HN.out]; rfl, rfl⟩
set_option maxHeartbeats 1000000 in
theorem spec_l32Replace (s need give : List UInt8) (w : World) (h1 : s.length ≤ 1000000) (h2 : need.length ≤ 1000000) (h3 : give.length ≤ 1000000) :
    Calls Tryz.prog 119 #[.string (str s), .string (str need), .string (str give)] w (RetOS (repB s need give) w) := by
  by_cases hl : need.length ≤ s.length
  rotate_left
  · have HN := Lib.hid (show repB s need give = none by simp [repB, hl])
    go_enter Tryz.func119, Tryz.ntmps119
    go_wp2_with fail
    go_ret2
    exact ⟨by rw [HN.out]; rfl, rfl⟩
  obtain ⟨n, hn⟩ : ∃ n, s.length = need.length + n := ⟨s.length - need.length, by omega⟩
  have HN := Lib.hid (repB_at (give := give) hn)
  have he1 : (str s).extract n (need.length + n) = str (s.drop n) := by rw [str_ext, List.take_of_length_le (by simp; omega)]
  have he2 : (str s).extract 0 n = str (s.take n) := by rw [str_ext, List.drop_zero, Nat.sub_zero]
  go_enter Tryz.func119, Tryz.ntmps119
  cases hq : (s.drop n == need)
  all_goals
    rw [hq] at HN
    go_wp2_with fail
    go_ret2
    exact ⟨by rw [HN.out]; rfl, rfl⟩
set_option maxHeartbeats 1000000 in
theorem impl_repeated (n : Nat) (w : World) (h1 : n ≤ 1000000) :
    Calls Tryz.prog 125 #[.string (str [112]), .int .i64 n] w fun e w' => e = .returned (.string (str (List.replicate n 112))) ∧ w = w' := by
  go_enter Tryz.func125, Tryz.ntmps125
  go_wp2_with fail
  go_loopw [5, 6] (fun q i wr => ∃ k : Nat, k ≤ n ∧ i = .int .i64 k ∧ q = .string (str (List.replicate k 112)) ∧ wr = w) (fun _ i _ => n - (intOf i).toNat)
  case atStart => exact ⟨0, Nat.zero_le _, rfl, rfl, rfl⟩
  case round =>
    obtain ⟨k, hk, rfl, rfl, rfl⟩ := hrel
    by_cases hlt : k < n
    · go_wp2_with fail
      go_roundw
      case rel => exact ⟨k + 1, by omega, by go_num, by rw [List.replicate_succ'], trivial⟩
      case measure => simp [intOf]; omega
    · obtain rfl : k = n := by omega
      go_wp2_with fail
      go_ret
      exact ⟨rfl, rfl⟩
set_option maxHeartbeats 1000000 in
theorem spec_l32Times (n : Nat) (w : World) (h1 : n ≤ 1000000) :
    Calls Tryz.prog 118 #[.int .i64 n] w fun e w' => e = .returned (.string (str (List.replicate n 112))) ∧ w = w' := by
  go_enter Tryz.func118, Tryz.ntmps118
  go_wp2_with fail
  go_loopw [3, 4] (fun q i wr => ∃ k : Nat, k ≤ n ∧ i = .int .i64 k ∧ q = .string (str (List.replicate k 112)) ∧ wr = w) (fun _ i _ => n - (intOf i).toNat)
  case atStart => exact ⟨0, Nat.zero_le _, rfl, rfl, rfl⟩
  case round =>
    obtain ⟨k, hk, rfl, rfl, rfl⟩ := hrel
    by_cases hlt : k < n
    · go_wp2_with fail
      go_roundw
      case rel => exact ⟨k + 1, by omega, by go_num, by rw [List.replicate_succ'], trivial⟩
      case measure => simp [intOf]; omega
    · obtain rfl : k = n := by omega
      go_wp2_with fail
      go_ret
      exact ⟨rfl, rfl⟩
def RetOB (o : Option (List UInt8)) (w : World) (e : Ending) (w2 : World) : Prop := e = .returned (.tuple #[.string (str (o.getD [])), .bool o.isSome]) ∧ Below w.heap.size w w2
def EffC (op : Int) : Prop := ∀ (d : InstrD) (cs : List Value) (s : List UInt8) (w : World), d.op = op → InstrR w cs d → 0 ≤ d.count ∧ d.count ≤ 200 → d.labels.length ≤ 200 → s.length ≤ 100000 → Calls Tryz.prog 96 #[.agg cs.toArray, .string (str s)] w (RetOB (effI d s) w)
set_option maxHeartbeats 7000000 in
theorem impl_effect_c0 : ∀ op ∈ ([0, 1, 2, 3, 30, 31, 33] : List Int), EffC op := by
  intro op hm
  simp only [List.mem_cons, List.not_mem_nil, or_false] at hm
  rcases hm with rfl | rfl | rfl | rfl | rfl | rfl | rfl
  all_goals
    intro d cs s w hop h hc hn hs
    have HRR := Lib.hid (fun (W : World) (hb : Below w.heap.size w W) => h.below hb)
    obtain ⟨v4, v51, v52, v53, v54, v55, rfl, i0, i1, i2, ht, hl, hv⟩ := h
    have HL := Lib.hid hl
    have HV := Lib.hid hv
    have HT := Lib.hid ht
    have I0 := Lib.hid i0
    have I1 := Lib.hid i1
    have I2 := Lib.hid i2
    obtain ⟨A4, c4, rfl, hlc, hm, HC⟩ := Txts.open_ hl
    unfold maxLen at hm
    clear hl hv ht i0 i1 i2
    obtain ⟨G, g0, HG, B1⟩ := good1 w 63 [.int .i64 d.op, .int .i64 d.arg, .int .i64 d.count, .string (str d.text), .slice A4 d.labels.length c4, .int .i64 d.value.kind, v51, v52, v53, v54, v55, .int .i64 d.value.code, .int .i64 d.value.env]
    rw [hop] at g0 B1 ⊢
    obtain ⟨x0, x1, x2, x3, x4, x5, x6, x7, x8, x9, x10, x11, x12⟩ := pk_f13 B1
    have hop := Lib.hid hop
    go_enter Tryz.func96, Tryz.ntmps96
    go_upto_region 1 with fail
    refine gen_w g0 ?_
    clear g0
    intro W0 g0
    have HN := Lib.hid (show effI d s = some (s ++ [118]) by simp [effI, hop.out])
    go_wp2_with fail
    go_ret2
    exact ⟨by rw [HN.out]; rfl, HG.out.below g0⟩
set_option maxHeartbeats 2000000 in
theorem impl_effect_c4 : ∀ op ∈ ([4, 5] : List Int), EffC op := by
  intro op hm
  simp only [List.mem_cons, List.not_mem_nil, or_false] at hm
  rcases hm with rfl | rfl
  all_goals
    intro d cs s w hop h hc hn hs
    have HRR := Lib.hid (fun (W : World) (hb : Below w.heap.size w W) => h.below hb)
    obtain ⟨v4, v51, v52, v53, v54, v55, rfl, i0, i1, i2, ht, hl, hv⟩ := h
    have HL := Lib.hid hl
    have HV := Lib.hid hv
    have HT := Lib.hid ht
    have I0 := Lib.hid i0
    have I1 := Lib.hid i1
    have I2 := Lib.hid i2
    obtain ⟨A4, c4, rfl, hlc, hm, HC⟩ := Txts.open_ hl
    unfold maxLen at hm
    clear hl hv ht i0 i1 i2
    obtain ⟨G, g0, HG, B1⟩ := good1 w 63 [.int .i64 d.op, .int .i64 d.arg, .int .i64 d.count, .string (str d.text), .slice A4 d.labels.length c4, .int .i64 d.value.kind, v51, v52, v53, v54, v55, .int .i64 d.value.code, .int .i64 d.value.env]
    rw [hop] at g0 B1 ⊢
    obtain ⟨x0, x1, x2, x3, x4, x5, x6, x7, x8, x9, x10, x11, x12⟩ := pk_f13 B1
    have hop := Lib.hid hop
    go_enter Tryz.func96, Tryz.ntmps96
    go_upto_region 1 with fail
    refine gen_w g0 ?_
    clear g0
    intro W0 g0
    obtain ⟨c, hcn⟩ := Int.eq_ofNat_of_zero_le hc.1
    have hc2 := hc.2
    rw [hcn] at hc2
    have HCN := Lib.hid (show d.count.toNat = c by rw [hcn]; rfl)
    rw [hcn] at x2
    clear hcn hc
    go_wp2_with fail
    refine Calls.mono (impl_repeated c _ (by omega)) ?_
    rintro e w2 ⟨rfl, rfl⟩
    have HN := Lib.hid (show effI d s = repB s (118 :: List.replicate c 112) (118 :: (List.replicate c 112 ++ [112])) by simp [effI, aft, ndI, hop.out, HCN.out])
    go_wp2_with fail
    refine Calls.mono (impl_operands s (118 :: List.replicate c 112) (118 :: (List.replicate c 112 ++ [112])) _ (by omega) (by simp; omega) (by simp; omega)) ?_
    rintro e w3 ⟨rfl, rfl⟩
    go_wp2_with fail
    go_ret2
    exact ⟨by rw [HN.out]; rfl, HG.out.below g0⟩
set_option maxHeartbeats 1000000 in
theorem impl_effect_6 : EffC 6 := by
  intro d cs s w hop h hc hn hs
  have HRR := Lib.hid (fun (W : World) (hb : Below w.heap.size w W) => h.below hb)
  obtain ⟨v4, v51, v52, v53, v54, v55, rfl, i0, i1, i2, ht, hl, hv⟩ := h
  have HL := Lib.hid hl
  have HV := Lib.hid hv
  have HT := Lib.hid ht
  have I0 := Lib.hid i0
  have I1 := Lib.hid i1
  have I2 := Lib.hid i2
  obtain ⟨A4, c4, rfl, hlc, hm, HC⟩ := Txts.open_ hl
  unfold maxLen at hm
  clear hl hv ht i0 i1 i2
  rw [hop]
  obtain ⟨G, g0, HG, B1⟩ := good1 w 63 [.int .i64 6, .int .i64 d.arg, .int .i64 d.count, .string (str d.text), .slice A4 d.labels.length c4, .int .i64 d.value.kind, v51, v52, v53, v54, v55, .int .i64 d.value.code, .int .i64 d.value.env]
  obtain ⟨x0, x1, x2, x3, x4, x5, x6, x7, x8, x9, x10, x11, x12⟩ := pk_f13 B1
  have hop := Lib.hid hop
  go_enter Tryz.func96, Tryz.ntmps96
  go_upto_region 1 with fail
  refine gen_w g0 ?_
  clear g0
  intro W0 g0
  have HCN := Lib.hid trivial
  go_wp2_with fail
  refine Calls.mono (impl_repeated d.labels.length _ (by omega)) ?_
  rintro e w2 ⟨rfl, rfl⟩
  have HN := Lib.hid (show effI d s = repB s (118 :: List.replicate d.labels.length 112) ([118]) by simp [effI, aft, ndI, hop.out, HCN.out])
  go_wp2_with fail
  refine Calls.mono (impl_operands s (118 :: List.replicate d.labels.length 112) ([118]) _ (by omega) (by simp; omega) (by simp)) ?_
  rintro e w3 ⟨rfl, rfl⟩
  go_wp2_with fail
  go_ret2
  exact ⟨by rw [HN.out]; rfl, HG.out.below g0⟩
set_option maxHeartbeats 7000000 in
theorem impl_effect_c7 : ∀ op ∈ ([7, 11, 15, 16, 20, 21, 28] : List Int), EffC op := by
  intro op hm
  simp only [List.mem_cons, List.not_mem_nil, or_false] at hm
  rcases hm with rfl | rfl | rfl | rfl | rfl | rfl | rfl
  all_goals
    intro d cs s w hop h hc hn hs
    have HRR := Lib.hid (fun (W : World) (hb : Below w.heap.size w W) => h.below hb)
    obtain ⟨v4, v51, v52, v53, v54, v55, rfl, i0, i1, i2, ht, hl, hv⟩ := h
    have HL := Lib.hid hl
    have HV := Lib.hid hv
    have HT := Lib.hid ht
    have I0 := Lib.hid i0
    have I1 := Lib.hid i1
    have I2 := Lib.hid i2
    obtain ⟨A4, c4, rfl, hlc, hm, HC⟩ := Txts.open_ hl
    unfold maxLen at hm
    clear hl hv ht i0 i1 i2
    obtain ⟨G, g0, HG, B1⟩ := good1 w 63 [.int .i64 d.op, .int .i64 d.arg, .int .i64 d.count, .string (str d.text), .slice A4 d.labels.length c4, .int .i64 d.value.kind, v51, v52, v53, v54, v55, .int .i64 d.value.code, .int .i64 d.value.env]
    rw [hop] at g0 B1 ⊢
    obtain ⟨x0, x1, x2, x3, x4, x5, x6, x7, x8, x9, x10, x11, x12⟩ := pk_f13 B1
    have hop := Lib.hid hop
    go_enter Tryz.func96, Tryz.ntmps96
    go_upto_region 1 with fail
    refine gen_w g0 ?_
    clear g0
    intro W0 g0
    have HN := Lib.hid (show effI d s = repB s ([118]) ([118]) by simp [effI, aft, ndI, hop.out])
    go_wp2_with fail
    refine Calls.mono (impl_operands s ([118]) ([118]) _ (by omega) (by simp) (by simp)) ?_
    rintro e w3 ⟨rfl, rfl⟩
    go_wp2_with fail
    go_ret2
    exact ⟨by rw [HN.out]; rfl, HG.out.below g0⟩
set_option maxHeartbeats 6000000 in
theorem impl_effect_c8 : ∀ op ∈ ([8, 9, 10, 17, 24, 25] : List Int), EffC op := by
  intro op hm
  simp only [List.mem_cons, List.not_mem_nil, or_false] at hm
  rcases hm with rfl | rfl | rfl | rfl | rfl | rfl
  all_goals
    intro d cs s w hop h hc hn hs
    have HRR := Lib.hid (fun (W : World) (hb : Below w.heap.size w W) => h.below hb)
    obtain ⟨v4, v51, v52, v53, v54, v55, rfl, i0, i1, i2, ht, hl, hv⟩ := h
    have HL := Lib.hid hl
    have HV := Lib.hid hv
    have HT := Lib.hid ht
    have I0 := Lib.hid i0
    have I1 := Lib.hid i1
    have I2 := Lib.hid i2
    obtain ⟨A4, c4, rfl, hlc, hm, HC⟩ := Txts.open_ hl
    unfold maxLen at hm
    clear hl hv ht i0 i1 i2
    obtain ⟨G, g0, HG, B1⟩ := good1 w 63 [.int .i64 d.op, .int .i64 d.arg, .int .i64 d.count, .string (str d.text), .slice A4 d.labels.length c4, .int .i64 d.value.kind, v51, v52, v53, v54, v55, .int .i64 d.value.code, .int .i64 d.value.env]
    rw [hop] at g0 B1 ⊢
    obtain ⟨x0, x1, x2, x3, x4, x5, x6, x7, x8, x9, x10, x11, x12⟩ := pk_f13 B1
    have hop := Lib.hid hop
    go_enter Tryz.func96, Tryz.ntmps96
    go_upto_region 1 with fail
    refine gen_w g0 ?_
    clear g0
    intro W0 g0
    have HN := Lib.hid (show effI d s = repB s ([118, 118]) ([118]) by simp [effI, aft, ndI, hop.out])
    go_wp2_with fail
    refine Calls.mono (impl_operands s ([118, 118]) ([118]) _ (by omega) (by simp) (by simp)) ?_
    rintro e w3 ⟨rfl, rfl⟩
    go_wp2_with fail
    go_ret2
    exact ⟨by rw [HN.out]; rfl, HG.out.below g0⟩
set_option maxHeartbeats 1000000 in
theorem impl_effect_12 : EffC 12 := by
  intro d cs s w hop h hc hn hs
  have HRR := Lib.hid (fun (W : World) (hb : Below w.heap.size w W) => h.below hb)
  obtain ⟨v4, v51, v52, v53, v54, v55, rfl, i0, i1, i2, ht, hl, hv⟩ := h
  have HL := Lib.hid hl
  have HV := Lib.hid hv
  have HT := Lib.hid ht
  have I0 := Lib.hid i0
  have I1 := Lib.hid i1
  have I2 := Lib.hid i2
  obtain ⟨A4, c4, rfl, hlc, hm, HC⟩ := Txts.open_ hl
  unfold maxLen at hm
  clear hl hv ht i0 i1 i2
  rw [hop]
  obtain ⟨G, g0, HG, B1⟩ := good1 w 63 [.int .i64 12, .int .i64 d.arg, .int .i64 d.count, .string (str d.text), .slice A4 d.labels.length c4, .int .i64 d.value.kind, v51, v52, v53, v54, v55, .int .i64 d.value.code, .int .i64 d.value.env]
  obtain ⟨x0, x1, x2, x3, x4, x5, x6, x7, x8, x9, x10, x11, x12⟩ := pk_f13 B1
  have hop := Lib.hid hop
  go_enter Tryz.func96, Tryz.ntmps96
  go_upto_region 1 with fail
  refine gen_w g0 ?_
  clear g0
  intro W0 g0
  have NE := Lib.hid (fun (c k : UInt8) (n : Int) (hk : n = (k.toNat : Int)) (h : c ≠ k) => show ((c.toNat : Int) == n) = false by
    rw [hk, beq_eq_false_iff_ne]
    intro h2
    exact h (UInt8.toNat_inj.1 (Int.ofNat.inj h2)))
  rcases List.eq_nil_or_concat s with rfl | ⟨t, c, rfl⟩
  · have HN := Lib.hid (show effI d [] = none by simp [effI, hop.out])
    go_wp2_with fail
    go_ret2
    exact ⟨by rw [HN.out]; rfl, HG.out.below g0⟩
  have hs2 : t.length ≤ 100000 := by simp at hs; omega
  rw [List.concat_eq_append]
  clear hs
  have hget : ∀ h, (str (t ++ [c]))[t.length]'h = c := fun h => by rw [str_at]; simp
  have hext : (str (t ++ [c])).extract 0 t.length = str t := by rw [str_ext]; simp
  by_cases hq : c = 112
  · subst hq
    have HN := Lib.hid (show effI d (t.concat 112) = none by simp [effI, hop.out])
    have hq2 : (((112 : UInt8).toNat : Int) != 112) = false := by decide
    go_wp2_with fail
    go_ret2
    exact ⟨by rw [HN.out]; rfl, HG.out.below g0⟩
  · have HN := Lib.hid (show effI d (t.concat c) = some t by simp [effI, hop.out, hq])
    have hq2 : ((c.toNat : Int) != 112) = true := by rw [bne, NE.out c 112 112 rfl hq]; rfl
    go_wp2_with fail
    go_ret2
    exact ⟨by rw [HN.out]; rfl, HG.out.below g0⟩
set_option maxHeartbeats 3000000 in
theorem impl_effect_c13 : ∀ op ∈ ([13, 27, 32] : List Int), EffC op := by
  intro op hm
  simp only [List.mem_cons, List.not_mem_nil, or_false] at hm
  rcases hm with rfl | rfl | rfl
  all_goals
    intro d cs s w hop h hc hn hs
    have HRR := Lib.hid (fun (W : World) (hb : Below w.heap.size w W) => h.below hb)
    obtain ⟨v4, v51, v52, v53, v54, v55, rfl, i0, i1, i2, ht, hl, hv⟩ := h
    have HL := Lib.hid hl
    have HV := Lib.hid hv
    have HT := Lib.hid ht
    have I0 := Lib.hid i0
    have I1 := Lib.hid i1
    have I2 := Lib.hid i2
    obtain ⟨A4, c4, rfl, hlc, hm, HC⟩ := Txts.open_ hl
    unfold maxLen at hm
    clear hl hv ht i0 i1 i2
    obtain ⟨G, g0, HG, B1⟩ := good1 w 63 [.int .i64 d.op, .int .i64 d.arg, .int .i64 d.count, .string (str d.text), .slice A4 d.labels.length c4, .int .i64 d.value.kind, v51, v52, v53, v54, v55, .int .i64 d.value.code, .int .i64 d.value.env]
    rw [hop] at g0 B1 ⊢
    obtain ⟨x0, x1, x2, x3, x4, x5, x6, x7, x8, x9, x10, x11, x12⟩ := pk_f13 B1
    have hop := Lib.hid hop
    go_enter Tryz.func96, Tryz.ntmps96
    go_upto_region 1 with fail
    refine gen_w g0 ?_
    clear g0
    intro W0 g0
    have HN := Lib.hid (show effI d s = some s by simp [effI, hop.out])
    go_wp2_with fail
    go_ret2
    exact ⟨by rw [HN.out]; rfl, HG.out.below g0⟩
set_option maxHeartbeats 3000000 in
theorem impl_effect_c14 : ∀ op ∈ ([14, 26, 29] : List Int), EffC op := by
  intro op hm
  simp only [List.mem_cons, List.not_mem_nil, or_false] at hm
  rcases hm with rfl | rfl | rfl
  all_goals
    intro d cs s w hop h hc hn hs
    have HRR := Lib.hid (fun (W : World) (hb : Below w.heap.size w W) => h.below hb)
    obtain ⟨v4, v51, v52, v53, v54, v55, rfl, i0, i1, i2, ht, hl, hv⟩ := h
    have HL := Lib.hid hl
    have HV := Lib.hid hv
    have HT := Lib.hid ht
    have I0 := Lib.hid i0
    have I1 := Lib.hid i1
    have I2 := Lib.hid i2
    obtain ⟨A4, c4, rfl, hlc, hm, HC⟩ := Txts.open_ hl
    unfold maxLen at hm
    clear hl hv ht i0 i1 i2
    obtain ⟨G, g0, HG, B1⟩ := good1 w 63 [.int .i64 d.op, .int .i64 d.arg, .int .i64 d.count, .string (str d.text), .slice A4 d.labels.length c4, .int .i64 d.value.kind, v51, v52, v53, v54, v55, .int .i64 d.value.code, .int .i64 d.value.env]
    rw [hop] at g0 B1 ⊢
    obtain ⟨x0, x1, x2, x3, x4, x5, x6, x7, x8, x9, x10, x11, x12⟩ := pk_f13 B1
    have hop := Lib.hid hop
    go_enter Tryz.func96, Tryz.ntmps96
    go_upto_region 1 with fail
    refine gen_w g0 ?_
    clear g0
    intro W0 g0
    have HN := Lib.hid (show effI d s = repB s ([118]) ([]) by simp [effI, aft, ndI, hop.out])
    go_wp2_with fail
    refine Calls.mono (impl_operands s ([118]) ([]) _ (by omega) (by simp) (by simp)) ?_
    rintro e w3 ⟨rfl, rfl⟩
    go_wp2_with fail
    go_ret2
    exact ⟨by rw [HN.out]; rfl, HG.out.below g0⟩
set_option maxHeartbeats 1000000 in
theorem impl_effect_18 : EffC 18 := by
  intro d cs s w hop h hc hn hs
  have HRR := Lib.hid (fun (W : World) (hb : Below w.heap.size w W) => h.below hb)
  obtain ⟨v4, v51, v52, v53, v54, v55, rfl, i0, i1, i2, ht, hl, hv⟩ := h
  have HL := Lib.hid hl
  have HV := Lib.hid hv
  have HT := Lib.hid ht
  have I0 := Lib.hid i0
  have I1 := Lib.hid i1
  have I2 := Lib.hid i2
  obtain ⟨A4, c4, rfl, hlc, hm, HC⟩ := Txts.open_ hl
  unfold maxLen at hm
  clear hl hv ht i0 i1 i2
  rw [hop]
  obtain ⟨G, g0, HG, B1⟩ := good1 w 63 [.int .i64 18, .int .i64 d.arg, .int .i64 d.count, .string (str d.text), .slice A4 d.labels.length c4, .int .i64 d.value.kind, v51, v52, v53, v54, v55, .int .i64 d.value.code, .int .i64 d.value.env]
  obtain ⟨x0, x1, x2, x3, x4, x5, x6, x7, x8, x9, x10, x11, x12⟩ := pk_f13 B1
  have hop := Lib.hid hop
  go_enter Tryz.func96, Tryz.ntmps96
  go_upto_region 1 with fail
  refine gen_w g0 ?_
  clear g0
  intro W0 g0
  have HN := Lib.hid (show effI d s = repB s ([118]) ([118, 99]) by simp [effI, aft, ndI, hop.out])
  go_wp2_with fail
  refine Calls.mono (impl_operands s ([118]) ([118, 99]) _ (by omega) (by simp) (by simp)) ?_
  rintro e w3 ⟨rfl, rfl⟩
  go_wp2_with fail
  go_ret2
  exact ⟨by rw [HN.out]; rfl, HG.out.below g0⟩
set_option maxHeartbeats 1000000 in
theorem impl_effect_19 : EffC 19 := by
  intro d cs s w hop h hc hn hs
  have HRR := Lib.hid (fun (W : World) (hb : Below w.heap.size w W) => h.below hb)
  obtain ⟨v4, v51, v52, v53, v54, v55, rfl, i0, i1, i2, ht, hl, hv⟩ := h
  have HL := Lib.hid hl
  have HV := Lib.hid hv
  have HT := Lib.hid ht
  have I0 := Lib.hid i0
  have I1 := Lib.hid i1
  have I2 := Lib.hid i2
  obtain ⟨A4, c4, rfl, hlc, hm, HC⟩ := Txts.open_ hl
  unfold maxLen at hm
  clear hl hv ht i0 i1 i2
  rw [hop]
  obtain ⟨G, g0, HG, B1⟩ := good1 w 63 [.int .i64 19, .int .i64 d.arg, .int .i64 d.count, .string (str d.text), .slice A4 d.labels.length c4, .int .i64 d.value.kind, v51, v52, v53, v54, v55, .int .i64 d.value.code, .int .i64 d.value.env]
  obtain ⟨x0, x1, x2, x3, x4, x5, x6, x7, x8, x9, x10, x11, x12⟩ := pk_f13 B1
  have hop := Lib.hid hop
  go_enter Tryz.func96, Tryz.ntmps96
  go_upto_region 1 with fail
  refine gen_w g0 ?_
  clear g0
  intro W0 g0
  have HN := Lib.hid (show effI d s = repB s ([118, 99]) ([118, 99]) by simp [effI, aft, ndI, hop.out])
  go_wp2_with fail
  refine Calls.mono (impl_operands s ([118, 99]) ([118, 99]) _ (by omega) (by simp) (by simp)) ?_
  rintro e w3 ⟨rfl, rfl⟩
  go_wp2_with fail
  go_ret2
  exact ⟨by rw [HN.out]; rfl, HG.out.below g0⟩
set_option maxHeartbeats 2000000 in
theorem impl_effect_c22 : ∀ op ∈ ([22, 23] : List Int), EffC op := by
  intro op hm
  simp only [List.mem_cons, List.not_mem_nil, or_false] at hm
  rcases hm with rfl | rfl
  all_goals
    intro d cs s w hop h hc hn hs
    have HRR := Lib.hid (fun (W : World) (hb : Below w.heap.size w W) => h.below hb)
    obtain ⟨v4, v51, v52, v53, v54, v55, rfl, i0, i1, i2, ht, hl, hv⟩ := h
    have HL := Lib.hid hl
    have HV := Lib.hid hv
    have HT := Lib.hid ht
    have I0 := Lib.hid i0
    have I1 := Lib.hid i1
    have I2 := Lib.hid i2
    obtain ⟨A4, c4, rfl, hlc, hm, HC⟩ := Txts.open_ hl
    unfold maxLen at hm
    clear hl hv ht i0 i1 i2
    obtain ⟨G, g0, HG, B1⟩ := good1 w 63 [.int .i64 d.op, .int .i64 d.arg, .int .i64 d.count, .string (str d.text), .slice A4 d.labels.length c4, .int .i64 d.value.kind, v51, v52, v53, v54, v55, .int .i64 d.value.code, .int .i64 d.value.env]
    rw [hop] at g0 B1 ⊢
    obtain ⟨x0, x1, x2, x3, x4, x5, x6, x7, x8, x9, x10, x11, x12⟩ := pk_f13 B1
    have hop := Lib.hid hop
    go_enter Tryz.func96, Tryz.ntmps96
    go_upto_region 1 with fail
    refine gen_w g0 ?_
    clear g0
    intro W0 g0
    have HN := Lib.hid (show effI d s = repB s ([118, 118, 118]) ([118]) by simp [effI, aft, ndI, hop.out])
    go_wp2_with fail
    refine Calls.mono (impl_operands s ([118, 118, 118]) ([118]) _ (by omega) (by simp) (by simp)) ?_
    rintro e w3 ⟨rfl, rfl⟩
    go_wp2_with fail
    go_ret2
    exact ⟨by rw [HN.out]; rfl, HG.out.below g0⟩
theorem impl_effect (op : Int) (h0 : 0 ≤ op) (h1 : op ≤ 33) : EffC op := op34 (impl_effect_c0 0 (by decide)) (impl_effect_c0 1 (by decide)) (impl_effect_c0 2 (by decide)) (impl_effect_c0 3 (by decide)) (impl_effect_c4 4 (by decide)) (impl_effect_c4 5 (by decide)) impl_effect_6 (impl_effect_c7 7 (by decide)) (impl_effect_c8 8 (by decide)) (impl_effect_c8 9 (by decide)) (impl_effect_c8 10 (by decide)) (impl_effect_c7 11 (by decide)) impl_effect_12 (impl_effect_c13 13 (by decide)) (impl_effect_c14 14 (by decide)) (impl_effect_c7 15 (by decide)) (impl_effect_c7 16 (by decide)) (impl_effect_c8 17 (by decide)) impl_effect_18 impl_effect_19 (impl_effect_c7 20 (by decide)) (impl_effect_c7 21 (by decide)) (impl_effect_c22 22 (by decide)) (impl_effect_c22 23 (by decide)) (impl_effect_c8 24 (by decide)) (impl_effect_c8 25 (by decide)) (impl_effect_c14 26 (by decide)) (impl_effect_c13 27 (by decide)) (impl_effect_c7 28 (by decide)) (impl_effect_c14 29 (by decide)) (impl_effect_c0 30 (by decide)) (impl_effect_c0 31 (by decide)) (impl_effect_c13 32 (by decide)) (impl_effect_c0 33 (by decide)) op h0 h1
def AftC (op : Int) : Prop := ∀ (d : InstrD) (cs : List Value) (s : List UInt8) (w : World), d.op = op → InstrR w cs d → 0 ≤ d.count ∧ d.count ≤ 200 → d.labels.length ≤ 200 → s.length ≤ 100000 → Calls Tryz.prog 85 #[.agg cs.toArray, .string (str s)] w (RetOB (aft d s) w)
set_option maxHeartbeats 7000000 in
theorem spec_l32After_c0 : ∀ op ∈ ([0, 1, 2, 3, 30, 31, 33] : List Int), AftC op := by
  intro op hm
  simp only [List.mem_cons, List.not_mem_nil, or_false] at hm
  rcases hm with rfl | rfl | rfl | rfl | rfl | rfl | rfl
  all_goals
    intro d cs s w hop h hc hn hs
    have HRR := Lib.hid (fun (W : World) (hb : Below w.heap.size w W) => h.below hb)
    obtain ⟨v4, v51, v52, v53, v54, v55, rfl, i0, i1, i2, ht, hl, hv⟩ := h
    have HL := Lib.hid hl
    have HV := Lib.hid hv
    have HT := Lib.hid ht
    have I0 := Lib.hid i0
    have I1 := Lib.hid i1
    have I2 := Lib.hid i2
    obtain ⟨A4, c4, rfl, hlc, hm, HC⟩ := Txts.open_ hl
    unfold maxLen at hm
    clear hl hv ht i0 i1 i2
    obtain ⟨G, g0, HG, B1⟩ := good1 w 63 [.int .i64 d.op, .int .i64 d.arg, .int .i64 d.count, .string (str d.text), .slice A4 d.labels.length c4, .int .i64 d.value.kind, v51, v52, v53, v54, v55, .int .i64 d.value.code, .int .i64 d.value.env]
    rw [hop] at g0 B1 ⊢
    obtain ⟨x0, x1, x2, x3, x4, x5, x6, x7, x8, x9, x10, x11, x12⟩ := pk_f13 B1
    have hop := Lib.hid hop
    go_enter Tryz.func85, Tryz.ntmps85
    go_upto_region 1 with fail
    refine gen_w g0 ?_
    clear g0
    intro W0 g0
    have HN := Lib.hid (show aft d s = repB s ([]) ([118]) by simp [effI, aft, ndI, hop.out])
    go_wp2_with fail
    refine Calls.mono (spec_l32Replace s ([]) ([118]) _ (by omega) (by simp) (by simp)) ?_
    rintro e w3 ⟨rfl, rfl⟩
    go_wp2_with fail
    go_ret2
    exact ⟨by rw [HN.out]; rfl, HG.out.below g0⟩
set_option maxHeartbeats 2000000 in
theorem spec_l32After_c4 : ∀ op ∈ ([4, 5] : List Int), AftC op := by
  intro op hm
  simp only [List.mem_cons, List.not_mem_nil, or_false] at hm
  rcases hm with rfl | rfl
  all_goals
    intro d cs s w hop h hc hn hs
    have HRR := Lib.hid (fun (W : World) (hb : Below w.heap.size w W) => h.below hb)
    obtain ⟨v4, v51, v52, v53, v54, v55, rfl, i0, i1, i2, ht, hl, hv⟩ := h
    have HL := Lib.hid hl
    have HV := Lib.hid hv
    have HT := Lib.hid ht
    have I0 := Lib.hid i0
    have I1 := Lib.hid i1
    have I2 := Lib.hid i2
    obtain ⟨A4, c4, rfl, hlc, hm, HC⟩ := Txts.open_ hl
    unfold maxLen at hm
    clear hl hv ht i0 i1 i2
    obtain ⟨G, g0, HG, B1⟩ := good1 w 63 [.int .i64 d.op, .int .i64 d.arg, .int .i64 d.count, .string (str d.text), .slice A4 d.labels.length c4, .int .i64 d.value.kind, v51, v52, v53, v54, v55, .int .i64 d.value.code, .int .i64 d.value.env]
    rw [hop] at g0 B1 ⊢
    obtain ⟨x0, x1, x2, x3, x4, x5, x6, x7, x8, x9, x10, x11, x12⟩ := pk_f13 B1
    have hop := Lib.hid hop
    go_enter Tryz.func85, Tryz.ntmps85
    go_upto_region 1 with fail
    refine gen_w g0 ?_
    clear g0
    intro W0 g0
    obtain ⟨c, hcn⟩ := Int.eq_ofNat_of_zero_le hc.1
    have hc2 := hc.2
    rw [hcn] at hc2
    have HCN := Lib.hid (show d.count.toNat = c by rw [hcn]; rfl)
    rw [hcn] at x2
    clear hcn hc
    go_wp2_with fail
    refine Calls.mono (spec_l32Times c _ (by omega)) ?_
    rintro e w2 ⟨rfl, rfl⟩
    have HN := Lib.hid (show aft d s = repB s (118 :: List.replicate c 112) (118 :: (List.replicate c 112 ++ [112])) by simp [effI, aft, ndI, hop.out, HCN.out])
    go_wp2_with fail
    refine Calls.mono (spec_l32Replace s (118 :: List.replicate c 112) (118 :: (List.replicate c 112 ++ [112])) _ (by omega) (by simp; omega) (by simp; omega)) ?_
    rintro e w3 ⟨rfl, rfl⟩
    go_wp2_with fail
    go_ret2
    exact ⟨by rw [HN.out]; rfl, HG.out.below g0⟩
set_option maxHeartbeats 1000000 in
theorem spec_l32After_6 : AftC 6 := by
  intro d cs s w hop h hc hn hs
  have HRR := Lib.hid (fun (W : World) (hb : Below w.heap.size w W) => h.below hb)
  obtain ⟨v4, v51, v52, v53, v54, v55, rfl, i0, i1, i2, ht, hl, hv⟩ := h
  have HL := Lib.hid hl
  have HV := Lib.hid hv
  have HT := Lib.hid ht
  have I0 := Lib.hid i0
  have I1 := Lib.hid i1
  have I2 := Lib.hid i2
  obtain ⟨A4, c4, rfl, hlc, hm, HC⟩ := Txts.open_ hl
  unfold maxLen at hm
  clear hl hv ht i0 i1 i2
  rw [hop]
  obtain ⟨G, g0, HG, B1⟩ := good1 w 63 [.int .i64 6, .int .i64 d.arg, .int .i64 d.count, .string (str d.text), .slice A4 d.labels.length c4, .int .i64 d.value.kind, v51, v52, v53, v54, v55, .int .i64 d.value.code, .int .i64 d.value.env]
  obtain ⟨x0, x1, x2, x3, x4, x5, x6, x7, x8, x9, x10, x11, x12⟩ := pk_f13 B1
  have hop := Lib.hid hop
  go_enter Tryz.func85, Tryz.ntmps85
  go_upto_region 1 with fail
  refine gen_w g0 ?_
  clear g0
  intro W0 g0
  have HCN := Lib.hid trivial
  go_wp2_with fail
  refine Calls.mono (spec_l32Times d.labels.length _ (by omega)) ?_
  rintro e w2 ⟨rfl, rfl⟩
  have HN := Lib.hid (show aft d s = repB s (118 :: List.replicate d.labels.length 112) ([118]) by simp [effI, aft, ndI, hop.out, HCN.out])
  go_wp2_with fail
  refine Calls.mono (spec_l32Replace s (118 :: List.replicate d.labels.length 112) ([118]) _ (by omega) (by simp; omega) (by simp)) ?_
  rintro e w3 ⟨rfl, rfl⟩
  go_wp2_with fail
  go_ret2
  exact ⟨by rw [HN.out]; rfl, HG.out.below g0⟩
set_option maxHeartbeats 9000000 in
theorem spec_l32After_c7 : ∀ op ∈ ([7, 11, 15, 16, 20, 21, 26, 28, 29] : List Int), AftC op := by
  intro op hm
  simp only [List.mem_cons, List.not_mem_nil, or_false] at hm
  rcases hm with rfl | rfl | rfl | rfl | rfl | rfl | rfl | rfl | rfl
  all_goals
    intro d cs s w hop h hc hn hs
    have HRR := Lib.hid (fun (W : World) (hb : Below w.heap.size w W) => h.below hb)
    obtain ⟨v4, v51, v52, v53, v54, v55, rfl, i0, i1, i2, ht, hl, hv⟩ := h
    have HL := Lib.hid hl
    have HV := Lib.hid hv
    have HT := Lib.hid ht
    have I0 := Lib.hid i0
    have I1 := Lib.hid i1
    have I2 := Lib.hid i2
    obtain ⟨A4, c4, rfl, hlc, hm, HC⟩ := Txts.open_ hl
    unfold maxLen at hm
    clear hl hv ht i0 i1 i2
    obtain ⟨G, g0, HG, B1⟩ := good1 w 63 [.int .i64 d.op, .int .i64 d.arg, .int .i64 d.count, .string (str d.text), .slice A4 d.labels.length c4, .int .i64 d.value.kind, v51, v52, v53, v54, v55, .int .i64 d.value.code, .int .i64 d.value.env]
    rw [hop] at g0 B1 ⊢
    obtain ⟨x0, x1, x2, x3, x4, x5, x6, x7, x8, x9, x10, x11, x12⟩ := pk_f13 B1
    have hop := Lib.hid hop
    go_enter Tryz.func85, Tryz.ntmps85
    go_upto_region 1 with fail
    refine gen_w g0 ?_
    clear g0
    intro W0 g0
    have HN := Lib.hid (show aft d s = repB s ([118]) ([118]) by simp [effI, aft, ndI, hop.out])
    go_wp2_with fail
    refine Calls.mono (spec_l32Replace s ([118]) ([118]) _ (by omega) (by simp) (by simp)) ?_
    rintro e w3 ⟨rfl, rfl⟩
    go_wp2_with fail
    go_ret2
    exact ⟨by rw [HN.out]; rfl, HG.out.below g0⟩
set_option maxHeartbeats 6000000 in
theorem spec_l32After_c8 : ∀ op ∈ ([8, 9, 10, 17, 24, 25] : List Int), AftC op := by
  intro op hm
  simp only [List.mem_cons, List.not_mem_nil, or_false] at hm
  rcases hm with rfl | rfl | rfl | rfl | rfl | rfl
  all_goals
    intro d cs s w hop h hc hn hs
    have HRR := Lib.hid (fun (W : World) (hb : Below w.heap.size w W) => h.below hb)
    obtain ⟨v4, v51, v52, v53, v54, v55, rfl, i0, i1, i2, ht, hl, hv⟩ := h
    have HL := Lib.hid hl
    have HV := Lib.hid hv
    have HT := Lib.hid ht
    have I0 := Lib.hid i0
    have I1 := Lib.hid i1
    have I2 := Lib.hid i2
    obtain ⟨A4, c4, rfl, hlc, hm, HC⟩ := Txts.open_ hl
    unfold maxLen at hm
    clear hl hv ht i0 i1 i2
    obtain ⟨G, g0, HG, B1⟩ := good1 w 63 [.int .i64 d.op, .int .i64 d.arg, .int .i64 d.count, .string (str d.text), .slice A4 d.labels.length c4, .int .i64 d.value.kind, v51, v52, v53, v54, v55, .int .i64 d.value.code, .int .i64 d.value.env]
    rw [hop] at g0 B1 ⊢
    obtain ⟨x0, x1, x2, x3, x4, x5, x6, x7, x8, x9, x10, x11, x12⟩ := pk_f13 B1
    have hop := Lib.hid hop
    go_enter Tryz.func85, Tryz.ntmps85
    go_upto_region 1 with fail
    refine gen_w g0 ?_
    clear g0
    intro W0 g0
    have HN := Lib.hid (show aft d s = repB s ([118, 118]) ([118]) by simp [effI, aft, ndI, hop.out])
    go_wp2_with fail
    refine Calls.mono (spec_l32Replace s ([118, 118]) ([118]) _ (by omega) (by simp) (by simp)) ?_
    rintro e w3 ⟨rfl, rfl⟩
    go_wp2_with fail
    go_ret2
    exact ⟨by rw [HN.out]; rfl, HG.out.below g0⟩
set_option maxHeartbeats 1000000 in
theorem spec_l32After_12 : AftC 12 := by
  intro d cs s w hop h hc hn hs
  have HRR := Lib.hid (fun (W : World) (hb : Below w.heap.size w W) => h.below hb)
  obtain ⟨v4, v51, v52, v53, v54, v55, rfl, i0, i1, i2, ht, hl, hv⟩ := h
  have HL := Lib.hid hl
  have HV := Lib.hid hv
  have HT := Lib.hid ht
  have I0 := Lib.hid i0
  have I1 := Lib.hid i1
  have I2 := Lib.hid i2
  obtain ⟨A4, c4, rfl, hlc, hm, HC⟩ := Txts.open_ hl
  unfold maxLen at hm
  clear hl hv ht i0 i1 i2
  rw [hop]
  obtain ⟨G, g0, HG, B1⟩ := good1 w 63 [.int .i64 12, .int .i64 d.arg, .int .i64 d.count, .string (str d.text), .slice A4 d.labels.length c4, .int .i64 d.value.kind, v51, v52, v53, v54, v55, .int .i64 d.value.code, .int .i64 d.value.env]
  obtain ⟨x0, x1, x2, x3, x4, x5, x6, x7, x8, x9, x10, x11, x12⟩ := pk_f13 B1
  have hop := Lib.hid hop
  go_enter Tryz.func85, Tryz.ntmps85
  go_upto_region 1 with fail
  refine gen_w g0 ?_
  clear g0
  intro W0 g0
  have NE := Lib.hid (fun (c k : UInt8) (n : Int) (hk : n = (k.toNat : Int)) (h : c ≠ k) => show ((c.toNat : Int) == n) = false by
    rw [hk, beq_eq_false_iff_ne]
    intro h2
    exact h (UInt8.toNat_inj.1 (Int.ofNat.inj h2)))
  rcases List.eq_nil_or_concat s with rfl | ⟨t, c, rfl⟩
  · have HN := Lib.hid (show aft d [] = repB [] [118] [] by simp [aft, ndI, hop.out])
    go_wp2_with fail
    refine Calls.mono (spec_l32Replace [] [118] [] _ (by simp) (by simp) (by simp)) ?_
    rintro e w3 ⟨rfl, rfl⟩
    go_wp2_with fail
    go_ret2
    exact ⟨by rw [HN.out]; rfl, HG.out.below g0⟩
  have hs2 : t.length ≤ 100000 := by simp at hs; omega
  rw [List.concat_eq_append]
  clear hs
  have hget : ∀ h, (str (t ++ [c]))[t.length]'h = c := fun h => by rw [str_at]; simp
  have hem : (t ++ [c]).isEmpty = false := by simp
  by_cases hq : c = 99
  · subst hq
    have HN := Lib.hid (show aft d (t.concat 99) = repB (t ++ [99]) [99] [] by simp [aft, ndI, hop.out])
    have hq2 : (((99 : UInt8).toNat : Int) == 99) = true := by decide
    go_wp2_with fail
    refine Calls.mono (spec_l32Replace (t ++ [99]) [99] [] _ (by simp; omega) (by simp) (by simp)) ?_
    rintro e w3 ⟨rfl, rfl⟩
    go_wp2_with fail
    go_ret2
    exact ⟨by rw [HN.out]; rfl, HG.out.below g0⟩
  · have HN := Lib.hid (show aft d (t.concat c) = repB (t ++ [c]) [118] [] by simp [aft, ndI, hop.out, hq])
    have hq2 : ((c.toNat : Int) == 99) = false := NE.out c 99 99 rfl hq
    go_wp2_with fail
    refine Calls.mono (spec_l32Replace (t ++ [c]) [118] [] _ (by simp; omega) (by simp) (by simp)) ?_
    rintro e w3 ⟨rfl, rfl⟩
    go_wp2_with fail
    go_ret2
    exact ⟨by rw [HN.out]; rfl, HG.out.below g0⟩
set_option maxHeartbeats 3000000 in
theorem spec_l32After_c13 : ∀ op ∈ ([13, 27, 32] : List Int), AftC op := by
  intro op hm
  simp only [List.mem_cons, List.not_mem_nil, or_false] at hm
  rcases hm with rfl | rfl | rfl
  all_goals
    intro d cs s w hop h hc hn hs
    have HRR := Lib.hid (fun (W : World) (hb : Below w.heap.size w W) => h.below hb)
    obtain ⟨v4, v51, v52, v53, v54, v55, rfl, i0, i1, i2, ht, hl, hv⟩ := h
    have HL := Lib.hid hl
    have HV := Lib.hid hv
    have HT := Lib.hid ht
    have I0 := Lib.hid i0
    have I1 := Lib.hid i1
    have I2 := Lib.hid i2
    obtain ⟨A4, c4, rfl, hlc, hm, HC⟩ := Txts.open_ hl
    unfold maxLen at hm
    clear hl hv ht i0 i1 i2
    obtain ⟨G, g0, HG, B1⟩ := good1 w 63 [.int .i64 d.op, .int .i64 d.arg, .int .i64 d.count, .string (str d.text), .slice A4 d.labels.length c4, .int .i64 d.value.kind, v51, v52, v53, v54, v55, .int .i64 d.value.code, .int .i64 d.value.env]
    rw [hop] at g0 B1 ⊢
    obtain ⟨x0, x1, x2, x3, x4, x5, x6, x7, x8, x9, x10, x11, x12⟩ := pk_f13 B1
    have hop := Lib.hid hop
    go_enter Tryz.func85, Tryz.ntmps85
    go_upto_region 1 with fail
    refine gen_w g0 ?_
    clear g0
    intro W0 g0
    have HN := Lib.hid (show aft d s = repB s ([]) ([]) by simp [effI, aft, ndI, hop.out])
    go_wp2_with fail
    refine Calls.mono (spec_l32Replace s ([]) ([]) _ (by omega) (by simp) (by simp)) ?_
    rintro e w3 ⟨rfl, rfl⟩
    go_wp2_with fail
    go_ret2
    exact ⟨by rw [HN.out]; rfl, HG.out.below g0⟩
set_option maxHeartbeats 1000000 in
theorem spec_l32After_14 : AftC 14 := by
  intro d cs s w hop h hc hn hs
  have HRR := Lib.hid (fun (W : World) (hb : Below w.heap.size w W) => h.below hb)
  obtain ⟨v4, v51, v52, v53, v54, v55, rfl, i0, i1, i2, ht, hl, hv⟩ := h
  have HL := Lib.hid hl
  have HV := Lib.hid hv
  have HT := Lib.hid ht
  have I0 := Lib.hid i0
  have I1 := Lib.hid i1
  have I2 := Lib.hid i2
  obtain ⟨A4, c4, rfl, hlc, hm, HC⟩ := Txts.open_ hl
  unfold maxLen at hm
  clear hl hv ht i0 i1 i2
  rw [hop]
  obtain ⟨G, g0, HG, B1⟩ := good1 w 63 [.int .i64 14, .int .i64 d.arg, .int .i64 d.count, .string (str d.text), .slice A4 d.labels.length c4, .int .i64 d.value.kind, v51, v52, v53, v54, v55, .int .i64 d.value.code, .int .i64 d.value.env]
  obtain ⟨x0, x1, x2, x3, x4, x5, x6, x7, x8, x9, x10, x11, x12⟩ := pk_f13 B1
  have hop := Lib.hid hop
  go_enter Tryz.func85, Tryz.ntmps85
  go_upto_region 1 with fail
  refine gen_w g0 ?_
  clear g0
  intro W0 g0
  have HN := Lib.hid (show aft d s = repB s ([118]) ([]) by simp [effI, aft, ndI, hop.out])
  go_wp2_with fail
  refine Calls.mono (spec_l32Replace s ([118]) ([]) _ (by omega) (by simp) (by simp)) ?_
  rintro e w3 ⟨rfl, rfl⟩
  go_wp2_with fail
  go_ret2
  exact ⟨by rw [HN.out]; rfl, HG.out.below g0⟩
set_option maxHeartbeats 1000000 in
theorem spec_l32After_18 : AftC 18 := by
  intro d cs s w hop h hc hn hs
  have HRR := Lib.hid (fun (W : World) (hb : Below w.heap.size w W) => h.below hb)
  obtain ⟨v4, v51, v52, v53, v54, v55, rfl, i0, i1, i2, ht, hl, hv⟩ := h
  have HL := Lib.hid hl
  have HV := Lib.hid hv
  have HT := Lib.hid ht
  have I0 := Lib.hid i0
  have I1 := Lib.hid i1
  have I2 := Lib.hid i2
  obtain ⟨A4, c4, rfl, hlc, hm, HC⟩ := Txts.open_ hl
  unfold maxLen at hm
  clear hl hv ht i0 i1 i2
  rw [hop]
  obtain ⟨G, g0, HG, B1⟩ := good1 w 63 [.int .i64 18, .int .i64 d.arg, .int .i64 d.count, .string (str d.text), .slice A4 d.labels.length c4, .int .i64 d.value.kind, v51, v52, v53, v54, v55, .int .i64 d.value.code, .int .i64 d.value.env]
  obtain ⟨x0, x1, x2, x3, x4, x5, x6, x7, x8, x9, x10, x11, x12⟩ := pk_f13 B1
  have hop := Lib.hid hop
  go_enter Tryz.func85, Tryz.ntmps85
  go_upto_region 1 with fail
  refine gen_w g0 ?_
  clear g0
  intro W0 g0
  have HN := Lib.hid (show aft d s = repB s ([118]) ([118, 99]) by simp [effI, aft, ndI, hop.out])
  go_wp2_with fail
  refine Calls.mono (spec_l32Replace s ([118]) ([118, 99]) _ (by omega) (by simp) (by simp)) ?_
  rintro e w3 ⟨rfl, rfl⟩
  go_wp2_with fail
  go_ret2
  exact ⟨by rw [HN.out]; rfl, HG.out.below g0⟩
set_option maxHeartbeats 1000000 in
theorem spec_l32After_19 : AftC 19 := by
  intro d cs s w hop h hc hn hs
  have HRR := Lib.hid (fun (W : World) (hb : Below w.heap.size w W) => h.below hb)
  obtain ⟨v4, v51, v52, v53, v54, v55, rfl, i0, i1, i2, ht, hl, hv⟩ := h
  have HL := Lib.hid hl
  have HV := Lib.hid hv
  have HT := Lib.hid ht
  have I0 := Lib.hid i0
  have I1 := Lib.hid i1
  have I2 := Lib.hid i2
  obtain ⟨A4, c4, rfl, hlc, hm, HC⟩ := Txts.open_ hl
  unfold maxLen at hm
  clear hl hv ht i0 i1 i2
  rw [hop]
  obtain ⟨G, g0, HG, B1⟩ := good1 w 63 [.int .i64 19, .int .i64 d.arg, .int .i64 d.count, .string (str d.text), .slice A4 d.labels.length c4, .int .i64 d.value.kind, v51, v52, v53, v54, v55, .int .i64 d.value.code, .int .i64 d.value.env]
  obtain ⟨x0, x1, x2, x3, x4, x5, x6, x7, x8, x9, x10, x11, x12⟩ := pk_f13 B1
  have hop := Lib.hid hop
  go_enter Tryz.func85, Tryz.ntmps85
  go_upto_region 1 with fail
  refine gen_w g0 ?_
  clear g0
  intro W0 g0
  have HN := Lib.hid (show aft d s = repB s ([118, 99]) ([118, 99]) by simp [effI, aft, ndI, hop.out])
  go_wp2_with fail
  refine Calls.mono (spec_l32Replace s ([118, 99]) ([118, 99]) _ (by omega) (by simp) (by simp)) ?_
  rintro e w3 ⟨rfl, rfl⟩
  go_wp2_with fail
  go_ret2
  exact ⟨by rw [HN.out]; rfl, HG.out.below g0⟩
set_option maxHeartbeats 2000000 in
theorem spec_l32After_c22 : ∀ op ∈ ([22, 23] : List Int), AftC op := by
  intro op hm
  simp only [List.mem_cons, List.not_mem_nil, or_false] at hm
  rcases hm with rfl | rfl
  all_goals
    intro d cs s w hop h hc hn hs
    have HRR := Lib.hid (fun (W : World) (hb : Below w.heap.size w W) => h.below hb)
    obtain ⟨v4, v51, v52, v53, v54, v55, rfl, i0, i1, i2, ht, hl, hv⟩ := h
    have HL := Lib.hid hl
    have HV := Lib.hid hv
    have HT := Lib.hid ht
    have I0 := Lib.hid i0
    have I1 := Lib.hid i1
    have I2 := Lib.hid i2
    obtain ⟨A4, c4, rfl, hlc, hm, HC⟩ := Txts.open_ hl
    unfold maxLen at hm
    clear hl hv ht i0 i1 i2
    obtain ⟨G, g0, HG, B1⟩ := good1 w 63 [.int .i64 d.op, .int .i64 d.arg, .int .i64 d.count, .string (str d.text), .slice A4 d.labels.length c4, .int .i64 d.value.kind, v51, v52, v53, v54, v55, .int .i64 d.value.code, .int .i64 d.value.env]
    rw [hop] at g0 B1 ⊢
    obtain ⟨x0, x1, x2, x3, x4, x5, x6, x7, x8, x9, x10, x11, x12⟩ := pk_f13 B1
    have hop := Lib.hid hop
    go_enter Tryz.func85, Tryz.ntmps85
    go_upto_region 1 with fail
    refine gen_w g0 ?_
    clear g0
    intro W0 g0
    have HN := Lib.hid (show aft d s = repB s ([118, 118, 118]) ([118]) by simp [effI, aft, ndI, hop.out])
    go_wp2_with fail
    refine Calls.mono (spec_l32Replace s ([118, 118, 118]) ([118]) _ (by omega) (by simp) (by simp)) ?_
    rintro e w3 ⟨rfl, rfl⟩
    go_wp2_with fail
    go_ret2
    exact ⟨by rw [HN.out]; rfl, HG.out.below g0⟩
theorem spec_l32After (op : Int) (h0 : 0 ≤ op) (h1 : op ≤ 33) : AftC op := op34 (spec_l32After_c0 0 (by decide)) (spec_l32After_c0 1 (by decide)) (spec_l32After_c0 2 (by decide)) (spec_l32After_c0 3 (by decide)) (spec_l32After_c4 4 (by decide)) (spec_l32After_c4 5 (by decide)) spec_l32After_6 (spec_l32After_c7 7 (by decide)) (spec_l32After_c8 8 (by decide)) (spec_l32After_c8 9 (by decide)) (spec_l32After_c8 10 (by decide)) (spec_l32After_c7 11 (by decide)) spec_l32After_12 (spec_l32After_c13 13 (by decide)) spec_l32After_14 (spec_l32After_c7 15 (by decide)) (spec_l32After_c7 16 (by decide)) (spec_l32After_c8 17 (by decide)) spec_l32After_18 spec_l32After_19 (spec_l32After_c7 20 (by decide)) (spec_l32After_c7 21 (by decide)) (spec_l32After_c22 22 (by decide)) (spec_l32After_c22 23 (by decide)) (spec_l32After_c8 24 (by decide)) (spec_l32After_c8 25 (by decide)) (spec_l32After_c7 26 (by decide)) (spec_l32After_c13 27 (by decide)) (spec_l32After_c7 28 (by decide)) (spec_l32After_c7 29 (by decide)) (spec_l32After_c0 30 (by decide)) (spec_l32After_c0 31 (by decide)) (spec_l32After_c13 32 (by decide)) (spec_l32After_c0 33 (by decide)) op h0 h1
end Go.Proofs.YtjdfancbmjnjfaaGreat
