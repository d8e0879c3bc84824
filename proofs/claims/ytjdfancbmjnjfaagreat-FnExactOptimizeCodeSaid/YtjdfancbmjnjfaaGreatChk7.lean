/-
  Contract: impl.operandsFit: the flow of a segment, with two lists behind variables that a closure holds.
-/
import Derived.Test.YtjdfancbmjnjfaaGreatChk4
import Derived.Test.YtjdfancbmjnjfaaGreatKGood
namespace Go.Proofs.YtjdfancbmjnjfaaGreat
set_option maxRecDepth 100000
open Go.ChangeShapes Go.WideShapes Go.ChangeAt Go.RowKit Go.Deep
set_option linter.unusedVariables false
set_option linter.unusedSimpArgs false

def knL (st : St) : List Value := st.map fun o => Value.bool o.isSome
def skL (st : St) : List Value := st.map fun o => Value.string (str (o.getD []))
/-- the memory of a flow under way: a parameter's box, and two lists behind two variables -/
structure FS (w : World) (c0 : List Value) (S bS K bK : Nat) (st : St) (W : World) : Prop where
  gb : Blk W w.heap.size 49 c0
  sk : Blk W S 9 (skL st)
  bs : Blk W bS 46 [.slice (some ⟨S, 0, none⟩) st.length st.length]
  kn : Blk W K 4 (knL st)
  bk : Blk W bK 24 [.slice (some ⟨K, 0, none⟩) st.length st.length]
  below : Below w.heap.size w W
  size : w.heap.size ≤ W.heap.size
  ne : w.heap.size < S ∧ S < bS ∧ bS < K ∧ K < bK
theorem FS.step {w W W' : World} {c0 : List Value} {S bS K bK : Nat} {st : St} (h : FS w c0 S bS K bK st W) (hb : Below W.heap.size W W') : FS w c0 S bS K bK st W' :=
  ⟨h.gb.below hb, h.sk.below hb, h.bs.below hb, h.kn.below hb, h.bk.below hb, h.below.trans (hb.mono h.size), Nat.le_trans h.size hb.size, h.ne⟩
theorem FS.drew {w W : World} {c0 : List Value} {S bS K bK : Nat} {st : St} (h : FS w c0 S bS K bK st W) : FS w c0 S bS K bK st W.drew := ⟨h.gb, h.sk, h.bs, h.kn, h.bk, h.below.drew, h.size, h.ne⟩
theorem FS.gw {w : World} {c0 : List Value} {S bS K bK : Nat} {st : St} : GW w (FS w c0 S bS K bK st) :=
  ⟨fun h => h.below, fun h hb => FS.step h hb, fun h => FS.drew h, fun n h => ⟨h.gb, h.sk, h.bs, h.kn, h.bk, below_drewN h.below n, h.size, h.ne⟩⟩
def RetMeet (w : World) (c0 : List Value) (S bS K bK : Nat) (st : St) (o : Option St) (W : World) (e : Ending) (W' : World) : Prop :=
  e = .returned (.bool o.isSome) ∧ FS w c0 S bS K bK (o.getD st) W' ∧ Keeps (fun b => b ≠ S ∧ b ≠ K) W W'
set_option maxHeartbeats 1000000 in
theorem impl_meet (w : World) (c0 : List Value) (S bS K bK : Nat) (st : St) (a : Nat) (s : List UInt8) (W : World) (h : FS w c0 S bS K bK st W) (ha : a < st.length) (hs : st.length ≤ 1000000) :
    Calls Tryz.prog 95 #[.int .i64 a, .string (str s), .pointer (some ⟨bK, 0, none⟩), .pointer (some ⟨bS, 0, none⟩)] W (RetMeet w c0 S bS K bK st (meet st a s) W) := by
  have H := Lib.hid h
  have b0 := h.bk.cell 0 _ rfl
  have s0 := h.bs.cell 0 _ rfl
  have k0 := h.kn.cell a (.bool st[a].isSome) (by simp [knL, ha])
  have k1 := h.kn.frozen a
  have t0 := h.sk.cell a (.string (str (st[a].getD []))) (by simp [skL, ha])
  have t1 := h.sk.frozen a
  have hSK : ¬ S = K := by have := h.ne; omega
  have hbK : ¬ bS = K := by have := h.ne; omega
  have hbk : ¬ bK = K := by have := h.ne; omega
  clear h
  cases hst : st[a] with
  | some t =>
    rw [hst] at k0 t0
    have HN := Lib.hid (show meet st a s = if t = s then some st else none by simp [meet, ha, hst])
    clear hst
    go_enter Tryz.func95, Tryz.ntmps95
    cases hq : (t == s)
    · have HQ := Lib.hid (show meet st a s = none by rw [HN.out, if_neg (by simpa using hq)])
      go_wp2_with fail
      go_ret
      rw [RetMeet, HQ.out]
      exact ⟨rfl, H.out, Keeps.refl _ _⟩
    · have HQ := Lib.hid (show meet st a s = some st by rw [HN.out, if_pos (by simpa using hq)])
      go_wp2_with fail
      go_ret
      rw [RetMeet, HQ.out]
      exact ⟨rfl, H.out, Keeps.refl _ _⟩
  | none =>
    rw [hst] at k0 t0
    have HN := Lib.hid (show meet st a s = some (st.set a (some s)) by simp [meet, ha, hst])
    clear hst
    go_enter Tryz.func95, Tryz.ntmps95
    go_wp2_with fail
    go_ret
    rw [RetMeet, HN.out]
    have hF := H.out
    have hne := hF.ne
    refine ⟨rfl, ⟨?_, ?_, ?_, ?_, ?_, ?_, ?_, hne⟩, ?_⟩
    · exact (hF.gb.far _ (by simp; omega) _).far _ (by simp; omega) _
    · have := (hF.sk.far ⟨K, a, none⟩ (by simp; omega) (.bool true)).set_ a (.string (str s))
      simpa [skL, List.map_set] using this
    · have := (hF.bs.far ⟨K, a, none⟩ (by simp; omega) (.bool true)).far ⟨S, a, none⟩ (by simp; omega) (.string (str s))
      simpa using this
    · have := (hF.kn.set_ a (.bool true)).far ⟨S, a, none⟩ (by simp; omega) (.string (str s))
      simpa [knL, List.map_set] using this
    · have := (hF.bk.far ⟨K, a, none⟩ (by simp; omega) (.bool true)).far ⟨S, a, none⟩ (by simp; omega) (.string (str s))
      simpa using this
    · exact below_sc (below_sc hF.below (by omega) _) (by omega) _
    · simp only [size_sc]; exact hF.size
    · exact ((Keeps.refl _ _).sc (by simp) _).sc (by simp) _

def RetJE (o : List UInt8) (w : World) (e : Ending) (w' : World) : Prop := e = .returned (.string (str o)) ∧ Below w.heap.size w w'
set_option maxHeartbeats 1000000 in
theorem impl_jumpEffect (d : InstrD) (cs : List Value) (s t : List UInt8) (w : World) (h : InstrR w cs d) (hs : d.op = 19 → 0 < s.length) (hl : s.length ≤ 1000000) :
    Calls Tryz.prog 97 #[.agg cs.toArray, .string (str s), .string (str t)] w (RetJE (jmpI d.op s t) w) := by
  obtain ⟨v4, v51, v52, v53, v54, v55, rfl, _⟩ := h
  have HB := Lib.hid (fun o => (Below.refl w.heap.size w).alloc (Nat.le_refl _) o)
  by_cases h19 : d.op = 19
  · have HN := Lib.hid (show jmpI 19 s t = s.dropLast by simp [jmpI])
    have hl0 := hs h19
    rw [h19]
    clear hs h19
    have he : (str s).extract 0 (s.length - 1) = str s.dropLast := by rw [str_ext, List.drop_zero, List.dropLast_eq_take]; simp
    go_enter Tryz.func97, Tryz.ntmps97
    go_wp2_with fail
    go_ret
    exact ⟨ret_str HN.out.symm, HB.out _⟩
  · clear hs
    by_cases h13 : d.op = 13
    · have HN := Lib.hid (show jmpI 13 s t = s by simp [jmpI])
      rw [h13]
      clear h13 h19
      go_enter Tryz.func97, Tryz.ntmps97
      go_wp2_with fail
      go_ret
      exact ⟨ret_str HN.out.symm, HB.out _⟩
    · have HN := Lib.hid (show jmpI d.op s t = t by simp [jmpI, h13, h19])
      have b1 : (d.op == 19) = false := by simpa using h19
      have b2 : (d.op == 13) = false := by simpa using h13
      clear h13 h19
      go_enter Tryz.func97, Tryz.ntmps97
      go_wp2_with fail
      go_ret
      exact ⟨ret_str HN.out.symm, HB.out _⟩
theorem effI_len {x : InstrD} {s t : List UInt8} (h : effI x s = some t) : t.length ≤ s.length + 1 := by
  unfold effI at h
  repeat' split at h
  all_goals first | (have := repB_len h; simp at this; omega) | (injection h with h; subst h; simp; try omega) | cases h
theorem effI_for {x : InstrD} {s t : List UInt8} (h : effI x s = some t) (h19 : x.op = 19) : 0 < s.length := by
  simp only [effI, h19] at h
  simp at h
  have := repB_len h
  simp at this
  unfold repB at h
  split at h
  · rename_i hh; simp at hh; omega
  · cases h
theorem meet_bd {st st' : St} {a : Nat} {s : List UInt8} {m : Nat} (h : meet st a s = some st') (hq : ∀ t, some t ∈ st → t.length ≤ m) (hs : s.length ≤ m + 1) : ∀ t, some t ∈ st' → t.length ≤ m + 1 :=
  meet_all h (fun t ht => Nat.le_succ_of_le (hq t ht)) hs
theorem jmpI_len' (op : Int) (s t : List UInt8) {j : Nat} (ht : t.length ≤ j + 1) (hs : s.length ≤ j) : (jmpI op s t).length ≤ j + 1 := by
  unfold jmpI
  repeat' split
  all_goals (try simp only [List.length_dropLast])
  all_goals omega
theorem flow_next (l : List InstrD) (j : Nat) (st : St) (h : j < l.length) : runF stepI (l.drop j) j st = (stepI j l[j] st).bind (runF stepI (l.drop (j + 1)) (j + 1)) := by
  rw [List.drop_eq_getElem_cons h, runF]
  cases stepI j l[j] st <;> rfl
theorem skL_none (n : Nat) : skL (List.replicate n none) = (madeCells #[Value.string ByteArray.empty] n).toList := by
  apply List.ext_getElem
  · simp [skL, madeCells]
  · intro i h1 h2
    simp [skL, madeCells, Nat.mod_one]
    rfl
theorem knL_none (n : Nat) : knL (List.replicate n none) = (madeCells #[Value.bool false] n).toList := by
  apply List.ext_getElem
  · simp [knL, madeCells]
  · intro i h1 h2
    simp [knL, madeCells, Nat.mod_one]
theorem FS.first {w W : World} {c0 : List Value} {S bS K bK n : Nat} (h : FS w c0 S bS K bK (List.replicate (n + 1) none) W) : FS w c0 S bS K bK (init n) (W.setCell ⟨K, 0, none⟩ (.bool true)) := by
  have hne := h.ne
  have hl : (init n).length = (List.replicate (n + 1) (none : Option (List UInt8))).length := by simp [init]
  refine ⟨h.gb.far _ (by simp; omega) _, ?_, ?_, ?_, ?_, below_sc h.below (by omega) _, by rw [size_sc]; exact h.size, hne⟩
  · have := h.sk.far ⟨K, 0, none⟩ (by simp; omega) (.bool true)
    simpa [skL, init, List.replicate_succ] using this
  · rw [hl]; exact h.bs.far ⟨K, 0, none⟩ (by simp; omega) (.bool true)
  · have := h.kn.set_ 0 (.bool true)
    simpa [knL, init, List.replicate_succ] using this
  · rw [hl]; exact h.bk.far ⟨K, 0, none⟩ (by simp; omega) (.bool true)

set_option maxHeartbeats 16000000 in
theorem impl_operandsFit (d : SegD) (cs : List Value) (w : World) (h : SegmentR w cs d) (hx : ∀ x ∈ d.instrs, 0 ≤ x.op ∧ x.op ≤ 33 ∧ (jmpOp x.op = true → 0 ≤ x.arg ∧ x.arg ≤ d.instrs.length) ∧ (0 ≤ x.count ∧ x.count ≤ 200) ∧ x.labels.length ≤ 200) (hn : d.instrs.length ≤ 1000) :
    Calls Tryz.prog 61 #[.agg cs.toArray] w (RetB (flowI d.instrs) w) := by
  have HX := Lib.hid hx
  clear hx
  obtain ⟨v0, v1, v2, rfl, q0, q1, q2⟩ := h
  obtain ⟨A, c, rfl, hlc, hm, HC⟩ := SlR.open_ q2
  clear q0 q1 q2
  unfold maxLen at hm
  have hmk1 := fun (W : World) => run_mk (P := Tryz.prog) W 46 9 (.string ByteArray.empty) 1 16 Tryz.underlying46 (by kernel_rfl) (d.instrs.length + 1) (by omega) (by omega)
  have hmk2 := fun (W : World) => run_mk (P := Tryz.prog) W 24 4 (.bool false) 1 1 Tryz.underlying24 (by kernel_rfl) (d.instrs.length + 1) (by omega) (by omega)
  rw [Nat.mul_one, show ((d.instrs.length + 1 : Nat) : Int) = (d.instrs.length : Int) + 1 from by omega] at hmk1 hmk2
  go_enter Tryz.func61, Tryz.ntmps61
  go_upto_region 4 with fail
  refine gen_w (G := FS w [v0, v1, .slice A d.instrs.length c] (w.heap.size + 1) (w.heap.size + 1 + 1) (w.heap.size + 1 + 1 + 1) (w.heap.size + 1 + 1 + 1 + 1) (List.replicate (d.instrs.length + 1) none)) ⟨?_, ?_, ?_, ?_, ?_, ?_, ?_, ?_⟩ ?_
  · exact ((((Blk.new w _ _).alloc _).alloc _).alloc _).alloc _
  · rw [skL_none]
    exact (((Blk.new_at _ _ _ _ (by simp)).alloc _).alloc _).alloc _
  · rw [List.length_replicate]
    exact ((Blk.new_at _ _ [_] _ (by simp)).alloc _).alloc _
  · rw [knL_none]
    exact (Blk.new_at _ _ _ _ (by simp)).alloc _
  · rw [List.length_replicate]
    exact Blk.new_at _ _ [_] _ (by simp)
  · exact (((((Below.refl _ _).alloc (Nat.le_refl _) _).alloc (by simp) _).alloc (by simp; omega) _).alloc (by simp; omega) _).alloc (by simp; omega) _
  · simp; omega
  · omega
  clear hmk1 hmk2
  intro W0 F0
  have b0 := F0.bk.cell 0 _ rfl
  have k0 := F0.kn.cell 0 (.bool false) (by simp [knL])
  have k1 := F0.kn.frozen 0
  rw [List.length_replicate] at b0
  have F1 := Lib.hid (FS.first F0)
  clear F0
  go_upto_region 5 with fail
  refine gen_w F1.out ?_
  clear F1 b0 k0 k1
  intro W1 F1
  have x2 := F1.gb.cell 2 _ rfl
  go_wp2_with fail
  clear x2
  generalize hS : w.heap.size + 1 = S at F1 ⊢
  generalize hbS : S + 1 = bS at F1 ⊢
  generalize hK : bS + 1 = K at F1 ⊢
  generalize hbK : K + 1 = bK at F1 ⊢
  clear hS hbS hK hbK
  go_loopw [26] (fun i wr => ∃ (j : Nat) (st : St), j ≤ d.instrs.length ∧ i = .int .i64 j ∧ Hid (st.length = d.instrs.length + 1) ∧ Hid (∀ s, some s ∈ st → s.length ≤ j) ∧ Hid (flowI d.instrs = endOk d.instrs.length (runF stepI (d.instrs.drop j) j st)) ∧ Ok (FS w [v0, v1, .slice A d.instrs.length c] S bS K bK st) wr) (fun i _ => d.instrs.length - (intOf i).toNat)
  case atStart =>
    refine ⟨0, init d.instrs.length, Nat.zero_le _, rfl, by simp [Hid, init], fun s hs => ?_, rfl, F1⟩
    simp only [init, List.mem_cons, List.mem_replicate] at hs
    rcases hs with hs | ⟨_, hs⟩
    · injection hs with hs; subst hs; exact Nat.zero_le _
    · cases hs
  case round =>
    clear F1
    obtain ⟨j, st, hj, rfl, hlen, hbd, hE, F⟩ := hrel
    by_cases hlt : j < d.instrs.length
    rotate_left
    · obtain rfl : j = d.instrs.length := by omega
      have HL := Lib.hid hE.out
      rw [List.drop_length] at HL
      have hlt0 : d.instrs.length < st.length := by have := hlen.out; omega
      have b0 := F.bk.cell 0 _ rfl
      have s0 := F.bs.cell 0 _ rfl
      have k0 := F.kn.cell d.instrs.length (.bool st[d.instrs.length].isSome) (by simp [knL, hlt0])
      have t0 := F.sk.cell d.instrs.length (.string (str (st[d.instrs.length].getD []))) (by simp [skL, hlt0])
      rw [hlen.out] at b0 s0
      have HF := Lib.hid F
      have HO := Lib.hid (show flowI d.instrs = match st[d.instrs.length] with | none => true | some s => s == [118] by
        rw [hE.out, List.drop_length, runF, endOk, List.getElem?_eq_getElem hlt0]; rfl)
      clear F hlen hbd hE HL
      cases hst : st[d.instrs.length] with
      | none =>
        rw [hst] at k0 t0 HO
        go_wp2_with fail
        go_ret
        exact ⟨ret_bool HO.out.symm, HF.out.below⟩
      | some s =>
        rw [hst] at k0 t0 HO
        go_wp2_with fail
        go_ret
        exact ⟨ret_bool HO.out.symm, HF.out.below⟩
    · obtain ⟨b, off, cs, rfl, hbl, _, hat, hr⟩ := HC.out j hlt
      have hxj := HX.out _ (List.getElem_mem hlt)
      have HS := Lib.hid (show flowI d.instrs = endOk d.instrs.length ((stepI j d.instrs[j] st).bind (runF stepI (d.instrs.drop (j + 1)) (j + 1))) by
        rw [hE.out, flow_next d.instrs j st hlt])
      have HIR := Lib.hid hr
      obtain ⟨A4, c4, A1, c1, A2, c2, A3, c3, A5, c5, A6, c6, rfl⟩ := hr.slices
      clear hr hE
      generalize d.instrs[j] = x at hat HIR hxj HS
      obtain ⟨hx0, hx1, hxa, hxc, hxl⟩ := hxj
      have HXA := Lib.hid hxa
      clear hxa
      have hlj : j < st.length := by have := hlen.out; omega
      obtain ⟨o, ho⟩ : ∃ o, st[j] = o := ⟨_, rfl⟩
      have HO := Lib.hid (show st[j]?.getD none = o by rw [List.getElem?_eq_getElem hlj, ho]; rfl)
      obtain ⟨G, hG⟩ : ∃ G, G = FS w [v0, v1, .slice (some ⟨b, off, none⟩) d.instrs.length c] S bS K bK st := ⟨_, rfl⟩
      have HG : Hid (GW w G) := by rw [hG]; exact FS.gw
      have HGF := Lib.hid (fun W (h : Ok G W) => show FS w [v0, v1, .slice (some ⟨b, off, none⟩) d.instrs.length c] S bS K bK st W by rw [hG] at h; exact h)
      rw [← hG] at F
      clear hG
      obtain ⟨G', g', HG', B'⟩ := good1 wr 63 [.int .i64 x.op, .int .i64 x.arg, .int .i64 x.count, .string (str x.text), .slice A4 x.labels.length c4, .int .i64 x.value.kind, .slice A1 x.value.items.length c1, .slice A2 x.value.parts.length c2, .slice A3 x.value.names.length c3, .slice A5 x.value.cls.length c5, .slice A6 x.value.levels.length c6, .int .i64 x.value.code, .int .i64 x.value.env]
      have hGG := fun W (h : Ok G' W) => HG.out.step F (HG'.out.below h)
      obtain ⟨y0, y1, y2, y3, y4, y5, y6, y7, y8, y9, y10, y11, y12⟩ := pk_f13 B'
      obtain ⟨z0, z1, z2, z3, z4, z5, z6, z7, z8, z9, z10, z11, z12⟩ := pk_e13 HG hbl hat
      clear hat
      have b0 := fun W (h : Ok G' W) => (HGF.out W (hGG W h)).bk.cell 0 _ rfl
      have s0 := fun W (h : Ok G' W) => (HGF.out W (hGG W h)).bs.cell 0 _ rfl
      have k0 := fun W (h : Ok G' W) => (HGF.out W (hGG W h)).kn.cell j (.bool o.isSome) (by simp [knL, hlj, ho])
      have t0 := fun W (h : Ok G' W) => (HGF.out W (hGG W h)).sk.cell j (.string (str (o.getD []))) (by simp [skL, hlj, ho])
      simp only [hlen.out] at b0 s0
      have HBD := Lib.hid (show ∀ s, o = some s → s.length ≤ j from fun s hs => hbd.out s (by rw [← hs, ← ho]; exact List.getElem_mem hlj))
      clear ho
      go_upto_region 9 with fail
      refine gen_w g' ?_
      clear g' z0 z1 z2 z3 z4 z5 z6 z7 z8 z9 z10 z11 z12
      intro W2 g2
      cases o with
      | none =>
        have HN := Lib.hid (show flowI d.instrs = endOk d.instrs.length (runF stepI (d.instrs.drop (j + 1)) (j + 1) st) by
          rw [HS.out]
          unfold stepI
          rw [HO.out]
          rfl)
        go_wp2_with fail
        go_roundw
        case rel => exact ⟨j + 1, st, by omega, by go_num, hlen, Lib.hid (fun s hs => Nat.le_succ_of_le (hbd.out s hs)), HN, HGF.out _ (hGG _ g2)⟩
        case measure => simp [intOf]; omega
      | some s =>
      have hsl := HBD.out s rfl
      clear HBD
      have hj1 : (j : Int) < (d.instrs.length : Int) + 1 := by omega
      have hj2 : j < d.instrs.length + 1 := by omega
      go_upto_region 10 with fail
      refine wp_region_plan (S := Ok G') (by kernel_rfl) [(true, 0), (true, 1), (true, 2), (true, 3), (true, 4), (false, 5), (true, 6), (true, 7), (true, 8), (true, 9), (true, 10)] (by kernel_rfl) (HG'.out.drew g2) ?_
      have g3 := HG'.out.drew g2
      clear g2
      repeat (refine dyn_take rfl rfl (fun W g => by go_simp; rfl) ?_; go_simp)
      refine dyn_act rfl rfl (fun K9 hK => ?_)
      go_wp2_with fail
      refine Calls.mono (impl_effect x.op hx0 hx1 x _ s _ rfl (HIR.out.below (HG.out.below (hGG _ g3))) hxc hxl (by omega)) ?_
      rintro e w4 ⟨rfl, hb⟩
      have g4 := HG'.out.step g3 hb
      clear hb g3
      simp only []
      refine hK.out _ _ g4 ?_
      clear hK
      cases het : effI x s with
      | none =>
        have HN := Lib.hid (show flowI d.instrs = false by
          rw [HS.out]
          unfold stepI
          rw [HO.out]
          simp only [het]
          rfl)
        repeat (refine dyn_take rfl rfl (fun W g => by go_simp; rfl) ?_; go_simp)
        refine dyn_done ?_
        go_wp2_with fail
        go_ret
        exact ⟨ret_bool HN.out.symm, HG.out.below (hGG _ g4)⟩
      | some t =>
      have HET := Lib.hid het
      have HT := Lib.hid (effI_len het)
      clear het
      repeat (refine dyn_take rfl rfl (fun W g => by go_simp; rfl) ?_; go_simp)
      refine dyn_done ?_
      go_wp2_with fail
      refine Calls.mono (impl_isJumping x.op _) ?_
      rintro e w5 ⟨rfl, rfl⟩
      cases hJ : isJ x.op
      · have HS1 := Lib.hid (show flowI d.instrs = endOk d.instrs.length ((if endOp x.op then some st else meet st (j + 1) t).bind (runF stepI (d.instrs.drop (j + 1)) (j + 1))) by
          rw [HS.out]
          unfold stepI
          rw [HO.out]
          simp only [HET.out]
          rw [if_neg (by rw [show jmpOp x.op = isJ x.op from rfl, hJ]; decide)])
        clear hJ
        have F5 := HGF.out _ (hGG _ g4)
        have X5 := B'.out _ g4
        have HB1 := Lib.hid (show ∀ s, some s ∈ st → s.length ≤ j + 1 from fun s hs => Nat.le_succ_of_le (hbd.out s hs))
        have HL1 := hlen
        obtain ⟨st1, hst1⟩ : ∃ st1, st1 = st := ⟨_, rfl⟩
        rw [← hst1] at HS1 F5 HB1 HL1
        clear hst1
        clear g4 y0 y1 y2 y3 y4 y5 y6 y7 y8 y9 y10 y11 y12 b0 s0 k0 t0
        have z0 := X5.cell 0 _ rfl
        go_wp2_with fail
        refine Calls.mono (impl_goesOn x.op hx0 hx1 _) ?_
        rintro e w6 ⟨rfl, rfl⟩
        clear z0
        cases hE : endOp x.op
        rotate_left
        · have HE := Lib.hid (show flowI d.instrs = endOk d.instrs.length (runF stepI (d.instrs.drop (j + 1)) (j + 1) st1) by rw [HS1.out, hE]; rfl)
          clear hE
          go_wp2_with fail
          go_roundw
          case rel => exact ⟨j + 1, st1, by omega, by go_num, HL1, HB1, HE, F5⟩
          case measure => simp [intOf]; omega
        have HE := Lib.hid (show flowI d.instrs = endOk d.instrs.length ((meet st1 (j + 1) t).bind (runF stepI (d.instrs.drop (j + 1)) (j + 1))) by rw [HS1.out, hE]; rfl)
        clear hE HS1
        have hm := impl_meet w [v0, v1, .slice (some ⟨b, off, none⟩) d.instrs.length c] S bS K bK st1 (j + 1) t w4 F5 (by have := HL1.out; omega) (by have := HL1.out; omega)
        rw [show ((j + 1 : Nat) : Int) = (j : Int) + 1 from by omega] at hm
        have HM := Lib.hid hm
        clear hm
        go_wp2_with fail
        refine Calls.mono HM.out ?_
        clear HM
        rintro e w7 ⟨rfl, hF, -⟩
        cases hq : meet st1 (j + 1) t with
        | none =>
          have HN := Lib.hid (show flowI d.instrs = false by rw [HE.out, hq]; rfl)
          rw [hq] at hF
          have HF := Lib.hid hF
          clear hq hF
          go_wp2_with fail
          go_ret
          exact ⟨ret_bool HN.out.symm, HF.out.below⟩
        | some st2 =>
          have HN := Lib.hid (show flowI d.instrs = endOk d.instrs.length (runF stepI (d.instrs.drop (j + 1)) (j + 1) st2) by rw [HE.out, hq]; rfl)
          rw [hq] at hF
          have HF := Lib.hid hF
          have HL2 := Lib.hid (show st2.length = d.instrs.length + 1 by rw [meet_len hq, HL1.out])
          have HB2 := Lib.hid (meet_all hq HB1.out (by have := HT.out; omega))
          clear hq hF
          go_wp2_with fail
          go_roundw
          case rel => exact ⟨j + 1, st2, by omega, by go_num, HL2, HB2, HN, HF.out⟩
          case measure => simp [intOf]; omega
      have HJ := Lib.hid (show jmpOp x.op = true from hJ)
      clear hJ
      obtain ⟨ha0, han⟩ := HXA.out HJ.out
      obtain ⟨a, ha⟩ := Int.eq_ofNat_of_zero_le ha0
      have HA := Lib.hid ha
      have hal : a < st.length := by have := hlen.out; omega
      rw [ha] at y1
      have han1 : (a : Int) < (d.instrs.length : Int) + 1 := by omega
      have han2 : a < d.instrs.length + 1 := by omega
      clear ha0 han ha
      by_cases haj : a ≤ j
      · obtain ⟨oa, hoa⟩ : ∃ oa, st[a] = oa := ⟨_, rfl⟩
        have k1 := fun W (h : Ok G' W) => (HGF.out W (hGG W h)).kn.cell a (.bool oa.isSome) (by simp [knL, hal, hoa])
        have hd1 : decide ((a : Int) ≤ (j : Int)) = true := by simp; omega
        cases oa with
        | none =>
          have HN := Lib.hid (show flowI d.instrs = false by
            rw [HS.out]
            unfold stepI
            rw [HO.out]
            simp only [HET.out]
            rw [if_pos HJ.out, if_neg (by rw [backOk, HA.out, Int.toNat_natCast, List.getElem?_eq_getElem hal, hoa]; simp; omega)]
            rfl)
          clear hoa
          go_upto_region 14 with fail
          refine wp_region_phase2 (T := Ok G') (by kernel_rfl) [(2, 0), (1, 1), (2, 2), (2, 3), (2, 4), (1, 5), (2, 6), (1, 7), (2, 8), (1, 9), (2, 10), (2, 11), (2, 12), (2, 13), (2, 14), (1, 15), (1, 16), (1, 17), (2, 18), (2, 19), (1, 20), (2, 21), (0, 22), (0, 23), (2, 24), (2, 25)] [23] (by kernel_rfl) (HG'.out.drew g4) ?_
          replace g4 := HG'.out.drew g4
          repeat ((first | (refine dynL_take rfl rfl (fun W g => by go_simp; rfl) ?_) | (refine dynL_pure rfl rfl (fun W => by go_simp; rfl) ?_) | (refine dynL_skip1 rfl rfl ?_) | (refine dynL_skip rfl rfl ?_)); go_simp)
          refine dynL_pass rfl rfl g4 ?_
          refine dynL_pass rfl rfl g4 ?_
          repeat ((first | (refine dynL_take rfl rfl (fun W g => by go_simp; rfl) ?_) | (refine dynL_pure rfl rfl (fun W => by go_simp; rfl) ?_) | (refine dynL_skip1 rfl rfl ?_) | (refine dynL_skip rfl rfl ?_)); go_simp)
          refine dynL_done ?_
          go_wp2_with fail
          go_ret
          exact ⟨ret_bool HN.out.symm, HG.out.below (hGG _ g4)⟩
        | some sa =>
          have HBK := Lib.hid (show backOk st j x.arg = true by rw [backOk, HA.out, Int.toNat_natCast, List.getElem?_eq_getElem hal, hoa]; simp)
          clear hoa
          have g5 := g4
          clear g4
          go_upto_region 14 with fail
          refine wp_region_phase2 (T := Ok G') (by kernel_rfl) [(2, 0), (1, 1), (2, 2), (2, 3), (2, 4), (1, 5), (2, 6), (1, 7), (2, 8), (1, 9), (2, 10), (2, 11), (2, 12), (2, 13), (2, 14), (1, 15), (1, 16), (1, 17), (2, 18), (2, 19), (1, 20), (2, 21), (0, 22), (0, 23), (2, 24), (2, 25)] [23] (by kernel_rfl) (HG'.out.drew g5) ?_
          replace g5 := HG'.out.drew g5
          repeat ((first | (refine dynL_take rfl rfl (fun W g => by go_simp; rfl) ?_) | (refine dynL_pure rfl rfl (fun W => by go_simp; rfl) ?_) | (refine dynL_skip1 rfl rfl ?_) | (refine dynL_skip rfl rfl ?_)); go_simp)
          refine dynL_act rfl rfl (fun K9 hK => ?_)
          go_wp2_with fail
          refine Calls.mono (impl_jumpEffect x _ s t _ (by have h9 := HIR.out.below (HG.out.below (hGG _ g5)); rw [HA.out] at h9; exact h9) (fun h => effI_for HET.out h) (by omega)) ?_
          rintro e w6 ⟨rfl, hb⟩
          have g6 := HG'.out.step g5 hb
          clear hb
          simp only []
          refine hK.out _ _ g6 ?_
          clear hK
          refine dynL_last rfl (by simp) rfl (fun K9 hK => ?_)
          have hm := impl_meet w [v0, v1, .slice (some ⟨b, off, none⟩) d.instrs.length c] S bS K bK st a (jmpI x.op s t) w6 (HGF.out _ (hGG _ g6)) (by have := hlen.out; omega) (by have := hlen.out; omega)
          have HX6 := Lib.hid (HG'.out.below g6)
          have HXB := Lib.hid (B'.out _ g6)
          have HM := Lib.hid hm
          clear hm
          go_wp2_with fail
          refine Calls.mono HM.out ?_
          clear HM
          rintro e w7 ⟨rfl, hF, hk⟩
          simp only []
          refine hK.out _ _ ?_
          clear hK
          have X7 := Lib.hid (show Blk w7 wr.heap.size 63 [.int .i64 x.op, .int .i64 x.arg, .int .i64 x.count, .string (str x.text), .slice A4 x.labels.length c4, .int .i64 x.value.kind, .slice A1 x.value.items.length c1, .slice A2 x.value.parts.length c2, .slice A3 x.value.names.length c3, .slice A5 x.value.cls.length c5, .slice A6 x.value.levels.length c6, .int .i64 x.value.code, .int .i64 x.value.env] from (hk.2 _ HXB.out.lt (by have h9 := (HGF.out _ (hGG _ g6)).ne; have h8 := (HGF.out _ F); have h7 := h8.sk.lt; have h6 := h8.kn.lt; constructor <;> omega)).trans HXB.out)
          clear hk HX6 HXB
          cases hq : meet st a (jmpI x.op s t) with
          | none =>
            have HN := Lib.hid (show flowI d.instrs = false by
              rw [HS.out]
              unfold stepI
              rw [HO.out]
              simp only [HET.out]
              rw [if_pos HJ.out, if_pos HBK.out, HA.out, Int.toNat_natCast, hq]
              rfl)
            rw [hq] at hF
            have HF := Lib.hid hF
            clear hq hF
            repeat ((first | (refine dynL_take rfl rfl (fun W g => by go_simp; rfl) ?_) | (refine dynL_pure rfl rfl (fun W => by go_simp; rfl) ?_) | (refine dynL_skip1 rfl rfl ?_) | (refine dynL_skip rfl rfl ?_)); go_simp)
            refine dynL_done ?_
            go_wp2_with fail
            go_ret
            exact ⟨ret_bool HN.out.symm, HF.out.below⟩
          | some st1 =>
            have HS1 := Lib.hid (show flowI d.instrs = endOk d.instrs.length ((if endOp x.op then some st1 else meet st1 (j + 1) t).bind (runF stepI (d.instrs.drop (j + 1)) (j + 1))) by
              rw [HS.out]
              unfold stepI
              rw [HO.out]
              simp only [HET.out]
              rw [if_pos HJ.out, if_pos HBK.out, HA.out, Int.toNat_natCast, hq])
            rw [hq] at hF
            have F5 := hF
            have HL1 := Lib.hid (show st1.length = d.instrs.length + 1 by rw [meet_len hq, hlen.out])
            have HB1 := Lib.hid (meet_bd hq hbd.out (jmpI_len' _ _ _ (by have := HT.out; omega) hsl))
            clear hq hF
            repeat ((first | (refine dynL_take rfl rfl (fun W g => by go_simp; rfl) ?_) | (refine dynL_pure rfl rfl (fun W => by go_simp; rfl) ?_) | (refine dynL_skip1 rfl rfl ?_) | (refine dynL_skip rfl rfl ?_)); go_simp)
            refine dynL_done ?_
            have X5 := X7.out
            have z0 := X5.cell 0 _ rfl
            go_wp2_with fail
            refine Calls.mono (impl_goesOn x.op hx0 hx1 _) ?_
            rintro e w6 ⟨rfl, rfl⟩
            clear z0
            cases hE : endOp x.op
            rotate_left
            · have HE := Lib.hid (show flowI d.instrs = endOk d.instrs.length (runF stepI (d.instrs.drop (j + 1)) (j + 1) st1) by rw [HS1.out, hE]; rfl)
              clear hE
              go_wp2_with fail
              go_roundw
              case rel => exact ⟨j + 1, st1, by omega, by go_num, HL1, HB1, HE, F5⟩
              case measure => simp [intOf]; omega
            have HE := Lib.hid (show flowI d.instrs = endOk d.instrs.length ((meet st1 (j + 1) t).bind (runF stepI (d.instrs.drop (j + 1)) (j + 1))) by rw [HS1.out, hE]; rfl)
            clear hE HS1
            have hm := impl_meet w [v0, v1, .slice (some ⟨b, off, none⟩) d.instrs.length c] S bS K bK st1 (j + 1) t w7 F5 (by have := HL1.out; omega) (by have := HL1.out; omega)
            rw [show ((j + 1 : Nat) : Int) = (j : Int) + 1 from by omega] at hm
            have HM := Lib.hid hm
            clear hm
            go_wp2_with fail
            refine Calls.mono HM.out ?_
            clear HM
            rintro e w7 ⟨rfl, hF, -⟩
            cases hq : meet st1 (j + 1) t with
            | none =>
              have HN := Lib.hid (show flowI d.instrs = false by rw [HE.out, hq]; rfl)
              rw [hq] at hF
              have HF := Lib.hid hF
              clear hq hF
              go_wp2_with fail
              go_ret
              exact ⟨ret_bool HN.out.symm, HF.out.below⟩
            | some st2 =>
              have HN := Lib.hid (show flowI d.instrs = endOk d.instrs.length (runF stepI (d.instrs.drop (j + 1)) (j + 1) st2) by rw [HE.out, hq]; rfl)
              rw [hq] at hF
              have HF := Lib.hid hF
              have HL2 := Lib.hid (show st2.length = d.instrs.length + 1 by rw [meet_len hq, HL1.out])
              have HB2 := Lib.hid (meet_all hq HB1.out (by have := HT.out; omega))
              clear hq hF
              go_wp2_with fail
              go_roundw
              case rel => exact ⟨j + 1, st2, by omega, by go_num, HL2, HB2, HN, HF.out⟩
              case measure => simp [intOf]; omega
      · have hd1 : decide ((a : Int) ≤ (j : Int)) = false := by simp; omega
        have HBK := Lib.hid (show backOk st j x.arg = true by rw [backOk, HA.out]; simp; omega)
        have g5 := g4
        clear g4
        go_upto_region 14 with fail
        refine wp_region_phase2 (T := Ok G') (by kernel_rfl) [(2, 0), (1, 1), (2, 2), (2, 3), (2, 4), (1, 5), (2, 6), (1, 7), (2, 8), (1, 9), (2, 10), (2, 11), (2, 12), (2, 13), (2, 14), (1, 15), (1, 16), (1, 17), (2, 18), (2, 19), (1, 20), (2, 21), (0, 22), (0, 23), (2, 24), (2, 25)] [23] (by kernel_rfl) (HG'.out.drew g5) ?_
        replace g5 := HG'.out.drew g5
        repeat ((first | (refine dynL_take rfl rfl (fun W g => by go_simp; rfl) ?_) | (refine dynL_pure rfl rfl (fun W => by go_simp; rfl) ?_) | (refine dynL_skip1 rfl rfl ?_) | (refine dynL_skip rfl rfl ?_)); go_simp)
        refine dynL_act rfl rfl (fun K9 hK => ?_)
        go_wp2_with fail
        refine Calls.mono (impl_jumpEffect x _ s t _ (by have h9 := HIR.out.below (HG.out.below (hGG _ g5)); rw [HA.out] at h9; exact h9) (fun h => effI_for HET.out h) (by omega)) ?_
        rintro e w6 ⟨rfl, hb⟩
        have g6 := HG'.out.step g5 hb
        clear hb
        simp only []
        refine hK.out _ _ g6 ?_
        clear hK
        refine dynL_last rfl (by simp) rfl (fun K9 hK => ?_)
        have hm := impl_meet w [v0, v1, .slice (some ⟨b, off, none⟩) d.instrs.length c] S bS K bK st a (jmpI x.op s t) w6 (HGF.out _ (hGG _ g6)) (by have := hlen.out; omega) (by have := hlen.out; omega)
        have HX6 := Lib.hid (HG'.out.below g6)
        have HXB := Lib.hid (B'.out _ g6)
        have HM := Lib.hid hm
        clear hm
        go_wp2_with fail
        refine Calls.mono HM.out ?_
        clear HM
        rintro e w7 ⟨rfl, hF, hk⟩
        simp only []
        refine hK.out _ _ ?_
        clear hK
        have X7 := Lib.hid (show Blk w7 wr.heap.size 63 [.int .i64 x.op, .int .i64 x.arg, .int .i64 x.count, .string (str x.text), .slice A4 x.labels.length c4, .int .i64 x.value.kind, .slice A1 x.value.items.length c1, .slice A2 x.value.parts.length c2, .slice A3 x.value.names.length c3, .slice A5 x.value.cls.length c5, .slice A6 x.value.levels.length c6, .int .i64 x.value.code, .int .i64 x.value.env] from (hk.2 _ HXB.out.lt (by have h9 := (HGF.out _ (hGG _ g6)).ne; have h8 := (HGF.out _ F); have h7 := h8.sk.lt; have h6 := h8.kn.lt; constructor <;> omega)).trans HXB.out)
        clear hk HX6 HXB
        cases hq : meet st a (jmpI x.op s t) with
        | none =>
          have HN := Lib.hid (show flowI d.instrs = false by
            rw [HS.out]
            unfold stepI
            rw [HO.out]
            simp only [HET.out]
            rw [if_pos HJ.out, if_pos HBK.out, HA.out, Int.toNat_natCast, hq]
            rfl)
          rw [hq] at hF
          have HF := Lib.hid hF
          clear hq hF
          repeat ((first | (refine dynL_take rfl rfl (fun W g => by go_simp; rfl) ?_) | (refine dynL_pure rfl rfl (fun W => by go_simp; rfl) ?_) | (refine dynL_skip1 rfl rfl ?_) | (refine dynL_skip rfl rfl ?_)); go_simp)
          refine dynL_done ?_
          go_wp2_with fail
          go_ret
          exact ⟨ret_bool HN.out.symm, HF.out.below⟩
        | some st1 =>
          have HS1 := Lib.hid (show flowI d.instrs = endOk d.instrs.length ((if endOp x.op then some st1 else meet st1 (j + 1) t).bind (runF stepI (d.instrs.drop (j + 1)) (j + 1))) by
            rw [HS.out]
            unfold stepI
            rw [HO.out]
            simp only [HET.out]
            rw [if_pos HJ.out, if_pos HBK.out, HA.out, Int.toNat_natCast, hq])
          rw [hq] at hF
          have F5 := hF
          have HL1 := Lib.hid (show st1.length = d.instrs.length + 1 by rw [meet_len hq, hlen.out])
          have HB1 := Lib.hid (meet_bd hq hbd.out (jmpI_len' _ _ _ (by have := HT.out; omega) hsl))
          clear hq hF
          repeat ((first | (refine dynL_take rfl rfl (fun W g => by go_simp; rfl) ?_) | (refine dynL_pure rfl rfl (fun W => by go_simp; rfl) ?_) | (refine dynL_skip1 rfl rfl ?_) | (refine dynL_skip rfl rfl ?_)); go_simp)
          refine dynL_done ?_
          have X5 := X7.out
          have z0 := X5.cell 0 _ rfl
          go_wp2_with fail
          refine Calls.mono (impl_goesOn x.op hx0 hx1 _) ?_
          rintro e w6 ⟨rfl, rfl⟩
          clear z0
          cases hE : endOp x.op
          rotate_left
          · have HE := Lib.hid (show flowI d.instrs = endOk d.instrs.length (runF stepI (d.instrs.drop (j + 1)) (j + 1) st1) by rw [HS1.out, hE]; rfl)
            clear hE
            go_wp2_with fail
            go_roundw
            case rel => exact ⟨j + 1, st1, by omega, by go_num, HL1, HB1, HE, F5⟩
            case measure => simp [intOf]; omega
          have HE := Lib.hid (show flowI d.instrs = endOk d.instrs.length ((meet st1 (j + 1) t).bind (runF stepI (d.instrs.drop (j + 1)) (j + 1))) by rw [HS1.out, hE]; rfl)
          clear hE HS1
          have hm := impl_meet w [v0, v1, .slice (some ⟨b, off, none⟩) d.instrs.length c] S bS K bK st1 (j + 1) t w7 F5 (by have := HL1.out; omega) (by have := HL1.out; omega)
          rw [show ((j + 1 : Nat) : Int) = (j : Int) + 1 from by omega] at hm
          have HM := Lib.hid hm
          clear hm
          go_wp2_with fail
          refine Calls.mono HM.out ?_
          clear HM
          rintro e w7 ⟨rfl, hF, -⟩
          cases hq : meet st1 (j + 1) t with
          | none =>
            have HN := Lib.hid (show flowI d.instrs = false by rw [HE.out, hq]; rfl)
            rw [hq] at hF
            have HF := Lib.hid hF
            clear hq hF
            go_wp2_with fail
            go_ret
            exact ⟨ret_bool HN.out.symm, HF.out.below⟩
          | some st2 =>
            have HN := Lib.hid (show flowI d.instrs = endOk d.instrs.length (runF stepI (d.instrs.drop (j + 1)) (j + 1) st2) by rw [HE.out, hq]; rfl)
            rw [hq] at hF
            have HF := Lib.hid hF
            have HL2 := Lib.hid (show st2.length = d.instrs.length + 1 by rw [meet_len hq, HL1.out])
            have HB2 := Lib.hid (meet_all hq HB1.out (by have := HT.out; omega))
            clear hq hF
            go_wp2_with fail
            go_roundw
            case rel => exact ⟨j + 1, st2, by omega, by go_num, HL2, HB2, HN, HF.out⟩
            case measure => simp [intOf]; omega
end Go.Proofs.YtjdfancbmjnjfaaGreat
