/-
  Merged texts: Chk13, Chk14.
-/
import Derived.Test.YtjdfancbmjnjfaaGreatKSeg
import Derived.Test.YtjdfancbmjnjfaaGreatChk12
namespace Go.Proofs.YtjdfancbmjnjfaaGreat
set_option maxRecDepth 100000
set_option maxRecDepth 100000
open Go.ChangeShapes Go.WideShapes Go.ChangeAt Go.RowKit Go.Deep
set_option linter.unusedVariables false
set_option linter.unusedSimpArgs false

/-! ### Lists of references -/
def seenL (R : List Int) (n : Nat) : List Value := (List.range n).map fun (i : Nat) => Value.bool (decide ((i : Int) ∈ R))
def usedL (R : List Int) (n : Nat) : List Value := (List.range n).map fun (i : Nat) => Value.int .i64 (R.count (i : Int))
theorem seenL_nil (n : Nat) : seenL [] n = (madeCells #[Value.bool false] n).toList := by
  apply List.ext_getElem
  · simp [seenL, madeCells]
  · intro i h1 h2
    simp [seenL, madeCells, Nat.mod_one]
theorem usedL_nil (n : Nat) : usedL [] n = (madeCells #[Value.int .i64 0] n).toList := by
  apply List.ext_getElem
  · simp [usedL, madeCells]
  · intro i h1 h2
    simp [usedL, madeCells, Nat.mod_one]
theorem seenL_at (R : List Int) (n k : Nat) (h : k < n) : (seenL R n)[k]? = some (.bool (decide ((k : Int) ∈ R))) := by simp [seenL, h]
theorem usedL_at (R : List Int) (n k : Nat) (h : k < n) : (usedL R n)[k]? = some (.int .i64 (R.count (k : Int))) := by simp [usedL, h]
theorem seenL_set (R : List Int) (n k : Nat) : seenL (R ++ [(k : Int)]) n = (seenL R n).set k (.bool true) := by
  apply List.ext_getElem
  · simp [seenL]
  · intro i h1 h2
    rw [List.getElem_set]
    by_cases e : k = i
    · subst e; simp [seenL]
    · have : ¬ ((i : Int) = (k : Int)) := by omega
      simp [seenL, e, this]
theorem usedL_set (R : List Int) (n k : Nat) : usedL (R ++ [(k : Int)]) n = (usedL R n).set k (.int .i64 ((R.count (k : Int) : Int) + 1)) := by
  apply List.ext_getElem
  · simp [usedL]
  · intro i h1 h2
    rw [List.getElem_set]
    by_cases e : k = i
    · subst e; simp [usedL, List.count_append]
    · have : ¬ ((k : Int) = (i : Int)) := by omega
      simp [usedL, List.count_append, e, List.count_cons, this]

/-- R is how the references begin -/
def Pre (d : CodeD) (R : List Int) : Prop := ∃ rest, refsB d = R ++ rest
theorem Pre.dup {d : CodeD} {R : List Int} {k : Int} (h : Pre d (R ++ [k])) (hk : k ∈ R) : decide (refsB d).Nodup = false := by
  refine decide_eq_false fun hn => ?_
  obtain ⟨rest, hr⟩ := h
  rw [hr, List.append_assoc, List.nodup_append] at hn
  exact hn.2.2 k hk k (by simp) rfl
theorem Pre.mem {d : CodeD} {R : List Int} {k : Int} (h : Pre d (R ++ [k])) : k ∈ refsB d := by
  obtain ⟨rest, hr⟩ := h
  rw [hr]
  simp
theorem nodup_snoc {R : List Int} {k : Int} (h : R.Nodup) (hk : k ∉ R) : (R ++ [k]).Nodup := by
  rw [List.nodup_append]
  refine ⟨h, by simp, fun a ha b hb => ?_⟩
  simp at hb
  subst hb
  intro e
  subst e
  exact hk ha
def preM (d : CodeD) (j : Nat) : List Int := d.main.take j
def preS (d : CodeD) (i : Nat) : List Int := d.main ++ (d.segments.take i).flatMap refsG
def defR (g : SegD) (j : Nat) : List Int := (g.defaults.take j).filter (fun d => decide (0 ≤ d))
def insRf (g : SegD) (j : Nat) : List Int := ((g.instrs.take j).filter fun x => refOp x.op).map InstrD.arg
theorem preM_pre (d : CodeD) (j : Nat) : Pre d (preM d j) := ⟨d.main.drop j ++ d.segments.flatMap refsG, by unfold refsB preM; rw [← List.append_assoc, List.take_append_drop]⟩
theorem preM_succ (d : CodeD) (j : Nat) (h : j < d.main.length) : preM d (j + 1) = preM d j ++ [d.main[j]] := List.take_succ_eq_append_getElem h
theorem preS_at (d : CodeD) (i : Nat) (h : i < d.segments.length) : refsB d = preS d i ++ (refsG d.segments[i] ++ (d.segments.drop (i + 1)).flatMap refsG) := by
  unfold refsB preS
  rw [List.append_assoc]
  congr 1
  conv => lhs; rw [← List.take_append_drop i d.segments, List.flatMap_append, List.drop_eq_getElem_cons h, List.flatMap_cons]
theorem defR_pre (d : CodeD) (i j : Nat) (h : i < d.segments.length) : Pre d (preS d i ++ defR d.segments[i] j) := by
  refine ⟨(d.segments[i].defaults.drop j).filter (fun d => decide (0 ≤ d)) ++ ((d.segments[i].instrs.filter fun x => refOp x.op).map InstrD.arg ++ (d.segments.drop (i + 1)).flatMap refsG), ?_⟩
  rw [preS_at d i h]
  unfold refsG defR
  simp only [List.append_assoc]
  congr 1
  rw [← List.append_assoc (List.filter _ (List.take j _)), ← List.filter_append, List.take_append_drop]
theorem insRf_pre (d : CodeD) (i j : Nat) (h : i < d.segments.length) : Pre d (preS d i ++ defR d.segments[i] d.segments[i].defaults.length ++ insRf d.segments[i] j) := by
  refine ⟨((d.segments[i].instrs.drop j).filter fun x => refOp x.op).map InstrD.arg ++ (d.segments.drop (i + 1)).flatMap refsG, ?_⟩
  rw [preS_at d i h]
  unfold refsG defR insRf
  simp only [List.append_assoc, List.take_length]
  congr 2
  rw [← List.append_assoc, ← List.map_append, ← List.filter_append, List.take_append_drop]
theorem defR_succ (g : SegD) (j : Nat) (h : j < g.defaults.length) : defR g (j + 1) = defR g j ++ (if 0 ≤ g.defaults[j] then [g.defaults[j]] else []) := by
  unfold defR
  rw [List.take_succ_eq_append_getElem h, List.filter_append]
  congr 1
  by_cases h0 : 0 ≤ g.defaults[j] <;> simp [h0]
theorem insRf_succ (g : SegD) (j : Nat) (h : j < g.instrs.length) : insRf g (j + 1) = insRf g j ++ (if refOp g.instrs[j].op then [g.instrs[j].arg] else []) := by
  unfold insRf
  rw [List.take_succ_eq_append_getElem h, List.filter_append, List.map_append]
  congr 1
  by_cases h0 : refOp g.instrs[j].op = true <;> simp [h0]
theorem refsG_all (g : SegD) : refsG g = defR g g.defaults.length ++ insRf g g.instrs.length := by simp [refsG, defR, insRf]
theorem preS_succ (d : CodeD) (i : Nat) (h : i < d.segments.length) : preS d (i + 1) = preS d i ++ defR d.segments[i] d.segments[i].defaults.length ++ insRf d.segments[i] d.segments[i].instrs.length := by
  unfold preS
  rw [List.take_succ_eq_append_getElem h, List.flatMap_append, List.append_assoc, List.append_assoc, ← refsG_all]
  simp
theorem preS_zero (d : CodeD) : preS d 0 = preM d d.main.length := by simp [preS, preM]
theorem preS_end (d : CodeD) : preS d d.segments.length = refsB d := by simp [preS, refsB]

/-! ### Memory of the program's search -/
structure SO (w : World) (c0 : List Value) (K bK : Nat) (R : List Int) (n : Nat) (W : World) : Prop where
  gb : Blk W w.heap.size 31 c0
  kn : Blk W K 4 (seenL R n)
  bk : Blk W bK 24 [.slice (some ⟨K, 0, none⟩) n n]
  below : Below w.heap.size w W
  size : w.heap.size ≤ W.heap.size
  ne : w.heap.size < K ∧ K < bK
theorem SO.step {w W W' : World} {c0 : List Value} {K bK n : Nat} {R : List Int} (h : SO w c0 K bK R n W) (hb : Below W.heap.size W W') : SO w c0 K bK R n W' :=
  ⟨h.gb.below hb, h.kn.below hb, h.bk.below hb, h.below.trans (hb.mono h.size), Nat.le_trans h.size hb.size, h.ne⟩
def RetOnce (w : World) (c0 : List Value) (K bK : Nat) (R : List Int) (n : Nat) (b : Bool) (W : World) (e : Ending) (W' : World) : Prop :=
  e = .returned (.bool b) ∧ SO w c0 K bK R n W' ∧ Keeps (fun b => b ≠ K) W W'
set_option maxHeartbeats 1000000 in
theorem impl_once_no (w : World) (c0 : List Value) (K bK n k : Nat) (R : List Int) (W : World) (h : SO w c0 K bK R n W) (hk : k < n) (hn : n ≤ 1000000) (hm : (k : Int) ∈ R) :
    Calls Tryz.prog 62 #[.int .i64 k, .pointer (some ⟨bK, 0, none⟩)] W (RetOnce w c0 K bK R n false W) := by
  have H := Lib.hid h
  have b0 := h.bk.cell 0 _ rfl
  have k0 := h.kn.cell k _ (seenL_at R n k hk)
  rw [decide_eq_true hm] at k0
  clear h hm
  go_enter Tryz.func62, Tryz.ntmps62
  go_wp2_with fail
  go_ret
  exact ⟨rfl, H.out, Keeps.refl _ _⟩
set_option maxHeartbeats 1000000 in
theorem impl_once_yes (w : World) (c0 : List Value) (K bK n k : Nat) (R : List Int) (W : World) (h : SO w c0 K bK R n W) (hk : k < n) (hn : n ≤ 1000000) (hm : (k : Int) ∉ R) :
    Calls Tryz.prog 62 #[.int .i64 k, .pointer (some ⟨bK, 0, none⟩)] W (RetOnce w c0 K bK (R ++ [(k : Int)]) n true W) := by
  have H := Lib.hid h
  have b0 := h.bk.cell 0 _ rfl
  have k0 := h.kn.cell k _ (seenL_at R n k hk)
  rw [decide_eq_false hm] at k0
  have k1 := h.kn.frozen k
  have hbK : ¬ bK = K := by have := h.ne; omega
  clear h hm
  go_enter Tryz.func62, Tryz.ntmps62
  go_wp2_with fail
  go_ret
  have hF := H.out
  have hne := hF.ne
  refine ⟨rfl, ⟨hF.gb.far _ (by simp; omega) _, ?_, hF.bk.far _ (by simp; omega) _, below_sc hF.below (by omega) _, by rw [size_sc]; exact hF.size, hne⟩, (Keeps.refl _ _).sc (by simp) _⟩
  rw [seenL_set]
  exact hF.kn.set_ k _
def FSo (w : World) (c0 : List Value) (K bK : Nat) (R : List Int) (n : Nat) (bg : Nat) (gc : List Value) (W : World) : Prop := SO w c0 K bK R n W ∧ Blk W bg 49 gc ∧ K < bg
def FSx (w : World) (c0 : List Value) (K bK : Nat) (R : List Int) (n : Nat) (bx : Nat) (xc : List Value) (W : World) : Prop := SO w c0 K bK R n W ∧ Blk W bx 63 xc
theorem ref_range {d : CodeD} {R : List Int} {k : Int} (h : Pre d (R ++ [k])) (hR : ∀ r ∈ refsB d, 0 ≤ r ∧ r < d.segments.length) : ∃ a : Nat, k = a ∧ a < d.segments.length := by
  obtain ⟨h0, h1⟩ := hR k h.mem
  obtain ⟨a, ha⟩ := Int.eq_ofNat_of_zero_le h0
  exact ⟨a, ha, by omega⟩
set_option maxHeartbeats 8000000 in
theorem impl_referredOnce (d : CodeD) (cs : List Value) (w : World) (h : BytecodeR w cs d) (hR : ∀ r ∈ refsB d, 0 ≤ r ∧ r < d.segments.length) (hns : d.segments.length ≤ 200) (hml : d.main.length ≤ 200) (hop : ∀ g ∈ d.segments, ∀ x ∈ g.instrs, 0 ≤ x.op ∧ x.op ≤ 33) :
    Calls Tryz.prog 29 #[.agg cs.toArray] w (RetB (decide (refsB d).Nodup) w) := by
  have HR := Lib.hid hR
  have HOP := Lib.hid hop
  clear hR hop
  obtain ⟨v0, v1, v2, rfl, q0, q1, q2⟩ := h
  obtain ⟨A, c, rfl, hlc, hm, HC⟩ := SlR.open_ q0
  obtain ⟨A1, c1, rfl, l1, m1, HM⟩ := Ints.open_ q1
  clear q0 q1 q2
  unfold maxLen at hm m1
  have hmk := fun (W : World) => run_mk (P := Tryz.prog) W 24 4 (.bool false) 1 1 Tryz.underlying24 (by kernel_rfl) d.segments.length (by omega) (by omega)
  rw [Nat.mul_one] at hmk
  obtain ⟨C9, hC9⟩ : ∃ C9, C9 = [.slice A d.segments.length c, .slice A1 d.main.length c1, v2] := ⟨_, rfl⟩
  have HC9 := Lib.hid hC9
  clear hC9
  go_enter Tryz.func29, Tryz.ntmps29
  go_upto_region 2 with fail
  refine gen_w (G := SO w C9 (w.heap.size + 1) (w.heap.size + 1 + 1) [] d.segments.length) ⟨?_, ?_, ?_, ?_, ?_, ?_⟩ ?_
  · rw [HC9.out]; exact ((Blk.new w _ _).alloc _).alloc _
  · rw [seenL_nil]
    exact (Blk.new_at _ _ _ _ (by simp)).alloc _
  · exact Blk.new_at _ _ [_] _ (by simp)
  · exact (((Below.refl _ _).alloc (Nat.le_refl _) _).alloc (by simp) _).alloc (by simp; omega) _
  · simp; omega
  · omega
  clear hmk
  intro W0 F0
  have x1 := F0.gb.cell 1 (.slice A1 d.main.length c1) (by rw [HC9.out]; rfl)
  go_wp2_with fail
  clear x1
  generalize hK : w.heap.size + 1 = K at F0 ⊢
  generalize hbK : K + 1 = bK at F0 ⊢
  clear hK hbK
  go_loopw [21] (fun i wr => ∃ j : Nat, j ≤ d.main.length ∧ i = .int .i64 j ∧ Hid ((preM d j).Nodup) ∧ Ok (SO w C9 K bK (preM d j) d.segments.length) wr) (fun i _ => d.main.length - (intOf i).toNat)
  case atStart => exact ⟨0, Nat.zero_le _, rfl, by simp [Hid, preM], F0⟩
  case round =>
    clear F0
    obtain ⟨j, hj, rfl, HN, F⟩ := hrel
    by_cases hlt : j < d.main.length
    · obtain ⟨b0, o0, rfl, hbl0, hc0, _, _⟩ := HM.out j hlt
      have y0 := (F.below.cell (p := ⟨b0, o0 + j, none⟩) hbl0).trans hc0
      have HS := Lib.hid (preM_succ d j hlt)
      have HP := Lib.hid (show Pre d (preM d j ++ [d.main[j]]) by rw [← HS.out]; exact preM_pre d (j + 1))
      obtain ⟨a, ha, hal⟩ := ref_range HP.out HR.out
      rw [ha] at y0 HS HP
      clear hc0 ha
      by_cases hm : (a : Int) ∈ preM d j
      · have HD := Lib.hid (HP.out.dup hm)
        have HC1 := Lib.hid (impl_once_no w C9 K bK d.segments.length a (preM d j) wr F hal (by omega) hm)
        clear hm
        go_wp2_with fail
        refine Calls.mono HC1.out ?_
        rintro e w2 ⟨rfl, hF, -⟩
        have HF := Lib.hid hF
        clear hF HC1
        go_wp2_with fail
        go_ret
        exact ⟨ret_bool HD.out.symm, HF.out.below⟩
      · have HC1 := Lib.hid (impl_once_yes w C9 K bK d.segments.length a (preM d j) wr F hal (by omega) hm)
        have HN2 := Lib.hid (show (preM d (j + 1)).Nodup by rw [HS.out]; exact nodup_snoc HN.out hm)
        clear hm
        go_wp2_with fail
        refine Calls.mono HC1.out ?_
        rintro e w2 ⟨rfl, hF, -⟩
        have HF := Lib.hid hF
        rw [← HS.out] at HF
        clear hF HC1
        go_wp2_with fail
        go_roundw
        case rel => exact ⟨j + 1, by omega, by go_num, HN2, HF.out⟩
        case measure => simp [intOf]; omega
    · obtain rfl : j = d.main.length := by omega
      rw [← preS_zero] at HN F
      have x0 := F.gb.cell 0 (.slice A d.segments.length c) (by rw [HC9.out]; rfl)
      go_wp2_with fail
      clear x0 hj hlt
      go_loopw [33] (fun i wr => ∃ j : Nat, j ≤ d.segments.length ∧ i = .int .i64 j ∧ Hid ((preS d j).Nodup) ∧ Ok (SO w C9 K bK (preS d j) d.segments.length) wr) (fun i _ => d.segments.length - (intOf i).toNat)
      case atStart => exact ⟨0, Nat.zero_le _, rfl, HN, F⟩
      case round =>
        clear F HN
        obtain ⟨i, hi, rfl, HN, F⟩ := hrel
        by_cases hlt : i < d.segments.length
        rotate_left
        · obtain rfl : i = d.segments.length := by omega
          have HD := Lib.hid (show decide (refsB d).Nodup = true by rw [← preS_end]; exact decide_eq_true HN.out)
          go_wp2_with fail
          go_ret
          exact ⟨ret_bool HD.out.symm, F.below⟩
        · obtain ⟨b, off, gc, rfl, hbl, _, hat, hr⟩ := HC.out i hlt
          have HOPg := Lib.hid (HOP.out _ (List.getElem_mem hlt))
          have HPD := Lib.hid (fun j => defR_pre d i j hlt)
          have HPI := Lib.hid (fun j => insRf_pre d i j hlt)
          have HPS := Lib.hid (preS_succ d i hlt)
          obtain ⟨u0, u1, u2, rfl, r0, r1, r2⟩ := hr
          obtain ⟨L0, n0, rfl, ll, ml, _⟩ := Txts.open_ r0
          obtain ⟨D0, e0, rfl, ld, md, HD⟩ := Ints.open_ r1
          obtain ⟨I0, f0, rfl, li, mi, HI⟩ := SlR.open_ r2
          unfold maxLen at md mi
          clear r0 r1 r2
          generalize d.segments[i] = g at hat HOPg HPD HPI HPS HD HI ld li ll
          have z0 := (F.below.cell (p := ⟨b, off + i * 3, none⟩) hbl).trans (by simpa using hat 0 _ rfl)
          have z1 := (F.below.cell (p := ⟨b, off + i * 3 + 1, none⟩) hbl).trans (hat 1 _ rfl)
          have z2 := (F.below.cell (p := ⟨b, off + i * 3 + 2, none⟩) hbl).trans (hat 2 _ rfl)
          clear hat
          have HFG := Lib.hid (show Ok (FSo w C9 K bK (preS d i) d.segments.length wr.heap.size [.slice L0 g.labels.length n0, .slice D0 g.defaults.length e0, .slice I0 g.instrs.length f0]) (wr.alloc (.cells #[.slice L0 g.labels.length n0, .slice D0 g.defaults.length e0, .slice I0 g.instrs.length f0] 49)) from ⟨SO.step F ((Below.refl _ _).alloc (Nat.le_refl _) _), Blk.new _ _ [_, _, _], by have := F.kn.lt; omega⟩)
          go_upto_region 12 with fail
          refine gen_w HFG.out ?_
          clear HFG z0 z1 z2 F
          intro W2 F2
          have y1 := (show Blk _ _ _ _ from F2.2.1).cell 1 _ rfl
          go_wp2_with fail
          clear y1
          obtain ⟨wo, hwo⟩ : ∃ wo : World, wo = wr := ⟨_, rfl⟩
          subst hwo
          generalize hbg : wo.heap.size = bg at F2 ⊢
          clear hbg
          go_loopw [40] (fun q wr => ∃ j : Nat, j ≤ g.defaults.length ∧ q = .int .i64 j ∧ Hid ((preS d i ++ defR g j).Nodup) ∧ Ok (FSo w C9 K bK (preS d i ++ defR g j) d.segments.length bg [.slice L0 g.labels.length n0, .slice D0 g.defaults.length e0, .slice I0 g.instrs.length f0]) wr) (fun q _ => g.defaults.length - (intOf q).toNat)
          case atStart => exact ⟨0, Nat.zero_le _, rfl, by simpa [Hid, defR] using HN.out, by simpa [defR] using F2⟩
          case round =>
            clear F2
            obtain ⟨j, hj, rfl, HNj, F⟩ := hrel
            by_cases hlj : j < g.defaults.length
            · obtain ⟨b0, o0, rfl, hbl0, hc0, _, _⟩ := HD.out j hlj
              have y0 := ((show SO _ _ _ _ _ _ _ from F.1).below.cell (p := ⟨b0, o0 + j, none⟩) hbl0).trans hc0
              clear hc0
              by_cases h0 : 0 ≤ g.defaults[j]
              rotate_left
              · have HS := Lib.hid (show defR g (j + 1) = defR g j by rw [defR_succ g j hlj, if_neg h0, List.append_nil])
                go_wp2_with fail
                go_roundw
                case rel => exact ⟨j + 1, by omega, by go_num, by rw [HS.out]; exact HNj, by rw [HS.out]; exact F⟩
                case measure => simp [intOf]; omega
              have HS := Lib.hid (show preS d i ++ defR g (j + 1) = preS d i ++ defR g j ++ [g.defaults[j]] by rw [defR_succ g j hlj, if_pos h0, List.append_assoc])
              have HP := Lib.hid (show Pre d (preS d i ++ defR g j ++ [g.defaults[j]]) by rw [← HS.out]; exact HPD.out (j + 1))
              obtain ⟨a, ha, hal⟩ := ref_range HP.out HR.out
              rw [ha] at y0 HS HP
              clear ha h0
              by_cases hm : (a : Int) ∈ preS d i ++ defR g j
              · have HDU := Lib.hid (HP.out.dup hm)
                have HC1 := Lib.hid (impl_once_no w C9 K bK d.segments.length a _ wr F.1 hal (by omega) hm)
                clear hm
                go_wp2_with fail
                refine Calls.mono HC1.out ?_
                rintro e w2 ⟨rfl, hF, -⟩
                have HF := Lib.hid hF
                clear hF HC1
                go_wp2_with fail
                go_ret
                exact ⟨ret_bool HDU.out.symm, HF.out.below⟩
              · have HC1 := Lib.hid (impl_once_yes w C9 K bK d.segments.length a _ wr F.1 hal (by omega) hm)
                have HN2 := Lib.hid (show (preS d i ++ defR g (j + 1)).Nodup by rw [HS.out]; exact nodup_snoc HNj.out hm)
                clear hm
                go_wp2_with fail
                refine Calls.mono HC1.out ?_
                rintro e w2 ⟨rfl, hF, hk⟩
                have HF := Lib.hid hF
                rw [← HS.out] at HF
                have HBG := Lib.hid (show Blk w2 bg _ _ from (hk.2 _ F.2.1.lt (by have := F.2.2; omega)).trans F.2.1)
                have HKB := F.2.2
                clear hF HC1 hk
                go_wp2_with fail
                go_roundw
                case rel => exact ⟨j + 1, by omega, by go_num, HN2, HF.out, HBG.out, HKB⟩
                case measure => simp [intOf]; omega
            · obtain rfl : j = g.defaults.length := by omega
              have y2 := (show Blk _ _ _ _ from F.2.1).cell 2 _ rfl
              go_wp2_with fail
              clear y2 hj hlj
              go_loopw [56] (fun q wr => ∃ j : Nat, j ≤ g.instrs.length ∧ q = .int .i64 j ∧ Hid ((preS d i ++ defR g g.defaults.length ++ insRf g j).Nodup) ∧ Ok (SO w C9 K bK (preS d i ++ defR g g.defaults.length ++ insRf g j) d.segments.length) wr) (fun q _ => g.instrs.length - (intOf q).toNat)
              case atStart => exact ⟨0, Nat.zero_le _, rfl, by simpa [Hid, insRf] using HNj.out, by have h9 := F.1; simp only [insRf, List.take_zero, List.filter_nil, List.map_nil, List.append_nil]; exact h9⟩
              case round =>
                clear F HNj
                obtain ⟨j, hj, rfl, HNj, F⟩ := hrel
                by_cases hlj : j < g.instrs.length
                rotate_left
                · obtain rfl : j = g.instrs.length := by omega
                  rw [← HPS.out] at HNj F
                  go_wp2_with fail
                  go_roundw
                  case rel => exact ⟨i + 1, by omega, by go_num, HNj, F⟩
                  case measure => simp [intOf]; omega
                · obtain ⟨b0, o0, ic, rfl, hbl0, _, hat0, hr0⟩ := HI.out j hlj
                  obtain ⟨hx0, hx1⟩ := HOPg.out _ (List.getElem_mem hlj)
                  have HSU := Lib.hid (insRf_succ g j hlj)
                  have HPP := Lib.hid (HPI.out (j + 1))
                  obtain ⟨A4, c4, A5, c5, A6, c6, A7, c7, A8, c8, A9, c9, rfl⟩ := hr0.slices
                  clear hr0
                  generalize g.instrs[j] = x at hat0 hx0 hx1 HSU
                  have z0 := (F.below.cell (p := ⟨b0, o0 + j * 13, none⟩) hbl0).trans (by simpa using hat0 0 _ rfl)
                  have z1 := (F.below.cell (p := ⟨b0, o0 + j * 13 + 1, none⟩) hbl0).trans (hat0 1 _ rfl)
                  have z2 := (F.below.cell (p := ⟨b0, o0 + j * 13 + 2, none⟩) hbl0).trans (hat0 2 _ rfl)
                  have z3 := (F.below.cell (p := ⟨b0, o0 + j * 13 + 3, none⟩) hbl0).trans (hat0 3 _ rfl)
                  have z4 := (F.below.cell (p := ⟨b0, o0 + j * 13 + 4, none⟩) hbl0).trans (hat0 4 _ rfl)
                  have z5 := (F.below.cell (p := ⟨b0, o0 + j * 13 + 5, none⟩) hbl0).trans (hat0 5 _ rfl)
                  have z6 := (F.below.cell (p := ⟨b0, o0 + j * 13 + 6, none⟩) hbl0).trans (hat0 6 _ rfl)
                  have z7 := (F.below.cell (p := ⟨b0, o0 + j * 13 + 7, none⟩) hbl0).trans (hat0 7 _ rfl)
                  have z8 := (F.below.cell (p := ⟨b0, o0 + j * 13 + 8, none⟩) hbl0).trans (hat0 8 _ rfl)
                  have z9 := (F.below.cell (p := ⟨b0, o0 + j * 13 + 9, none⟩) hbl0).trans (hat0 9 _ rfl)
                  have z10 := (F.below.cell (p := ⟨b0, o0 + j * 13 + 10, none⟩) hbl0).trans (hat0 10 _ rfl)
                  have z11 := (F.below.cell (p := ⟨b0, o0 + j * 13 + 11, none⟩) hbl0).trans (hat0 11 _ rfl)
                  have z12 := (F.below.cell (p := ⟨b0, o0 + j * 13 + 12, none⟩) hbl0).trans (hat0 12 _ rfl)
                  clear hat0
                  have HFX := Lib.hid (show Ok (FSx w C9 K bK (preS d i ++ defR g g.defaults.length ++ insRf g j) d.segments.length wr.heap.size [.int .i64 x.op, .int .i64 x.arg, .int .i64 x.count, .string (str x.text), .slice A4 x.labels.length c4, .int .i64 x.value.kind, .slice A5 x.value.items.length c5, .slice A6 x.value.parts.length c6, .slice A7 x.value.names.length c7, .slice A8 x.value.cls.length c8, .slice A9 x.value.levels.length c9, .int .i64 x.value.code, .int .i64 x.value.env]) (wr.alloc (.cells #[.int .i64 x.op, .int .i64 x.arg, .int .i64 x.count, .string (str x.text), .slice A4 x.labels.length c4, .int .i64 x.value.kind, .slice A5 x.value.items.length c5, .slice A6 x.value.parts.length c6, .slice A7 x.value.names.length c7, .slice A8 x.value.cls.length c8, .slice A9 x.value.levels.length c9, .int .i64 x.value.code, .int .i64 x.value.env] 63)) from ⟨SO.step F ((Below.refl _ _).alloc (Nat.le_refl _) _), Blk.new _ _ [.int .i64 x.op, .int .i64 x.arg, .int .i64 x.count, .string (str x.text), .slice A4 x.labels.length c4, .int .i64 x.value.kind, .slice A5 x.value.items.length c5, .slice A6 x.value.parts.length c6, .slice A7 x.value.names.length c7, .slice A8 x.value.cls.length c8, .slice A9 x.value.levels.length c9, .int .i64 x.value.code, .int .i64 x.value.env]⟩)
                  go_upto_region 21 with fail
                  refine gen_w HFX.out ?_
                  clear HFX z0 z1 z2 z3 z4 z5 z6 z7 z8 z9 z10 z11 z12
                  intro W3 F3
                  have p0 := (show Blk _ _ _ _ from F3.2).cell 0 _ rfl
                  have p1 := (show Blk _ _ _ _ from F3.2).cell 1 _ rfl
                  have F4 := (show SO _ _ _ _ _ _ _ from F3.1)
                  clear F3 F
                  go_wp2_with fail
                  refine Calls.mono (impl_hasReference x.op hx0 hx1 _) ?_
                  rintro e w9 ⟨rfl, rfl⟩
                  cases hr : refOp x.op
                  · have HS := Lib.hid (show insRf g (j + 1) = insRf g j by rw [HSU.out, hr]; simp)
                    clear hr
                    go_wp2_with fail
                    go_roundw
                    case rel => exact ⟨j + 1, by omega, by go_num, by rw [HS.out]; exact HNj, by rw [HS.out]; exact F4⟩
                    case measure => simp [intOf]; omega
                  have HS := Lib.hid (show preS d i ++ defR g g.defaults.length ++ insRf g (j + 1) = preS d i ++ defR g g.defaults.length ++ insRf g j ++ [x.arg] by rw [HSU.out, hr]; simp)
                  have HP := Lib.hid (show Pre d (preS d i ++ defR g g.defaults.length ++ insRf g j ++ [x.arg]) by rw [← HS.out]; exact HPP.out)
                  obtain ⟨a, ha, hal⟩ := ref_range HP.out HR.out
                  rw [ha] at p1 HS HP
                  clear ha hr HSU HPP
                  by_cases hm : (a : Int) ∈ preS d i ++ defR g g.defaults.length ++ insRf g j
                  · have HDU := Lib.hid (HP.out.dup hm)
                    have HC1 := Lib.hid (impl_once_no w C9 K bK d.segments.length a _ W3 F4 hal (by omega) hm)
                    clear hm
                    go_wp2_with fail
                    refine Calls.mono HC1.out ?_
                    rintro e w2 ⟨rfl, hF, -⟩
                    have HF := Lib.hid hF
                    clear hF HC1
                    go_wp2_with fail
                    go_ret
                    exact ⟨ret_bool HDU.out.symm, HF.out.below⟩
                  · have HC1 := Lib.hid (impl_once_yes w C9 K bK d.segments.length a _ W3 F4 hal (by omega) hm)
                    have HN2 := Lib.hid (show (preS d i ++ defR g g.defaults.length ++ insRf g (j + 1)).Nodup by rw [HS.out]; exact nodup_snoc HNj.out hm)
                    clear hm
                    go_wp2_with fail
                    refine Calls.mono HC1.out ?_
                    rintro e w2 ⟨rfl, hF, -⟩
                    have HF := Lib.hid hF
                    rw [← HS.out] at HF
                    clear hF HC1
                    go_wp2_with fail
                    go_roundw
                    case rel => exact ⟨j + 1, by omega, by go_num, HN2, HF.out⟩
                    case measure => simp [intOf]; omega
end Go.Proofs.YtjdfancbmjnjfaaGreat
namespace Go.Proofs.YtjdfancbmjnjfaaGreat
set_option maxRecDepth 100000
open Go.ChangeShapes Go.WideShapes Go.ChangeAt Go.RowKit Go.Deep
set_option linter.unusedVariables false
set_option linter.unusedSimpArgs false

/-! ### Memory of the reference's count -/
structure US (w0 W : World) (bg : Nat) (gt : Nat) (gc : List Value) (K n : Nat) (R : List Int) (V : World) : Prop where
  gb : Blk V bg gt gc
  kn : Blk V K 3 (usedL R n)
  b0 : Below w0.heap.size w0 V
  gr : W.grownBy V (some K)
  ne : w0.heap.size ≤ K ∧ K ≠ bg ∧ w0.heap.size ≤ V.heap.size
theorem US.step {w0 W V V' : World} {bg gt : Nat} {gc : List Value} {K n : Nat} {R : List Int} (h : US w0 W bg gt gc K n R V) (hb : Below V.heap.size V V') : US w0 W bg gt gc K n R V' :=
  ⟨h.gb.below hb, h.kn.below hb, h.b0.trans (hb.mono h.ne.2.2), h.gr.trans (grown_of_below hb _), h.ne.1, h.ne.2.1, Nat.le_trans h.ne.2.2 hb.size⟩
theorem US.drew {w0 W V : World} {bg gt : Nat} {gc : List Value} {K n : Nat} {R : List Int} (h : US w0 W bg gt gc K n R V) : US w0 W bg gt gc K n R V.drew :=
  ⟨h.gb, h.kn, h.b0.drew, ⟨h.gr.os, h.gr.tape, h.gr.output, h.gr.size, h.gr.block⟩, h.ne⟩
theorem US.grow {w0 W V V' : World} {bg gt : Nat} {gc : List Value} {K n : Nat} {R R' : List Int} (h : US w0 W bg gt gc K n R V) (hk : Blk V' K 3 (usedL R' n)) (hg : V.grownBy V' (some K)) : US w0 W bg gt gc K n R' V' :=
  ⟨(hg.block _ h.gb.lt (fun e => h.ne.2.1 (by injection e with e; exact e.symm))).trans h.gb, hk, h.b0.grown hg h.ne.2.2 (fun k e => by injection e with e; subst e; exact h.ne.1), h.gr.trans hg, h.ne.1, h.ne.2.1, Nat.le_trans h.ne.2.2 hg.size⟩
theorem US.store {w0 W V : World} {bg gt : Nat} {gc : List Value} {K n : Nat} {R : List Int} (h : US w0 W bg gt gc K n R V) (k : Nat) : US w0 W bg gt gc K n (R ++ [(k : Int)]) (V.setCell ⟨K, k, none⟩ (.int .i64 ((R.count (k : Int) : Int) + 1))) := by
  refine h.grow ?_ (grown_setCell V ⟨K, k, none⟩ _)
  rw [usedL_set]
  exact h.kn.set_ k _
def RetUse (K n : Nat) (R : List Int) (W : World) (e : Ending) (W' : World) : Prop := e = .returned (.tuple #[]) ∧ Blk W' K 3 (usedL R n) ∧ W.grownBy W' (some K)
theorem count_len (R : List Int) (k : Int) : R.count k ≤ R.length := List.count_le_length
theorem defR_len (g : SegD) (j : Nat) : (defR g j).length ≤ g.defaults.length := by
  unfold defR
  have := List.length_filter_le (fun d => decide (0 ≤ d)) (g.defaults.take j)
  simp only [List.length_take] at this
  omega
theorem insRf_len (g : SegD) (j : Nat) : (insRf g j).length ≤ g.instrs.length := by
  unfold insRf
  rw [List.length_map]
  have := List.length_filter_le (fun x : InstrD => refOp x.op) (g.instrs.take j)
  simp only [List.length_take] at this
  omega
theorem defR_mem {g : SegD} {j : Nat} (h : j < g.defaults.length) (h0 : 0 ≤ g.defaults[j]) : g.defaults[j] ∈ refsG g := by
  unfold refsG
  rw [List.mem_append]
  left
  rw [List.mem_filter]
  exact ⟨List.getElem_mem h, by simpa using h0⟩
theorem insRf_mem {g : SegD} {j : Nat} (h : j < g.instrs.length) (h0 : refOp g.instrs[j].op = true) : g.instrs[j].arg ∈ refsG g := by
  unfold refsG
  rw [List.mem_append]
  right
  rw [List.mem_map]
  exact ⟨_, List.mem_filter.2 ⟨List.getElem_mem h, h0⟩, rfl⟩

set_option maxHeartbeats 8000000 in
theorem spec_l32Uses (g : SegD) (gc : List Value) (K n : Nat) (R : List Int) (w0 W : World) (h : SegmentR w0 gc g) (hb0 : Below w0.heap.size w0 W) (hK : w0.heap.size ≤ K) (hB : Blk W K 3 (usedL R n)) (hn : n ≤ 1000)
    (hR : ∀ r ∈ refsG g, 0 ≤ r ∧ r < n) (hop : ∀ x ∈ g.instrs, 0 ≤ x.op ∧ x.op ≤ 33) (hl : R.length + g.defaults.length + g.instrs.length ≤ 10000000) :
    Calls Tryz.prog 23 #[.agg gc.toArray, .slice (some ⟨K, 0, none⟩) n n] W (RetUse K n (R ++ refsG g) W) := by
  have HR := Lib.hid hR
  have HOP := Lib.hid hop
  clear hR hop
  obtain ⟨u0, u1, u2, rfl, r0, r1, r2⟩ := h
  obtain ⟨L0, n0, rfl, ll, ml, _⟩ := Txts.open_ r0
  obtain ⟨D0, e0, rfl, ld, md, HD⟩ := Ints.open_ r1
  obtain ⟨I0, f0, rfl, li, mi, HI⟩ := SlR.open_ r2
  unfold maxLen at md mi
  clear r0 r1 r2
  obtain ⟨gc, hgc⟩ : ∃ gc : List Value, gc = [.slice L0 g.labels.length n0, .slice D0 g.defaults.length e0, .slice I0 g.instrs.length f0] := ⟨_, rfl⟩
  have HGC := Lib.hid hgc
  clear hgc
  have HU := Lib.hid (show Ok (US w0 W W.heap.size 49 gc K n R) (W.alloc (.cells #[.slice L0 g.labels.length n0, .slice D0 g.defaults.length e0, .slice I0 g.instrs.length f0] 49)) from
    ⟨by rw [HGC.out]; exact Blk.new _ _ [_, _, _], hB.alloc _, hb0.alloc hb0.size _, grown_of_below ((Below.refl _ _).alloc (Nat.le_refl _) _) _, hK, (by have := hB.lt; omega), by simp; have := hb0.size; omega⟩)
  go_enter Tryz.func23, Tryz.ntmps23
  go_upto_region 1 with fail
  refine gen_w HU.out ?_
  clear HU hB hb0
  intro W1 F
  go_wp2_with fail
  go_loopw [4] (fun q wr => ∃ j : Nat, j ≤ g.defaults.length ∧ q = .int .i64 j ∧ Ok (US w0 W W.heap.size 49 gc K n (R ++ defR g j)) wr) (fun q _ => g.defaults.length - (intOf q).toNat)
  case atStart => exact ⟨0, Nat.zero_le _, rfl, by simp only [defR, List.take_zero, List.filter_nil, List.append_nil]; exact F⟩
  case round =>
    clear F
    obtain ⟨j, hj, rfl, F⟩ := hrel
    have x1 := F.gb.cell 1 (.slice D0 g.defaults.length e0) (by rw [HGC.out]; rfl)
    by_cases hlj : j < g.defaults.length
    · obtain ⟨b0, o0, rfl, hbl0, hc0, _, _⟩ := HD.out j hlj
      have y0 := (F.b0.cell (p := ⟨b0, o0 + j, none⟩) hbl0).trans hc0
      clear hc0
      by_cases h0 : 0 ≤ g.defaults[j]
      rotate_left
      · have HS := Lib.hid (show defR g (j + 1) = defR g j by rw [defR_succ g j hlj, if_neg h0, List.append_nil])
        go_wp2_with fail
        go_roundw
        case rel => exact ⟨j + 1, by omega, by go_num, by rw [HS.out]; exact F⟩
        case measure => simp [intOf]; omega
      have HS := Lib.hid (show R ++ defR g (j + 1) = R ++ defR g j ++ [g.defaults[j]] by rw [defR_succ g j hlj, if_pos h0, List.append_assoc])
      have hrg := HR.out _ (defR_mem hlj h0)
      obtain ⟨a, ha⟩ := Int.eq_ofNat_of_zero_le h0
      rw [ha] at y0 HS hrg h0
      clear ha
      have han : a < n := by omega
      have han2 : (a : Int) < (n : Int) := by omega
      obtain ⟨m, hm⟩ : ∃ m : Nat, (R ++ defR g j).count (a : Int) = m := ⟨_, rfl⟩
      have hml : m ≤ 10000000 := by
        have h1 := count_len (R ++ defR g j) a
        have h2 := defR_len g j
        rw [List.length_append] at h1
        omega
      have k0 := F.kn.cell a _ (usedL_at _ n a han)
      have k1 := F.kn.frozen a
      rw [hm] at k0
      have HM := Lib.hid hm
      clear hm hrg
      have w1 : IntKind.i64.wrap ((m : Int) + 1) = (m : Int) + 1 := IntWalk.i64_in _ (by omega)
      obtain ⟨GY, hGY⟩ : ∃ GY : World → Prop, GY = fun V => V.cell? ⟨W.heap.size, 1, none⟩ = some (.slice (some ⟨b0, o0, none⟩) g.defaults.length e0) ∧ V.cell? ⟨b0, o0 + j, none⟩ = some (.int .i64 a) ∧ V.cell? ⟨K, a, none⟩ = some (.int .i64 m) := ⟨_, rfl⟩
      have p1 := fun V (h : Ok GY V) => (show V.cell? ⟨W.heap.size, 1, none⟩ = some (.slice (some ⟨b0, o0, none⟩) g.defaults.length e0) by rw [hGY] at h; exact h.1)
      have p2 := fun V (h : Ok GY V) => (show V.cell? ⟨b0, o0 + j, none⟩ = some (.int .i64 a) by rw [hGY] at h; exact h.2.1)
      have p3 := fun V (h : Ok GY V) => (show V.cell? ⟨K, a, none⟩ = some (.int .i64 m) by rw [hGY] at h; exact h.2.2)
      have gY : Ok GY wr.drew := by rw [hGY]; exact ⟨x1, y0, k0⟩
      clear hGY
      have hj1 : (j : Int) < (g.defaults.length : Int) := by omega
      go_upto_region 5 with fail
      refine wp_region_phase2 (T := Ok GY) (by kernel_rfl) [(2, 0), (2, 1), (1, 2), (2, 3), (2, 4), (1, 5), (2, 6), (2, 7), (1, 8), (2, 9), (2, 10), (1, 11), (2, 12), (1, 13), (2, 14), (2, 15), (0, 16)] [16] (by kernel_rfl) gY ?_
      repeat ((first | (refine dynL_take rfl rfl (fun W g => by go_simp; rfl) ?_) | (refine dynL_pure rfl rfl (fun W => by go_simp; rfl) ?_)); go_simp)
      refine dynL_last rfl (by simp) rfl (fun K9 hK => ?_)
      go_wp2_with fail
      refine hK.out _ _ ?_
      clear hK p1 p2 p3 gY k0 k1 w1
      refine dynL_done ?_
      have F2 := Lib.hid (show Ok (US w0 W W.heap.size 49 gc K n (R ++ defR g (j + 1))) _ from by
        have h9 := (US.drew F).store a
        rw [HM.out, ← HS.out] at h9
        exact h9)
      go_wp2_with fail
      go_roundw
      case rel => exact ⟨j + 1, by omega, by go_num, F2.out⟩
      case measure => simp [intOf]; omega
    · obtain rfl : j = g.defaults.length := by omega
      go_wp2_with fail
      clear x1 hj hlj
      go_loopw [5] (fun q wr => ∃ j : Nat, j ≤ g.instrs.length ∧ q = .int .i64 j ∧ Ok (US w0 W W.heap.size 49 gc K n (R ++ defR g g.defaults.length ++ insRf g j)) wr) (fun q _ => g.instrs.length - (intOf q).toNat)
      case atStart => exact ⟨0, Nat.zero_le _, rfl, by simp only [insRf, List.take_zero, List.filter_nil, List.map_nil, List.append_nil]; exact F⟩
      case round =>
        clear F
        obtain ⟨j, hj, rfl, F⟩ := hrel
        have x2 := F.gb.cell 2 (.slice I0 g.instrs.length f0) (by rw [HGC.out]; rfl)
        by_cases hlj : j < g.instrs.length
        rotate_left
        · obtain rfl : j = g.instrs.length := by omega
          have HF := Lib.hid (show US w0 W W.heap.size 49 gc K n (R ++ refsG g) wr by rw [refsG_all, ← List.append_assoc]; exact F)
          clear F
          go_wp2_with fail
          refine bodyPost_end (v := .tuple #[]) (by kernel_rfl) rfl ?_
          exact ⟨rfl, HF.out.kn, HF.out.gr⟩
        obtain ⟨b0, o0, ic, rfl, hbl0, _, hat0, hr0⟩ := HI.out j hlj
        obtain ⟨hx0, hx1⟩ := HOP.out _ (List.getElem_mem hlj)
        have HSU := Lib.hid (insRf_succ g j hlj)
        have HMM := Lib.hid (fun h => HR.out _ (insRf_mem (g := g) hlj h))
        obtain ⟨A4, c4, A5, c5, A6, c6, A7, c7, A8, c8, A9, c9, rfl⟩ := hr0.slices
        clear hr0
        generalize g.instrs[j] = x at hat0 hx0 hx1 HSU HMM
        have y0 := (F.b0.cell (p := ⟨b0, o0 + j * 13, none⟩) hbl0).trans (by simpa using hat0 0 _ rfl)
        have y1 := (F.b0.cell (p := ⟨b0, o0 + j * 13 + 1, none⟩) hbl0).trans (hat0 1 _ rfl)
        clear hat0
        go_wp2_with fail
        refine Calls.mono (spec_l32Refers x.op hx0 hx1 _) ?_
        rintro e w9 ⟨rfl, rfl⟩
        cases hr : refOp x.op
        · have HS := Lib.hid (show insRf g (j + 1) = insRf g j by rw [HSU.out, hr]; simp)
          clear hr
          go_wp2_with fail
          go_roundw
          case rel => exact ⟨j + 1, by omega, by go_num, by rw [HS.out]; exact F⟩
          case measure => simp [intOf]; omega
        have hrg := HMM.out hr
        have HS := Lib.hid (show R ++ defR g g.defaults.length ++ insRf g (j + 1) = R ++ defR g g.defaults.length ++ insRf g j ++ [x.arg] by rw [HSU.out, hr]; simp)
        obtain ⟨a, ha⟩ := Int.eq_ofNat_of_zero_le hrg.1
        rw [ha] at y1 HS hrg
        clear ha hr HSU HMM
        have han : a < n := by omega
        have han2 : (a : Int) < (n : Int) := by omega
        obtain ⟨m, hm⟩ : ∃ m : Nat, (R ++ defR g g.defaults.length ++ insRf g j).count (a : Int) = m := ⟨_, rfl⟩
        have hml : m ≤ 10000000 := by
          have h1 := count_len (R ++ defR g g.defaults.length ++ insRf g j) a
          have h2 := defR_len g g.defaults.length
          have h3 := insRf_len g j
          rw [List.length_append, List.length_append] at h1
          omega
        have k0 := F.kn.cell a _ (usedL_at _ n a han)
        have k1 := F.kn.frozen a
        rw [hm] at k0
        have HM := Lib.hid hm
        clear hm hrg
        have w1 : IntKind.i64.wrap ((m : Int) + 1) = (m : Int) + 1 := IntWalk.i64_in _ (by omega)
        obtain ⟨GY, hGY⟩ : ∃ GY : World → Prop, GY = fun V => V.cell? ⟨W.heap.size, 2, none⟩ = some (.slice (some ⟨b0, o0, none⟩) g.instrs.length f0) ∧ V.cell? ⟨b0, o0 + j * 13 + 1, none⟩ = some (.int .i64 a) ∧ V.cell? ⟨K, a, none⟩ = some (.int .i64 m) := ⟨_, rfl⟩
        have p1 := fun V (h : Ok GY V) => (show V.cell? ⟨W.heap.size, 2, none⟩ = some (.slice (some ⟨b0, o0, none⟩) g.instrs.length f0) by rw [hGY] at h; exact h.1)
        have p2 := fun V (h : Ok GY V) => (show V.cell? ⟨b0, o0 + j * 13 + 1, none⟩ = some (.int .i64 a) by rw [hGY] at h; exact h.2.1)
        have p3 := fun V (h : Ok GY V) => (show V.cell? ⟨K, a, none⟩ = some (.int .i64 m) by rw [hGY] at h; exact h.2.2)
        have gY : Ok GY wr.drew := by rw [hGY]; exact ⟨x2, y1, k0⟩
        clear hGY
        have hj1 : (j : Int) < (g.instrs.length : Int) := by omega
        go_upto_region 10 with fail
        refine wp_region_phase2 (T := Ok GY) (by kernel_rfl) [(2, 0), (2, 1), (1, 2), (2, 3), (2, 4), (2, 5), (1, 6), (2, 7), (2, 8), (1, 9), (2, 10), (2, 11), (2, 12), (1, 13), (2, 14), (1, 15), (2, 16), (2, 17), (0, 18)] [18] (by kernel_rfl) gY ?_
        repeat ((first | (refine dynL_take rfl rfl (fun W g => by go_simp; rfl) ?_) | (refine dynL_pure rfl rfl (fun W => by go_simp; rfl) ?_)); go_simp)
        refine dynL_last rfl (by simp) rfl (fun K9 hK => ?_)
        go_wp2_with fail
        refine hK.out _ _ ?_
        clear hK p1 p2 p3 gY k0 k1 w1
        refine dynL_done ?_
        have F2 := Lib.hid (show Ok (US w0 W W.heap.size 49 gc K n (R ++ defR g g.defaults.length ++ insRf g (j + 1))) _ from by
          have h9 := (US.drew F).store a
          rw [HM.out, ← HS.out] at h9
          exact h9)
        go_wp2_with fail
        go_roundw
        case rel => exact ⟨j + 1, by omega, by go_num, F2.out⟩
        case measure => simp [intOf]; omega
end Go.Proofs.YtjdfancbmjnjfaaGreat
