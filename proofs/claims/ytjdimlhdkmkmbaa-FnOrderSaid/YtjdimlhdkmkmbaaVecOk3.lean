/-
  Contract: shapeValid, the validity of a vector but for its parts.
-/
import Derived.Test.YtjdimlhdkmkmbaaKOk
import Derived.Deep.DeepCutAuto
import Derived.Deep.Light
namespace Go.Proofs.Ytjdimlhdkmkmbaa
set_option maxRecDepth 100000
open Go.ChangeShapes Go.WideShapes Go.ChangeAt Go.RowKit Go.Deep

def itemT (d : VecD) (x : ItemD) : Bool := atomV d.kind && itemOk d.kind x && (d.levels.isEmpty || missing x || (x.den == 1 && decide (1 ≤ x.num) && decide (x.num ≤ d.levels.length)))
def sA (d : VecD) : Bool := decide (0 ≤ d.kind) && decide (d.kind ≤ 5) && decide (lenV d ≤ 40) && labelsOk d.cls 3 && labelsOk d.levels 20
def sB (d : VecD) : Bool := d.names.isEmpty || (decide (d.names.length = lenV d) && !allE d.names)
def sC (d : VecD) : Bool := decide (∀ j (h : j < d.names.length), d.names[j].length ≤ 60)
def sD (d : VecD) : Bool := (d.levels.isEmpty || d.kind == 2) && (d.parts.isEmpty || d.kind == 4)
def sE (d : VecD) : Bool := d.kind == 5 || (d.code == 0 && d.env == 0)
def sF (d : VecD) : Bool := d.kind != 5 || (d.items.isEmpty && d.names.isEmpty && decide (-999 ≤ d.code) && decide (d.code ≤ 99999) && decide (0 ≤ d.env) && decide (d.env ≤ 99999))
def sG (d : VecD) : Bool := d.kind != 0 || (d.items.isEmpty && d.cls.isEmpty)
def sH (d : VecD) : Bool := decide (∀ j (h : j < d.items.length), itemT d d.items[j] = true)
def shapeOk (d : VecD) : Bool := sA d && sB d && sC d && sD d && sE d && sF d && sG d && sH d

theorem len_zero_iff {α : Type} (l : List α) : l.isEmpty = decide (l.length = 0) := by cases l <;> simp

theorem itemT_eq (d : VecD) (x : ItemD) (h1 : atomV d.kind = true) (h2 : itemOk d.kind x = true) (h3 : d.levels.isEmpty = false) : itemT d x = (missing x || (!(x.den != 1) && decide (1 ≤ x.num) && decide (x.num ≤ d.levels.length))) := by
  simp [itemT, h1, h2, h3, bne]

set_option maxHeartbeats 4000000 in
theorem impl_shapeValid (d : VecD) (cs : List Value) (w : World) (h : VecR w cs d) (hz : d.items.length + d.parts.length ≤ 4611686018427387904) :
    Calls Try.prog 118 #[.agg cs.toArray] w (RetB (shapeOk d) w) := by
  have HI := Lib.hid h
  obtain ⟨n, A1, c1, A2, c2, A3, c3, A4, c4, A5, c5, rfl, k0, k1, k2, l1, l2, l3, l4, l5, HV⟩ := h.open_
  clear h
  go_enter Try.func118, Try.ntmps118
  go_wp2_with fail
  refine abs_w (fun W => Blk W w.heap.size 28 [.int .i64 d.kind, .slice A1 d.items.length c1, .slice A2 d.parts.length c2, .slice A3 d.names.length c3, .slice A4 d.cls.length c4, .slice A5 d.levels.length c5, .int .i64 d.code, .int .i64 d.env] ∧ Below w.heap.size w W) ⟨Blk.new _ _ _, below_alloc1 _ _⟩ ?_
  rintro W0 ⟨hK, hB⟩
  refine (impl_length d _ W0 (HI.out.below hB) hz).mono ?_
  rintro e w1 ⟨rfl, hb⟩
  have HK := Lib.hid (hK.below hb)
  have HB := Lib.hid (hB.trans (hb.mono hB.size))
  clear hb hK hB W0
  have x0 := HK.out.cell 0 _ rfl
  have x1 := HK.out.cell 1 _ rfl
  have x2 := HK.out.cell 2 _ rfl
  have x3 := HK.out.cell 3 _ rfl
  have x4 := HK.out.cell 4 _ rfl
  have x5 := HK.out.cell 5 _ rfl
  have x6 := HK.out.cell 6 _ rfl
  have x7 := HK.out.cell 7 _ rfl
  go_upto_region 2 with fail
  go_cut [33] from 10 to 33 (fun s wx => s = .bool (!sA d) ∧ w1 = wx)
  case first =>
    go_wp2_with (go_at_call 124; refine (impl_labelsValid _ _ _ _ (by first | exact HV.out.2.2.2.1.below HB.out | exact HV.out.2.2.2.2.below HB.out)).mono ?_; rintro e w' ⟨rfl, rfl⟩)
    all_goals
      go_meet
      case rel => exact ⟨by congr 1; go_light; grind [sA], rfl⟩
  obtain ⟨rfl, rfl⟩ := hcut
  cases hsA : sA d
  · go_wp2_with fail
    go_ret
    exact ⟨ret_bool (by simp [shapeOk, hsA]), HB.out⟩
  have HsA := Lib.hid hsA
  clear hsA
  go_upto_region 4 with fail
  go_cut [49] from 34 to 49 (fun s wx => s = .bool (!sB d) ∧ w1 = wx)
  case first =>
    go_wp2_with (go_at_call 96; refine (impl_allEmpty d.names _ _ (HV.out.2.2.1.below HB.out)).mono ?_; rintro e w' ⟨rfl, rfl⟩)
    all_goals
      go_meet
      case rel => exact ⟨by congr 1; go_light; grind [sB], rfl⟩
  obtain ⟨rfl, rfl⟩ := hcut
  cases hsB : sB d
  · go_wp2_with fail
    go_ret
    exact ⟨ret_bool (by simp [shapeOk, hsB]), HB.out⟩
  have HsB := Lib.hid hsB
  clear hsB
  obtain ⟨_, _, e3, hlc3, hm3, HC3⟩ := HV.out.2.2.1.open_
  injection e3 with e31 e32 e33
  subst e31 e33
  clear e32
  unfold maxLen at hm3
  have HC3' := Lib.hid (fun k (hk : k < d.names.length) => by
    obtain ⟨b, off, hA, hb, hc, hl⟩ := HC3.out k hk
    exact (⟨b, off, hA, (HB.out.cell (p := ⟨b, off + k, none⟩) hb).trans hc, hl⟩ : ∃ b off, A3 = some ⟨b, off, none⟩ ∧ w1.cell? ⟨b, off + k, none⟩ = some (.string (str d.names[k])) ∧ d.names[k].length ≤ maxLen))
  clear HC3
  go_wp2_with fail
  go_loop [53] (fun i => ∃ k : Nat, k ≤ d.names.length ∧ i = .int .i64 k ∧ Hid (∀ j (h : j < d.names.length), j < k → d.names[j].length ≤ 60)) (fun i => d.names.length - (intOf i).toNat)
  case atStart => exact ⟨0, Nat.zero_le _, rfl, fun j _ h => absurd h (by omega)⟩
  case round =>
    obtain ⟨k, hk, rfl, hn⟩ := hrel
    by_cases hlt : k < d.names.length
    · obtain ⟨b, off, rfl, hcell, hsz⟩ := HC3'.out k hlt
      unfold maxLen at hsz
      by_cases g2 : 60 < d.names[k].length
      · go_wp2_with fail
        go_ret
        exact ⟨ret_bool (by have : sC d = false := by simp only [sC, decide_eq_false_iff_not]; exact fun h' => absurd (h' k hlt) (by omega)
                            simp [shapeOk, this]), HB.out⟩
      · go_wp2_with fail
        go_round
        case rel => exact ⟨k + 1, by omega, by go_num, fun j h1 hj => by rcases Nat.lt_succ_iff_lt_or_eq.1 hj with h3 | rfl; exact hn.out j h1 h3; omega⟩
        case measure => simp [intOf]; omega
    have HsC := Lib.hid (show sC d = true by simp only [sC, decide_eq_true_eq]; exact fun j h => hn.out j h (by omega))
    clear hn HC3'
    go_upto_region 12 with fail
    go_cut [80] from 61 to 80 (fun s wx => s = .bool (!sD d) ∧ w1 = wx)
    case first =>
      cases q2 : (d.kind != 2) <;> cases q4 : (d.kind != 4)
      all_goals
        go_wp2_with fail
        all_goals
          go_meet
          case rel => exact ⟨by congr 1; go_light; grind [sD], rfl⟩
    obtain ⟨rfl, rfl⟩ := hcut
    cases hsD : sD d
    · go_wp2_with fail
      go_ret
      exact ⟨ret_bool (by simp [shapeOk, hsD]), HB.out⟩
    have HsD := Lib.hid hsD
    clear hsD
    go_upto_region 14 with fail
    go_cut [93] from 81 to 93 (fun s wx => s = .bool (!sE d) ∧ w1 = wx)
    case first =>
      cases q5 : (d.kind != 5) <;> cases q6 : (d.code != 0) <;> cases q7 : (d.env != 0)
      all_goals
        go_wp2_with fail
        all_goals
          go_meet
          case rel => exact ⟨by congr 1; go_light; grind [sE], rfl⟩
    obtain ⟨rfl, rfl⟩ := hcut
    cases hsE : sE d
    · go_wp2_with fail
      go_ret
      exact ⟨ret_bool (by simp [shapeOk, hsE]), HB.out⟩
    have HsE := Lib.hid hsE
    clear hsE
    go_upto_region 16 with fail
    go_cut [128] from 94 to 128 (fun s wx => s = .bool (!sF d) ∧ w1 = wx)
    case first =>
      cases q5 : (d.kind == 5) <;> cases p1 : decide (0 < d.items.length) <;> cases p3 : decide (0 < d.names.length)
      all_goals
        go_wp2_with fail
        all_goals
          go_meet
          case rel => exact ⟨by congr 1; go_light; grind [sF, len_zero_iff], rfl⟩
    obtain ⟨rfl, rfl⟩ := hcut
    cases hsF : sF d
    · go_wp2_with fail
      go_ret
      exact ⟨ret_bool (by simp [shapeOk, hsF]), HB.out⟩
    have HsF := Lib.hid hsF
    clear hsF
    go_upto_region 18 with fail
    go_cut [143] from 129 to 143 (fun s wx => s = .bool (!sG d) ∧ w1 = wx)
    case first =>
      cases q0 : (d.kind == 0) <;> cases p1 : decide (0 < d.items.length) <;> cases p3 : decide (0 < d.cls.length)
      all_goals
        go_wp2_with fail
        all_goals
          go_meet
          case rel => exact ⟨by congr 1; go_light; grind [sG, len_zero_iff], rfl⟩
    obtain ⟨rfl, rfl⟩ := hcut
    cases hsG : sG d
    · go_wp2_with fail
      go_ret
      exact ⟨ret_bool (by simp [shapeOk, hsG]), HB.out⟩
    have HsG := Lib.hid hsG
    clear hsG
    obtain ⟨_, _, e1, hlc1, hm1, HC1⟩ := SlR.open_ HV.out.1
    injection e1 with e11 e12 e13
    subst e11 e13
    clear e12
    unfold maxLen at hm1
    go_wp2_with fail
    go_loopw [147] (fun i wr => ∃ k : Nat, k ≤ d.items.length ∧ i = .int .i64 k ∧ Hid (∀ j (h : j < d.items.length), j < k → itemT d d.items[j] = true) ∧ Hid (Blk wr w.heap.size 28 [.int .i64 d.kind, .slice A1 d.items.length c1, .slice A2 d.parts.length c2, .slice A3 d.names.length c3, .slice A4 d.cls.length c4, .slice A5 d.levels.length c5, .int .i64 d.code, .int .i64 d.env] ∧ Below w.heap.size w wr)) (fun i _ => d.items.length - (intOf i).toNat)
    case atStart => exact ⟨0, Nat.zero_le _, rfl, fun j _ h => absurd h (by omega), HK.out, HB.out⟩
    case round =>
      clear x0 x1 x2 x3 x4 x5 x6 x7 HK HB hk hlt
      obtain ⟨k, hk, rfl, hn, HX⟩ := hrel
      have x0 := HX.out.1.cell 0 _ rfl
      have x1 := HX.out.1.cell 1 _ rfl
      have x2 := HX.out.1.cell 2 _ rfl
      have x3 := HX.out.1.cell 3 _ rfl
      have x4 := HX.out.1.cell 4 _ rfl
      have x5 := HX.out.1.cell 5 _ rfl
      have x6 := HX.out.1.cell 6 _ rfl
      have x7 := HX.out.1.cell 7 _ rfl
      have hlw : w.heap.size < wr.heap.size := HX.out.1.lt
      by_cases hlt : k < d.items.length
      · obtain ⟨b, off, cs, rfl, hbl, _, hat, rfl, i0, i1, i2⟩ := HC1.out k hlt
        have y0 := (HX.out.2.cell (p := ⟨b, off + k * 3, none⟩) hbl).trans (by simpa using hat 0 _ rfl)
        have y1 := (HX.out.2.cell (p := ⟨b, off + k * 3 + 1, none⟩) hbl).trans (hat 1 _ rfl)
        have y2 := (HX.out.2.cell (p := ⟨b, off + k * 3 + 2, none⟩) hbl).trans (hat 2 _ rfl)
        have HIT := Lib.hid (show ∀ W, ItemR W [.int .i64 d.items[k].num, .int .i64 d.items[k].den, .string (str d.items[k].text)] d.items[k] from fun _ => ⟨rfl, i0, i1, i2⟩)
        clear hat
        unfold maxLen at i2
        go_wp2_with fail
        refine abs_w (Ex2 w w.heap.size w.heap.size 28 [.int .i64 d.kind, .slice (some ⟨b, off, none⟩) d.items.length c1, .slice A2 d.parts.length c2, .slice A3 d.names.length c3, .slice A4 d.cls.length c4, .slice A5 d.levels.length c5, .int .i64 d.code, .int .i64 d.env] wr.heap.size 36 [.int .i64 d.items[k].num, .int .i64 d.items[k].den, .string (str d.items[k].text)]) ⟨HX.out.1.alloc _, Blk.new _ _ _, HX.out.2.alloc HX.out.2.size _, by simp; omega⟩ ?_
        rintro W hX
        refine (impl_isAtomic d _ W (HI.out.below hX.2.2.1)).mono ?_
        rintro e w2 ⟨rfl, hb⟩
        have HX2 := Lib.hid (hX.below hb)
        clear hX hb x0 x1 x2 x3 x4 x5 x6 x7 y0 y1 y2
        have x0 := HX2.out.1.cell 0 _ rfl
        have z0 := HX2.out.2.1.cell 0 _ rfl
        have z1 := HX2.out.2.1.cell 1 _ rfl
        have z2 := HX2.out.2.1.cell 2 _ rfl
        cases hat : atomV d.kind
        · have HT := Lib.hid (show itemT d d.items[k] = false by simp [itemT, hat])
          clear hat
          go_wp2_with fail
          go_ret
          exact ⟨ret_bool (by have : sH d = false := by simp only [sH, decide_eq_false_iff_not]; exact fun h' => by have := h' k hlt; rw [HT.out] at this; cases this
                              simp [shapeOk, this]), HX2.out.2.2.1⟩
        have HAT := Lib.hid hat
        clear hat
        go_wp2_with fail
        refine (impl_itemValid d.kind d.items[k] _ _ (HIT.out _)).mono ?_
        rintro e w3 ⟨rfl, hb⟩
        have HX3 := Lib.hid (HX2.out.below hb)
        clear HX2 hb x0 z0 z1 z2
        cases hio : itemOk d.kind d.items[k]
        · have HT := Lib.hid (show itemT d d.items[k] = false by simp [itemT, hio])
          clear hio
          go_wp2_with fail
          go_ret
          exact ⟨ret_bool (by have : sH d = false := by simp only [sH, decide_eq_false_iff_not]; exact fun h' => by have := h' k hlt; rw [HT.out] at this; cases this
                              simp [shapeOk, this]), HX3.out.2.2.1⟩
        have HIO := Lib.hid hio
        clear hio
        have x5 := HX3.out.1.cell 5 _ rfl
        have z0 := HX3.out.2.1.cell 0 _ rfl
        have z1 := HX3.out.2.1.cell 1 _ rfl
        have z2 := HX3.out.2.1.cell 2 _ rfl
        cases p5 : decide (0 < d.levels.length)
        · have HT := Lib.hid (show itemT d d.items[k] = true by simp at p5; simp [itemT, HAT.out, HIO.out, p5])
          go_wp2_with fail
          go_roundw
          case rel => exact ⟨k + 1, by omega, by go_num, fun j h1 hj => by rcases Nat.lt_succ_iff_lt_or_eq.1 hj with h3 | rfl; exact hn.out j h1 h3; exact HT.out, HX3.out.1, HX3.out.2.2.1⟩
          case measure => simp [intOf]; omega
        have HP5 := Lib.hid (show d.levels.isEmpty = false by rw [len_zero_iff]; simp at p5 ⊢; intro h; rw [h] at p5; simp at p5)
        go_wp2_with fail
        refine (impl_isMissing d.items[k] _ _ (HIT.out _)).mono ?_
        rintro e w4 ⟨rfl, hb⟩
        have HX4 := Lib.hid (HX3.out.below hb)
        clear HX3 hb x5 z0 z1 z2
        have x5 := HX4.out.1.cell 5 _ rfl
        have z0 := HX4.out.2.1.cell 0 _ rfl
        have z1 := HX4.out.2.1.cell 1 _ rfl
        cases hmi : missing d.items[k] <;> cases q1 : (d.items[k].den != 1) <;> by_cases q2 : 1 ≤ d.items[k].num <;> by_cases q3 : d.items[k].num ≤ d.levels.length
        all_goals (try (exfalso; omega))
        all_goals
          have HT := Lib.hid (itemT_eq d d.items[k] HAT.out HIO.out HP5.out)
          have HM := Lib.hid hmi
          have HQ := Lib.hid q1
          clear hmi
          go_wp2_with fail
          first
            | (go_ret
               exact ⟨ret_bool (by have hf : itemT d d.items[k] = false := by (rw [HT.out, HM.out, HQ.out]; first | rfl | simp [q2, q3] | (simp; omega))
                                   have : sH d = false := by simp only [sH, decide_eq_false_iff_not]; exact fun h' => by have := h' k hlt; rw [hf] at this; cases this
                                   simp [shapeOk, this]), HX4.out.2.2.1⟩)
            | (go_roundw
               case rel => exact ⟨k + 1, by omega, by go_num, fun j h1 hj => by rcases Nat.lt_succ_iff_lt_or_eq.1 hj with h3 | rfl; exact hn.out j h1 h3; (rw [HT.out, HM.out, HQ.out]; first | rfl | simp [q2, q3] | (simp; omega)), HX4.out.1, HX4.out.2.2.1⟩
               case measure => simp [intOf]; omega)
      · have HsH := Lib.hid (show sH d = true by simp only [sH, decide_eq_true_eq]; exact fun j h => hn.out j h (by omega))
        go_wp2_with fail
        go_ret
        exact ⟨ret_bool (by simp [shapeOk, HsA.out, HsB.out, HsC.out, HsD.out, HsE.out, HsF.out, HsG.out, HsH.out]), HX.out.2⟩

end Go.Proofs.Ytjdimlhdkmkmbaa
