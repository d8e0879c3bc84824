/-
  Contracts: MessageOf, of the program and of the reference.
-/
import Derived.Test.YtaliiodngekahaaVecOk5
namespace Go.Proofs.Ytaliiodngekahaa
set_option maxRecDepth 100000
open Go.ChangeShapes Go.WideShapes Go.ChangeAt Go.RowKit Go.Deep

def tCondition : List UInt8 := [99, 111, 110, 100, 105, 116, 105, 111, 110]
def tMessage : List UInt8 := [109, 101, 115, 115, 97, 103, 101]
/-- the message of a condition -/
def partMsg (p : VecD) : Option (List UInt8) := match p.items with | [x] => if p.kind = 3 ∧ missing x = false then some x.text else none | _ => none
def msgB (d : VecD) : Option (List UInt8) :=
  if vecOk d = true ∧ d.kind = 4 ∧ hasB d.cls tCondition = true ∧ 0 ≤ findB d.names tMessage then (d.parts[(findB d.names tMessage).toNat]?).bind partMsg else none
def RetMsg (o : Option (List UInt8)) (w : World) (e : Ending) (w' : World) : Prop :=
  e = .returned (.tuple #[.string (str (o.getD [])), .bool o.isSome]) ∧ Below w.heap.size w w'

theorem vecOk_shape {d : VecD} (h : vecOk d = true) : shapeOk d = true ∧ ∀ p ∈ d.parts, okN 2 p = true := by
  unfold vecOk at h
  rw [Bool.and_eq_true] at h
  have := h.1
  rw [okN, Bool.and_eq_true, List.all_eq_true] at this
  exact this
theorem okN_shape {n : Nat} {d : VecD} (h : okN n d = true) : shapeOk d = true := by
  cases n with
  | zero => rw [okN, Bool.and_eq_true] at h; exact h.1
  | succ n => rw [okN, Bool.and_eq_true] at h; exact h.1
theorem shape_names {d : VecD} (h : shapeOk d = true) (h0 : 0 < d.names.length) : d.names.length = lenV d := by
  have hB : sB d = true := by unfold shapeOk at h; simp only [Bool.and_eq_true] at h; exact h.1.1.1.1.1.1.2
  have : d.names.isEmpty = false := by cases hn : d.names with | nil => rw [hn] at h0; simp at h0 | cons a l => rfl
  simp [sB, this] at hB
  exact hB.1
theorem shape_items {d : VecD} (h : shapeOk d = true) : ∀ j (hj : j < d.items.length), itemT d d.items[j] = true := by
  have hH : sH d = true := by unfold shapeOk at h; simp only [Bool.and_eq_true] at h; exact h.2
  unfold sH at hH
  exact of_decide_eq_true hH
theorem list_parts {d : VecD} (h : shapeOk d = true) (hk : d.kind = 4) : d.items = [] := by
  cases hi : d.items with
  | nil => rfl
  | cons a l =>
    have := shape_items h 0 (by rw [hi]; simp)
    simp [itemT, atomV, hk] at this
theorem cond_parts {d : VecD} (h : vecOk d = true) (hk : d.kind = 4) (k : Nat) (hf : findB d.names tMessage = k) : k < d.parts.length := by
  have h1 := (vecOk_shape h).1
  have h2 := findB_le d.names tMessage
  have h3 := shape_names h1 (by omega)
  have h4 := list_parts h1 hk
  simp [lenV, hk, h4] at h3
  omega
/-- in a valid vector of texts an element is missing if its denominator is 0 -/
theorem text_missing {p : VecD} (h : shapeOk p = true) (hk : p.kind = 3) (j : Nat) (hj : j < p.items.length) : missing p.items[j] = (p.items[j].den == 0) := by
  have h1 := shape_items h j hj
  have h2 : itemOk 3 p.items[j] = true := by
    have := h1
    simp only [itemT, Bool.and_eq_true] at this
    rw [← hk]
    exact this.1.2
  cases hm : missing p.items[j]
  · simp [itemOk, hm] at h2
    simp [h2]
  · simp [missing] at hm
    simp [hm]
theorem msg_no {d : VecD} (h : ¬ (vecOk d = true ∧ d.kind = 4 ∧ hasB d.cls tCondition = true ∧ 0 ≤ findB d.names tMessage)) : msgB d = none := by simp only [msgB, if_neg h]
theorem msg_at {d : VecD} (h1 : vecOk d = true) (h2 : d.kind = 4) (h3 : hasB d.cls tCondition = true) (k : Nat) (hf : findB d.names tMessage = k) (hk : k < d.parts.length) : msgB d = partMsg d.parts[k] := by
  rw [msgB, if_pos ⟨h1, h2, h3, by omega⟩, hf, Int.toNat_natCast, List.getElem?_eq_getElem hk]
  rfl
theorem partMsg_kind {p : VecD} (h : ¬ p.kind = 3) : partMsg p = none := by
  unfold partMsg
  split
  · rw [if_neg (fun h' => h h'.1)]
  · rfl
theorem partMsg_len {p : VecD} (h : ¬ p.items.length = 1) : partMsg p = none := by
  unfold partMsg
  split
  · rename_i x hx; rw [hx] at h; simp at h
  · rfl
theorem partMsg_one {p : VecD} (hk : p.kind = 3) (h : 0 < p.items.length) (hl : p.items.length = 1) : partMsg p = if missing p.items[0] = false then some p.items[0].text else none := by
  obtain ⟨x, hx⟩ := List.length_eq_one_iff.1 hl
  unfold partMsg
  simp [hx, hk]

set_option maxHeartbeats 2000000 in
theorem impl_MessageOf (d : VecD) (cs : List Value) (w : World) (h : VecR w cs d) (hz : szVector d ≤ 1000000000000) :
    Calls Try.prog 14 #[.agg cs.toArray] w (RetMsg (msgB d) w) := by
  have HI := Lib.hid h
  obtain ⟨n, A1, c1, A2, c2, A3, c3, A4, c4, A5, c5, rfl, k0, k1, k2, l1, l2, l3, l4, l5, HV⟩ := h.open_
  clear h
  go_enter Try.func14, Try.ntmps14
  go_wp2_with fail
  refine abs_w (fun W => Blk W w.heap.size 39 [.int .i64 d.kind, .slice A1 d.items.length c1, .slice A2 d.parts.length c2, .slice A3 d.names.length c3, .slice A4 d.cls.length c4, .slice A5 d.levels.length c5, .int .i64 d.code, .int .i64 d.env] ∧ Below w.heap.size w W) ⟨Blk.new _ _ _, below_alloc1 _ _⟩ ?_
  rintro W0 ⟨hK, hB⟩
  refine (impl_IsVector d _ W0 (HI.out.below hB) hz).mono ?_
  rintro e w1 ⟨rfl, hb⟩
  have HK := Lib.hid (hK.below hb)
  have HB := Lib.hid (hB.trans (hb.mono hB.size))
  clear hb hK hB W0
  have x0 := HK.out.cell 0 _ rfl
  have x2 := HK.out.cell 2 _ rfl
  have x3 := HK.out.cell 3 _ rfl
  have x4 := HK.out.cell 4 _ rfl
  have hlw := HK.out.lt
  cases hv : vecOk d
  · have HE := Lib.hid (msg_no (d := d) (fun h => by rw [hv] at h; cases h.1))
    go_wp2_with fail
    go_ret2
    exact ⟨by rw [HE.out]; rfl, HB.out⟩
  have HVV := Lib.hid hv
  clear hv
  by_cases k4 : d.kind = 4
  rotate_left
  · have HE := Lib.hid (msg_no (d := d) (fun h => k4 h.2.1))
    go_wp2_with fail
    go_ret2
    exact ⟨by rw [HE.out]; rfl, HB.out⟩
  have HK4 := Lib.hid k4
  have b4 : (d.kind != 4) = false := by simp [k4]
  clear k4
  cases hc : hasB d.cls tCondition
  · have HE := Lib.hid (msg_no (d := d) (fun h => by rw [hc] at h; cases h.2.2.1))
    have HC := Lib.hid hc
    clear hc
    go_wp2_with (go_at_call 34; refine (impl_hasText d.cls tCondition _ _ (HV.out.2.2.2.1.below HB.out)).mono ?_; rintro e w' ⟨rfl, rfl⟩; rw [HC.out])
    go_ret2
    exact ⟨by rw [HE.out]; rfl, HB.out⟩
  have HC := Lib.hid hc
  clear hc
  have HFD := Lib.hid (findB_le d.names tMessage)
  by_cases hf0 : 0 ≤ findB d.names tMessage
  rotate_left
  · have HE := Lib.hid (msg_no (d := d) (fun h => hf0 h.2.2.2))
    have hf1 : findB d.names tMessage < 0 := by omega
    go_wp2_with (first | (go_at_call 34; refine (impl_hasText d.cls tCondition _ _ (HV.out.2.2.2.1.below HB.out)).mono ?_; rintro e w' ⟨rfl, rfl⟩; rw [HC.out]) | (go_at_call 35; refine (impl_textIndex d.names tMessage _ _ (HV.out.2.2.1.below HB.out)).mono ?_; rintro e w' ⟨rfl, rfl⟩))
    go_ret2
    exact ⟨by rw [HE.out]; rfl, HB.out⟩
  obtain ⟨k, hk⟩ := Int.eq_ofNat_of_zero_le hf0
  have HFK := Lib.hid hk
  have hlt := cond_parts HVV.out HK4.out k hk
  have HE := Lib.hid (msg_at HVV.out HK4.out HC.out k hk hlt)
  clear hf0 hk
  obtain ⟨_, _, e2, hlc2, hm2, HC2⟩ := SlR.open_ HV.out.2.1
  injection e2 with e21 e22 e23
  subst e21 e23
  clear e22
  unfold maxLen at hm2
  obtain ⟨b, off, cs, rfl, hbl, hlen, hat, hvr⟩ := HC2.out k hlt
  obtain ⟨nn, hvr⟩ : ∃ n, VectorR n w cs d.parts[k] := ⟨_, hvr⟩
  have HPV := Lib.hid (show VecR w cs d.parts[k] from ⟨nn, hvr⟩)
  clear hvr
  have HSP := Lib.hid (okN_shape ((vecOk_shape HVV.out).2 d.parts[k] (List.getElem_mem hlt)))
  obtain ⟨_, B1, b1, B2, b2, B3, b3, B4, b4', B5, b5, rfl, p0, p1, p2, m1, m2, m3, m4, m5, HPH⟩ := HPV.out.open_
  have hbl1 : b < w1.heap.size := Nat.lt_of_lt_of_le hbl HB.out.size
  have y0 := (HB.out.cell (p := ⟨b, off + k * 8, none⟩) hbl).trans (by simpa using hat 0 _ rfl)
  have y1 := (HB.out.cell (p := ⟨b, off + k * 8 + 1, none⟩) hbl).trans (hat 1 _ rfl)
  have y2 := (HB.out.cell (p := ⟨b, off + k * 8 + 2, none⟩) hbl).trans (hat 2 _ rfl)
  have y3 := (HB.out.cell (p := ⟨b, off + k * 8 + 3, none⟩) hbl).trans (hat 3 _ rfl)
  have y4 := (HB.out.cell (p := ⟨b, off + k * 8 + 4, none⟩) hbl).trans (hat 4 _ rfl)
  have y5 := (HB.out.cell (p := ⟨b, off + k * 8 + 5, none⟩) hbl).trans (hat 5 _ rfl)
  have y6 := (HB.out.cell (p := ⟨b, off + k * 8 + 6, none⟩) hbl).trans (hat 6 _ rfl)
  have y7 := (HB.out.cell (p := ⟨b, off + k * 8 + 7, none⟩) hbl).trans (hat 7 _ rfl)
  clear hat
  by_cases k3 : d.parts[k].kind = 3
  rotate_left
  · have HP := Lib.hid (partMsg_kind k3)
    have b3' : (d.parts[k].kind != 3) = true := by simp [k3]
    clear k3
    go_wp2_with (first | (go_at_call 34; refine (impl_hasText d.cls tCondition _ _ (HV.out.2.2.2.1.below HB.out)).mono ?_; rintro e w' ⟨rfl, rfl⟩; rw [HC.out]) | (go_at_call 35; refine (impl_textIndex d.names tMessage _ _ (HV.out.2.2.1.below HB.out)).mono ?_; rintro e w' ⟨rfl, rfl⟩; rw [HFK.out]))
    go_ret2
    exact ⟨by rw [HE.out, HP.out]; rfl, HB.out.alloc HB.out.size _⟩
  have HK3 := Lib.hid k3
  have b3' : (d.parts[k].kind != 3) = false := by simp [k3]
  clear k3
  by_cases hl1 : d.parts[k].items.length = 1
  rotate_left
  · have HP := Lib.hid (partMsg_len hl1)
    have bl : ((d.parts[k].items.length : Int) != 1) = true := by simp; omega
    have bl2 : (d.parts[k].items.length != 1) = true := by simp; omega
    clear hl1
    go_wp2_with (first | (go_at_call 34; refine (impl_hasText d.cls tCondition _ _ (HV.out.2.2.2.1.below HB.out)).mono ?_; rintro e w' ⟨rfl, rfl⟩; rw [HC.out]) | (go_at_call 35; refine (impl_textIndex d.names tMessage _ _ (HV.out.2.2.1.below HB.out)).mono ?_; rintro e w' ⟨rfl, rfl⟩; rw [HFK.out]))
    go_ret2
    exact ⟨by rw [HE.out, HP.out]; rfl, HB.out.alloc HB.out.size _⟩
  have h0 : 0 < d.parts[k].items.length := by omega
  have HP := Lib.hid (partMsg_one HK3.out h0 hl1)
  have HMI := Lib.hid (text_missing HSP.out HK3.out 0 h0)
  have bl : ((d.parts[k].items.length : Int) != 1) = false := by simp; omega
  have bl2 : (d.parts[k].items.length != 1) = false := by simp; omega
  clear hl1
  obtain ⟨_, _, e1, hlc1, hm1, HC1⟩ := SlR.open_ HPH.out.1
  injection e1 with e11 e12 e13
  subst e11 e13
  clear e12
  unfold maxLen at hm1
  obtain ⟨g, go, cs1, rfl, hgl, _, hat, rfl, i0, i1, i2⟩ := HC1.out 0 h0
  have hgl1 : g < w1.heap.size := Nat.lt_of_lt_of_le hgl HB.out.size
  have z0 := (HB.out.cell (p := ⟨g, go, none⟩) hgl).trans (by simpa using hat 0 _ rfl)
  have z1 := (HB.out.cell (p := ⟨g, go + 1, none⟩) hgl).trans (by simpa using hat 1 _ rfl)
  have z2 := (HB.out.cell (p := ⟨g, go + 2, none⟩) hgl).trans (by simpa using hat 2 _ rfl)
  have HIT := Lib.hid (show ∀ W, ItemR W [.int .i64 d.parts[k].items[0].num, .int .i64 d.parts[k].items[0].den, .string (str d.parts[k].items[0].text)] d.parts[k].items[0] from fun _ => ⟨rfl, i0, i1, i2⟩)
  clear hat
  go_wp2_with (first | (go_at_call 34; refine (impl_hasText d.cls tCondition _ _ (HV.out.2.2.2.1.below HB.out)).mono ?_; rintro e w' ⟨rfl, rfl⟩; rw [HC.out]) | (go_at_call 35; refine (impl_textIndex d.names tMessage _ _ (HV.out.2.2.1.below HB.out)).mono ?_; rintro e w' ⟨rfl, rfl⟩; rw [HFK.out]))
  refine abs_w (fun W => (∀ b o, b < w1.heap.size → W.cell? ⟨b, o, none⟩ = w1.cell? ⟨b, o, none⟩) ∧ Blk W w1.heap.size 39 [.int .i64 d.parts[k].kind, .slice (some ⟨g, go, none⟩) d.parts[k].items.length b1, .slice B2 d.parts[k].parts.length b2, .slice B3 d.parts[k].names.length b3, .slice B4 d.parts[k].cls.length b4', .slice B5 d.parts[k].levels.length b5, .int .i64 d.parts[k].code, .int .i64 d.parts[k].env] ∧ Below w.heap.size w W) ⟨fun b o hb => (below_alloc1 w1 _).cell (p := ⟨b, o, none⟩) hb, Blk.new _ _ _, HB.out.alloc HB.out.size _⟩ ?_
  rintro W ⟨hc, hK, hB⟩
  refine (impl_isMissing d.parts[k].items[0] _ W (HIT.out _)).mono ?_
  rintro e w2 ⟨rfl, hb⟩
  have HB2 := Lib.hid (hB.trans (hb.mono hB.size))
  have q1 := (hK.below hb).cell 1 _ rfl
  have q2 := ((hb.cell (p := ⟨g, go + 2, none⟩) (show g < W.heap.size by have := hK.lt; omega)).trans (hc g (go + 2) hgl1)).trans z2
  clear hc hK hB hb x0 x2 x3 x4 y0 y1 y2 y3 y4 y5 y6 y7 z0 z1 z2
  cases hm : missing d.parts[k].items[0]
  all_goals
    have HM := Lib.hid hm
    clear hm
    go_wp2_with fail
    go_ret2
    exact ⟨by rw [HE.out, HP.out, HM.out]; rfl, HB2.out⟩

end Go.Proofs.Ytaliiodngekahaa
