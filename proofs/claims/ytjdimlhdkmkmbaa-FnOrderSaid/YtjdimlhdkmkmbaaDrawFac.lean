/-
  Contracts: what the laws of vectors draw: a factor.
-/
import Derived.Test.YtjdimlhdkmkmbaaDrawEl
namespace Go.Proofs.Ytjdimlhdkmkmbaa
set_option maxRecDepth 100000
open Go.ChangeShapes Go.WideShapes Go.ChangeAt Go.RowKit Go.Deep
set_option linter.unusedVariables false

def PickM (g : Nat) (v : Value) (l : List Nat) (ss : List Int) (w : World) (e : Ending) (w' : World) : Prop := ∃ x, e = .returned (.int .i64 x) ∧ x ∈ ss ∧ Cur w' g v l ∧ Only g w w'
set_option maxHeartbeats 1000000 in
theorem spec_l1PickIntM (g : Nat) (v : Value) (l : List Nat) (u : Value) (ss : List Int) (w : World) (hC : Cur w g v l) (ha : Apart l.length g v) (hs : Ints w u ss) (hu : Apart ss.length g u) (h0 : 1 ≤ ss.length) (h1 : ss.length ≤ 256) :
    Calls Try.prog 86 #[.pointer (some ⟨g, 0, none⟩), u] w (PickM g v l ss w) := by
  have HC := Lib.hid hC
  have HA := Lib.hid ha
  have HS := Lib.hid hs
  have HU := Lib.hid hu
  obtain ⟨A, c, rfl, hlc, hm, _⟩ := hs.open_
  clear hC ha hs hu
  unfold maxLen at hm
  go_enter Try.func86, Try.ntmps86
  go_wp2_with fail
  refine (spec_l1Below g v l _ _ HC.out HA.out (by omega) (by omega)).mono ?_
  rintro e w1 ⟨x, rfl, hx0, hx1, hc, ho⟩
  obtain ⟨k, rfl⟩ := Int.eq_ofNat_of_zero_le hx0
  have hk : k < ss.length := by omega
  obtain ⟨_, _, hv, _, _, HQ⟩ := (HS.out.only HU.out ho).open_
  injection hv with e1 e2 e3
  subst e1 e3
  obtain ⟨b, off, rfl, _, hcell, hi⟩ := HQ.out k hk
  have HC1 := Lib.hid hc
  have HO := Lib.hid ho
  clear hc ho HQ e2
  go_wp2_with fail
  go_ret
  exact ⟨_, rfl, List.getElem_mem hk, HC1.out, HO.out⟩

/-! ### names that are all empty are none: a vector in memory of its own -/
theorem clean_own {S : Nat → Prop} {w w' : World} {cs : List Value} {d : VecD} {e : Ending} (h : VecO S w cs d) (hS : ∀ x, S x → x < w.heap.size) (hr : RetClean cs d w e w') :
    ∃ cs', e = .returned (.agg cs'.toArray) ∧ Below w.heap.size w w' ∧ VecO (fun x => S x ∨ Rng w.heap.size w'.heap.size x) w' cs' (setN d (tidyN d.names)) := by
  obtain ⟨cs', he, hb, hc⟩ := hr
  have hk : Keeps S w w' := ⟨hb.size, fun x _ hx => hb.block x (hS x hx)⟩
  refine ⟨cs', he, hb, ?_⟩
  rcases hc with ⟨h1, rfl⟩ | ⟨h1, q, hq1, hq2, rfl, hB⟩
  · rw [tidyN_no h1, setN_same]
    exact (h.keeps hk).mono fun x hx => .inl hx
  · rw [tidyN_yes h1]
    obtain ⟨A1, c1, A2, c2, A3, c3, A4, c4, A5, c5, rfl⟩ := h.shape
    obtain ⟨S3, h3, hn, hS3, hcl⟩ := h.ed3
    have := hcl w' (fun x => S x ∨ Rng w.heap.size w'.heap.size x) (fun x => x = q) (some ⟨q, 0, none⟩) 0 [] (hk.mono fun x hx => hx.1) (by
      have := txtO_take (W := w') (q := q) [] 0 rfl hB 0 (Nat.le_refl _) (by omega) (fun s hs => by cases hs)
      simpa using this) (fun x hx => ⟨.inr (by subst hx; exact ⟨hq1, hq2⟩), .inr fun hs => by have := hS x hs; subst hx; omega⟩) (fun x hx _ => .inl hx)
    exact this

theorem VS0.step {g : Nat} {v : Value} {l : List Nat} {w W W' : World} (h : VS0 g v l w W) (hb : Below W.heap.size W W') : VS0 g v l w W' :=
  ⟨Cur.below_ h.cur hb, h.r.below hb, h.only.trans (Only.of_below hb)⟩
/-! ### factors -/
/-- a vector that is being drawn, and an element's box above it -/
structure XV (g : Nat) (v : Value) (l : List Nat) (w : World) (b : Nat) (cs : List Value) (q : Nat) (d : VecD) (b2 : Nat) (x : ItemD) (W : World) : Prop where
  sv : SV g v l w b cs q d W
  xb : Blk W b2 36 (itC x)
  hb : q ≤ b2
  ok : ItOk x
section
variable {g : Nat} {v : Value} {l : List Nat} {w : World} {b : Nat} {cs : List Value} {q : Nat} {d : VecD} {b2 : Nat} {x : ItemD} {W W' : World}
theorem XV.make (h : SV g v l w b cs q d W) (x : ItemD) (hx : ItOk x) : XV g v l w b cs q d W.heap.size x (W.alloc (.cells (itC x).toArray 36)) :=
  have hb := (Below.refl W.heap.size W).alloc (Nat.le_refl _) (.cells (itC x).toArray 36)
  ⟨h.step hb, Blk.new W _ (itC x), h.qs, hx⟩
theorem XV.next (h : XV g v l w b cs q d b2 x W) (hg : g < w.heap.size) (hc : Cur W' g v l) (ho : Only g W W') : XV g v l w b cs q d b2 x W' :=
  ⟨h.sv.next hg hc ho, (ho.block _ h.xb.lt (fun e => by injection e with e; have := h.hb; have := h.sv.rq; have := BV.lo h.sv.bc; omega)).trans h.xb, h.hb, h.ok⟩
theorem XV.put (h : XV g v l w b cs q d b2 x W) (hg : g < w.heap.size) (hy : Bytes w v l) (ha : Apart l.length g v) (y : ItemD) (hx : ItOk y) :
    XV g v l w b cs q d b2 y (((W.setCell ⟨b2, 0, none⟩ (.int .i64 y.num)).setCell ⟨b2, 1, none⟩ (.int .i64 y.den)).setCell ⟨b2, 2, none⟩ (.string (str y.text))) :=
  ⟨h.sv.above hg hy ha (below_sc (below_sc (below_sc (Below.refl _ _) h.hb _) h.hb _) h.hb _), ((h.xb.set_ 0 _).set_ 1 _).set_ 2 _, h.hb, hx⟩
end
def facC (U : Option Addr) (k q F1 L1 m : Nat) : List Value := [.int .i64 2, .slice U k q, .slice none 0 0, .slice none 0 0, .slice (some ⟨F1, 0, none⟩) 1 1, .slice (some ⟨L1, 0, none⟩) m 3, .int .i64 0, .int .i64 0]
def facL : List (List UInt8) := [[97], [98], [99]]
def facW : List (List UInt8) := [[102, 97, 99, 116, 111, 114]]
def facD (its : List ItemD) (m : Nat) : VecD := .mk 2 its [] [] facW (facL.take m) 0 0
theorem sz_fac {its : List ItemD} (hi : ∀ x ∈ its, ItOk x) (m : Nat) : szVector (facD its m) ≤ 101 * its.length + 20 := by
  have h := sz_atV (kd := 2) hi
  have h1 : szL facW = 7 := by decide
  have h2 : szL (facL.take m) ≤ 6 := by
    have : szL facL = 6 := by decide
    have h3 : szL (facL.take m) + szL (facL.drop m) = szL facL := by
      unfold szL
      have e1 := List.take_append_drop m facL
      have e2 : ((facL.take m ++ facL.drop m).map List.length).sum = (facL.map List.length).sum := by rw [e1]
      have e3 : (facL.take m ++ facL.drop m).length = facL.length := by rw [e1]
      rw [List.map_append, List.sum_append] at e2
      rw [List.length_append] at e3
      omega
    omega
  rw [szVector_eq] at h ⊢
  simp only [atV, facD, VecD.items, VecD.parts, VecD.names, VecD.cls, VecD.levels] at h ⊢
  have h0 : szL [] = 0 := rfl
  omega
def RetFac (g : Nat) (v : Value) (l : List Nat) (n : Nat) (w : World) (e : Ending) (w' : World) : Prop :=
  ∃ (cs : List Value) (its : List ItemD) (m : Nat), e = .returned (.agg cs.toArray) ∧ VecO (Rng w.heap.size w'.heap.size) w' cs (facD its m) ∧ its.length = n ∧ (∀ x ∈ its, ItOk x) ∧ Cur w' g v l ∧ Only g w w'
theorem fac_start {g : Nat} {v : Value} {l : List Nat} {w W1 W : World} {F1 L1 : Nat} (hF : Blk W F1 9 (facW.map fun s => Value.string (str s))) (hL : Blk W L1 9 (facL.map fun s => Value.string (str s))) (m : Nat) (hm : m ≤ 3) (h1 : w.heap.size + 1 ≤ F1) (h2 : w.heap.size + 1 ≤ L1) (hne : F1 ≠ L1) :
    VecO (Rng (w.heap.size + 1) W.heap.size) W (facC none 0 0 F1 L1 m) (facD [] m) := by
  have t4 := txtO_take facW 1 rfl hF 1 (Nat.le_refl _) (by omega) (by decide)
  have t5 := txtO_take facL 3 rfl hL m hm (by omega) (by decide)
  have hm2 : (facL.take m).length = m := by rw [List.length_take]; exact Nat.min_eq_left hm
  have hv := vecO_mk (S := Rng (w.heap.size + 1) W.heap.size) (w := W) (fun b => if b = F1 then 4 else 5) (A1 := none) (A2 := none) (A3 := none) (c1 := 0) (c2 := 0) (c3 := 0) (facD [] m) (show I64 2 from ⟨by decide, by decide⟩) (ItemsO.nil_ _ _) (VecsO.nil_ _ _) (TxtO.nil_ _ _) (A4 := some ⟨F1, 0, none⟩) (c4 := 1) (A5 := some ⟨L1, 0, none⟩) (c5 := 3)
    (t4.mono fun b hb => by subst hb; exact ⟨⟨h1, hF.lt⟩, if_pos rfl⟩)
    (show TxtO _ W (.slice _ (facL.take m).length 3) _ from hm2.symm ▸ t5.mono fun b hb => by subst hb; exact ⟨⟨h2, hL.lt⟩, if_neg (Ne.symm hne)⟩) i64z_ i64z_
  have e : (facD [] m).levels.length = m := hm2
  rw [e] at hv
  exact hv

set_option maxHeartbeats 8000000 in
theorem spec_l4Factor (g : Nat) (v : Value) (l : List Nat) (n : Nat) (w : World) (hC : Cur w g v l) (ha : Apart l.length g v) (hn : n ≤ 40) :
    Calls Try.prog 116 #[.pointer (some ⟨g, 0, none⟩), .int .i64 n] w (RetFac g v l n w) := by
  have hgl := Cur.lt_ hC
  have HA := Lib.hid ha
  have HY := Lib.hid (show Bytes w v l from by obtain ⟨_, _, _, _, _, h⟩ := hC; exact h)
  have hb0 := (((Below.refl w.heap.size w).alloc (Nat.le_refl _) (.cells nvZ.toArray 28)).alloc (by simp) (.cells (facW.map fun s => Value.string (str s)).toArray 9)).alloc (by simp; omega) (.cells (facL.map fun s => Value.string (str s)).toArray 9)
  have HV := Lib.hid (show VS0 g v l w (((w.alloc (.cells nvZ.toArray 28)).alloc (.cells (facW.map fun s => Value.string (str s)).toArray 9)).alloc (.cells (facL.map fun s => Value.string (str s)).toArray 9)) from ⟨Cur.below_ hC hb0, ((Blk.new w 28 nvZ).alloc _).alloc _, Only.of_below hb0⟩)
  have HF := Lib.hid (show Blk (((w.alloc (.cells nvZ.toArray 28)).alloc (.cells (facW.map fun s => Value.string (str s)).toArray 9)).alloc (.cells (facL.map fun s => Value.string (str s)).toArray 9)) (w.heap.size + 1) 9 (facW.map fun s => Value.string (str s)) from (Blk.new_at _ 9 (facW.map fun s => Value.string (str s)) _ (by simp)).alloc _)
  have HL := Lib.hid (show Blk (((w.alloc (.cells nvZ.toArray 28)).alloc (.cells (facW.map fun s => Value.string (str s)).toArray 9)).alloc (.cells (facL.map fun s => Value.string (str s)).toArray 9)) (w.heap.size + 2) 9 (facL.map fun s => Value.string (str s)) from Blk.new_at _ 9 (facL.map fun s => Value.string (str s)) _ (by simp))
  clear hC ha hb0
  go_enter Try.func116, Try.ntmps116
  go_wp2_with fail
  refine Calls.mono (spec_l1Below g v l 3 _ (by exact HV.out.cur) HA.out (by omega) (by omega)) ?_
  rintro e w1 ⟨x, rfl, hx0, hx1, hc, ho⟩
  obtain ⟨m0, rfl⟩ := Int.eq_ofNat_of_zero_le hx0
  have HV1 := Lib.hid (HV.out.next hgl hc ho)
  have HF1 := Lib.hid (show Blk w1 (w.heap.size + 1) 9 (facW.map fun s => Value.string (str s)) from (ho.block _ HF.out.lt (fun e => by injection e with e; omega)).trans HF.out)
  have HL1 := Lib.hid (show Blk w1 (w.heap.size + 2) 9 (facL.map fun s => Value.string (str s)) from (ho.block _ HL.out.lt (fun e => by injection e with e; omega)).trans HL.out)
  have hs1 : w.heap.size + 3 ≤ w1.heap.size := by have := HL1.out.lt; omega
  clear hc ho HV HF HL
  have hm : 1 + m0 ≤ 3 := by omega
  have HS := Lib.hid (SV.make HV1.out.cur HV1.out.r HV1.out.only (fac_start (g := g) (v := v) (l := l) (W1 := w1) HF1.out HL1.out (1 + m0) hm (by omega) (by omega) (by omega)) (by omega))
  clear HV1 HF1 HL1
  go_upto_region 2 with fail
  generalize hbx : w1.heap.size = bx at HS ⊢
  clear hbx
  refine gen_w (G := SV g v l w bx (facC none 0 0 (w.heap.size + 1) (w.heap.size + 2) (1 + m0)) (bx + 1) (facD [] (1 + m0))) HS.out ?_
  intro w3 HX3
  have HS3 := Lib.hid (SV.rebase (show SV g v l w bx (facC none 0 0 (w.heap.size + 1) (w.heap.size + 2) (1 + m0)) (bx + 1) (facD [] (1 + m0)) w3 from HX3))
  clear HX3 HS
  go_wp2_with fail
  go_loopw [6] (fun i wr => ∃ (k : Nat) (U : Option Addr) (q : Nat) (its : List ItemD), k ≤ n ∧ i = .int .i64 k ∧ Hid (its.length = k) ∧ Hid (∀ x ∈ its, ItOk x) ∧ Hid (SV g v l w bx (facC U k q (w.heap.size + 1) (w.heap.size + 2) (1 + m0)) wr.heap.size (facD its (1 + m0)) wr)) (fun i _ => n - (intOf i).toNat)
  case atStart => exact ⟨0, none, 0, [], Nat.zero_le _, rfl, rfl, fun x h => (by cases h), HS3.out⟩
  case round =>
    obtain ⟨k, U, q, its, hk, rfl, HL, HI, HS⟩ := hrel
    by_cases hlt : k < n
    · have y5 := (BV.bx HS.out.bc).cell 5 _ rfl
      go_wp2_with fail
      refine Calls.mono (spec_l1Below g v l _ _ (BV.cur HS.out.bc) HA.out (by omega) (by omega)) ?_
      rintro e w4 ⟨y, rfl, hy0, hy1, hc, ho⟩
      have HS4 := Lib.hid ((HS.out.next hgl hc ho).rebase)
      clear hc ho HS y5
      go_wp2_with fail
      refine Calls.mono (spec_l2Num _ _ (by unfold NB; omega)) ?_
      rintro e w5 ⟨nn, dd, rfl, hnn, hdd, hb⟩
      have HX := Lib.hid (XV.make ((HS4.out.step hb).rebase) ⟨nn, dd, []⟩ ⟨hnn.i64, hdd.i64, Nat.zero_le _⟩)
      clear hb HS4 hnn hdd
      go_upto_region 6 with fail
      generalize hbx : w5.heap.size = b2 at HX ⊢
      clear hbx
      refine gen_w (G := XV g v l w bx (facC U k q (w.heap.size + 1) (w.heap.size + 2) (1 + m0)) b2 (facD its (1 + m0)) b2 ⟨nn, dd, []⟩) HX.out ?_
      intro w6 HX6
      have HX6 := Lib.hid (show XV g v l w bx (facC U k q (w.heap.size + 1) (w.heap.size + 2) (1 + m0)) b2 (facD its (1 + m0)) b2 ⟨nn, dd, []⟩ w6 from HX6)
      clear HX
      go_wp2_with fail
      refine Calls.mono (spec_l1Once g v l 7 _ (BV.cur HX6.out.sv.bc) HA.out (by omega) (by omega)) ?_
      rintro e w7 ⟨b1, rfl, hc, ho⟩
      have HX7 := Lib.hid (HX6.out.next hgl hc ho)
      clear hc ho HX6
      have hhb := HX7.out.hb
      have hrq := HX7.out.sv.rq
      have hbl := BV.lo HX7.out.sv.bc
      have hbl2 := HX7.out.xb.lt
      cases b1
      · have e0 := HX7.out.xb.cell 0 _ rfl
        have e1 := HX7.out.xb.cell 1 _ rfl
        have e2 := HX7.out.xb.cell 2 _ rfl
        have y1 := (BV.bx HX7.out.sv.bc).cell 1 _ rfl
        obtain ⟨xs, hown, hrow, hpush⟩ := SV.pushI (show SV g v l w bx [.int .i64 2, .slice U k q, .slice none 0 0, .slice none 0 0, .slice (some ⟨w.heap.size + 1, 0, none⟩) 1 1, .slice (some ⟨w.heap.size + 2, 0, none⟩) (1 + m0) 3, .int .i64 0, .int .i64 0] b2 (facD its (1 + m0)) w7 from HX7.out.sv) hgl HY.out HA.out (ItemD.mk nn dd []) HX7.out.ok
        have HPU := Lib.hid hpush
        have HRO := Lib.hid hrow
        have HG := Lib.hid HX7.out.sv.bc
        have hwl : w.heap.size + 1 ≤ w7.heap.size := by omega
        clear hpush hrow
        go_wp2_with (at_builtin; go_must (refine wpList_push rfl _ _ 24 rfl (w.heap.size + 1) 36 (.agg #[.int .i64 0, .int .i64 0, .string ByteArray.empty]) 3 32 Try.underlying24 info_Item rfl (by decide) _ _ _ _ _ rfl rfl (by exact hown) rfl (by simp [Value.oneCell']) (by omega) (by omega) hwl ?_); intro v1 w9 ho1 hg1 hk1 hb1; obtain ⟨A9, c9, rfl⟩ := own_shapeN ho1; have HS9 := Lib.hid (HPU.out A9 c9 w9 ho1 hg1 hk1 hb1); have g9 := BV.grow HG.out hgl HY.out HA.out hb1 hg1 HRO.out; have y9 := (BV.bx g9).cell 1 _ rfl; have f9 := (BV.bx g9).frozen 1; clear ho1 hg1 hk1 hb1)
        go_roundw
        case rel =>
          refine ⟨k + 1, A9, c9, its ++ [(ItemD.mk nn dd [])], hlt, by go_num, ?_, ?_, HS9.out.rebase⟩
          · show _ = _
            rw [List.length_append, HL.out]; rfl
          · intro y hy
            rcases List.mem_append.1 hy with hy | hy
            · exact HI.out y hy
            · rw [List.mem_singleton.1 hy]
              exact HX7.out.ok
        case measure => simp [intOf]; omega
      · have e0 := HX7.out.xb.cell 0 _ rfl
        have e1 := HX7.out.xb.cell 1 _ rfl
        have e2 := HX7.out.xb.cell 2 _ rfl
        have z0 := HX7.out.xb.frozen 0
        have z1 := HX7.out.xb.frozen 1
        have z2 := HX7.out.xb.frozen 2
        have HX8 := Lib.hid (HX7.out.put hgl HY.out HA.out ⟨0, 0, []⟩ ⟨i64z_, i64z_, Nat.zero_le _⟩)
        go_upto_region 8 with fail
        clear e0 e1 e2 z0 z1 z2 HX7
        refine gen_w (G := XV g v l w bx (facC U k q (w.heap.size + 1) (w.heap.size + 2) (1 + m0)) b2 (facD its (1 + m0)) b2 ⟨0, 0, []⟩) HX8.out ?_
        intro w8 HX9
        have HX7 := Lib.hid (show XV g v l w bx (facC U k q (w.heap.size + 1) (w.heap.size + 2) (1 + m0)) b2 (facD its (1 + m0)) b2 ⟨0, 0, []⟩ w8 from HX9)
        clear HX9 HX8 hbl2
        have hbl2 := HX7.out.xb.lt
        have e0 := HX7.out.xb.cell 0 _ rfl
        have e1 := HX7.out.xb.cell 1 _ rfl
        have e2 := HX7.out.xb.cell 2 _ rfl
        have y1 := (BV.bx HX7.out.sv.bc).cell 1 _ rfl
        obtain ⟨xs, hown, hrow, hpush⟩ := SV.pushI (show SV g v l w bx [.int .i64 2, .slice U k q, .slice none 0 0, .slice none 0 0, .slice (some ⟨w.heap.size + 1, 0, none⟩) 1 1, .slice (some ⟨w.heap.size + 2, 0, none⟩) (1 + m0) 3, .int .i64 0, .int .i64 0] b2 (facD its (1 + m0)) w8 from HX7.out.sv) hgl HY.out HA.out (ItemD.mk 0 0 []) HX7.out.ok
        have HPU := Lib.hid hpush
        have HRO := Lib.hid hrow
        have HG := Lib.hid HX7.out.sv.bc
        have hwl : w.heap.size + 1 ≤ w8.heap.size := by omega
        clear hpush hrow
        go_wp2_with (at_builtin; go_must (refine wpList_push rfl _ _ 24 rfl (w.heap.size + 1) 36 (.agg #[.int .i64 0, .int .i64 0, .string ByteArray.empty]) 3 32 Try.underlying24 info_Item rfl (by decide) _ _ _ _ _ rfl rfl (by exact hown) rfl (by simp [Value.oneCell']) (by omega) (by omega) hwl ?_); intro v1 w9 ho1 hg1 hk1 hb1; obtain ⟨A9, c9, rfl⟩ := own_shapeN ho1; have HS9 := Lib.hid (HPU.out A9 c9 w9 ho1 hg1 hk1 hb1); have g9 := BV.grow HG.out hgl HY.out HA.out hb1 hg1 HRO.out; have y9 := (BV.bx g9).cell 1 _ rfl; have f9 := (BV.bx g9).frozen 1; clear ho1 hg1 hk1 hb1)
        go_roundw
        case rel =>
          refine ⟨k + 1, A9, c9, its ++ [(ItemD.mk 0 0 [])], hlt, by go_num, ?_, ?_, HS9.out.rebase⟩
          · show _ = _
            rw [List.length_append, HL.out]; rfl
          · intro y hy
            rcases List.mem_append.1 hy with hy | hy
            · exact HI.out y hy
            · rw [List.mem_singleton.1 hy]
              exact HX7.out.ok
        case measure => simp [intOf]; omega
    · obtain rfl : k = n := by omega
      have y0 := (BV.bx HS.out.bc).cell 0 _ rfl
      have y1 := (BV.bx HS.out.bc).cell 1 _ rfl
      have y2 := (BV.bx HS.out.bc).cell 2 _ rfl
      have y3 := (BV.bx HS.out.bc).cell 3 _ rfl
      have y4 := (BV.bx HS.out.bc).cell 4 _ rfl
      have y5 := (BV.bx HS.out.bc).cell 5 _ rfl
      have y6 := (BV.bx HS.out.bc).cell 6 _ rfl
      have y7 := (BV.bx HS.out.bc).cell 7 _ rfl
      have r0 := (BV.res HS.out.bc).cell 0 _ rfl
      have r1 := (BV.res HS.out.bc).cell 1 _ rfl
      have r2 := (BV.res HS.out.bc).cell 2 _ rfl
      have r3 := (BV.res HS.out.bc).cell 3 _ rfl
      have r4 := (BV.res HS.out.bc).cell 4 _ rfl
      have r5 := (BV.res HS.out.bc).cell 5 _ rfl
      have r6 := (BV.res HS.out.bc).cell 6 _ rfl
      have r7 := (BV.res HS.out.bc).cell 7 _ rfl
      have z0 := (BV.res HS.out.bc).frozen 0
      have z1 := (BV.res HS.out.bc).frozen 1
      have z2 := (BV.res HS.out.bc).frozen 2
      have z3 := (BV.res HS.out.bc).frozen 3
      have z4 := (BV.res HS.out.bc).frozen 4
      have z5 := (BV.res HS.out.bc).frozen 5
      have z6 := (BV.res HS.out.bc).frozen 6
      have z7 := (BV.res HS.out.bc).frozen 7
      have hbF := below_sc (b := w.heap.size) (o := 7) (below_sc (b := w.heap.size) (o := 6) (below_sc (b := w.heap.size) (o := 5) (below_sc (b := w.heap.size) (o := 4) (below_sc (b := w.heap.size) (o := 3) (below_sc (b := w.heap.size) (o := 2) (below_sc (b := w.heap.size) (o := 1) (below_sc (b := w.heap.size) (o := 0) (Below.refl w.heap.size wr) (Nat.le_refl _) (.int .i64 2)) (Nat.le_refl _) (.slice U k q)) (Nat.le_refl _) (.slice none 0 0)) (Nat.le_refl _) (.slice none 0 0)) (Nat.le_refl _) (.slice (some ⟨w.heap.size + 1, 0, none⟩) 1 1)) (Nat.le_refl _) (.slice (some ⟨w.heap.size + 2, 0, none⟩) (1 + m0) 3)) (Nat.le_refl _) (.int .i64 0)) (Nat.le_refl _) (.int .i64 0)
      have hkF := Keeps.sc (b := w.heap.size) (o := 7) (Keeps.sc (b := w.heap.size) (o := 6) (Keeps.sc (b := w.heap.size) (o := 5) (Keeps.sc (b := w.heap.size) (o := 4) (Keeps.sc (b := w.heap.size) (o := 3) (Keeps.sc (b := w.heap.size) (o := 2) (Keeps.sc (b := w.heap.size) (o := 1) (Keeps.sc (b := w.heap.size) (o := 0) (Keeps.refl (fun x => x ≠ w.heap.size) wr) (by simp) (.int .i64 2)) (by simp) (.slice U k q)) (by simp) (.slice none 0 0)) (by simp) (.slice none 0 0)) (by simp) (.slice (some ⟨w.heap.size + 1, 0, none⟩) 1 1)) (by simp) (.slice (some ⟨w.heap.size + 2, 0, none⟩) (1 + m0) 3)) (by simp) (.int .i64 0)) (by simp) (.int .i64 0)
      have hoF := (BV.only HS.out.bc).belowB hbF
      go_wp2_with fail
      exact bodyPost_ret (v := .agg #[.int .i64 2, .slice U k q, .slice none 0 0, .slice none 0 0, .slice (some ⟨w.heap.size + 1, 0, none⟩) 1 1, .slice (some ⟨w.heap.size + 2, 0, none⟩) (1 + m0) 3, .int .i64 0, .int .i64 0]) (by simp [results, Try.results116, go_sem, r0, r1, r2, r3, r4, r5, r6, r7]; try rfl) rfl ⟨[.int .i64 2, .slice U k q, .slice none 0 0, .slice none 0 0, .slice (some ⟨w.heap.size + 1, 0, none⟩) 1 1, .slice (some ⟨w.heap.size + 2, 0, none⟩) (1 + m0) 3, .int .i64 0, .int .i64 0], its, 1 + m0, rfl, (HS.out.st.keeps (hkF.mono fun x hx => by have := hx.1.1; omega)).mono fun x hx => ⟨by have := hx.1.1; omega, Nat.lt_of_lt_of_le hx.1.2 hkF.1⟩, HL.out, HI.out, Cur.next (BV.cur HS.out.bc) hbF hgl (HY.out.only HA.out hoF), hoF⟩
end Go.Proofs.Ytjdimlhdkmkmbaa
