/-
  Equality of two vectors: the plain function, and the contracts of impl.equal and spec.l4Same.
-/
import Derived.Test.YtjdfancbmjnjfaaGreatKVec
import Derived.Test.YtjdfancbmjnjfaaGreatKGood
import Derived.StillTailTactics
import Derived.Deep.DeepCutAuto
import Derived.Deep.Light
namespace Go.Proofs.YtjdfancbmjnjfaaGreat
set_option maxRecDepth 100000
open Go.ChangeShapes Go.WideShapes Go.ChangeAt Go.RowKit Go.Deep
set_option linter.unusedVariables false

/-! ### Vectors: functions inside, the zero, equality -/
mutual
def hasFun : VecD → Bool
  | .mk k _ p _ _ _ _ _ => k == 5 || hasFuns p
def hasFuns : List VecD → Bool
  | [] => false
  | x :: l => hasFun x || hasFuns l
end
theorem hasFuns_eq (l : List VecD) : hasFuns l = l.any hasFun := by
  induction l with
  | nil => rfl
  | cons x l ih => simp [hasFuns, ih]
theorem hasFun_eq (d : VecD) : hasFun d = (d.kind == 5 || d.parts.any hasFun) := by
  cases d
  simp [hasFun, VecD.kind, VecD.parts, hasFuns_eq]
def zeroQ (d : VecD) : Bool := d.kind == 0 && d.code == 0 && d.env == 0 && d.names.isEmpty && d.cls.isEmpty && d.levels.isEmpty && d.items.isEmpty && d.parts.isEmpty
def eqI (a b : ItemD) : Bool := a.num == b.num && a.den == b.den && a.text == b.text
mutual
def eqV : VecD → VecD → Bool
  | .mk k i p n c l co e, d => k == d.kind && co == d.code && e == d.env && eqL n d.names && eqL c d.cls && eqL l d.levels && (decide (i.length = d.items.length) && (i.zip d.items).all fun q => eqI q.1 q.2) && eqVs p d.parts
def eqVs : List VecD → List VecD → Bool
  | [], m => m.isEmpty
  | x :: l, [] => false
  | x :: l, y :: m => eqV x y && eqVs l m
end
theorem eqVs_eq (l : List VecD) : ∀ m, eqVs l m = (decide (l.length = m.length) && (l.zip m).all fun q => eqV q.1 q.2) := by
  induction l with
  | nil => intro m; cases m <;> simp [eqVs]
  | cons x l ih =>
    intro m
    cases m with
    | nil => simp [eqVs]
    | cons y m =>
      simp only [eqVs, ih, List.length_cons, List.zip_cons_cons, List.all_cons]
      by_cases h : l.length = m.length <;> simp [h]
theorem eqV_eq (a b : VecD) : eqV a b = (a.kind == b.kind && a.code == b.code && a.env == b.env && eqL a.names b.names && eqL a.cls b.cls && eqL a.levels b.levels && (decide (a.items.length = b.items.length) && (a.items.zip b.items).all fun q => eqI q.1 q.2) && (decide (a.parts.length = b.parts.length) && (a.parts.zip b.parts).all fun q => eqV q.1 q.2)) := by
  cases a
  rw [eqV, eqVs_eq]
  rfl
theorem zip_no {α : Type} (f : α → α → Bool) {l m : List α} (k : Nat) (h : k < l.length) (h2 : k < m.length) (hf : f l[k] m[k] = false) : ((l.zip m).all fun q => f q.1 q.2) = false := by
  rw [Bool.eq_false_iff]
  intro ha
  rw [List.all_eq_true] at ha
  have := ha (l[k], m[k]) (by rw [← List.getElem_zip (h := by simp; omega)]; exact List.getElem_mem _)
  simp [hf] at this
theorem zip_yes {α : Type} (f : α → α → Bool) {l m : List α} (hl : l.length = m.length) (hf : ∀ j (h1 : j < l.length) (h2 : j < m.length), f l[j] m[j] = true) : ((l.zip m).all fun q => f q.1 q.2) = true := by
  rw [List.all_eq_true]
  intro q hq
  obtain ⟨i, hi, rfl⟩ := List.getElem_of_mem hq
  simp only [List.length_zip] at hi
  rw [List.getElem_zip]
  exact hf i (by omega) (by omega)
def spec_l4SameC (n : Nat) : Prop := ∀ (d d2 : VecD) (cs cs2 : List Value) (w : World), VectorR n w cs d → VectorR n w cs2 d2 →
    Calls Tryz.prog 64 #[.agg cs.toArray, .agg cs2.toArray] w fun e w2 => e = .returned (.bool (eqV d d2)) ∧ Below w.heap.size w w2
set_option maxHeartbeats 8000000 in
theorem spec_l4Same_step (n : Nat) (ih : spec_l4SameC n) : spec_l4SameC (n + 1) := by
  intro d d2 cs cs2 w h h2
  have IH := Lib.hid ih
  clear ih
  obtain ⟨v1, v2, v3, v4, v5, rfl, _, h1, h2', h3, h4, h5, _, _⟩ := h
  obtain ⟨u1, u2, u3, u4, u5, rfl, _, k1, k2, k3, k4, k5, _, _⟩ := h2
  obtain ⟨A1, a1, rfl, la1, ma1, HI⟩ := SlR.open_ h1
  obtain ⟨A2, a2, rfl, la2, ma2, HP⟩ := SlR.open_ h2'
  obtain ⟨B1, b1, rfl, lb1, mb1, KI⟩ := SlR.open_ k1
  obtain ⟨B2, b2, rfl, lb2, mb2, KP⟩ := SlR.open_ k2
  have H3 := Lib.hid h3
  have H4 := Lib.hid h4
  have H5 := Lib.hid h5
  have K3 := Lib.hid k3
  have K4 := Lib.hid k4
  have K5 := Lib.hid k5
  clear h1 h2' h3 h4 h5 k1 k2 k3 k4 k5
  unfold maxLen at ma1 ma2 mb1 mb2
  have HE := Lib.hid (eqV_eq d d2)
  obtain ⟨G, g0, HG, BX, BY⟩ := good2 w 61 [.int .i64 d.kind, .slice A1 d.items.length a1, .slice A2 d.parts.length a2, v3, v4, v5, .int .i64 d.code, .int .i64 d.env] 61 [.int .i64 d2.kind, .slice B1 d2.items.length b1, .slice B2 d2.parts.length b2, u3, u4, u5, .int .i64 d2.code, .int .i64 d2.env]
  obtain ⟨x0, x1, x2, x3, x4, x5, x6, x7⟩ := pk_f8 BX
  obtain ⟨y0, y1, y2, y3, y4, y5, y6, y7⟩ := pk_f8 BY
  go_enter Tryz.func64, Tryz.ntmps64
  go_upto_region 1 with fail
  refine gen_w g0 ?_
  clear g0
  intro W0 g0
  by_cases e_kind : d.kind = d2.kind
  rotate_left
  · have q_kind : (d.kind != d2.kind) = true := by simp [e_kind]
    have HN := Lib.hid (show eqV d d2 = false by rw [HE.out]; simp [e_kind])
    clear e_kind
    go_wp2_with fail
    go_ret
    exact ⟨ret_bool HN.out.symm, HG.out.below g0⟩
  have q_kind : (d.kind != d2.kind) = false := by simp [e_kind]
  have E_kind := Lib.hid e_kind
  clear e_kind
  by_cases e_items : d.items.length = d2.items.length
  rotate_left
  · have q_items : ((d.items.length : Int) != (d2.items.length : Int)) = true := by simp; omega
    have HN := Lib.hid (show eqV d d2 = false by rw [HE.out]; simp [e_items])
    clear e_items
    go_wp2_with fail
    go_ret
    exact ⟨ret_bool HN.out.symm, HG.out.below g0⟩
  have q_items : ((d.items.length : Int) != (d2.items.length : Int)) = false := by simp; omega
  have E_items := Lib.hid e_items
  clear e_items
  by_cases e_parts : d.parts.length = d2.parts.length
  rotate_left
  · have q_parts : ((d.parts.length : Int) != (d2.parts.length : Int)) = true := by simp; omega
    have HN := Lib.hid (show eqV d d2 = false by rw [HE.out]; simp [e_parts])
    clear e_parts
    go_wp2_with fail
    go_ret
    exact ⟨ret_bool HN.out.symm, HG.out.below g0⟩
  have q_parts : ((d.parts.length : Int) != (d2.parts.length : Int)) = false := by simp; omega
  have E_parts := Lib.hid e_parts
  clear e_parts
  by_cases e_code : d.code = d2.code
  rotate_left
  · have q_code : (d.code != d2.code) = true := by simp [e_code]
    have HN := Lib.hid (show eqV d d2 = false by rw [HE.out]; simp [e_code])
    clear e_code
    go_wp2_with fail
    go_ret
    exact ⟨ret_bool HN.out.symm, HG.out.below g0⟩
  have q_code : (d.code != d2.code) = false := by simp [e_code]
  have E_code := Lib.hid e_code
  clear e_code
  by_cases e_env : d.env = d2.env
  rotate_left
  · have q_env : (d.env != d2.env) = true := by simp [e_env]
    have HN := Lib.hid (show eqV d d2 = false by rw [HE.out]; simp [e_env])
    clear e_env
    go_wp2_with fail
    go_ret
    exact ⟨ret_bool HN.out.symm, HG.out.below g0⟩
  have q_env : (d.env != d2.env) = false := by simp [e_env]
  have E_env := Lib.hid e_env
  clear e_env
  go_wp2_with fail
  refine Calls.mono (spec_l4Strings d.names d2.names _ _ _ (H3.out.below (HG.out.below g0)) (K3.out.below (HG.out.below g0))) ?_
  rintro e w3 ⟨rfl, n3, hw3⟩
  replace g0 : Ok G w3 := hw3 ▸ HG.out.drewN n3 g0
  clear hw3
  cases e_names : eqL d.names d2.names
  · have HN := Lib.hid (show eqV d d2 = false by rw [HE.out]; simp [e_names])
    clear e_names
    go_wp2_with fail
    go_ret
    exact ⟨ret_bool HN.out.symm, HG.out.below g0⟩
  have E_names := Lib.hid e_names
  clear e_names
  go_wp2_with fail
  refine Calls.mono (spec_l4Strings d.cls d2.cls _ _ _ (H4.out.below (HG.out.below g0)) (K4.out.below (HG.out.below g0))) ?_
  rintro e w4 ⟨rfl, n4, hw4⟩
  replace g0 : Ok G w4 := hw4 ▸ HG.out.drewN n4 g0
  clear hw4
  cases e_cls : eqL d.cls d2.cls
  · have HN := Lib.hid (show eqV d d2 = false by rw [HE.out]; simp [e_cls])
    clear e_cls
    go_wp2_with fail
    go_ret
    exact ⟨ret_bool HN.out.symm, HG.out.below g0⟩
  have E_cls := Lib.hid e_cls
  clear e_cls
  go_wp2_with fail
  refine Calls.mono (spec_l4Strings d.levels d2.levels _ _ _ (H5.out.below (HG.out.below g0)) (K5.out.below (HG.out.below g0))) ?_
  rintro e w5 ⟨rfl, n5, hw5⟩
  replace g0 : Ok G w5 := hw5 ▸ HG.out.drewN n5 g0
  clear hw5
  cases e_levels : eqL d.levels d2.levels
  · have HN := Lib.hid (show eqV d d2 = false by rw [HE.out]; simp [e_levels])
    clear e_levels
    go_wp2_with fail
    go_ret
    exact ⟨ret_bool HN.out.symm, HG.out.below g0⟩
  have E_levels := Lib.hid e_levels
  clear e_levels
  go_wp2_with fail
  have ES := Lib.hid (show eqV d d2 = ((d.items.zip d2.items).all (fun q => eqI q.1 q.2) && (d.parts.zip d2.parts).all fun q => eqV q.1 q.2) by
    rw [HE.out]
    simp [E_kind.out, E_code.out, E_env.out, E_names.out, E_cls.out, E_levels.out, E_items.out, E_parts.out])
  go_loopw [5] (fun i wr => ∃ k : Nat, k ≤ d.items.length ∧ i = .int .i64 k ∧ Hid (∀ j (h1 : j < d.items.length) (h2 : j < d2.items.length), j < k → eqI d.items[j] d2.items[j] = true) ∧ Ok G wr) (fun i _ => d.items.length - (intOf i).toNat)
  case atStart => exact ⟨0, Nat.zero_le _, rfl, fun j _ _ hj => absurd hj (by omega), g0⟩
  case round =>
    clear g0
    obtain ⟨k, hk, rfl, HA, g0⟩ := hrel
    by_cases hlt : k < d.items.length
    · have hlt2 : k < d2.items.length := by have := E_items.out; omega
      have HQ := Lib.hid (show eqI d.items[k] d2.items[k] = ((d.items[k].num == d2.items[k].num) && (d.items[k].den == d2.items[k].den) && (d.items[k].text == d2.items[k].text)) from rfl)
      have HNO := Lib.hid (fun hq : eqI d.items[k] d2.items[k] = false => show eqV d d2 = false by rw [ES.out, zip_no eqI k hlt hlt2 hq]; rfl)
      obtain ⟨b, off, cs, rfl, hbl, _, hat, hr⟩ := HI.out k hlt
      obtain ⟨rfl, _⟩ := hr
      obtain ⟨p0, p1, p2⟩ := pk_e3 HG hbl hat
      clear hat
      obtain ⟨b', off', cs', rfl, hbl2, _, hat2, hr⟩ := KI.out k hlt2
      obtain ⟨rfl, _⟩ := hr
      obtain ⟨q0, q1, q2⟩ := pk_e3 HG hbl2 hat2
      clear hat2
      cases c1 : (d.items[k].num == d2.items[k].num) <;> cases c2 : (d.items[k].den == d2.items[k].den) <;> cases c3 : (d.items[k].text == d2.items[k].text)
      all_goals
        rw [c1, c2, c3] at HQ
        go_wp2_with fail
        go_quiet (fail)
        replace g0 := HG.out.step g0 (below_drewN (Below.refl _ _) nq)
        go_wp2_with fail
      iterate 7
        · go_ret
          exact ⟨ret_bool (HNO.out (by rw [HQ.out]; rfl)).symm, HG.out.below g0⟩
      · go_roundw
        case rel => exact ⟨k + 1, by omega, by go_num, fun j h1 h2 hj => by rcases Nat.lt_succ_iff_lt_or_eq.1 hj with h3 | rfl; exact HA.out j h1 h2 h3; rw [HQ.out]; rfl, g0⟩
        case measure => simp [intOf]; omega
    · obtain rfl : k = d.items.length := by omega
      have EI := Lib.hid (show ((d.items.zip d2.items).all fun q => eqI q.1 q.2) = true from zip_yes eqI E_items.out fun j h1 h2 => HA.out j h1 h2 (by omega))
      have EP := Lib.hid (show eqV d d2 = (d.parts.zip d2.parts).all fun q => eqV q.1 q.2 by rw [ES.out, EI.out]; rfl)
      clear hlt hk HA ES EI
      go_wp2_with fail
      go_loopw [6] (fun i wr => ∃ k : Nat, k ≤ d.parts.length ∧ i = .int .i64 k ∧ Hid (∀ j (h1 : j < d.parts.length) (h2 : j < d2.parts.length), j < k → eqV d.parts[j] d2.parts[j] = true) ∧ Ok G wr) (fun i _ => d.parts.length - (intOf i).toNat)
      case atStart => exact ⟨0, Nat.zero_le _, rfl, fun j _ _ hj => absurd hj (by omega), g0⟩
      case round =>
        clear g0
        obtain ⟨k, hk, rfl, HA, g0⟩ := hrel
        by_cases hlt : k < d.parts.length
        · have hlt2 : k < d2.parts.length := by have := E_parts.out; omega
          have HNO := Lib.hid (fun hq : eqV d.parts[k] d2.parts[k] = false => show eqV d d2 = false by rw [EP.out, zip_no eqV k hlt hlt2 hq])
          obtain ⟨b, off, cs, rfl, hbl, _, hat, hr⟩ := HP.out k hlt
          have HRK := Lib.hid hr
          obtain ⟨r1, r2, r3, r4, r5, rfl⟩ := hr.shape
          clear hr
          obtain ⟨p0, p1, p2, p3, p4, p5, p6, p7⟩ := pk_e8 HG hbl hat
          clear hat
          obtain ⟨b', off', cs', rfl, hbl2, _, hat2, hr⟩ := KP.out k hlt2
          have HRL := Lib.hid hr
          obtain ⟨s1, s2, s3, s4, s5, rfl⟩ := hr.shape
          clear hr
          obtain ⟨q0, q1, q2, q3, q4, q5, q6, q7⟩ := pk_e8 HG hbl2 hat2
          clear hat2
          go_wp2_with fail
          go_still_tail 10, (by kernel_rfl)
          change wpList _ _ _ _ _ wr.drew
          replace g0 := HG.out.drew g0
          generalize wr.drew = w6 at g0 ⊢
          go_wp2_with fail
          refine Calls.mono (IH.out d.parts[k] d2.parts[k] _ _ _ (HRK.out.below (HG.out.below g0)) (HRL.out.below (HG.out.below g0))) ?_
          rintro e w7 ⟨rfl, hb⟩
          replace g0 := HG.out.step g0 hb
          clear hb
          cases hq : eqV d.parts[k] d2.parts[k]
          · have HN := Lib.hid (HNO.out hq)
            clear hq
            go_wp2_with fail
            go_ret
            exact ⟨ret_bool HN.out.symm, HG.out.below g0⟩
          · have HY := Lib.hid hq
            clear hq
            go_wp2_with fail
            go_roundw
            case rel => exact ⟨k + 1, by omega, by go_num, fun j h1 h2 hj => by rcases Nat.lt_succ_iff_lt_or_eq.1 hj with h3 | rfl; exact HA.out j h1 h2 h3; exact HY.out, g0⟩
            case measure => simp [intOf]; omega
        · obtain rfl : k = d.parts.length := by omega
          have HY := Lib.hid (show eqV d d2 = true by rw [EP.out]; exact zip_yes eqV E_parts.out fun j h1 h2 => HA.out j h1 h2 (by omega))
          go_wp2_with fail
          go_ret
          exact ⟨ret_bool HY.out.symm, HG.out.below g0⟩
theorem spec_l4Same_all : ∀ n, spec_l4SameC n
  | 0 => fun _ _ _ _ _ h => h.elim
  | n + 1 => spec_l4Same_step n (spec_l4Same_all n)
def impl_equalC (n : Nat) : Prop := ∀ (d d2 : VecD) (cs cs2 : List Value) (w : World), VectorR n w cs d → VectorR n w cs2 d2 →
    Calls Tryz.prog 101 #[.agg cs.toArray, .agg cs2.toArray] w fun e w2 => e = .returned (.bool (eqV d d2)) ∧ Below w.heap.size w w2
set_option maxHeartbeats 8000000 in
theorem impl_equal_step (n : Nat) (ih : impl_equalC n) : impl_equalC (n + 1) := by
  intro d d2 cs cs2 w h h2
  have IH := Lib.hid ih
  clear ih
  obtain ⟨v1, v2, v3, v4, v5, rfl, _, h1, h2', h3, h4, h5, _, _⟩ := h
  obtain ⟨u1, u2, u3, u4, u5, rfl, _, k1, k2, k3, k4, k5, _, _⟩ := h2
  obtain ⟨A1, a1, rfl, la1, ma1, HI⟩ := SlR.open_ h1
  obtain ⟨A2, a2, rfl, la2, ma2, HP⟩ := SlR.open_ h2'
  obtain ⟨B1, b1, rfl, lb1, mb1, KI⟩ := SlR.open_ k1
  obtain ⟨B2, b2, rfl, lb2, mb2, KP⟩ := SlR.open_ k2
  have H3 := Lib.hid h3
  have H4 := Lib.hid h4
  have H5 := Lib.hid h5
  have K3 := Lib.hid k3
  have K4 := Lib.hid k4
  have K5 := Lib.hid k5
  clear h1 h2' h3 h4 h5 k1 k2 k3 k4 k5
  unfold maxLen at ma1 ma2 mb1 mb2
  have HE := Lib.hid (eqV_eq d d2)
  obtain ⟨G, g0, HG, BX, BY⟩ := good2 w 61 [.int .i64 d.kind, .slice A1 d.items.length a1, .slice A2 d.parts.length a2, v3, v4, v5, .int .i64 d.code, .int .i64 d.env] 61 [.int .i64 d2.kind, .slice B1 d2.items.length b1, .slice B2 d2.parts.length b2, u3, u4, u5, .int .i64 d2.code, .int .i64 d2.env]
  obtain ⟨x0, x1, x2, x3, x4, x5, x6, x7⟩ := pk_f8 BX
  obtain ⟨y0, y1, y2, y3, y4, y5, y6, y7⟩ := pk_f8 BY
  go_enter Tryz.func101, Tryz.ntmps101
  go_upto_region 1 with fail
  refine gen_w g0 ?_
  clear g0
  intro W0 g0
  by_cases e_kind : d.kind = d2.kind
  rotate_left
  · have q_kind : (d.kind != d2.kind) = true := by simp [e_kind]
    have HN := Lib.hid (show eqV d d2 = false by rw [HE.out]; simp [e_kind])
    clear e_kind
    go_wp2_with fail
    go_ret
    exact ⟨ret_bool HN.out.symm, HG.out.below g0⟩
  have q_kind : (d.kind != d2.kind) = false := by simp [e_kind]
  have E_kind := Lib.hid e_kind
  clear e_kind
  by_cases e_code : d.code = d2.code
  rotate_left
  · have q_code : (d.code != d2.code) = true := by simp [e_code]
    have HN := Lib.hid (show eqV d d2 = false by rw [HE.out]; simp [e_code])
    clear e_code
    go_wp2_with fail
    go_ret
    exact ⟨ret_bool HN.out.symm, HG.out.below g0⟩
  have q_code : (d.code != d2.code) = false := by simp [e_code]
  have E_code := Lib.hid e_code
  clear e_code
  by_cases e_env : d.env = d2.env
  rotate_left
  · have q_env : (d.env != d2.env) = true := by simp [e_env]
    have HN := Lib.hid (show eqV d d2 = false by rw [HE.out]; simp [e_env])
    clear e_env
    go_wp2_with fail
    go_ret
    exact ⟨ret_bool HN.out.symm, HG.out.below g0⟩
  have q_env : (d.env != d2.env) = false := by simp [e_env]
  have E_env := Lib.hid e_env
  clear e_env
  go_wp2_with fail
  refine Calls.mono (impl_sameTexts d.names d2.names _ _ _ (H3.out.below (HG.out.below g0)) (K3.out.below (HG.out.below g0))) ?_
  rintro e w3 ⟨rfl, n3, hw3⟩
  replace g0 : Ok G w3 := hw3 ▸ HG.out.drewN n3 g0
  clear hw3
  cases e_names : eqL d.names d2.names
  · have HN := Lib.hid (show eqV d d2 = false by rw [HE.out]; simp [e_names])
    clear e_names
    go_wp2_with fail
    go_ret
    exact ⟨ret_bool HN.out.symm, HG.out.below g0⟩
  have E_names := Lib.hid e_names
  clear e_names
  go_wp2_with fail
  refine Calls.mono (impl_sameTexts d.cls d2.cls _ _ _ (H4.out.below (HG.out.below g0)) (K4.out.below (HG.out.below g0))) ?_
  rintro e w4 ⟨rfl, n4, hw4⟩
  replace g0 : Ok G w4 := hw4 ▸ HG.out.drewN n4 g0
  clear hw4
  cases e_cls : eqL d.cls d2.cls
  · have HN := Lib.hid (show eqV d d2 = false by rw [HE.out]; simp [e_cls])
    clear e_cls
    go_wp2_with fail
    go_ret
    exact ⟨ret_bool HN.out.symm, HG.out.below g0⟩
  have E_cls := Lib.hid e_cls
  clear e_cls
  go_wp2_with fail
  refine Calls.mono (impl_sameTexts d.levels d2.levels _ _ _ (H5.out.below (HG.out.below g0)) (K5.out.below (HG.out.below g0))) ?_
  rintro e w5 ⟨rfl, n5, hw5⟩
  replace g0 : Ok G w5 := hw5 ▸ HG.out.drewN n5 g0
  clear hw5
  cases e_levels : eqL d.levels d2.levels
  · have HN := Lib.hid (show eqV d d2 = false by rw [HE.out]; simp [e_levels])
    clear e_levels
    go_wp2_with fail
    go_ret
    exact ⟨ret_bool HN.out.symm, HG.out.below g0⟩
  have E_levels := Lib.hid e_levels
  clear e_levels
  by_cases e_items : d.items.length = d2.items.length
  rotate_left
  · have q_items : ((d.items.length : Int) != (d2.items.length : Int)) = true := by simp; omega
    have HN := Lib.hid (show eqV d d2 = false by rw [HE.out]; simp [e_items])
    clear e_items
    go_wp2_with fail
    go_ret
    exact ⟨ret_bool HN.out.symm, HG.out.below g0⟩
  have q_items : ((d.items.length : Int) != (d2.items.length : Int)) = false := by simp; omega
  have E_items := Lib.hid e_items
  clear e_items
  by_cases e_parts : d.parts.length = d2.parts.length
  rotate_left
  · have q_parts : ((d.parts.length : Int) != (d2.parts.length : Int)) = true := by simp; omega
    have HN := Lib.hid (show eqV d d2 = false by rw [HE.out]; simp [e_parts])
    clear e_parts
    go_wp2_with fail
    go_ret
    exact ⟨ret_bool HN.out.symm, HG.out.below g0⟩
  have q_parts : ((d.parts.length : Int) != (d2.parts.length : Int)) = false := by simp; omega
  have E_parts := Lib.hid e_parts
  clear e_parts
  go_wp2_with fail
  have ES := Lib.hid (show eqV d d2 = ((d.items.zip d2.items).all (fun q => eqI q.1 q.2) && (d.parts.zip d2.parts).all fun q => eqV q.1 q.2) by
    rw [HE.out]
    simp [E_kind.out, E_code.out, E_env.out, E_names.out, E_cls.out, E_levels.out, E_items.out, E_parts.out])
  go_loopw [71] (fun i wr => ∃ k : Nat, k ≤ d.items.length ∧ i = .int .i64 k ∧ Hid (∀ j (h1 : j < d.items.length) (h2 : j < d2.items.length), j < k → eqI d.items[j] d2.items[j] = true) ∧ Ok G wr) (fun i _ => d.items.length - (intOf i).toNat)
  case atStart => exact ⟨0, Nat.zero_le _, rfl, fun j _ _ hj => absurd hj (by omega), g0⟩
  case round =>
    clear g0
    obtain ⟨k, hk, rfl, HA, g0⟩ := hrel
    by_cases hlt : k < d.items.length
    · have hlt2 : k < d2.items.length := by have := E_items.out; omega
      have HQ := Lib.hid (show eqI d.items[k] d2.items[k] = ((d.items[k].num == d2.items[k].num) && (d.items[k].den == d2.items[k].den) && (d.items[k].text == d2.items[k].text)) from rfl)
      have HNO := Lib.hid (fun hq : eqI d.items[k] d2.items[k] = false => show eqV d d2 = false by rw [ES.out, zip_no eqI k hlt hlt2 hq]; rfl)
      obtain ⟨b, off, cs, rfl, hbl, _, hat, hr⟩ := HI.out k hlt
      obtain ⟨rfl, _⟩ := hr
      obtain ⟨p0, p1, p2⟩ := pk_e3 HG hbl hat
      clear hat
      obtain ⟨b', off', cs', rfl, hbl2, _, hat2, hr⟩ := KI.out k hlt2
      obtain ⟨rfl, _⟩ := hr
      obtain ⟨q0, q1, q2⟩ := pk_e3 HG hbl2 hat2
      clear hat2
      cases c1 : (d.items[k].num == d2.items[k].num) <;> cases c2 : (d.items[k].den == d2.items[k].den) <;> cases c3 : (d.items[k].text == d2.items[k].text)
      all_goals
        rw [c1, c2, c3] at HQ
        go_wp2_with fail
        go_quiet (fail)
        replace g0 := HG.out.step g0 (below_drewN (Below.refl _ _) nq)
        go_wp2_with fail
      iterate 7
        · go_ret
          exact ⟨ret_bool (HNO.out (by rw [HQ.out]; rfl)).symm, HG.out.below g0⟩
      · go_roundw
        case rel => exact ⟨k + 1, by omega, by go_num, fun j h1 h2 hj => by rcases Nat.lt_succ_iff_lt_or_eq.1 hj with h3 | rfl; exact HA.out j h1 h2 h3; rw [HQ.out]; rfl, g0⟩
        case measure => simp [intOf]; omega
    · obtain rfl : k = d.items.length := by omega
      have EI := Lib.hid (show ((d.items.zip d2.items).all fun q => eqI q.1 q.2) = true from zip_yes eqI E_items.out fun j h1 h2 => HA.out j h1 h2 (by omega))
      have EP := Lib.hid (show eqV d d2 = (d.parts.zip d2.parts).all fun q => eqV q.1 q.2 by rw [ES.out, EI.out]; rfl)
      clear hlt hk HA ES EI
      go_wp2_with fail
      go_loopw [89] (fun i wr => ∃ k : Nat, k ≤ d.parts.length ∧ i = .int .i64 k ∧ Hid (∀ j (h1 : j < d.parts.length) (h2 : j < d2.parts.length), j < k → eqV d.parts[j] d2.parts[j] = true) ∧ Ok G wr) (fun i _ => d.parts.length - (intOf i).toNat)
      case atStart => exact ⟨0, Nat.zero_le _, rfl, fun j _ _ hj => absurd hj (by omega), g0⟩
      case round =>
        clear g0
        obtain ⟨k, hk, rfl, HA, g0⟩ := hrel
        by_cases hlt : k < d.parts.length
        · have hlt2 : k < d2.parts.length := by have := E_parts.out; omega
          have HNO := Lib.hid (fun hq : eqV d.parts[k] d2.parts[k] = false => show eqV d d2 = false by rw [EP.out, zip_no eqV k hlt hlt2 hq])
          obtain ⟨b, off, cs, rfl, hbl, _, hat, hr⟩ := HP.out k hlt
          have HRK := Lib.hid hr
          obtain ⟨r1, r2, r3, r4, r5, rfl⟩ := hr.shape
          clear hr
          obtain ⟨p0, p1, p2, p3, p4, p5, p6, p7⟩ := pk_e8 HG hbl hat
          clear hat
          obtain ⟨b', off', cs', rfl, hbl2, _, hat2, hr⟩ := KP.out k hlt2
          have HRL := Lib.hid hr
          obtain ⟨s1, s2, s3, s4, s5, rfl⟩ := hr.shape
          clear hr
          obtain ⟨q0, q1, q2, q3, q4, q5, q6, q7⟩ := pk_e8 HG hbl2 hat2
          clear hat2
          go_wp2_with fail
          go_still_tail 10, (by kernel_rfl)
          change wpList _ _ _ _ _ wr.drew
          replace g0 := HG.out.drew g0
          generalize wr.drew = w6 at g0 ⊢
          go_wp2_with fail
          refine Calls.mono (IH.out d.parts[k] d2.parts[k] _ _ _ (HRK.out.below (HG.out.below g0)) (HRL.out.below (HG.out.below g0))) ?_
          rintro e w7 ⟨rfl, hb⟩
          replace g0 := HG.out.step g0 hb
          clear hb
          cases hq : eqV d.parts[k] d2.parts[k]
          · have HN := Lib.hid (HNO.out hq)
            clear hq
            go_wp2_with fail
            go_ret
            exact ⟨ret_bool HN.out.symm, HG.out.below g0⟩
          · have HY := Lib.hid hq
            clear hq
            go_wp2_with fail
            go_roundw
            case rel => exact ⟨k + 1, by omega, by go_num, fun j h1 h2 hj => by rcases Nat.lt_succ_iff_lt_or_eq.1 hj with h3 | rfl; exact HA.out j h1 h2 h3; exact HY.out, g0⟩
            case measure => simp [intOf]; omega
        · obtain rfl : k = d.parts.length := by omega
          have HY := Lib.hid (show eqV d d2 = true by rw [EP.out]; exact zip_yes eqV E_parts.out fun j h1 h2 => HA.out j h1 h2 (by omega))
          go_wp2_with fail
          go_ret
          exact ⟨ret_bool HY.out.symm, HG.out.below g0⟩
theorem impl_equal_all : ∀ n, impl_equalC n
  | 0 => fun _ _ _ _ _ h => h.elim
  | n + 1 => impl_equal_step n (impl_equal_all n)
theorem impl_equal_eq (d d2 : VecD) (cs cs2 : List Value) (w : World) (h : VecR w cs d) (h2 : VecR w cs2 d2) :
    Calls Tryz.prog 101 #[.agg cs.toArray, .agg cs2.toArray] w fun e w2 => e = .returned (.bool (eqV d d2)) ∧ Below w.heap.size w w2 := by
  obtain ⟨n, h⟩ := h
  obtain ⟨m, h2⟩ := h2
  exact impl_equal_all (max n m) d d2 cs cs2 w (h.le (Nat.le_max_left _ _)) (h2.le (Nat.le_max_right _ _))
end Go.Proofs.YtjdfancbmjnjfaaGreat
