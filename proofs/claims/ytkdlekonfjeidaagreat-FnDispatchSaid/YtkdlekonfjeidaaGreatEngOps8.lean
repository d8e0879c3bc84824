/-
  The machine's operations against the model's: append, copy, calls.
-/
import Derived.Test.YtkdlekonfjeidaaGreatEngOps7
namespace Go.Proofs.YtkdlekonfjeidaaGreat.Eng
open Go.RowKit
set_option linter.unusedVariables false

section
variable {P : Program} {dst : Option Tmp} {ty : TypeId} {pos : String} {after : Array Edge} {guard : Option (Nat × Bool)}

/-- what is appended or copied -/
theorem src_some {h : Hp} {s : Nat} {y : CV} {m : Nat} {ys : List CV} (e : srcC h s y = some (m, ys)) {ρ : Rn} {B : Nat} {w : World} (H : HRel ρ h B w) {u : Value} (hy : VRel ρ y u) {tx : TypeId} (hk : (∃ e', P.underlying tx = some (.slice e')) ∨ P.underlying tx = some .string) :
    ∃ us, Src P s tx u m us w ∧ VRels ρ ys us ∧ ∀ c ∈ ys, c.one = true := by
  cases y <;> first | (cases e; done) | skip
  case nils =>
    injection e with e
    injection e with e1 e2
    subst e1 e2
    obtain rfl := hy.nilsI
    exact ⟨[], ⟨hk, fun _ => rfl, run_firstCells_none w s 0 0 0, run_firstCells_none w.drew s 0 0 0, by simp, fun _ h => by cases h⟩, .nil ρ, fun c hc => by cases hc⟩
  case sl id off len z =>
    obtain ⟨l, h1, h2⟩ := oc_inv (show oc (rd h id off (Nat.mul len s)) none _ = some (m, ys) from e)
    injection h2 with h2
    injection h2 with e1 e2
    subst e1 e2
    obtain ⟨ri, ad, cap, k1, rfl, k2, k3⟩ := hy.slI
    obtain ⟨vs, g1, g2, g3, g4⟩ := rd_some H k1 h1
    have hc : ∀ j v, vs[j]? = some v → w.cell? (ad.add j) = some v := fun j v hj => by
      rcases k3 with ⟨rfl, _⟩ | k3
      · rw [Addr.add_mid]; exact g4 j v hj
      · have := (List.getElem?_eq_some_iff.1 hj).1
        rw [g2] at this
        have h0 : len = 0 := by omega
        subst h0
        simp at this
    have h1' := one_of g1 g3
    exact ⟨vs, ⟨hk, fun _ => rfl, run_firstCells_some w s len ad len cap vs g2 hc, run_firstCells_some w.drew s len ad len cap vs g2 (by simpa using hc), g2, h1'⟩, g1, g3⟩
  case str l =>
    have e' : bc (Nat.beq s 1) (some (l.length, mapB l)) none = some (m, ys) := by
      have : srcC h s (.str l) = force (llen l) fun n => bc (Nat.beq s 1) (some (n, mapB l)) none := rfl
      rw [this, force_eq, llen_eq] at e
      exact e
    obtain ⟨h1, h2⟩ := bc_inv e'
    have hs1 := Nat.eq_of_beq_eq_true h1
    subst hs1
    injection h2 with h2
    injection h2 with e1 e2
    subst e1 e2
    obtain ⟨sv, rfl, hsv⟩ := hy.strI
    have hl : l.length = sv.size := by rw [← hsv]; simp
    rw [hl]
    refine ⟨byteCells sv, ⟨hk, fun _ => rfl, firstCells_string sv w, firstCells_string sv w.drew, by rw [byteCells_length, Nat.mul_one], fun u hu => by obtain ⟨_, _, rfl⟩ := List.mem_map.1 hu; rfl⟩, ?_, mapB_one l⟩
    rw [← hsv]
    exact mapB_rel ρ sv

/-- a new block, with the next number -/
theorem newN_rel {ρ : Rn} {h : Hp} {B : Nat} {w w' : World} (H : HRel ρ h B w) (hB : B ≤ w.heap.size) (hn : h.next < 32768) (hf : ρ h.next = none) (n : NW) (tot : Nat) (hw : NewCells ρ w w' n tot) :
    HRel (updR ρ h.next ⟨w.heap.size, tot⟩) (addN (h.setN (h.next + 1)) h.next n) B w' ∧ Step h.next (h.next + 1) ρ h w (updR ρ h.next ⟨w.heap.size, tot⟩) (addN (h.setN (h.next + 1)) h.next n) w' := by
  obtain ⟨h1, h2⟩ := new_add (H.heapEq (h' := h.setN (h.next + 1)) (fun _ _ => rfl) (fun _ _ => rfl)) hB h.next hn hf n tot hw
  exact ⟨h1, h2.heapEq (fun _ _ => rfl) (fun _ _ => rfl)⟩
theorem newN_some {β : Type} {h : Hp} {n : NW} {k : CV → Hp → Option β} {r : β} (e : newN h n k = some r) : h.next < 32768 ∧ k (n.val h.next) (addN (h.setN (h.next + 1)) h.next n) = some r := by
  unfold newN at e
  rw [force_eq] at e
  obtain ⟨h1, h2⟩ := bc_inv e
  exact ⟨Nat.lt_succ_of_le (Nat.le_of_ble_eq_true h1), h2⟩

/-- APPEND -/
theorem append_run {h h' : Hp} {t t' ty0 : TypeId} {x y c : CV} (ht' : (Nat.beq t t' || isStrT P t') = true) (e : appendC P h t x y = some (c, h')) {ρ : Rn} {B : Nat} {w : World} (H : HRel ρ h B w) (hB : B ≤ w.heap.size) {ux uy : Value} (hx : VRel ρ x ux) (hy : VRel ρ y uy) (hF : Fresh ρ h.next h'.next) :
    ∃ v w' ρ', (Builtin.append_ #[t, t'] ty0 #[ux, uy]).run P w = .ok v w' ∧ HRel ρ' h' B w' ∧ Step h.next h'.next ρ h w ρ' h' w' ∧ VRel ρ' c v := by
  obtain ⟨s, h1, h2⟩ := oc_inv e
  obtain ⟨⟨m, ys⟩, h3, h4⟩ := oc_inv h2
  have hel : ∃ el, elemT P t = some el := by
    unfold rowSz at h1
    split at h1
    · exact ⟨_, by assumption⟩
    · cases h1
  obtain ⟨el, hel⟩ := hel
  have hu := elemT_some hel
  obtain ⟨i, z, q1, q2, q3, q4, q5, q6⟩ := rowSz_some h1 hel
  have hk : (∃ e', P.underlying t' = some (.slice e')) ∨ P.underlying t' = some .string := by
    simp only [Bool.or_eq_true] at ht'
    rcases ht' with ht' | ht'
    · rw [← Nat.eq_of_beq_eq_true ht']; exact .inl ⟨el, hu⟩
    · unfold isStrT at ht'
      split at ht'
      · exact .inr (by assumption)
      · cases ht'
  obtain ⟨us, hs, hys, hyo⟩ := src_some (P := P) h3 H hy hk
  have hul := hs.newsLen
  unfold appTo at h4
  obtain ⟨h5, h6⟩ := bc_inv h4
  have hm : m ≤ 1048576 := Nat.le_of_ble_eq_true h5
  rw [← q3] at hs
  cases x <;> first | (cases h6; done) | skip
  case nils =>
    obtain rfl := hx.nilsI
    have h6' : bc (Nat.beq m 0) (some (CV.nils, h)) (newN h (.row m s ys) mk2) = some (c, h') := h6
    cases hm0 : Nat.beq m 0 with
    | true =>
      rw [hm0, bc_true] at h6'
      injection h6' with h6'
      injection h6' with e1 e2
      subst e1 e2
      have := Nat.eq_of_beq_eq_true hm0
      subst this
      refine ⟨.slice none 0 0, w, ρ, ?_, H, Step.refl _ _ _ _ _, .nils⟩
      rcases hk with ⟨e', hk⟩ | hk <;> simp [Builtin.append_, run_underlying hu, run_underlying hk, sizeOf, run_info q1, hs.len, hs.cells]
    | false =>
      rw [hm0, bc_false] at h6'
      have hmne : m ≠ 0 := fun h0 => by subst h0; cases hm0
      obtain ⟨hn, h7⟩ := newN_some h6'
      injection h7 with h7
      injection h7 with e1 e2
      subst e1 e2
      rw [addN_next] at hF
      have hf : ρ h.next = none := hF h.next (Nat.le_refl _) (Nat.lt_succ_self _)
      have hge := grownCap_ge w (0 + m) 0 el
      have hrun := run_append_grow_src (P := P) w t t' ty0 el i z hu q1 q2 none 0 0 [] (run_firstCells_none w.drew i.size 0 0 0) uy m us hs (by omega) (by omega) (growslice_fits (by omega) (by
        have : (0 + m) * i.bytes ≤ 1048576 * 1048576 := Nat.mul_le_mul (by omega) q5
        omega))
      have hzc : (Builtin.zeroCells z.cells (grownCap w (0 + m) 0 el - (0 + m))).toList.length = (grownCap w (0 + m) 0 el - (0 + m)) * s := by simp [size_zeroCells, q4]
      have hNC : NewCells ρ w (w.drew.alloc (.cells (([] ++ us).toArray ++ Builtin.zeroCells z.cells (grownCap w (0 + m) 0 el - (0 + m))) el)) (.row m s ys) (us ++ (Builtin.zeroCells z.cells (grownCap w (0 + m) 0 el - (0 + m))).toList).length := by
        refine ⟨rfl, rfl, rfl, us, (Builtin.zeroCells z.cells (grownCap w (0 + m) 0 el - (0 + m))).toList, el, (0, 0), ?_, fun o _ => by simp, hys, hyo, rfl⟩
        have : ([] ++ us).toArray ++ Builtin.zeroCells z.cells (grownCap w (0 + m) 0 el - (0 + m)) = (us ++ (Builtin.zeroCells z.cells (grownCap w (0 + m) 0 el - (0 + m))).toList).toArray := by
          apply Array.ext'
          simp
        rw [this]
        simp [World.alloc, World.drew, -World.alloc_eq, -World.drew_eq]
      obtain ⟨p1, p2⟩ := newN_rel H hB hn hf (.row m s ys) _ hNC
      refine ⟨_, _, _, hrun, p1, by rw [addN_next]; exact p2, ?_⟩
      show VRel _ (.sl h.next 0 m s) _
      have h0m : 0 + m = m := by omega
      rw [h0m] at hge hzc ⊢
      refine .sl h.next 0 m s _ _ _ (updR_same _ _ _) hge (.inl ⟨rfl, ?_⟩)
      show 0 + grownCap w m 0 el * s ≤ (us ++ _).length
      rw [List.length_append, hul, hzc, ← Nat.add_mul]
      have : m + (grownCap w m 0 el - m) = grownCap w m 0 el := by omega
      rw [this]
      omega
  case sl id off len z' =>
    obtain ⟨h7, h8⟩ := bc_inv (show bc (Nat.ble len 1048576 && Nat.beq s z' && Nat.beq off 0) (appSl h s id len m ys) none = some (c, h') from h6)
    simp only [Bool.and_eq_true] at h7
    have hlen : len ≤ 1048576 := Nat.le_of_ble_eq_true h7.1.1
    have ez := Nat.eq_of_beq_eq_true h7.1.2
    have eo := Nat.eq_of_beq_eq_true h7.2
    subst ez eo
    obtain ⟨co, hg, h9⟩ := oc_inv h8
    cases co with
    | box cs => cases h9
    | map l => cases h9
    | row cs fam =>
      have h9' : (force (Nat.mul len s) fun e' => appFam h s fam len m e' cs ys) = some (c, h') := h9
      rw [force_eq] at h9'
      obtain ⟨l, hl, h10⟩ := oc_inv h9'
      obtain ⟨h11, h12⟩ := bc_inv h10
      rw [llen_eq] at h11
      have he : len * s ≤ cs.length := Nat.le_of_ble_eq_true h11
      unfold appNew at h12
      rw [pc_eq, force_eq, killL_next] at h12
      obtain ⟨h13, h14⟩ := bc_inv h12
      have hn : h.next < 32768 := Nat.lt_succ_of_le (Nat.le_of_ble_eq_true h13)
      rw [force_eq] at h14
      injection h14 with h14
      injection h14 with e1 e2
      rw [lapp_eq, ltake_eq] at e2
      subst e1
      have hnx : h'.next = h.next + 1 := by rw [← e2]; unfold Hp.rowAt; rw [force_eq]; rw [Hp.next_putF, Hp.next_newAt]
      rw [hnx] at hF ⊢
      have hf : ρ h.next = none := hF h.next (Nat.le_refl _) (Nat.lt_succ_self _)
      obtain ⟨ri, ad, cap, k1, rfl, k2, k3⟩ := hx.slI
      have hlt := H.lt id ri k1
      obtain ⟨_, hO⟩ := H.at k1 hg
      have hadd : Nat.add len m = len + m := rfl
      by_cases hroom : len + m ≤ cap
      · rcases k3 with ⟨rfl, k4⟩ | k3
        · have htot : len * s + us.length ≤ ri.tot := by
            rw [hul, ← Nat.add_mul]
            have : (len + m) * s ≤ cap * s := Nat.mul_le_mul_right _ hroom
            omega
          obtain ⟨p1, p2, p3⟩ := app_in H hn hf k1 hg hl (len * s) he ys us hys hyo htot
          have hrun := run_append_room_src (P := P) w t t' ty0 el i hu q1 ri.b 0 len cap uy m us hs hroom (fun j hj => by rw [q3, Nat.zero_add]; exact (p1 j hj).1) (fun j hj => by rw [q3, Nat.zero_add]; exact (p1 j hj).2)
          rw [q3, Nat.zero_add] at hrun
          rw [← e2]
          exact ⟨_, _, _, hrun, p2, p3, .sl h.next 0 (len + m) s ri _ cap (updR_same _ _ _) hroom (.inl ⟨rfl, k4⟩)⟩
        · have hl0 : len = 0 := by omega
          have hm0 : m = 0 := by omega
          subst hl0 hm0
          have hus : us = [] := List.eq_nil_of_length_eq_zero (by rw [hul]; simp)
          subst hus
          obtain ⟨p1, p2, p3⟩ := app_in H hn hf k1 hg hl (0 * s) he ys [] hys hyo (by simp)
          rw [← e2]
          refine ⟨.slice (some ad) 0 cap, w, _, ?_, p2, p3, .sl h.next 0 (0 + 0) s ri ad cap (updR_same _ _ _) (by omega) (.inr k3)⟩
          rcases hk with ⟨e', hk⟩ | hk <;> simp [Builtin.append_, run_underlying hu, run_underlying hk, sizeOf, run_info q1, hs.len, hs.cells, storeCells]
      · obtain ⟨vs, g1, g2, g3, g4⟩ := hO.range (off := 0) (n := len * s) (by omega)
        simp only [List.drop_zero] at g1 g3
        have hcell : ∀ j v, vs[j]? = some v → w.cell? (ad.add j) = some v := fun j v hj => by
          rcases k3 with ⟨rfl, _⟩ | k3
          · rw [Addr.add_mid]; exact g4 j v hj
          · have := (List.getElem?_eq_some_iff.1 hj).1
            rw [g2] at this
            have h0 : len = 0 := by omega
            subst h0
            simp at this
        have hge := grownCap_ge w (len + m) cap el
        have hfit : (len + m) * i.bytes ≤ 140737488355328 := by
          have : (len + m) * i.bytes ≤ 2097152 * 1048576 := Nat.mul_le_mul (by omega) q5
          omega
        have hrun := run_append_grow_src (P := P) w t t' ty0 el i z hu q1 q2 (some ad) len cap vs (run_firstCells_some w.drew i.size len ad len cap vs (by rw [q3]; exact g2) (by simpa using hcell)) uy m us hs (by omega) (by omega) (growslice_fits (by omega) hfit)
        have hzc : (Builtin.zeroCells z.cells (grownCap w (len + m) cap el - (len + m))).toList.length = (grownCap w (len + m) cap el - (len + m)) * s := by simp [size_zeroCells, q4]
        obtain ⟨p1, p2⟩ := app_new (w' := w.drew.alloc (.cells ((vs ++ us).toArray ++ Builtin.zeroCells z.cells (grownCap w (len + m) cap el - (len + m))) el)) H hB hn hf hg hlt hl (len * s) he ys vs us (Builtin.zeroCells z.cells (grownCap w (len + m) cap el - (len + m))).toList el (by
          have : (vs ++ us).toArray ++ Builtin.zeroCells z.cells (grownCap w (len + m) cap el - (len + m)) = (vs ++ us ++ (Builtin.zeroCells z.cells (grownCap w (len + m) cap el - (len + m))).toList).toArray := by
            apply Array.ext'
            simp
          rw [this]
          simp [World.alloc, World.drew, -World.alloc_eq, -World.drew_eq]) rfl rfl rfl g1 hys g3 hyo
        rw [← e2]
        refine ⟨_, _, _, hrun, p1, p2, ?_⟩
        refine .sl h.next 0 (len + m) s _ _ _ (updR_same _ _ _) hge (.inl ⟨rfl, ?_⟩)
        show 0 + grownCap w (len + m) cap el * s ≤ (vs ++ us ++ _).length
        rw [List.length_append, List.length_append, hul, g2, hzc, ← Nat.add_mul, ← Nat.add_mul]
        have : len + m + (grownCap w (len + m) cap el - (len + m)) = grownCap w (len + m) cap el := by omega
        rw [this]
        omega
theorem append_ok (t t' : TypeId) (x y : Operand) : ActOk P ⟨dst, .call ⟨.builtin .append, #[x, y], #[t, t']⟩, ty, pos, after, guard⟩ (fun a h => bc (Nat.beq t t' || isStrT P t') (ev a x fun x => ev a y fun y => appendC P h t x y) none) := by
  intro ρ a act h B w c h' hT H hB e hF
  obtain ⟨h0, e⟩ := bc_inv e
  obtain ⟨c1, h1, r1⟩ := ev_some e
  obtain ⟨c2, h2, r2⟩ := ev_some h1
  obtain ⟨v, w', ρ', k1, k2, k3, k4⟩ := append_run (P := P) (ty0 := ty) h0 h2 H hB (r1 ρ act hT) (r2 ρ act hT) hF
  exact ⟨v, w', ρ', .inl (by simp [execOp, resolve, invoke, builtin, k1]), k2, k3, k4⟩
theorem append_grows (t t' : TypeId) (x y : Operand) : Grows (fun a h => bc (Nat.beq t t' || isStrT P t') (ev a x fun x => ev a y fun y => appendC P h t x y) none) := by
  intro a h c h' e
  obtain ⟨h0, e⟩ := bc_inv e
  obtain ⟨c1, h1, r1⟩ := ev_some e
  obtain ⟨c2, h2, r2⟩ := ev_some h1
  obtain ⟨s, h1, h2⟩ := oc_inv h2
  obtain ⟨⟨m, ys⟩, h3, h4⟩ := oc_inv h2
  unfold appTo at h4
  obtain ⟨h5, h6⟩ := bc_inv h4
  cases c1 with
  | nils =>
    have h6' : bc (Nat.beq m 0) (some (CV.nils, h)) (newN h (.row m s ys) mk2) = some (c, h') := h6
    cases hm0 : Nat.beq m 0 with
    | true =>
      rw [hm0, bc_true] at h6'
      injection h6' with h6'
      injection h6' with e1 e2
      subst e1 e2
      exact Nat.le_refl _
    | false =>
      rw [hm0, bc_false] at h6'
      obtain ⟨hn, h7⟩ := newN_some h6'
      injection h7 with h7
      injection h7 with e1 e2
      subst e1 e2
      rw [addN_next]
      exact Nat.le_succ _
  | sl id off len z' =>
    obtain ⟨h7, h8⟩ := bc_inv (show bc (Nat.ble len 1048576 && Nat.beq s z' && Nat.beq off 0) (appSl h s id len m ys) none = some (c, h') from h6)
    obtain ⟨co, hg, h9⟩ := oc_inv h8
    cases co with
    | box cs => cases h9
    | map l => cases h9
    | row cs fam =>
      have h9' : (force (Nat.mul len s) fun e' => appFam h s fam len m e' cs ys) = some (c, h') := h9
      rw [force_eq] at h9'
      obtain ⟨l, hl, h10⟩ := oc_inv h9'
      obtain ⟨h11, h12⟩ := bc_inv h10
      unfold appNew at h12
      rw [pc_eq, force_eq, killL_next] at h12
      obtain ⟨h13, h14⟩ := bc_inv h12
      rw [force_eq] at h14
      injection h14 with h14
      injection h14 with e1 e2
      have hnx : h'.next = h.next + 1 := by rw [← e2]; unfold Hp.rowAt; rw [force_eq]; rw [Hp.next_putF, Hp.next_newAt]
      omega
  | _ => cases h6

/-- COPY -/
theorem copy_ok (t : TypeId) (rest : List TypeId) (x y : Operand) (hk : ∀ e, elemT P t = some e → ∃ tx, (∃ e', P.underlying tx = some (.slice e')) ∨ P.underlying tx = some .string) : ActOk P ⟨dst, .call ⟨.builtin .copy, #[x, y], (t :: rest).toArray⟩, ty, pos, after, guard⟩ (fun a h => ev a x fun x => ev a y fun y => copyC P h t x y) := by
  intro ρ a act h B w c h' hT H hB e hF
  obtain ⟨c1, h1, r1⟩ := ev_some e
  obtain ⟨c2, h2, r2⟩ := ev_some h1
  obtain ⟨s, h3, h4⟩ := oc_inv h2
  obtain ⟨id, off, len, z, rfl, h5⟩ := asSl_some h4
  obtain ⟨⟨m, ys⟩, h6, h7⟩ := oc_inv h5
  rw [force_eq] at h7
  obtain ⟨h8', h8, h9⟩ := oc_inv h7
  injection h9 with h9
  injection h9 with e1 e2
  subst e1 e2
  obtain ⟨el, hu, hsz⟩ := elemSz_some h3
  have hel : elemT P t = some el := by unfold elemT; rw [hu]
  obtain ⟨tx, htx⟩ := hk el hel
  obtain ⟨us, hs, hys, hyo⟩ := src_some (P := P) h6 H (r2 ρ act hT) htx
  obtain ⟨ri, ad, cap, k1, q1, k2, k3⟩ := (r1 ρ act hT).slI
  have hmin : bc (Nat.ble m len) m len = min m len := by
    cases hb : Nat.ble m len with
    | true => have := Nat.le_of_ble_eq_true hb; rw [bc_true]; omega
    | false => have : ¬ m ≤ len := fun hle => by rw [Nat.ble_eq_true_of_le hle] at hb; cases hb
               rw [bc_false]; omega
  simp only at h8
  rw [hmin, ltake_eq] at h8
  have hul := hs.newsLen
  have hput := wr_some H k1 h8 (hys.take (min m len * s)) (fun c hc => hyo c (List.mem_of_mem_take hc))
  obtain ⟨p1, p2, p3, p4⟩ := hput
  have hfc : ∀ w0 : World, True := fun _ => trivial
  have hfirst : (Builtin.firstCells s (min m len) (act.eval y)).run P w = .ok (us.take (min m len * s)).toArray w := by
    have hc := hs.cells
    have hl := hs.len w
    have q2 := r2 ρ act hT
    cases c2 <;> first | (cases h6; done) | skip
    case nils =>
      have e2 := q2.nilsI
      rw [e2] at hc ⊢
      rw [run_firstCells_none] at hc
      rw [run_firstCells_none]
      injection hc with hc
      have : us = [] := by cases us with | nil => rfl | cons u us => simp at hc
      subst this
      simp
    case sl id2 off2 len2 z2 =>
      obtain ⟨ri2, ad2, cap2, j1, e2, j2, j3⟩ := q2.slI
      rw [e2] at hl ⊢
      have hm : len2 = m := by
        have : (Builtin.lenOf (.slice (some ad2) len2 cap2)).run P w = .ok len2 w := rfl
        rw [this] at hl
        injection hl
      subst hm
      obtain ⟨l, g1, g2⟩ := oc_inv (show oc (rd h id2 off2 (Nat.mul len2 s)) none _ = some (len2, ys) from h6)
      obtain ⟨vs, g3, g4, g5, g6⟩ := rd_some H j1 g1
      have hcell : ∀ j v, vs[j]? = some v → w.cell? (ad2.add j) = some v := fun j v hj => by
        rcases j3 with ⟨rfl, _⟩ | j3
        · rw [Addr.add_mid]; exact g6 j v hj
        · have := (List.getElem?_eq_some_iff.1 hj).1
          rw [g4] at this
          have h0 : len2 = 0 := by omega
          subst h0
          simp at this
      rw [e2, run_firstCells_some w s len2 ad2 len2 cap2 vs g4 hcell] at hc
      injection hc with hc
      have : vs = us := by simpa using hc
      subst this
      refine run_firstCells_some w s (min len2 len) ad2 len2 cap2 _ ?_ (fun j v hj => hcell j v (by
        rw [List.getElem?_take] at hj
        split at hj
        · exact hj
        · cases hj))
      rw [List.length_take, hul]
      have : min len2 len * s ≤ len2 * s := Nat.mul_le_mul_right _ (Nat.min_le_left _ _)
      omega
    case str l =>
      obtain ⟨sv, e2, hsv⟩ := q2.strI
      rw [e2] at hl hc ⊢
      have hm : sv.size = m := by
        have : (Builtin.lenOf (.string sv)).run P w = .ok sv.size w := rfl
        rw [this] at hl
        injection hl
      subst hm
      have hs1 : s = 1 := by
        have : srcC h s (.str l) = force (llen l) fun n => bc (Nat.beq s 1) (some (n, mapB l)) none := rfl
        rw [this, force_eq] at h6
        exact Nat.eq_of_beq_eq_true (bc_inv h6).1
      subst hs1
      rw [firstCells_string] at hc
      injection hc with hc
      have hus : byteCells sv = us := by simpa using hc
      subst hus
      simp only [Builtin.firstCells, Sem.run_pure, Nat.mul_one]
      congr 1
      apply Array.ext'
      simp [byteCells]
  have hstore : (match (some ad : Option Addr) with | some a => storeCells a (us.take (min m len * s)) | none => pure ()).run P w = .ok () (w.setCells ri.b off (us.take (min m len * s))) := by
    rcases k3 with ⟨rfl, _⟩ | k3
    · have := run_storeCells_cells (P := P) ri.b off (us.take (min m len * s)) 0 w (fun j hj => by simpa using (p1 j hj).1) (fun j hj => by simpa using (p1 j hj).2) (one_of (hys.take _) (fun c hc => hyo c (List.mem_of_mem_take hc)))
      simpa using this
    · have h0 : len = 0 := by omega
      subst h0
      simp [storeCells, World.setCells]
  refine ⟨goInt (min m len : Nat), _, ρ, .inl ?_, p2, p3 _ _, ?_⟩
  · simp only [execOp, resolve, invoke, builtin, Sem.run_bind, Sem.run_pure, Result.andThen_ok, Builtin.copy_, List.map_toArray, List.map_cons, List.map_nil, List.getElem?_toArray, List.getElem?_cons_zero, List.getElem?_cons_succ, run_underlying hu, q1, hs.len, run_size hsz]
    have hmm : Nat.min m len = min m len := rfl
    simp only [hmm, hfirst, Result.andThen_ok]
    simp only [] at hstore
    simp [hstore]
  · show VRel ρ (.int .i64 (.ofNat (bc (Nat.ble m len) m len))) _
    rw [hmin]
    exact .int _ _
theorem copy_grows (t : TypeId) (x y : Operand) : Grows (fun a h => ev a x fun x => ev a y fun y => copyC P h t x y) := by
  intro a h c h' e
  obtain ⟨c1, h1, r1⟩ := ev_some e
  obtain ⟨c2, h2, r2⟩ := ev_some h1
  obtain ⟨s, h3, h4⟩ := oc_inv h2
  obtain ⟨id, off, len, z, rfl, h5⟩ := asSl_some h4
  obtain ⟨⟨m, ys⟩, h6, h7⟩ := oc_inv h5
  rw [force_eq] at h7
  obtain ⟨h8', h8, h9⟩ := oc_inv h7
  injection h9 with h9
  injection h9 with e1 e2
  subst e1 e2
  rw [wr_next h8]
  exact Nat.le_refl _

/-- A CALL -/
def CallW (P : Program) (o : Oper) (f : Tm → Option (FuncId × List CV)) : Prop :=
  ∀ (ρ : Rn) (a : Tm) (act : Act) (g : FuncId) (args : List CV), TRel ρ a act.tmps → f a = some (g, args) → ∀ (fn : Func), P.funcs[g]? = some fn → fn.body.isSome = true → fn.name ≠ "runtime.NumGoroutine" →
    ∀ w : World, ∃ vs : List Value, (execOp act.eval o).run P w = .ok (.enter g vs.toArray) w ∧ VRels ρ args vs
theorem call_ok (f : Operand) (xs : Array Operand) (tys : Array TypeId) : CallW P ⟨dst, .call ⟨.value f, xs, tys⟩, ty, pos, after, guard⟩ (fun a => ev a f fun f => asFn f fun f first cap => oc (evL a xs.toList) none fun l => some (f, lapp first (lapp l cap))) := by
  intro ρ a act g args hT e fn hfn hb hnm w
  obtain ⟨c1, h1, r1⟩ := ev_some e
  obtain ⟨g', first, cap, rfl, h2⟩ := asFn_some h1
  obtain ⟨l, h3, h4⟩ := oc_inv h2
  injection h4 with h4
  injection h4 with e1 e2
  subst e1 e2
  obtain ⟨x, y, k1, k2, k3⟩ := (r1 ρ act hT).fnI
  have k4 := evL_some h3 hT
  refine ⟨x.toList ++ (xs.toList.map act.eval ++ y.toList), ?_, ?_⟩
  · have hb' : ¬ fn.body = none := fun hbb => by rw [hbb] at hb; cases hb
    simp [execOp, resolve, Deferred.ofValue, k1, invoke, callFunc, program, Sem.run, hfn, hnm, hb']
  · rw [lapp_eq, lapp_eq]
    exact k2.append (k4.append k3)
end
end Go.Proofs.YtkdlekonfjeidaaGreat.Eng
