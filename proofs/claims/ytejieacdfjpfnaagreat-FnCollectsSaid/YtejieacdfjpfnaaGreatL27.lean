/-
  The reference's marking in a store, and ReachableIn.
-/
import Derived.Test.YtejieacdfjpfnaaGreatReach
import Derived.Test.YtejieacdfjpfnaaGreatStCopy
import Derived.Test.YtejieacdfjpfnaaGreatKRand
import Derived.Test.YtejieacdfjpfnaaGreatKOk
import Derived.Test.YtejieacdfjpfnaaGreatMarkInt
import Derived.Test.YtejieacdfjpfnaaGreatKGood
import Derived.Test.YtejieacdfjpfnaaGreatSpecStore6
namespace Go.Proofs.YtejieacdfjpfnaaGreat
set_option maxRecDepth 100000
open Go.ChangeShapes Go.WideShapes Go.ChangeAt Go.RowKit Go.Deep
set_option linter.unusedVariables false
set_option maxRecDepth 100000

theorem envU_in {s : StoreD} {e : Int} (h : envU s e = true) : 0 ≤ e ∧ e < s.envs.length := by
  by_cases h0 : 0 ≤ e
  · by_cases h1 : e < s.envs.length
    · exact ⟨h0, h1⟩
    · rw [envU_big h1] at h; cases h
  · rw [envU_neg h0] at h; cases h
theorem promU_in {s : StoreD} {e : Int} (h : promU s e = true) : 0 ≤ e ∧ e < s.promises.length := by
  by_cases h0 : 0 ≤ e
  · by_cases h1 : e < s.promises.length
    · exact ⟨h0, h1⟩
    · rw [promU_big h1] at h; cases h
  · rw [promU_neg h0] at h; cases h
mutual
theorem funFit_funs {s : StoreD} : ∀ (d : VecD), funFit s d = true → ∀ f ∈ funs d, envU s f = true
  | .mk k _ p _ _ _ _ en, h, f, hf => by
    rw [funFit, Bool.and_eq_true, Bool.or_eq_true] at h
    rw [funs, List.mem_append] at hf
    rcases hf with hf | hf
    · by_cases hk : k = 5
      · rw [if_pos hk, List.mem_singleton] at hf
        subst hf
        exact h.1.resolve_left (by simp [hk])
      · rw [if_neg hk] at hf; cases hf
    · exact funFits_funs p h.2 f hf
theorem funFits_funs {s : StoreD} : ∀ (l : List VecD), funFits s l = true → ∀ f ∈ funss l, envU s f = true
  | [], _, f, hf => by simp [funss] at hf
  | d :: l, h, f, hf => by
    rw [funFits, Bool.and_eq_true] at h
    rw [funss, List.mem_append] at hf
    rcases hf with hf | hf
    · exact funFit_funs d h.1 f hf
    · exact funFits_funs l h.2 f hf
end
theorem zeroV_funs {d : VecD} (h : zeroV d = true) : funs d = [] := by
  rw [zeroV_zD h]
  rfl
theorem env_ok {s : StoreD} (h : storeOk s = true) (i : Nat) (x : EnvD) (hx : s.envs[i]? = some x) : i < s.envs.length ∧ envOk s i x = true := by
  have hi := (List.getElem?_eq_some_iff.1 hx).1
  have he := (List.getElem?_eq_some_iff.1 hx).2
  have h1 : envsOk s = true := by unfold storeOk at h; simp only [Bool.and_eq_true] at h; exact h.1.2
  have h2 : envOk s i s.envs[i] = true := of_decide_eq_true h1 i hi
  rw [he] at h2
  exact ⟨hi, h2⟩
theorem env_slots {s : StoreD} (h : storeOk s = true) (i : Nat) (x : EnvD) (hx : s.envs[i]? = some x) (y : SlotD) (hy : y ∈ x.slots) : slotOk s y = true := by
  obtain ⟨hi, h2⟩ := env_ok h i x hx
  have he := (List.getElem?_eq_some_iff.1 hx).2
  unfold envOk at h2
  by_cases hu : x.used = true
  · obtain ⟨j, hj, rfl⟩ := List.getElem_of_mem hy
    have := (slots_ok h i hi (by rw [envU_at i hi, he]; exact hu)).2 j (by rw [he]; exact hj)
    simpa [he] using this
  · rw [if_neg hu] at h2
    unfold enU at h2
    simp only [Bool.and_eq_true, decide_eq_true_eq] at h2
    have : x.slots = [] := List.length_eq_zero_iff.1 h2.2
    rw [this] at hy
    cases hy
theorem env_par {s : StoreD} (h : storeOk s = true) (i : Nat) (x : EnvD) (hx : s.envs[i]? = some x) : (i = 0 → x.parent < 0) ∧ (0 < i → 0 ≤ x.parent) ∧ x.parent < s.envs.length := by
  obtain ⟨hi, h2⟩ := env_ok h i x hx
  have he := (List.getElem?_eq_some_iff.1 hx).2
  unfold envOk at h2
  by_cases hu : x.used = true
  · rw [if_pos hu, Bool.and_eq_true] at h2
    have h3 := h2.1
    unfold enA at h3
    simp only [Bool.and_eq_true, Bool.or_eq_true, Bool.not_eq_true', decide_eq_false_iff_not, beq_eq_false_iff_ne, beq_iff_eq, decide_eq_true_eq] at h3
    refine ⟨fun h0 => ?_, fun h0 => ?_, ?_⟩
    · rcases h3.1.1 with h4 | h4
      · exact absurd (by omega) h4
      · omega
    · rcases h3.1.2 with h4 | h4
      · omega
      · exact (envU_in h4.2).1
    · rcases h3.1.2 with h4 | h4
      · rcases h3.1.1 with h5 | h5
        · exact absurd (by omega) h5
        · omega
      · exact (envU_in h4.2).2
  · rw [if_neg hu] at h2
    unfold enU at h2
    simp only [Bool.and_eq_true, decide_eq_true_eq, beq_iff_eq] at h2
    refine ⟨fun h0 => ?_, fun h0 => by omega, by omega⟩
    exfalso
    subst h0
    have h5 : ((s.envs[0]?).map EnvD.used).getD false = true := by unfold storeOk at h; simp only [Bool.and_eq_true] at h; exact h.1.1.2
    rw [hx] at h5
    exact hu h5
theorem prom_at {s : StoreD} (h : storeOk s = true) (k : Nat) (p : PromD) (hp : s.promises[k]? = some p) : prOk s p = true := by
  have hi := (List.getElem?_eq_some_iff.1 hp).1
  have he := (List.getElem?_eq_some_iff.1 hp).2
  have h1 : promsOk s = true := by unfold storeOk at h; simp only [Bool.and_eq_true] at h; exact h.2
  have h2 : prOk s s.promises[k] = true := of_decide_eq_true h1 k hi
  rw [he] at h2
  exact h2
theorem storeOk_pos {s : StoreD} (h : storeOk s = true) : 0 < s.envs.length := by unfold storeOk at h; simp only [Bool.and_eq_true, decide_eq_true_eq] at h; exact h.1.1.1
theorem wf_of {s : StoreD} (h : storeOk s = true) : WF s where
  parent i x hx := (env_par h i x hx).2.2
  func i x y f hx hy hf := by
    have h1 := env_slots h i x hx y hy
    unfold slotOk slA valFit at h1
    simp only [Bool.and_eq_true] at h1
    exact envU_in (funFit_funs _ h1.1.1.1.1.2.2 f hf)
  prom i x y hx hy hk := promU_in ((slot_val (env_slots h i x hx y hy)).2.2 hk)
  proms i x y p hx hy hp := by
    have h1 := env_slots h i x hx y hy
    unfold slotOk slC slD at h1
    simp only [Bool.and_eq_true, decide_eq_true_eq] at h1
    obtain ⟨j, hj, rfl⟩ := List.getElem_of_mem hp
    exact promU_in (h1.2 j hj (by omega)).1
  penv k p hp hs := by
    have h1 := prom_at h k p hp
    unfold prOk at h1
    by_cases hu : p.used = true
    · rw [if_pos hu, Bool.and_eq_true] at h1
      have h2 := h1.1
      unfold prA at h2
      rw [Bool.and_eq_true] at h2
      exact envU_in h2.2
    · rw [if_neg hu] at h1
      unfold prU at h1
      simp only [Bool.and_eq_true, beq_iff_eq] at h1
      have := storeOk_pos h
      omega
  pfunc k p f hp hf := by
    have h1 := prom_at h k p hp
    unfold prOk at h1
    by_cases hu : p.used = true
    · rw [if_pos hu, Bool.and_eq_true] at h1
      have h2 := h1.1
      unfold prA valFit at h2
      simp only [Bool.and_eq_true] at h2
      exact envU_in (funFit_funs _ h2.1.2.2 f hf)
    · rw [if_neg hu] at h1
      unfold prU at h1
      simp only [Bool.and_eq_true, beq_iff_eq] at h1
      rw [zeroV_funs h1.2] at hf
      cases hf
theorem p0_of {s : StoreD} (h : storeOk s = true) : P0 s := fun i x hx => (env_par h i x hx).1
end Go.Proofs.YtejieacdfjpfnaaGreat
namespace Go.Proofs.YtejieacdfjpfnaaGreat
open Go.ChangeShapes Go.WideShapes Go.ChangeAt Go.RowKit Go.Deep
set_option linter.unusedVariables false
set_option maxRecDepth 100000

def RetJT (w : World) (o : List Int) (e : Ending) (w' : World) : Prop :=
  ∃ A c, e = .returned (.slice A o.length c) ∧ w'.ownsRow w.heap.size 3 1 (.slice A o.length c) o.length (o.map fun n => Value.int .i64 n) ∧ Below w.heap.size w w'
theorem retJT {w w' : World} {v : Value} {o o' : List Int} (ho : w'.ownsRow w.heap.size 3 1 v o.length (o.map fun n => Value.int .i64 n)) (he : o' = o) (hb : Below w.heap.size w w') : RetJT w o' (.returned v) w' := by
  subst he
  obtain ⟨A, c, rfl⟩ := own_shape ho
  exact ⟨A, c, rfl, ho, hb⟩
def posF (p : Nat → Bool) (n : Nat) : List Int := ((List.range n).filter fun (k : Nat) => p k).map fun (n : Nat) => (n : Int)
theorem posF_succ (p : Nat → Bool) (n : Nat) : posF p (n + 1) = posF p n ++ (if p n then [(n : Int)] else []) := by
  unfold posF
  rw [List.range_succ, List.filter_append, List.map_append]
  congr 1
  by_cases h : p n = true <;> simp [h]

set_option maxHeartbeats 1000000 in
theorem impl_marked (p : Nat → Bool) (n : Nat) (v : Value) (w : World) (h : Bools w v ((List.range n).map p)) (hn : n ≤ 1048577) :
    Calls Tryz.prog 51 #[v] w (RetJT w (posF p n)) := by
  obtain ⟨A, c, rfl, hlc, hm, HC⟩ := Bools.open_ h
  have HL := Lib.hid (show ((List.range n).map p).length = n by simp)
  rw [HL.out] at hlc ⊢
  clear h
  unfold maxLen at hm
  go_enter Tryz.func51, Tryz.ntmps51
  go_wp2_with fail
  go_loopw [3, 8] (fun q i wr => ∃ (j : Nat) (o : List Int), j ≤ n ∧ i = .int .i64 j ∧ o.length ≤ j ∧ wr.ownsRow w.heap.size 3 1 q o.length (o.map fun n => Value.int .i64 n) ∧ Hid (o = posF p j) ∧ Below w.heap.size w wr) (fun _ i _ => n - (intOf i).toNat)
  case atStart => exact ⟨0, [], Nat.zero_le _, rfl, Nat.le_refl _, World.ownsRow_nil _ _ _ _, rfl, Below.refl _ _⟩
  case round =>
    obtain ⟨j, o, hj, rfl, hol, ho, hO, hb⟩ := hrel
    have hsz := hb.size
    by_cases hlt : j < n
    · have HN := Lib.hid (posF_succ p j)
      obtain ⟨b, off, rfl, hbl, hc⟩ := HC.out j (by rw [HL.out]; exact hlt)
      have hc1 := (hb.cell (p := ⟨b, off + j, none⟩) hbl).trans hc
      clear hc
      rw [List.getElem_map, List.getElem_range] at hc1
      cases hp : p j
      · rw [hp] at hc1
        have HP := Lib.hid hp
        clear hp
        go_wp2_with fail
        go_roundw
        case rel => exact ⟨j + 1, o, by omega, by go_num, by omega, ho, by show _ = _; rw [HN.out, hO.out, HP.out]; simp, hb⟩
        case measure => simp [intOf]; omega
      · rw [hp] at hc1
        have HP := Lib.hid hp
        clear hp
        go_wp2_with (at_builtin; go_must (refine wpList_push rfl _ _ 26 rfl w.heap.size 3 (.int .i64 0) 1 8 Tryz.underlying26 info_int rfl (by decide) _ _ _ _ _ rfl rfl (by exact ho) rfl (by simp [Value.oneCell']) (by omega) (by omega) hsz ?_); intro v1 w1 ho1 _ _ hb1)
        go_roundw
        case rel =>
          refine ⟨j + 1, o ++ [(j : Int)], by omega, by go_num, by simp; omega, ?_, by show _ = _; rw [HN.out, hO.out, HP.out]; simp, hb.trans hb1⟩
          rw [List.map_append, List.length_append]; exact ho1
        case measure => simp [intOf]; omega
    · obtain rfl : j = n := by omega
      go_wp2_with fail
      go_ret
      exact retJT ho hO.out.symm hb

set_option maxHeartbeats 1000000 in
theorem spec_l27Count (p : Nat → Bool) (n : Nat) (v : Value) (w : World) (h : Bools w v ((List.range n).map p)) (hn : n ≤ 600000000000) :
    Calls Tryz.prog 136 #[v] w fun e w' => e = .returned (.int .i64 (posF p n).length) ∧ w = w' := by
  obtain ⟨A, c, rfl, hlc, hm, HC⟩ := Bools.open_ h
  have HL := Lib.hid (show ((List.range n).map p).length = n by simp)
  rw [HL.out] at hlc ⊢
  clear h
  unfold maxLen at hm
  go_enter Tryz.func136, Tryz.ntmps136
  go_wp2_with fail
  go_loop [3, 4] (fun q i => ∃ (j c : Nat), j ≤ n ∧ i = .int .i64 j ∧ c ≤ j ∧ q = .int .i64 c ∧ Hid (c = (posF p j).length)) (fun _ i => n - (intOf i).toNat)
  case atStart => exact ⟨0, 0, Nat.zero_le _, rfl, Nat.le_refl _, rfl, rfl⟩
  case round =>
    obtain ⟨j, c, hj, rfl, hcj, rfl, hO⟩ := hrel
    by_cases hlt : j < n
    · have HN := Lib.hid (posF_succ p j)
      obtain ⟨b, off, rfl, hbl, hc1⟩ := HC.out j (by rw [HL.out]; exact hlt)
      rw [List.getElem_map, List.getElem_range] at hc1
      cases hp : p j
      · rw [hp] at hc1
        have HP := Lib.hid hp
        clear hp
        go_wp2_with fail
        go_round
        case rel => exact ⟨j + 1, c, by omega, by go_num, by omega, rfl, by show _ = _; rw [HN.out, ← hO.out.symm, HP.out]; simp⟩
        case measure => simp [intOf]; omega
      · rw [hp] at hc1
        have HP := Lib.hid hp
        clear hp
        go_wp2_with fail
        go_round
        case rel => exact ⟨j + 1, c + 1, by omega, by go_num, by omega, by go_num, by show _ = _; rw [HN.out, List.length_append, ← hO.out.symm, HP.out]; simp⟩
        case measure => simp [intOf]; omega
    · obtain rfl : j = n := by omega
      go_wp2_with fail
      go_ret
      exact ⟨ret_int (by rw [hO.out]), rfl⟩
end Go.Proofs.YtejieacdfjpfnaaGreat
namespace Go.Proofs.YtejieacdfjpfnaaGreat
open Go.ChangeShapes Go.WideShapes Go.ChangeAt Go.RowKit Go.Deep
set_option linter.unusedVariables false
set_option maxRecDepth 100000
set_option maxRecDepth 100000

def bls (l : List Bool) : List Value := l.map Value.bool
theorem bls_at (l : List Bool) (i : Nat) : (bls l)[i]? = (l[i]?).map Value.bool := by simp [bls]
theorem bls_get (l : List Bool) (i : Nat) (h : i < l.length) : (bls l)[i]? = some (.bool (gB l i)) := by
  rw [bls_at, List.getElem?_eq_getElem h]
  simp [gB, List.getD_eq_getElem?_getD, List.getElem?_eq_getElem h]
theorem bls_set (l : List Bool) (i : Nat) (b : Bool) : (bls l).set i (.bool b) = bls (l.set i b) := by simp [bls, List.map_set]
/-- outside S, and below B, nothing has changed -/
theorem below_ofK {S : Nat → Prop} {B : Nat} {w w' : World} (hk : Keeps S w w') (h0 : Below 0 w w') (hs : ∀ b, b < B → S b) (hB : B ≤ w.heap.size) : Below B w w' :=
  ⟨h0.os, h0.tape, h0.output, hk.1, fun i hi => hk.2 i (by omega) (hs i hi)⟩
/-- marks in one row -/
def RetE (ge : Nat) (E : List Bool) (w : World) (e : Ending) (w' : World) : Prop := e = .returned (.tuple #[]) ∧ Blk w' ge 4 (bls E) ∧ Keeps (fun b => b ≠ ge) w w' ∧ Below 0 w w'
/-- a box, and marks in one row -/
structure MS (wb : World) (box : Nat) (bt : Nat) (xcs : List Value) (ge : Nat) (E : List Bool) (W : World) : Prop where
  bx : Blk W box bt xcs
  bE : Blk W ge 4 (bls E)
  kp : Keeps (fun b => b ≠ ge) wb W
  b0 : Below 0 wb W
theorem MS.bel {wb : World} {box bt : Nat} {xcs : List Value} {ge : Nat} {E : List Bool} {W : World} (h : MS wb box bt xcs ge E W) {B : Nat} (hB : B ≤ ge) (hw : B ≤ wb.heap.size) : Below B wb W := below_ofK h.kp h.b0 (fun b hb => by omega) hw
theorem MS.call {wb : World} {box bt : Nat} {xcs : List Value} {ge : Nat} {E E' : List Bool} {W W' : World} (h : MS wb box bt xcs ge E W) (hne : box ≠ ge) (h1 : Blk W' ge 4 (bls E')) (h2 : Keeps (fun b => b ≠ ge) W W') (h3 : Below 0 W W') : MS wb box bt xcs ge E' W' :=
  ⟨h.bx.keeps h2 hne, h1, h.kp.trans h2, h.b0.trans h3⟩
theorem MS.set {wb : World} {box bt : Nat} {xcs : List Value} {ge : Nat} {E : List Bool} {W : World} (h : MS wb box bt xcs ge E W) (hne : box ≠ ge) (i : Nat) (b : Bool) : MS wb box bt xcs ge (E.set i b) (W.setCell ⟨ge, i, none⟩ (.bool b)) :=
  ⟨h.bx.far ⟨ge, i, none⟩ hne _, by rw [← bls_set]; exact h.bE.set_ i _, h.kp.sc (fun h => h rfl) _, below_sc h.b0 (Nat.zero_le _) _⟩
theorem MS.start {w : World} {bt : Nat} {xcs : List Value} {ge : Nat} {E : List Bool} (h : Blk w ge 4 (bls E)) : MS w w.heap.size bt xcs ge E (w.alloc (.cells xcs.toArray bt)) :=
  ⟨Blk.new w bt xcs, h.alloc _, Keeps.of_below _ ((Below.refl _ _).alloc (Nat.le_refl _) _), (Below.refl _ _).alloc (Nat.zero_le _) _⟩
theorem MS.ret {wb : World} {box bt : Nat} {xcs : List Value} {ge : Nat} {E : List Bool} {W : World} (h : MS wb box bt xcs ge E W) : RetE ge E wb (.returned (.tuple #[])) W := ⟨rfl, h.bE, h.kp, h.b0⟩
theorem valM_len (d : VecD) (E : List Bool) : (valM d E).length = E.length := by
  unfold valM
  generalize funs d = l
  induction l generalizing E with
  | nil => rfl
  | cons a l ih => rw [List.foldl_cons, ih]; simp
theorem valsM_len (l : List VecD) (E : List Bool) : (l.foldl (fun E d => valM d E) E).length = E.length := by
  induction l generalizing E with
  | nil => rfl
  | cons a l ih => rw [List.foldl_cons, ih, valM_len]
theorem foldl_take_succ {α β : Type} (f : β → α → β) (b : β) (l : List α) (k : Nat) (h : k < l.length) : (l.take (k + 1)).foldl f b = f ((l.take k).foldl f b) l[k] := by
  rw [List.take_succ_eq_append_getElem h, List.foldl_append]
  rfl
theorem funs_part {d : VecD} {p : VecD} (hp : p ∈ d.parts) {f : Int} (hf : f ∈ funs p) : f ∈ funs d := by
  rw [funs_eq, List.mem_append, List.mem_flatMap]
  exact .inr ⟨p, hp, hf⟩
theorem funs_own {d : VecD} (h : d.kind = 5) : d.env ∈ funs d := by
  rw [funs_eq, if_pos h]
  simp

set_option maxHeartbeats 4000000 in
theorem spec_l27Value_n (n : Nat) : ∀ (d : VecD) (cs : List Value) (w0 w : World) (E : List Bool) (ge : Nat), VectorR n w0 cs d → Below w0.heap.size w0 w → w0.heap.size ≤ ge → Blk w ge 4 (bls E) → (∀ f ∈ funs d, 0 ≤ f ∧ f < E.length) → E.length ≤ 600000000000 →
    Calls Tryz.prog 155 #[.agg cs.toArray, .slice (some ⟨ge, 0, none⟩) E.length E.length] w (RetE ge (valM d E) w) := by
  induction n with
  | zero => intro d cs w0 w E ge h; exact h.elim
  | succ n ih =>
  intro d cs w0 w E ge h hw hge hE hf hEl
  have IH := Lib.hid ih
  clear ih
  have hgl := hE.lt
  have hws := hw.size
  have HW := Lib.hid hw
  have HF := Lib.hid hf
  clear hw hf
  obtain ⟨v1, v2, v3, v4, v5, rfl, h0, h1, h2, h3, h4, h5, h6, h7⟩ := h
  obtain ⟨A1, c1, rfl⟩ := SlR.shape h1
  obtain ⟨A2, c2, rfl⟩ := SlR.shape h2
  obtain ⟨A3, c3, rfl⟩ := SlR.shape h3
  obtain ⟨A4, c4, rfl⟩ := SlR.shape h4
  obtain ⟨A5, c5, rfl⟩ := SlR.shape h5
  obtain ⟨_, _, e2, hlc2, hm2, HC2⟩ := SlR.open_ h2
  injection e2 with e21 e22 e23
  subst e21 e23
  clear e22 h1 h2 h3 h4 h5
  unfold maxLen at hm2
  have HQ := Lib.hid (valM_eq d E)
  have g1 : Ok (MS w w.heap.size 45 [.int .i64 d.kind, .slice A1 d.items.length c1, .slice A2 d.parts.length c2, .slice A3 d.names.length c3, .slice A4 d.cls.length c4, .slice A5 d.levels.length c5, .int .i64 d.code, .int .i64 d.env] ge E) (w.alloc (.cells #[.int .i64 d.kind, .slice A1 d.items.length c1, .slice A2 d.parts.length c2, .slice A3 d.names.length c3, .slice A4 d.cls.length c4, .slice A5 d.levels.length c5, .int .i64 d.code, .int .i64 d.env] 45)) := MS.start hE
  clear hE
  go_enter Tryz.func155, Tryz.ntmps155
  go_upto_region 1 with fail
  refine gen_w g1 ?_
  clear g1
  intro W1 g1
  have G1 := Lib.hid (show MS w w.heap.size 45 [.int .i64 d.kind, .slice A1 d.items.length c1, .slice A2 d.parts.length c2, .slice A3 d.names.length c3, .slice A4 d.cls.length c4, .slice A5 d.levels.length c5, .int .i64 d.code, .int .i64 d.env] ge E W1 from g1)
  generalize (Value.agg #[.int .i64 d.kind, .slice A1 d.items.length c1, .slice A2 d.parts.length c2, .slice A3 d.names.length c3, .slice A4 d.cls.length c4, .slice A5 d.levels.length c5, .int .i64 d.code, .int .i64 d.env]) = V0
  clear g1
  have x0 := G1.out.bx.cell 0 _ rfl
  have x1 := G1.out.bx.cell 1 _ rfl
  have x2 := G1.out.bx.cell 2 _ rfl
  have x3 := G1.out.bx.cell 3 _ rfl
  have x4 := G1.out.bx.cell 4 _ rfl
  have x5 := G1.out.bx.cell 5 _ rfl
  have x6 := G1.out.bx.cell 6 _ rfl
  have x7 := G1.out.bx.cell 7 _ rfl
  obtain ⟨E0, hE0, HE0⟩ : ∃ E0 : List Bool, E0 = (if d.kind = 5 then E.set d.env.toNat true else E) ∧ Hid (valM d E = d.parts.foldl (fun E d => valM d E) E0) := ⟨_, rfl, HQ.out⟩
  have hl0 : E0.length = E.length := by rw [hE0]; split <;> simp
  by_cases k5 : d.kind = 5
  · have hb5 : (d.kind == 5) = true := by rw [k5]; rfl
    rw [if_pos k5] at hE0
    have hfe := HF.out _ (funs_own k5)
    obtain ⟨en, hen⟩ := Int.eq_ofNat_of_zero_le hfe.1
    have hel : en < E.length := by omega
    rw [hen] at x7
    rw [hen, Int.toNat_natCast] at hE0
    have y0 : W1.cell? ⟨ge, en, none⟩ = some (.bool (gB E en)) := G1.out.bE.cell en _ (bls_get E en hel)
    have f0 := G1.out.bE.frozen en
    go_wp2_with fail
    have M2 := Lib.hid (G1.out.set (show w.heap.size ≠ ge by omega) en true)
    rw [← hE0] at M2
    clear hE0 y0 f0 x0 x1 x2 x3 x4 x5 x6 x7 G1
    go_loopw [4] (fun i wr => ∃ k : Nat, k ≤ d.parts.length ∧ i = .int .i64 k ∧ Hid (MS w w.heap.size 45 [.int .i64 d.kind, .slice A1 d.items.length c1, .slice A2 d.parts.length c2, .slice A3 d.names.length c3, .slice A4 d.cls.length c4, .slice A5 d.levels.length c5, .int .i64 d.code, .int .i64 d.env] ge ((d.parts.take k).foldl (fun E d => valM d E) E0) wr)) (fun i _ => d.parts.length - (intOf i).toNat)
    case atStart => exact ⟨0, Nat.zero_le _, rfl, M2.out⟩
    case round =>
      obtain ⟨k, hk, rfl, HX⟩ := hrel
      have x0 := HX.out.bx.cell 0 _ rfl
      have x1 := HX.out.bx.cell 1 _ rfl
      have x2 := HX.out.bx.cell 2 _ rfl
      have x3 := HX.out.bx.cell 3 _ rfl
      have x4 := HX.out.bx.cell 4 _ rfl
      have x5 := HX.out.bx.cell 5 _ rfl
      have x6 := HX.out.bx.cell 6 _ rfl
      have x7 := HX.out.bx.cell 7 _ rfl
      by_cases hlt : k < d.parts.length
      · obtain ⟨b, off, cs, rfl, hbl, hlen, hat, hvr⟩ := HC2.out k hlt
        have HPN := Lib.hid hvr
        have HPV := Lib.hid (show VecR w0 cs d.parts[k] from ⟨n, hvr⟩)
        clear hvr
        obtain ⟨_, B1, b1, B2, b2, B3, b3, B4, b4, B5, b5, rfl, _⟩ := HPV.out.open_
        have hBl : Below w0.heap.size w0 wr := HW.out.trans (HX.out.bel hge hws)
        have y0 := (hBl.cell (p := ⟨b, off + k * 8, none⟩) hbl).trans (by simpa using hat 0 _ rfl)
        have y1 := (hBl.cell (p := ⟨b, off + k * 8 + 1, none⟩) hbl).trans (hat 1 _ rfl)
        have y2 := (hBl.cell (p := ⟨b, off + k * 8 + 2, none⟩) hbl).trans (hat 2 _ rfl)
        have y3 := (hBl.cell (p := ⟨b, off + k * 8 + 3, none⟩) hbl).trans (hat 3 _ rfl)
        have y4 := (hBl.cell (p := ⟨b, off + k * 8 + 4, none⟩) hbl).trans (hat 4 _ rfl)
        have y5 := (hBl.cell (p := ⟨b, off + k * 8 + 5, none⟩) hbl).trans (hat 5 _ rfl)
        have y6 := (hBl.cell (p := ⟨b, off + k * 8 + 6, none⟩) hbl).trans (hat 6 _ rfl)
        have y7 := (hBl.cell (p := ⟨b, off + k * 8 + 7, none⟩) hbl).trans (hat 7 _ rfl)
        clear hat
        go_wp2_with fail
        have hlk : ((d.parts.take k).foldl (fun E d => valM d E) E0).length = E.length := by rw [valsM_len, hl0]
        have hc := IH.out d.parts[k] _ w0 wr ((d.parts.take k).foldl (fun E d => valM d E) E0) ge HPN.out hBl hge HX.out.bE (fun f hf => by rw [hlk]; exact HF.out f (funs_part (List.getElem_mem hlt) hf)) (by rw [hlk]; exact hEl)
        rw [hlk] at hc
        refine Calls.mono hc ?_
        rintro e w2 ⟨rfl, q1, q2, q3⟩
        have HX2 := Lib.hid (HX.out.call (show w.heap.size ≠ ge by omega) q1 q2 q3)
        rw [← foldl_take_succ (fun E d => valM d E) E0 d.parts k hlt] at HX2
        clear q1 q2 q3 hc HX x0 x1 x2 x3 x4 x5 x6 x7 y0 y1 y2 y3 y4 y5 y6 y7
        go_wp2_with fail
        go_roundw
        case rel => first | exact ⟨k + 1, by omega, by go_num, HX2.out⟩ | ((repeat apply Exists.intro); exact ⟨⟨k + 1, by omega, by go_num, HX2.out⟩, rfl⟩)
        case measure => simp [intOf]; omega
      · obtain rfl : k = d.parts.length := by omega
        rw [List.take_length] at HX
        rw [← HE0.out] at HX
        go_wp2_with fail
        refine bodyPost_end (v := .tuple #[]) (by kernel_rfl) rfl ?_
        exact HX.out.ret
  · have hb5 : (d.kind == 5) = false := by simp [k5]
    rw [if_neg k5] at hE0
    go_wp2_with fail
    have M2 := Lib.hid G1.out
    rw [← hE0] at M2
    clear hE0 x0 x1 x2 x3 x4 x5 x6 x7 G1
    go_loopw [4] (fun i wr => ∃ k : Nat, k ≤ d.parts.length ∧ i = .int .i64 k ∧ Hid (MS w w.heap.size 45 [.int .i64 d.kind, .slice A1 d.items.length c1, .slice A2 d.parts.length c2, .slice A3 d.names.length c3, .slice A4 d.cls.length c4, .slice A5 d.levels.length c5, .int .i64 d.code, .int .i64 d.env] ge ((d.parts.take k).foldl (fun E d => valM d E) E0) wr)) (fun i _ => d.parts.length - (intOf i).toNat)
    case atStart => exact ⟨0, Nat.zero_le _, rfl, M2.out⟩
    case round =>
      obtain ⟨k, hk, rfl, HX⟩ := hrel
      have x0 := HX.out.bx.cell 0 _ rfl
      have x1 := HX.out.bx.cell 1 _ rfl
      have x2 := HX.out.bx.cell 2 _ rfl
      have x3 := HX.out.bx.cell 3 _ rfl
      have x4 := HX.out.bx.cell 4 _ rfl
      have x5 := HX.out.bx.cell 5 _ rfl
      have x6 := HX.out.bx.cell 6 _ rfl
      have x7 := HX.out.bx.cell 7 _ rfl
      by_cases hlt : k < d.parts.length
      · obtain ⟨b, off, cs, rfl, hbl, hlen, hat, hvr⟩ := HC2.out k hlt
        have HPN := Lib.hid hvr
        have HPV := Lib.hid (show VecR w0 cs d.parts[k] from ⟨n, hvr⟩)
        clear hvr
        obtain ⟨_, B1, b1, B2, b2, B3, b3, B4, b4, B5, b5, rfl, _⟩ := HPV.out.open_
        have hBl : Below w0.heap.size w0 wr := HW.out.trans (HX.out.bel hge hws)
        have y0 := (hBl.cell (p := ⟨b, off + k * 8, none⟩) hbl).trans (by simpa using hat 0 _ rfl)
        have y1 := (hBl.cell (p := ⟨b, off + k * 8 + 1, none⟩) hbl).trans (hat 1 _ rfl)
        have y2 := (hBl.cell (p := ⟨b, off + k * 8 + 2, none⟩) hbl).trans (hat 2 _ rfl)
        have y3 := (hBl.cell (p := ⟨b, off + k * 8 + 3, none⟩) hbl).trans (hat 3 _ rfl)
        have y4 := (hBl.cell (p := ⟨b, off + k * 8 + 4, none⟩) hbl).trans (hat 4 _ rfl)
        have y5 := (hBl.cell (p := ⟨b, off + k * 8 + 5, none⟩) hbl).trans (hat 5 _ rfl)
        have y6 := (hBl.cell (p := ⟨b, off + k * 8 + 6, none⟩) hbl).trans (hat 6 _ rfl)
        have y7 := (hBl.cell (p := ⟨b, off + k * 8 + 7, none⟩) hbl).trans (hat 7 _ rfl)
        clear hat
        go_wp2_with fail
        have hlk : ((d.parts.take k).foldl (fun E d => valM d E) E0).length = E.length := by rw [valsM_len, hl0]
        have hc := IH.out d.parts[k] _ w0 wr ((d.parts.take k).foldl (fun E d => valM d E) E0) ge HPN.out hBl hge HX.out.bE (fun f hf => by rw [hlk]; exact HF.out f (funs_part (List.getElem_mem hlt) hf)) (by rw [hlk]; exact hEl)
        rw [hlk] at hc
        refine Calls.mono hc ?_
        rintro e w2 ⟨rfl, q1, q2, q3⟩
        have HX2 := Lib.hid (HX.out.call (show w.heap.size ≠ ge by omega) q1 q2 q3)
        rw [← foldl_take_succ (fun E d => valM d E) E0 d.parts k hlt] at HX2
        clear q1 q2 q3 hc HX x0 x1 x2 x3 x4 x5 x6 x7 y0 y1 y2 y3 y4 y5 y6 y7
        go_wp2_with fail
        go_roundw
        case rel => first | exact ⟨k + 1, by omega, by go_num, HX2.out⟩ | ((repeat apply Exists.intro); exact ⟨⟨k + 1, by omega, by go_num, HX2.out⟩, rfl⟩)
        case measure => simp [intOf]; omega
      · obtain rfl : k = d.parts.length := by omega
        rw [List.take_length] at HX
        rw [← HE0.out] at HX
        go_wp2_with fail
        refine bodyPost_end (v := .tuple #[]) (by kernel_rfl) rfl ?_
        exact HX.out.ret
end Go.Proofs.YtejieacdfjpfnaaGreat
namespace Go.Proofs.YtejieacdfjpfnaaGreat
open Go.ChangeShapes Go.WideShapes Go.ChangeAt Go.RowKit Go.Deep
set_option linter.unusedVariables false
set_option maxRecDepth 100000
set_option maxRecDepth 100000

theorem spec_l27Value (d : VecD) (cs : List Value) (w0 w : World) (E : List Bool) (ge : Nat) (h : VecR w0 cs d) (hw : Below w0.heap.size w0 w) (hge : w0.heap.size ≤ ge) (hE : Blk w ge 4 (bls E)) (hf : ∀ f ∈ funs d, 0 ≤ f ∧ f < E.length) (hl : E.length ≤ 600000000000) :
    Calls Tryz.prog 155 #[.agg cs.toArray, .slice (some ⟨ge, 0, none⟩) E.length E.length] w (RetE ge (valM d E) w) :=
  h.elim fun n h => spec_l27Value_n n d cs w0 w E ge h hw hge hE hf hl
/-- marks in two rows -/
def RetEP (ge gp : Nat) (E P : List Bool) (w : World) (e : Ending) (w' : World) : Prop := e = .returned (.tuple #[]) ∧ Blk w' ge 4 (bls E) ∧ Blk w' gp 4 (bls P) ∧ Keeps (fun b => b ≠ ge ∧ b ≠ gp) w w' ∧ Below 0 w w'
/-- a box, and marks in two rows -/
structure MT (wb : World) (box : Nat) (bt : Nat) (xcs : List Value) (ge gp : Nat) (E P : List Bool) (W : World) : Prop where
  bx : Blk W box bt xcs
  bE : Blk W ge 4 (bls E)
  bP : Blk W gp 4 (bls P)
  kp : Keeps (fun b => b ≠ ge ∧ b ≠ gp) wb W
  b0 : Below 0 wb W
section
variable {wb : World} {box bt : Nat} {xcs : List Value} {ge gp : Nat} {E P : List Bool} {W : World}
theorem MT.bel (h : MT wb box bt xcs ge gp E P W) {B : Nat} (hB : B ≤ ge) (hB' : B ≤ gp) (hw : B ≤ wb.heap.size) : Below B wb W := below_ofK h.kp h.b0 (fun b hb => ⟨by omega, by omega⟩) hw
theorem MT.callE {E' : List Bool} {W' : World} (h : MT wb box bt xcs ge gp E P W) (hne : box ≠ ge) (hgp : gp ≠ ge) (h1 : Blk W' ge 4 (bls E')) (h2 : Keeps (fun b => b ≠ ge) W W') (h3 : Below 0 W W') : MT wb box bt xcs ge gp E' P W' :=
  ⟨h.bx.keeps h2 hne, h1, h.bP.keeps h2 hgp, h.kp.trans (h2.mono fun b hb => hb.1), h.b0.trans h3⟩
theorem MT.call {E' P' : List Bool} {W' : World} (h : MT wb box bt xcs ge gp E P W) (hne : box ≠ ge) (hne' : box ≠ gp) (h1 : Blk W' ge 4 (bls E')) (h1' : Blk W' gp 4 (bls P')) (h2 : Keeps (fun b => b ≠ ge ∧ b ≠ gp) W W') (h3 : Below 0 W W') : MT wb box bt xcs ge gp E' P' W' :=
  ⟨h.bx.keeps h2 ⟨hne, hne'⟩, h1, h1', h.kp.trans h2, h.b0.trans h3⟩
theorem MT.step {W' : World} (h : MT wb box bt xcs ge gp E P W) (hb : Below W.heap.size W W') : MT wb box bt xcs ge gp E P W' :=
  ⟨h.bx.below hb, h.bE.below hb, h.bP.below hb, h.kp.trans (Keeps.of_below _ hb), h.b0.trans (hb.mono (Nat.zero_le _))⟩
theorem MT.setE (h : MT wb box bt xcs ge gp E P W) (hne : box ≠ ge) (hgp : gp ≠ ge) (i : Nat) (b : Bool) : MT wb box bt xcs ge gp (E.set i b) P (W.setCell ⟨ge, i, none⟩ (.bool b)) :=
  ⟨h.bx.far ⟨ge, i, none⟩ hne _, by rw [← bls_set]; exact h.bE.set_ i _, h.bP.far ⟨ge, i, none⟩ hgp _, h.kp.sc (fun h => h.1 rfl) _, below_sc h.b0 (Nat.zero_le _) _⟩
theorem MT.setP (h : MT wb box bt xcs ge gp E P W) (hne : box ≠ gp) (hgp : ge ≠ gp) (i : Nat) (b : Bool) : MT wb box bt xcs ge gp E (P.set i b) (W.setCell ⟨gp, i, none⟩ (.bool b)) :=
  ⟨h.bx.far ⟨gp, i, none⟩ hne _, h.bE.far ⟨gp, i, none⟩ hgp _, by rw [← bls_set]; exact h.bP.set_ i _, h.kp.sc (fun h => h.2 rfl) _, below_sc h.b0 (Nat.zero_le _) _⟩
theorem MT.start {w : World} (h : Blk w ge 4 (bls E)) (h' : Blk w gp 4 (bls P)) : MT w w.heap.size bt xcs ge gp E P (w.alloc (.cells xcs.toArray bt)) :=
  ⟨Blk.new w bt xcs, h.alloc _, h'.alloc _, Keeps.of_below _ ((Below.refl _ _).alloc (Nat.le_refl _) _), (Below.refl _ _).alloc (Nat.zero_le _) _⟩
theorem MT.ret (h : MT wb box bt xcs ge gp E P W) : RetEP ge gp E P wb (.returned (.tuple #[])) W := ⟨rfl, h.bE, h.bP, h.kp, h.b0⟩
end
def setsL (l : List Int) (P : List Bool) : List Bool := l.foldl (fun P p => P.set p.toNat true) P
theorem setsL_len (l : List Int) (P : List Bool) : (setsL l P).length = P.length := by
  unfold setsL
  induction l generalizing P with
  | nil => rfl
  | cons a l ih => rw [List.foldl_cons, ih]; simp
theorem setsL_succ (l : List Int) (P : List Bool) (k : Nat) (h : k < l.length) : setsL (l.take (k + 1)) P = (setsL (l.take k) P).set l[k].toNat true := foldl_take_succ _ _ _ _ h
theorem slotM_eq (y : SlotD) (st : MSt) : slotM y st = ⟨valM y.value st.E, setsL y.promises (if y.kind = 2 then st.P.set y.promise.toNat true else st.P)⟩ := by
  have hp : ∀ (l : List Int) (E P : List Bool), l.foldl (fun st p => Go.Proofs.YtejieacdfjpfnaaGreat.setP p st) (⟨E, P⟩ : MSt) = ⟨E, setsL l P⟩ := by
    intro l
    induction l with
    | nil => intro E P; rfl
    | cons a l ih => intro E P; rw [List.foldl_cons]; exact ih _ _
  unfold slotM
  split
  · exact hp _ _ _
  · exact hp _ _ _
theorem slotM_lenE (y : SlotD) (st : MSt) : (slotM y st).E.length = st.E.length := by rw [slotM_eq]; exact valM_len _ _
theorem slotM_lenP (y : SlotD) (st : MSt) : (slotM y st).P.length = st.P.length := by rw [slotM_eq]; show (setsL _ _).length = _; rw [setsL_len]; split <;> simp

set_option maxHeartbeats 4000000 in
theorem spec_l27Slot (y : SlotD) (cs : List Value) (w0 w : World) (E P : List Bool) (ge gp : Nat) (h : SlotR w0 cs y) (hw : Below w0.heap.size w0 w) (hge : w0.heap.size ≤ ge) (hgp : w0.heap.size ≤ gp) (hne : ge ≠ gp) (hE : Blk w ge 4 (bls E)) (hP : Blk w gp 4 (bls P))
    (hf : ∀ f ∈ funs y.value, 0 ≤ f ∧ f < E.length) (hk : y.kind = 2 → 0 ≤ y.promise ∧ y.promise < P.length) (hp : ∀ p ∈ y.promises, 0 ≤ p ∧ p < P.length) (hEl : E.length ≤ 600000000000) (hPl : P.length ≤ 600000000000) :
    Calls Tryz.prog 154 #[.agg cs.toArray, .slice (some ⟨ge, 0, none⟩) E.length E.length, .slice (some ⟨gp, 0, none⟩) P.length P.length] w (RetEP ge gp (slotM y ⟨E, P⟩).E (slotM y ⟨E, P⟩).P w) := by
  have hgl := hE.lt
  have hgl' := hP.lt
  have hws := hw.size
  have HW := Lib.hid hw
  have HF := Lib.hid hf
  have HPR := Lib.hid hp
  clear hw hf hp
  obtain ⟨A1, c1, A2, c2, A3, c3, A4, c4, A5, c5, P0, p0, L0, l0, rfl, k0, k1, m1, m2, HV, HPI, HLT⟩ := h.open_
  clear h HLT
  obtain ⟨_, _, q1, hl1, hm1, HC1⟩ := Ints.open_ HPI.out
  injection q1 with q11 q12 q13
  subst q11 q13
  clear q12
  unfold maxLen at hm1
  have HQ := Lib.hid (slotM_eq y ⟨E, P⟩)
  have g1 : Ok (MT w w.heap.size 96 [.int .i64 y.kind, .int .i64 y.value.kind, .slice A1 y.value.items.length c1, .slice A2 y.value.parts.length c2, .slice A3 y.value.names.length c3, .slice A4 y.value.cls.length c4, .slice A5 y.value.levels.length c5, .int .i64 y.value.code, .int .i64 y.value.env, .int .i64 y.promise, .slice P0 y.promises.length p0, .slice L0 y.labels.length l0] ge gp E P) (w.alloc (.cells #[.int .i64 y.kind, .int .i64 y.value.kind, .slice A1 y.value.items.length c1, .slice A2 y.value.parts.length c2, .slice A3 y.value.names.length c3, .slice A4 y.value.cls.length c4, .slice A5 y.value.levels.length c5, .int .i64 y.value.code, .int .i64 y.value.env, .int .i64 y.promise, .slice P0 y.promises.length p0, .slice L0 y.labels.length l0] 96)) := MT.start hE hP
  clear hE hP
  go_enter Tryz.func154, Tryz.ntmps154
  go_upto_region 1 with fail
  refine gen_w g1 ?_
  clear g1
  intro W1 g1
  have G1 := Lib.hid (show MT w w.heap.size 96 [.int .i64 y.kind, .int .i64 y.value.kind, .slice A1 y.value.items.length c1, .slice A2 y.value.parts.length c2, .slice A3 y.value.names.length c3, .slice A4 y.value.cls.length c4, .slice A5 y.value.levels.length c5, .int .i64 y.value.code, .int .i64 y.value.env, .int .i64 y.promise, .slice P0 y.promises.length p0, .slice L0 y.labels.length l0] ge gp E P W1 from g1)
  generalize (Value.agg #[.int .i64 y.kind, .int .i64 y.value.kind, .slice A1 y.value.items.length c1, .slice A2 y.value.parts.length c2, .slice A3 y.value.names.length c3, .slice A4 y.value.cls.length c4, .slice A5 y.value.levels.length c5, .int .i64 y.value.code, .int .i64 y.value.env, .int .i64 y.promise, .slice P0 y.promises.length p0, .slice L0 y.labels.length l0]) = V0
  clear g1
  have x0 := G1.out.bx.cell 0 _ rfl
  have x1 := G1.out.bx.cell 1 _ rfl
  have x2 := G1.out.bx.cell 2 _ rfl
  have x3 := G1.out.bx.cell 3 _ rfl
  have x4 := G1.out.bx.cell 4 _ rfl
  have x5 := G1.out.bx.cell 5 _ rfl
  have x6 := G1.out.bx.cell 6 _ rfl
  have x7 := G1.out.bx.cell 7 _ rfl
  have x8 := G1.out.bx.cell 8 _ rfl
  have x9 := G1.out.bx.cell 9 _ rfl
  have x10 := G1.out.bx.cell 10 _ rfl
  have x11 := G1.out.bx.cell 11 _ rfl
  go_wp2_with fail
  refine Calls.mono (spec_l27Value y.value _ w0 W1 E ge HV.out (HW.out.trans (G1.out.bel hge hgp hws)) hge G1.out.bE HF.out hEl) ?_
  rintro e w1 ⟨rfl, r1, r2, r3⟩
  have G2 := Lib.hid (G1.out.callE (show w.heap.size ≠ ge by omega) hne.symm r1 r2 r3)
  clear r1 r2 r3 x0 x1 x2 x3 x4 x5 x6 x7 x8 x9 x10 x11 G1
  have x0 := G2.out.bx.cell 0 _ rfl
  have x1 := G2.out.bx.cell 1 _ rfl
  have x2 := G2.out.bx.cell 2 _ rfl
  have x3 := G2.out.bx.cell 3 _ rfl
  have x4 := G2.out.bx.cell 4 _ rfl
  have x5 := G2.out.bx.cell 5 _ rfl
  have x6 := G2.out.bx.cell 6 _ rfl
  have x7 := G2.out.bx.cell 7 _ rfl
  have x8 := G2.out.bx.cell 8 _ rfl
  have x9 := G2.out.bx.cell 9 _ rfl
  have x10 := G2.out.bx.cell 10 _ rfl
  have x11 := G2.out.bx.cell 11 _ rfl
  obtain ⟨Q0, hQ0, HQ0⟩ : ∃ Q0 : List Bool, Q0 = (if y.kind = 2 then P.set y.promise.toNat true else P) ∧ Hid (slotM y ⟨E, P⟩ = ⟨valM y.value E, setsL y.promises Q0⟩) := ⟨_, rfl, HQ.out⟩
  have hlq : Q0.length = P.length := by rw [hQ0]; split <;> simp
  by_cases k2 : y.kind = 2
  · have hb2 : (y.kind == 2) = true := by rw [k2]; rfl
    rw [if_pos k2] at hQ0
    have hfe := hk k2
    obtain ⟨en, hen⟩ := Int.eq_ofNat_of_zero_le hfe.1
    have hel : en < P.length := by omega
    rw [hen] at x9
    rw [hen, Int.toNat_natCast] at hQ0
    have y0 : w1.cell? ⟨gp, en, none⟩ = some (.bool (gB P en)) := G2.out.bP.cell en _ (bls_get P en hel)
    have f0 := G2.out.bP.frozen en
    go_wp2_with fail
    have M2 := Lib.hid (G2.out.setP (show w.heap.size ≠ gp by omega) hne en true)
    rw [← hQ0] at M2
    clear hQ0 y0 f0 x0 x1 x2 x3 x4 x5 x6 x7 x8 x9 x10 x11 G2
    go_loopw [6] (fun i wr => ∃ k : Nat, k ≤ y.promises.length ∧ i = .int .i64 k ∧ Hid (MT w w.heap.size 96 [.int .i64 y.kind, .int .i64 y.value.kind, .slice A1 y.value.items.length c1, .slice A2 y.value.parts.length c2, .slice A3 y.value.names.length c3, .slice A4 y.value.cls.length c4, .slice A5 y.value.levels.length c5, .int .i64 y.value.code, .int .i64 y.value.env, .int .i64 y.promise, .slice P0 y.promises.length p0, .slice L0 y.labels.length l0] ge gp (valM y.value E) (setsL (y.promises.take k) Q0) wr)) (fun i _ => y.promises.length - (intOf i).toNat)
    case atStart => exact ⟨0, Nat.zero_le _, rfl, M2.out⟩
    case round =>
      obtain ⟨k, hk, rfl, HX⟩ := hrel
      have x0 := HX.out.bx.cell 0 _ rfl
      have x1 := HX.out.bx.cell 1 _ rfl
      have x2 := HX.out.bx.cell 2 _ rfl
      have x3 := HX.out.bx.cell 3 _ rfl
      have x4 := HX.out.bx.cell 4 _ rfl
      have x5 := HX.out.bx.cell 5 _ rfl
      have x6 := HX.out.bx.cell 6 _ rfl
      have x7 := HX.out.bx.cell 7 _ rfl
      have x8 := HX.out.bx.cell 8 _ rfl
      have x9 := HX.out.bx.cell 9 _ rfl
      have x10 := HX.out.bx.cell 10 _ rfl
      have x11 := HX.out.bx.cell 11 _ rfl
      by_cases hlt : k < y.promises.length
      · obtain ⟨b, off, rfl, hbl, hat, _, _⟩ := HC1.out k hlt
        have hBl : Below w0.heap.size w0 wr := HW.out.trans (HX.out.bel hge hgp hws)
        have z0 := (hBl.cell (p := ⟨b, off + k, none⟩) hbl).trans hat
        obtain ⟨hfe1, hfe2⟩ := HPR.out _ (List.getElem_mem hlt)
        obtain ⟨en, hen⟩ := Int.eq_ofNat_of_zero_le hfe1
        have HN := Lib.hid (setsL_succ y.promises Q0 k hlt)
        rw [hen, Int.toNat_natCast] at HN
        rw [hen] at z0 hfe2
        have hlk : (setsL (y.promises.take k) Q0).length = P.length := by rw [setsL_len, hlq]
        have hel : en < P.length := by omega
        have y0 : wr.cell? ⟨gp, en, none⟩ = some (.bool (gB (setsL (y.promises.take k) Q0) en)) := HX.out.bP.cell en _ (bls_get _ en (by omega))
        have f0 := HX.out.bP.frozen en
        clear hat hen
        go_wp2_with fail
        have HX2 := Lib.hid (HX.out.setP (show w.heap.size ≠ gp by omega) hne en true)
        rw [← HN.out] at HX2
        clear y0 f0 z0 HX x0 x1 x2 x3 x4 x5 x6 x7 x8 x9 x10 x11
        go_roundw
        case rel => first | exact ⟨k + 1, by omega, by go_num, HX2.out⟩ | ((repeat apply Exists.intro); exact ⟨⟨k + 1, by omega, by go_num, HX2.out⟩, rfl⟩)
        case measure => simp [intOf]; omega
      · obtain rfl : k = y.promises.length := by omega
        rw [List.take_length] at HX
        go_wp2_with fail
        refine bodyPost_end (v := .tuple #[]) (by kernel_rfl) rfl ?_
        rw [HQ0.out]
        exact HX.out.ret
  · have hb2 : (y.kind == 2) = false := by simp [k2]
    rw [if_neg k2] at hQ0
    go_wp2_with fail
    have M2 := Lib.hid G2.out
    rw [← hQ0] at M2
    clear hQ0 x0 x1 x2 x3 x4 x5 x6 x7 x8 x9 x10 x11 G2
    go_loopw [6] (fun i wr => ∃ k : Nat, k ≤ y.promises.length ∧ i = .int .i64 k ∧ Hid (MT w w.heap.size 96 [.int .i64 y.kind, .int .i64 y.value.kind, .slice A1 y.value.items.length c1, .slice A2 y.value.parts.length c2, .slice A3 y.value.names.length c3, .slice A4 y.value.cls.length c4, .slice A5 y.value.levels.length c5, .int .i64 y.value.code, .int .i64 y.value.env, .int .i64 y.promise, .slice P0 y.promises.length p0, .slice L0 y.labels.length l0] ge gp (valM y.value E) (setsL (y.promises.take k) Q0) wr)) (fun i _ => y.promises.length - (intOf i).toNat)
    case atStart => exact ⟨0, Nat.zero_le _, rfl, M2.out⟩
    case round =>
      obtain ⟨k, hk, rfl, HX⟩ := hrel
      have x0 := HX.out.bx.cell 0 _ rfl
      have x1 := HX.out.bx.cell 1 _ rfl
      have x2 := HX.out.bx.cell 2 _ rfl
      have x3 := HX.out.bx.cell 3 _ rfl
      have x4 := HX.out.bx.cell 4 _ rfl
      have x5 := HX.out.bx.cell 5 _ rfl
      have x6 := HX.out.bx.cell 6 _ rfl
      have x7 := HX.out.bx.cell 7 _ rfl
      have x8 := HX.out.bx.cell 8 _ rfl
      have x9 := HX.out.bx.cell 9 _ rfl
      have x10 := HX.out.bx.cell 10 _ rfl
      have x11 := HX.out.bx.cell 11 _ rfl
      by_cases hlt : k < y.promises.length
      · obtain ⟨b, off, rfl, hbl, hat, _, _⟩ := HC1.out k hlt
        have hBl : Below w0.heap.size w0 wr := HW.out.trans (HX.out.bel hge hgp hws)
        have z0 := (hBl.cell (p := ⟨b, off + k, none⟩) hbl).trans hat
        obtain ⟨hfe1, hfe2⟩ := HPR.out _ (List.getElem_mem hlt)
        obtain ⟨en, hen⟩ := Int.eq_ofNat_of_zero_le hfe1
        have HN := Lib.hid (setsL_succ y.promises Q0 k hlt)
        rw [hen, Int.toNat_natCast] at HN
        rw [hen] at z0 hfe2
        have hlk : (setsL (y.promises.take k) Q0).length = P.length := by rw [setsL_len, hlq]
        have hel : en < P.length := by omega
        have y0 : wr.cell? ⟨gp, en, none⟩ = some (.bool (gB (setsL (y.promises.take k) Q0) en)) := HX.out.bP.cell en _ (bls_get _ en (by omega))
        have f0 := HX.out.bP.frozen en
        clear hat hen
        go_wp2_with fail
        have HX2 := Lib.hid (HX.out.setP (show w.heap.size ≠ gp by omega) hne en true)
        rw [← HN.out] at HX2
        clear y0 f0 z0 HX x0 x1 x2 x3 x4 x5 x6 x7 x8 x9 x10 x11
        go_roundw
        case rel => first | exact ⟨k + 1, by omega, by go_num, HX2.out⟩ | ((repeat apply Exists.intro); exact ⟨⟨k + 1, by omega, by go_num, HX2.out⟩, rfl⟩)
        case measure => simp [intOf]; omega
      · obtain rfl : k = y.promises.length := by omega
        rw [List.take_length] at HX
        go_wp2_with fail
        refine bodyPost_end (v := .tuple #[]) (by kernel_rfl) rfl ?_
        rw [HQ0.out]
        exact HX.out.ret
end Go.Proofs.YtejieacdfjpfnaaGreat
namespace Go.Proofs.YtejieacdfjpfnaaGreat
open Go.ChangeShapes Go.WideShapes Go.ChangeAt Go.RowKit Go.Deep
set_option linter.unusedVariables false
set_option maxRecDepth 100000
set_option maxRecDepth 100000

theorem setsL_gB (l : List Int) (P : List Bool) (i : Nat) (h : gB P i = true) : gB (setsL l P) i = true := by
  unfold setsL
  induction l generalizing P with
  | nil => exact h
  | cons a l ih => rw [List.foldl_cons]; exact ih _ ((LeB.set P _).2 i h)
theorem slotM_gB (y : SlotD) (st : MSt) (i : Nat) (h : gB st.E i = true) : gB (slotM y st).E i = true := by rw [slotM_eq]; exact setsL_gB _ _ _ h
theorem slotsM_gB (l : List SlotD) (st : MSt) (i : Nat) (h : gB st.E i = true) : gB (l.foldl (fun st y => slotM y st) st).E i = true := by
  induction l generalizing st with
  | nil => exact h
  | cons a l ih => rw [List.foldl_cons]; exact ih _ (slotM_gB _ _ _ h)
theorem slotsM_lenE (l : List SlotD) (st : MSt) : (l.foldl (fun st y => slotM y st) st).E.length = st.E.length := by
  induction l generalizing st with
  | nil => rfl
  | cons a l ih => rw [List.foldl_cons, ih, slotM_lenE]
theorem slotsM_lenP (l : List SlotD) (st : MSt) : (l.foldl (fun st y => slotM y st) st).P.length = st.P.length := by
  induction l generalizing st with
  | nil => rfl
  | cons a l ih => rw [List.foldl_cons, ih, slotM_lenP]
theorem envM_no {i : Nat} {x : EnvD} {st : MSt} (h : gB st.E i = false) : envM i x st = st := by simp [envM, h]
theorem envM_yes {i : Nat} {x : EnvD} {st : MSt} (h : gB st.E i = true) : envM i x st = x.slots.foldl (fun st y => slotM y st) (if 0 < i then setE x.parent st else st) := by
  unfold envM
  by_cases h0 : 0 < i
  · have : gB (setE x.parent st).E i = true := (LeB.set st.E _).2 i h
    simp [h, h0, this]
  · simp [h, h0]
theorem envM_lenE (i : Nat) (x : EnvD) (st : MSt) : (envM i x st).E.length = st.E.length := by
  cases h : gB st.E i
  · rw [envM_no h]
  · rw [envM_yes h, slotsM_lenE]; split <;> simp [setE]
theorem envM_lenP (i : Nat) (x : EnvD) (st : MSt) : (envM i x st).P.length = st.P.length := by
  cases h : gB st.E i
  · rw [envM_no h]
  · rw [envM_yes h, slotsM_lenP]; split <;> simp [setE]
theorem envsM_lenE (s : StoreD) (st : MSt) (n : Nat) : (envsM s st n).E.length = st.E.length := by
  induction n with
  | zero => rfl
  | succ n ih => rw [envsM]; split <;> simp [envM_lenE, ih]
theorem envsM_lenP (s : StoreD) (st : MSt) (n : Nat) : (envsM s st n).P.length = st.P.length := by
  induction n with
  | zero => rfl
  | succ n ih => rw [envsM]; split <;> simp [envM_lenP, ih]
theorem envsM_succ (s : StoreD) (st : MSt) (n : Nat) (h : n < s.envs.length) : envsM s st (n + 1) = envM n s.envs[n] (envsM s st n) := by rw [envsM, List.getElem?_eq_getElem h]
theorem promM_lenE (i : Nat) (x : PromD) (st : MSt) : (promM i x st).E.length = st.E.length := by
  unfold promM
  dsimp only
  split <;> split <;> simp [setE, valM_len]
theorem promM_lenP (i : Nat) (x : PromD) (st : MSt) : (promM i x st).P.length = st.P.length := by
  unfold promM
  dsimp only
  split <;> split <;> simp [setE]
theorem promsM_lenE (s : StoreD) (st : MSt) (n : Nat) : (promsM s st n).E.length = st.E.length := by
  induction n with
  | zero => rfl
  | succ n ih => rw [promsM]; split <;> simp [promM_lenE, ih]
theorem promsM_lenP (s : StoreD) (st : MSt) (n : Nat) : (promsM s st n).P.length = st.P.length := by
  induction n with
  | zero => rfl
  | succ n ih => rw [promsM]; split <;> simp [promM_lenP, ih]
theorem promsM_succ (s : StoreD) (st : MSt) (n : Nat) (h : n < s.promises.length) : promsM s st (n + 1) = promM n s.promises[n] (promsM s st n) := by rw [promsM, List.getElem?_eq_getElem h]
theorem promM_no {i : Nat} {x : PromD} {st : MSt} (h : gB st.P i = false) : promM i x st = st := by simp [promM, h]
theorem promM_yes {i : Nat} {x : PromD} {st : MSt} (h : gB st.P i = true) : promM i x st = ⟨if x.state ≠ 2 then (valM x.value st.E).set x.env.toNat true else valM x.value st.E, st.P⟩ := by
  unfold promM
  by_cases h2 : x.state = 2 <;> simp [h, h2, setE]

set_option maxHeartbeats 8000000 in
theorem spec_l27Round (s : StoreD) (ss : List Value) (w0 w : World) (st : MSt) (ge gp : Nat) (h : StoreR w0 ss s) (hw : Below w0.heap.size w0 w) (hge : w0.heap.size ≤ ge) (hgp : w0.heap.size ≤ gp) (hne : ge ≠ gp) (hE : Blk w ge 4 (bls st.E)) (hP : Blk w gp 4 (bls st.P))
    (hwf : WF s) (hp0 : ∀ (i : Nat) (x : EnvD), s.envs[i]? = some x → 0 < i → 0 ≤ x.parent) (hEl : st.E.length = s.envs.length) (hPl : st.P.length = s.promises.length) (hz : szStore s ≤ 600000000000) :
    Calls Tryz.prog 137 #[.agg ss.toArray, .slice (some ⟨ge, 0, none⟩) s.envs.length s.envs.length, .slice (some ⟨gp, 0, none⟩) s.promises.length s.promises.length] w (RetEP ge gp (roundM s st).E (roundM s st).P w) := by
  have hgl := hE.lt
  have hgl' := hP.lt
  have hws := hw.size
  have HW := Lib.hid hw
  have HWF := Lib.hid hwf
  have HP0 := Lib.hid hp0
  have HZ := Lib.hid hz
  have HLE := Lib.hid (And.intro hEl hPl)
  clear hEl hPl
  have hzE : s.envs.length ≤ 600000000000 := by unfold szStore at hz; have := szS_length szEnv s.envs; omega
  have hzP : s.promises.length ≤ 600000000000 := by unfold szStore at hz; have := szS_length szPromise s.promises; omega
  clear hw hwf hp0 hz
  obtain ⟨E0, e0, E1, e1, rfl, l0, l1, HE, HP⟩ := h.open_
  clear h
  have g1 : Ok (MT w w.heap.size 33 [.slice E0 s.envs.length e0, .slice E1 s.promises.length e1] ge gp st.E st.P) (w.alloc (.cells #[.slice E0 s.envs.length e0, .slice E1 s.promises.length e1] 33)) := MT.start hE hP
  clear hE hP
  go_enter Tryz.func137, Tryz.ntmps137
  go_upto_region 1 with fail
  refine gen_w g1 ?_
  clear g1
  intro W1 g1
  have G1 := Lib.hid (show MT w w.heap.size 33 [.slice E0 s.envs.length e0, .slice E1 s.promises.length e1] ge gp st.E st.P W1 from g1)
  generalize (Value.agg #[.slice E0 s.envs.length e0, .slice E1 s.promises.length e1]) = V0
  clear g1
  go_wp2_with fail
  go_loopw [6, 7] (fun i _ wr => ∃ k : Nat, k ≤ s.envs.length ∧ i = .int .i64 k ∧ Hid (MT w w.heap.size 33 [.slice E0 s.envs.length e0, .slice E1 s.promises.length e1] ge gp (envsM s st k).E (envsM s st k).P wr)) (fun i _ _ => s.envs.length - (intOf i).toNat)
  case atStart => exact ⟨0, Nat.zero_le _, rfl, G1.out⟩
  case round =>
    clear G1
    obtain ⟨k, hk, rfl, HX⟩ := hrel
    have hle : (envsM s st k).E.length = s.envs.length := by rw [envsM_lenE, HLE.out.1]
    have hlp : (envsM s st k).P.length = s.promises.length := by rw [envsM_lenP, HLE.out.2]
    have hBl : Below w0.heap.size w0 wr := HW.out.trans (HX.out.bel hge hgp hws)
    have x0 := HX.out.bx.cell 0 _ rfl
    have x1 := HX.out.bx.cell 1 _ rfl
    by_cases hlt : k < s.envs.length
    · obtain ⟨b, off, cs, rfl, hbl, _, hat, hr⟩ := HE.out k hlt
      obtain ⟨N, n, M, m, rfl, i0, i1, i2, HN, HM⟩ := hr.open_
      clear hr HN
      obtain ⟨_, _, q1, hl2, hm2, HC2⟩ := SlR.open_ HM.out
      injection q1 with q11 q12 q13
      subst q11 q13
      clear q12
      unfold maxLen at hm2
      have hzs : s.envs[k].slots.length ≤ 600000000000 := by have h1 := HZ.out; unfold szStore at h1; have h2 := szS_at szEnv s.envs k hlt; unfold szEnv at h1 h2; have := szS_length szSlot s.envs[k].slots; omega
      have y0 := (hBl.cell (p := ⟨b, off + k * 4, none⟩) hbl).trans (by simpa using hat 0 _ rfl)
      have y1 := (hBl.cell (p := ⟨b, off + k * 4 + 1, none⟩) hbl).trans (hat 1 _ rfl)
      have y2 := (hBl.cell (p := ⟨b, off + k * 4 + 2, none⟩) hbl).trans (hat 2 _ rfl)
      have y3 := (hBl.cell (p := ⟨b, off + k * 4 + 3, none⟩) hbl).trans (hat 3 _ rfl)
      have HAT := Lib.hid hat
      clear hat
      have qq0 := HX.out.bE.cell k _ (bls_get _ k (by omega))
      have HNS := Lib.hid (envsM_succ s st k hlt)
      cases hg : gB (envsM s st k).E k
      · have HNX := Lib.hid (HNS.out.trans (envM_no hg))
        have HGF := Lib.hid hg
        rw [hg] at qq0
        clear hg
        go_wp2_with fail
        go_loopw [7] (fun i wr => i = .int .i64 0 ∧ Hid (MT w w.heap.size 33 [.slice (some ⟨b, off, none⟩) s.envs.length e0, .slice E1 s.promises.length e1] ge gp (envsM s st k).E (envsM s st k).P wr)) (fun _ _ => 0)
        case atStart => exact ⟨rfl, HX.out⟩
        case round =>
          clear HX x0 x1 y0 y1 y2 y3 qq0 hBl
          obtain ⟨rfl, HX⟩ := hrel
          have qq0 := HX.out.bE.cell k _ (bls_get _ k (by omega))
          rw [HGF.out] at qq0
          go_wp2_with fail
          go_roundw
          case rel => exact ⟨k + 1, by omega, by go_num, by rw [HNX.out]; exact HX.out⟩
          case measure => simp [intOf]; omega
      · have HNY := Lib.hid (HNS.out.trans (envM_yes hg))
        rw [hg] at qq0
        by_cases hk0 : 0 < k
        · have hkd : decide (0 < (k : Int)) = true := decide_eq_true (by omega)
          obtain ⟨en, hen⟩ := Int.eq_ofNat_of_zero_le (HP0.out k _ (List.getElem?_eq_getElem hlt) hk0)
          have hel := HWF.out.parent k _ (List.getElem?_eq_getElem hlt)
          rw [hen] at hel
          obtain ⟨st1, hst1⟩ : ∃ st1, st1 = setE s.envs[k].parent (envsM s st k) := ⟨_, rfl⟩
          have HNX := Lib.hid (show envsM s st (k + 1) = s.envs[k].slots.foldl (fun st y => slotM y st) st1 by rw [HNY.out, if_pos hk0, hst1])
          have HL1 := Lib.hid (show st1.E.length = s.envs.length ∧ st1.P.length = s.promises.length by rw [hst1]; simp [setE, envsM_lenE, envsM_lenP, HLE.out.1, HLE.out.2])
          have HG1 := Lib.hid (show gB st1.E k = true by rw [hst1]; exact (LeB.set _ _).2 k hg)
          have HM1 := Lib.hid (show st1.E = (envsM s st k).E.set en true ∧ st1.P = (envsM s st k).P by rw [hst1]; unfold setE; rw [hen]; exact ⟨rfl, rfl⟩)
          rw [hen] at y1
          have p0 := HX.out.bE.cell en _ (bls_get _ en (by omega))
          have f0 := HX.out.bE.frozen en
          clear hst1 hg HNY
          go_wp2_with fail
          have M1 := Lib.hid (HX.out.setE (show w.heap.size ≠ ge by omega) hne.symm en true)
          rw [← HM1.out.1, ← HM1.out.2] at M1
          clear HM1 HX x0 x1 y0 y1 y2 y3 qq0 p0 f0 hBl
          go_loopw [7] (fun i wr => ∃ j : Nat, j ≤ s.envs[k].slots.length ∧ i = .int .i64 j ∧ Hid (MT w w.heap.size 33 [.slice (some ⟨b, off, none⟩) s.envs.length e0, .slice E1 s.promises.length e1] ge gp ((s.envs[k].slots.take j).foldl (fun st y => slotM y st) st1).E ((s.envs[k].slots.take j).foldl (fun st y => slotM y st) st1).P wr)) (fun i _ => s.envs[k].slots.length - (intOf i).toNat)
          case atStart => exact ⟨0, Nat.zero_le _, rfl, M1.out⟩
          case round =>
            clear M1
            obtain ⟨j, hj, rfl, HY⟩ := hrel
            have hle1 : ((s.envs[k].slots.take j).foldl (fun st y => slotM y st) st1).E.length = s.envs.length := by rw [slotsM_lenE]; exact HL1.out.1
            have hlp1 : ((s.envs[k].slots.take j).foldl (fun st y => slotM y st) st1).P.length = s.promises.length := by rw [slotsM_lenP]; exact HL1.out.2
            have hgj := slotsM_gB (s.envs[k].slots.take j) st1 k HG1.out
            have hBj : Below w0.heap.size w0 wr := HW.out.trans (HY.out.bel hge hgp hws)
            have x0 := HY.out.bx.cell 0 _ rfl
            have x1 := HY.out.bx.cell 1 _ rfl
            have qq0 := HY.out.bE.cell k _ (bls_get _ k (by omega))
            rw [hgj] at qq0
            have y0 := (hBj.cell (p := ⟨b, off + k * 4, none⟩) hbl).trans (by simpa using HAT.out 0 _ rfl)
            have y1 := (hBj.cell (p := ⟨b, off + k * 4 + 1, none⟩) hbl).trans (HAT.out 1 _ rfl)
            have y2 := (hBj.cell (p := ⟨b, off + k * 4 + 2, none⟩) hbl).trans (HAT.out 2 _ rfl)
            have y3 := (hBj.cell (p := ⟨b, off + k * 4 + 3, none⟩) hbl).trans (HAT.out 3 _ rfl)
            by_cases hjl : j < s.envs[k].slots.length
            · obtain ⟨b', off', cs', rfl, hbl', _, hat', hr'⟩ := HC2.out j hjl
              have HSL := Lib.hid hr'
              obtain ⟨v11, v12, v13, v14, v15, v3, v4, rfl⟩ := hr'.shape
              clear hr'
              have z0 := (hBj.cell (p := ⟨b', off' + j * 12, none⟩) hbl').trans (by simpa using hat' 0 _ rfl)
              have z1 := (hBj.cell (p := ⟨b', off' + j * 12 + 1, none⟩) hbl').trans (hat' 1 _ rfl)
              have z2 := (hBj.cell (p := ⟨b', off' + j * 12 + 2, none⟩) hbl').trans (hat' 2 _ rfl)
              have z3 := (hBj.cell (p := ⟨b', off' + j * 12 + 3, none⟩) hbl').trans (hat' 3 _ rfl)
              have z4 := (hBj.cell (p := ⟨b', off' + j * 12 + 4, none⟩) hbl').trans (hat' 4 _ rfl)
              have z5 := (hBj.cell (p := ⟨b', off' + j * 12 + 5, none⟩) hbl').trans (hat' 5 _ rfl)
              have z6 := (hBj.cell (p := ⟨b', off' + j * 12 + 6, none⟩) hbl').trans (hat' 6 _ rfl)
              have z7 := (hBj.cell (p := ⟨b', off' + j * 12 + 7, none⟩) hbl').trans (hat' 7 _ rfl)
              have z8 := (hBj.cell (p := ⟨b', off' + j * 12 + 8, none⟩) hbl').trans (hat' 8 _ rfl)
              have z9 := (hBj.cell (p := ⟨b', off' + j * 12 + 9, none⟩) hbl').trans (hat' 9 _ rfl)
              have z10 := (hBj.cell (p := ⟨b', off' + j * 12 + 10, none⟩) hbl').trans (hat' 10 _ rfl)
              have z11 := (hBj.cell (p := ⟨b', off' + j * 12 + 11, none⟩) hbl').trans (hat' 11 _ rfl)
              clear hat'
              go_wp2_with fail
              have hmem : s.envs[k].slots[j] ∈ s.envs[k].slots := List.getElem_mem hjl
              have hcall := spec_l27Slot s.envs[k].slots[j] _ w0 wr ((s.envs[k].slots.take j).foldl (fun st y => slotM y st) st1).E ((s.envs[k].slots.take j).foldl (fun st y => slotM y st) st1).P ge gp HSL.out hBj hge hgp hne HY.out.bE HY.out.bP
                (fun f hf => by rw [hle1]; exact HWF.out.func k _ _ f (List.getElem?_eq_getElem hlt) hmem hf) (fun h2 => by rw [hlp1]; exact HWF.out.prom k _ _ (List.getElem?_eq_getElem hlt) hmem h2) (fun p hp => by rw [hlp1]; exact HWF.out.proms k _ _ p (List.getElem?_eq_getElem hlt) hmem hp) (by omega) (by omega)
              rw [hle1, hlp1] at hcall
              refine Calls.mono hcall ?_
              rintro e w2 ⟨rfl, r1, r2, r3, r4⟩
              have HY2 := Lib.hid (HY.out.call (show w.heap.size ≠ ge by omega) (show w.heap.size ≠ gp by omega) r1 r2 r3 r4)
              rw [← foldl_take_succ (fun st y => slotM y st) st1 s.envs[k].slots j hjl] at HY2
              clear r1 r2 r3 r4 hcall HY x0 x1 qq0 y0 y1 y2 y3 z0 z1 z2 z3 z4 z5 z6 z7 z8 z9 z10 z11 hBj
              go_wp2_with fail
              go_roundw
              case rel => first | exact ⟨j + 1, by omega, by go_num, HY2.out⟩ | ((repeat apply Exists.intro); exact ⟨⟨j + 1, by omega, by go_num, HY2.out⟩, rfl⟩)
              case measure => simp [intOf]; omega
            · obtain rfl : j = s.envs[k].slots.length := by omega
              rw [List.take_length] at HY
              go_wp2_with fail
              go_roundw
              case rel => first | exact ⟨k + 1, by omega, by go_num, by rw [HNX.out]; exact HY.out⟩ | ((repeat apply Exists.intro); exact ⟨⟨k + 1, by omega, by go_num, by rw [HNX.out]; exact HY.out⟩, rfl⟩)
              case measure => simp [intOf]; omega
        · have hkd : decide (0 < (k : Int)) = false := decide_eq_false (by omega)
          obtain ⟨st1, hst1⟩ : ∃ st1, st1 = envsM s st k := ⟨_, rfl⟩
          have HNX := Lib.hid (show envsM s st (k + 1) = s.envs[k].slots.foldl (fun st y => slotM y st) st1 by rw [HNY.out, if_neg hk0, hst1])
          have HL1 := Lib.hid (show st1.E.length = s.envs.length ∧ st1.P.length = s.promises.length by rw [hst1]; simp [envsM_lenE, envsM_lenP, HLE.out.1, HLE.out.2])
          have HG1 := Lib.hid (show gB st1.E k = true by rw [hst1]; exact hg)
          have M1 := Lib.hid HX.out
          rw [← hst1] at M1
          clear hst1 hg HNY
          go_wp2_with fail
          clear HX x0 x1 y0 y1 y2 y3 qq0 hBl
          go_loopw [7] (fun i wr => ∃ j : Nat, j ≤ s.envs[k].slots.length ∧ i = .int .i64 j ∧ Hid (MT w w.heap.size 33 [.slice (some ⟨b, off, none⟩) s.envs.length e0, .slice E1 s.promises.length e1] ge gp ((s.envs[k].slots.take j).foldl (fun st y => slotM y st) st1).E ((s.envs[k].slots.take j).foldl (fun st y => slotM y st) st1).P wr)) (fun i _ => s.envs[k].slots.length - (intOf i).toNat)
          case atStart => exact ⟨0, Nat.zero_le _, rfl, M1.out⟩
          case round =>
            clear M1
            obtain ⟨j, hj, rfl, HY⟩ := hrel
            have hle1 : ((s.envs[k].slots.take j).foldl (fun st y => slotM y st) st1).E.length = s.envs.length := by rw [slotsM_lenE]; exact HL1.out.1
            have hlp1 : ((s.envs[k].slots.take j).foldl (fun st y => slotM y st) st1).P.length = s.promises.length := by rw [slotsM_lenP]; exact HL1.out.2
            have hgj := slotsM_gB (s.envs[k].slots.take j) st1 k HG1.out
            have hBj : Below w0.heap.size w0 wr := HW.out.trans (HY.out.bel hge hgp hws)
            have x0 := HY.out.bx.cell 0 _ rfl
            have x1 := HY.out.bx.cell 1 _ rfl
            have qq0 := HY.out.bE.cell k _ (bls_get _ k (by omega))
            rw [hgj] at qq0
            have y0 := (hBj.cell (p := ⟨b, off + k * 4, none⟩) hbl).trans (by simpa using HAT.out 0 _ rfl)
            have y1 := (hBj.cell (p := ⟨b, off + k * 4 + 1, none⟩) hbl).trans (HAT.out 1 _ rfl)
            have y2 := (hBj.cell (p := ⟨b, off + k * 4 + 2, none⟩) hbl).trans (HAT.out 2 _ rfl)
            have y3 := (hBj.cell (p := ⟨b, off + k * 4 + 3, none⟩) hbl).trans (HAT.out 3 _ rfl)
            by_cases hjl : j < s.envs[k].slots.length
            · obtain ⟨b', off', cs', rfl, hbl', _, hat', hr'⟩ := HC2.out j hjl
              have HSL := Lib.hid hr'
              obtain ⟨v11, v12, v13, v14, v15, v3, v4, rfl⟩ := hr'.shape
              clear hr'
              have z0 := (hBj.cell (p := ⟨b', off' + j * 12, none⟩) hbl').trans (by simpa using hat' 0 _ rfl)
              have z1 := (hBj.cell (p := ⟨b', off' + j * 12 + 1, none⟩) hbl').trans (hat' 1 _ rfl)
              have z2 := (hBj.cell (p := ⟨b', off' + j * 12 + 2, none⟩) hbl').trans (hat' 2 _ rfl)
              have z3 := (hBj.cell (p := ⟨b', off' + j * 12 + 3, none⟩) hbl').trans (hat' 3 _ rfl)
              have z4 := (hBj.cell (p := ⟨b', off' + j * 12 + 4, none⟩) hbl').trans (hat' 4 _ rfl)
              have z5 := (hBj.cell (p := ⟨b', off' + j * 12 + 5, none⟩) hbl').trans (hat' 5 _ rfl)
              have z6 := (hBj.cell (p := ⟨b', off' + j * 12 + 6, none⟩) hbl').trans (hat' 6 _ rfl)
              have z7 := (hBj.cell (p := ⟨b', off' + j * 12 + 7, none⟩) hbl').trans (hat' 7 _ rfl)
              have z8 := (hBj.cell (p := ⟨b', off' + j * 12 + 8, none⟩) hbl').trans (hat' 8 _ rfl)
              have z9 := (hBj.cell (p := ⟨b', off' + j * 12 + 9, none⟩) hbl').trans (hat' 9 _ rfl)
              have z10 := (hBj.cell (p := ⟨b', off' + j * 12 + 10, none⟩) hbl').trans (hat' 10 _ rfl)
              have z11 := (hBj.cell (p := ⟨b', off' + j * 12 + 11, none⟩) hbl').trans (hat' 11 _ rfl)
              clear hat'
              go_wp2_with fail
              have hmem : s.envs[k].slots[j] ∈ s.envs[k].slots := List.getElem_mem hjl
              have hcall := spec_l27Slot s.envs[k].slots[j] _ w0 wr ((s.envs[k].slots.take j).foldl (fun st y => slotM y st) st1).E ((s.envs[k].slots.take j).foldl (fun st y => slotM y st) st1).P ge gp HSL.out hBj hge hgp hne HY.out.bE HY.out.bP
                (fun f hf => by rw [hle1]; exact HWF.out.func k _ _ f (List.getElem?_eq_getElem hlt) hmem hf) (fun h2 => by rw [hlp1]; exact HWF.out.prom k _ _ (List.getElem?_eq_getElem hlt) hmem h2) (fun p hp => by rw [hlp1]; exact HWF.out.proms k _ _ p (List.getElem?_eq_getElem hlt) hmem hp) (by omega) (by omega)
              rw [hle1, hlp1] at hcall
              refine Calls.mono hcall ?_
              rintro e w2 ⟨rfl, r1, r2, r3, r4⟩
              have HY2 := Lib.hid (HY.out.call (show w.heap.size ≠ ge by omega) (show w.heap.size ≠ gp by omega) r1 r2 r3 r4)
              rw [← foldl_take_succ (fun st y => slotM y st) st1 s.envs[k].slots j hjl] at HY2
              clear r1 r2 r3 r4 hcall HY x0 x1 qq0 y0 y1 y2 y3 z0 z1 z2 z3 z4 z5 z6 z7 z8 z9 z10 z11 hBj
              go_wp2_with fail
              go_roundw
              case rel => first | exact ⟨j + 1, by omega, by go_num, HY2.out⟩ | ((repeat apply Exists.intro); exact ⟨⟨j + 1, by omega, by go_num, HY2.out⟩, rfl⟩)
              case measure => simp [intOf]; omega
            · obtain rfl : j = s.envs[k].slots.length := by omega
              rw [List.take_length] at HY
              go_wp2_with fail
              go_roundw
              case rel => first | exact ⟨k + 1, by omega, by go_num, by rw [HNX.out]; exact HY.out⟩ | ((repeat apply Exists.intro); exact ⟨⟨k + 1, by omega, by go_num, by rw [HNX.out]; exact HY.out⟩, rfl⟩)
              case measure => simp [intOf]; omega
    · obtain rfl : k = s.envs.length := by omega
      go_wp2_with fail
      obtain ⟨st2, hst2⟩ : ∃ st2, st2 = envsM s st s.envs.length := ⟨_, rfl⟩
      have HR := Lib.hid (show roundM s st = promsM s st2 s.promises.length by rw [hst2]; rfl)
      rw [← hst2] at HX hle hlp
      clear hst2 x0 x1 hBl hlt hk
      go_loopw [8] (fun i wr => ∃ k : Nat, k ≤ s.promises.length ∧ i = .int .i64 k ∧ Hid (MT w w.heap.size 33 [.slice E0 s.envs.length e0, .slice E1 s.promises.length e1] ge gp (promsM s st2 k).E (promsM s st2 k).P wr)) (fun i _ => s.promises.length - (intOf i).toNat)
      case atStart => exact ⟨0, Nat.zero_le _, rfl, HX.out⟩
      case round =>
        clear HX
        obtain ⟨k, hk, rfl, HX⟩ := hrel
        have hle2 : (promsM s st2 k).E.length = s.envs.length := by rw [promsM_lenE, hle]
        have hlp2 : (promsM s st2 k).P.length = s.promises.length := by rw [promsM_lenP, hlp]
        have hBl : Below w0.heap.size w0 wr := HW.out.trans (HX.out.bel hge hgp hws)
        have x0 := HX.out.bx.cell 0 _ rfl
        have x1 := HX.out.bx.cell 1 _ rfl
        by_cases hlt : k < s.promises.length
        · obtain ⟨b, off, cs, rfl, hbl, _, hat, hr⟩ := HP.out k hlt
          obtain ⟨A1, c1, A2, c2, A3, c3, A4, c4, A5, c5, rfl, i0, i1, i2, HV⟩ := hr.open_
          clear hr
          have y0 := (hBl.cell (p := ⟨b, off + k * 12, none⟩) hbl).trans (by simpa using hat 0 _ rfl)
          have y1 := (hBl.cell (p := ⟨b, off + k * 12 + 1, none⟩) hbl).trans (hat 1 _ rfl)
          have y2 := (hBl.cell (p := ⟨b, off + k * 12 + 2, none⟩) hbl).trans (hat 2 _ rfl)
          have y3 := (hBl.cell (p := ⟨b, off + k * 12 + 3, none⟩) hbl).trans (hat 3 _ rfl)
          have y4 := (hBl.cell (p := ⟨b, off + k * 12 + 4, none⟩) hbl).trans (hat 4 _ rfl)
          have y5 := (hBl.cell (p := ⟨b, off + k * 12 + 5, none⟩) hbl).trans (hat 5 _ rfl)
          have y6 := (hBl.cell (p := ⟨b, off + k * 12 + 6, none⟩) hbl).trans (hat 6 _ rfl)
          have y7 := (hBl.cell (p := ⟨b, off + k * 12 + 7, none⟩) hbl).trans (hat 7 _ rfl)
          have y8 := (hBl.cell (p := ⟨b, off + k * 12 + 8, none⟩) hbl).trans (hat 8 _ rfl)
          have y9 := (hBl.cell (p := ⟨b, off + k * 12 + 9, none⟩) hbl).trans (hat 9 _ rfl)
          have y10 := (hBl.cell (p := ⟨b, off + k * 12 + 10, none⟩) hbl).trans (hat 10 _ rfl)
          have y11 := (hBl.cell (p := ⟨b, off + k * 12 + 11, none⟩) hbl).trans (hat 11 _ rfl)
          have HAT := Lib.hid hat
          clear hat
          have qq0 := HX.out.bP.cell k _ (bls_get _ k (by omega))
          have HNS := Lib.hid (promsM_succ s st2 k hlt)
          cases hg : gB (promsM s st2 k).P k
          · have HNX := Lib.hid (HNS.out.trans (promM_no hg))
            rw [hg] at qq0
            clear hg
            go_wp2_with fail
            go_roundw
            case rel => exact ⟨k + 1, by omega, by go_num, by rw [HNX.out]; exact HX.out⟩
            case measure => simp [intOf]; omega
          · have HNX := Lib.hid (HNS.out.trans (promM_yes hg))
            have HG := Lib.hid hg
            rw [hg] at qq0
            clear hg
            go_wp2_with fail
            have hcall := spec_l27Value s.promises[k].value _ w0 wr (promsM s st2 k).E ge HV.out hBl hge HX.out.bE (fun f hf => by rw [hle2]; exact HWF.out.pfunc k _ f (List.getElem?_eq_getElem hlt) hf) (by omega)
            rw [hle2] at hcall
            refine Calls.mono hcall ?_
            rintro e w2 ⟨rfl, r1, r2, r3⟩
            have HY := Lib.hid (HX.out.callE (show w.heap.size ≠ ge by omega) hne.symm r1 r2 r3)
            clear r1 r2 r3 hcall HX x0 x1 qq0 y0 y1 y2 y3 y4 y5 y6 y7 y8 y9 y10 y11 hBl
            have hBl : Below w0.heap.size w0 w2 := HW.out.trans (HY.out.bel hge hgp hws)
            have x0 := HY.out.bx.cell 0 _ rfl
            have x1 := HY.out.bx.cell 1 _ rfl
            have qq0 := HY.out.bP.cell k _ (bls_get _ k (by omega))
            rw [HG.out] at qq0
            have y0 := (hBl.cell (p := ⟨b, off + k * 12, none⟩) hbl).trans (by simpa using HAT.out 0 _ rfl)
            have y1 := (hBl.cell (p := ⟨b, off + k * 12 + 1, none⟩) hbl).trans (HAT.out 1 _ rfl)
            have y2 := (hBl.cell (p := ⟨b, off + k * 12 + 2, none⟩) hbl).trans (HAT.out 2 _ rfl)
            have y3 := (hBl.cell (p := ⟨b, off + k * 12 + 3, none⟩) hbl).trans (HAT.out 3 _ rfl)
            have y4 := (hBl.cell (p := ⟨b, off + k * 12 + 4, none⟩) hbl).trans (HAT.out 4 _ rfl)
            have y5 := (hBl.cell (p := ⟨b, off + k * 12 + 5, none⟩) hbl).trans (HAT.out 5 _ rfl)
            have y6 := (hBl.cell (p := ⟨b, off + k * 12 + 6, none⟩) hbl).trans (HAT.out 6 _ rfl)
            have y7 := (hBl.cell (p := ⟨b, off + k * 12 + 7, none⟩) hbl).trans (HAT.out 7 _ rfl)
            have y8 := (hBl.cell (p := ⟨b, off + k * 12 + 8, none⟩) hbl).trans (HAT.out 8 _ rfl)
            have y9 := (hBl.cell (p := ⟨b, off + k * 12 + 9, none⟩) hbl).trans (HAT.out 9 _ rfl)
            have y10 := (hBl.cell (p := ⟨b, off + k * 12 + 10, none⟩) hbl).trans (HAT.out 10 _ rfl)
            have y11 := (hBl.cell (p := ⟨b, off + k * 12 + 11, none⟩) hbl).trans (HAT.out 11 _ rfl)
            by_cases h2 : s.promises[k].state = 2
            · have HN2 := Lib.hid (show promsM s st2 (k + 1) = ⟨valM s.promises[k].value (promsM s st2 k).E, (promsM s st2 k).P⟩ by rw [HNX.out, if_neg (fun h => h h2)])
              have hd2 : (s.promises[k].state != 2) = false := by rw [h2]; rfl
              clear h2
              go_wp2_with fail
              go_roundw
              case rel => exact ⟨k + 1, by omega, by go_num, by rw [HN2.out]; exact HY.out⟩
              case measure => simp [intOf]; omega
            · have hd2 : (s.promises[k].state != 2) = true := by simpa using h2
              obtain ⟨hf1, hf2⟩ := HWF.out.penv k _ (List.getElem?_eq_getElem hlt) h2
              obtain ⟨en, hen⟩ := Int.eq_ofNat_of_zero_le hf1
              have HN2 := Lib.hid (show promsM s st2 (k + 1) = ⟨(valM s.promises[k].value (promsM s st2 k).E).set en true, (promsM s st2 k).P⟩ by rw [HNX.out, if_pos h2, hen]; rfl)
              rw [hen] at y2 hf2
              clear h2
              have p0 := HY.out.bE.cell en _ (bls_get _ en (by rw [valM_len]; omega))
              have f0 := HY.out.bE.frozen en
              go_wp2_with fail
              have HZ2 := Lib.hid (HY.out.setE (show w.heap.size ≠ ge by omega) hne.symm en true)
              clear HY x0 x1 qq0 p0 f0 y0 y1 y2 y3 y4 y5 y6 y7 y8 y9 y10 y11 hBl
              go_roundw
              case rel => exact ⟨k + 1, by omega, by go_num, by rw [HN2.out]; exact HZ2.out⟩
              case measure => simp [intOf]; omega
        · obtain rfl : k = s.promises.length := by omega
          go_wp2_with fail
          refine bodyPost_end (v := .tuple #[]) (by kernel_rfl) rfl ?_
          rw [HR.out]
          exact HX.out.ret
end Go.Proofs.YtejieacdfjpfnaaGreat
namespace Go.Proofs.YtejieacdfjpfnaaGreat
open Go.ChangeShapes Go.WideShapes Go.ChangeAt Go.RowKit Go.Deep
set_option linter.unusedVariables false
set_option maxRecDepth 100000
set_option maxRecDepth 100000

theorem Blk.ownRow {W : World} {g : Nat} {e : TypeId} {cs : List Value} {size n : Nat} (h : Blk W g e cs) (hl : cs.length = n * size) (hn : n ≤ maxLen) : W.ownsRow 0 e size (.slice (some ⟨g, 0, none⟩) n n) n cs :=
  ⟨hl, .inr ⟨g, n, cs.toArray, rfl, Nat.zero_le _, h, Nat.le_refl _, hn, by simpa using hl, by rw [← hl]; simp⟩⟩
theorem range_gB (E : List Bool) : (List.range E.length).map (gB E) = E := by
  apply List.ext_getElem (by simp)
  intro i h1 h2
  simp [gB, List.getD_eq_getElem?_getD, List.getElem?_eq_getElem h2]
theorem Blk.boolsR {W : World} {ge : Nat} {E : List Bool} (h : Blk W ge 4 (bls E)) (hn : E.length ≤ 600000000000) : Bools W (.slice (some ⟨ge, 0, none⟩) E.length E.length) ((List.range E.length).map (gB E)) := by
  rw [range_gB]
  exact Bools.of_own (Blk.ownRow (size := 1) h (by simp) (by unfold maxLen; omega))
theorem posF_cnt (E : List Bool) : (posF (gB E) E.length).length = cntB E := by
  unfold posF cntB
  rw [List.length_map, ← List.countP_eq_length_filter]
  conv => rhs; rw [← range_gB E]
  rw [List.count, List.countP_map]
  congr 1
  funext i
  simp
theorem cntB_le (E : List Bool) : cntB E ≤ E.length := List.count_le_length
theorem spec_l27Count_b (E : List Bool) (ge : Nat) (w : World) (h : Blk w ge 4 (bls E)) (hn : E.length ≤ 600000000000) :
    Calls Tryz.prog 136 #[.slice (some ⟨ge, 0, none⟩) E.length E.length] w fun e w' => e = .returned (.int .i64 (cntB E)) ∧ w = w' := by
  have := spec_l27Count (gB E) E.length _ w (h.boolsR hn) hn
  rw [posF_cnt] at this
  exact this

def RetMkEP (s : StoreD) (roots : List Int) (ge gp : Nat) (w : World) (e : Ending) (w' : World) : Prop := ∃ E P, Marked s roots E P ∧ RetEP ge gp E P w e w'

set_option maxHeartbeats 4000000 in
theorem spec_l27Mark (s : StoreD) (roots : List Int) (ss : List Value) (w0 w : World) (st0 : MSt) (ge gp : Nat) (h : StoreR w0 ss s) (hw : Below w0.heap.size w0 w) (hge : w0.heap.size ≤ ge) (hgp : w0.heap.size ≤ gp) (hne : ge ≠ gp) (hE : Blk w ge 4 (bls st0.E)) (hP : Blk w gp 4 (bls st0.P))
    (hok : storeOk s = true) (hm : MInv s roots st0) (hz : szStore s ≤ 600000000000) :
    Calls Tryz.prog 98 #[.agg ss.toArray, .slice (some ⟨ge, 0, none⟩) s.envs.length s.envs.length, .slice (some ⟨gp, 0, none⟩) s.promises.length s.promises.length] w (RetMkEP s roots ge gp w) := by
  have hgl := hE.lt
  have hgl' := hP.lt
  have hws := hw.size
  have HS := Lib.hid h
  have HW := Lib.hid hw
  have HOK := Lib.hid hok
  have HZ := Lib.hid hz
  have HM := Lib.hid hm
  have HSTEP := Lib.hid (fun st (h : MInv s roots st) => MInv.step (wf_of hok) (p0_of hok) (fun i x hx => (env_par hok i x hx).2.1) h)
  have hzE : s.envs.length ≤ 600000000000 := by unfold szStore at hz; have := szS_length szEnv s.envs; omega
  have hzP : s.promises.length ≤ 600000000000 := by unfold szStore at hz; have := szS_length szPromise s.promises; omega
  clear hw hok hz hm
  obtain ⟨E0, e0, E1, e1, rfl, l0, l1, _⟩ := h.open_
  clear h
  have g1 : Ok (MT w w.heap.size 33 [.slice E0 s.envs.length e0, .slice E1 s.promises.length e1] ge gp st0.E st0.P) (w.alloc (.cells #[.slice E0 s.envs.length e0, .slice E1 s.promises.length e1] 33)) := MT.start hE hP
  clear hE hP
  go_enter Tryz.func98, Tryz.ntmps98
  go_upto_region 1 with fail
  refine gen_w g1 ?_
  clear g1
  intro W1 g1
  have G1 := Lib.hid (show MT w w.heap.size 33 [.slice E0 s.envs.length e0, .slice E1 s.promises.length e1] ge gp st0.E st0.P W1 from g1)
  generalize (Value.agg #[.slice E0 s.envs.length e0, .slice E1 s.promises.length e1]) = V0
  clear g1
  go_wp2_with fail
  go_loopw [6] (fun i wr => ∃ (st : MSt) (n : Int), i = .int .i64 n ∧ -1 ≤ n ∧ n ≤ 1200000000000 ∧ Hid (MInv s roots st) ∧ Hid (MT w w.heap.size 33 [.slice E0 s.envs.length e0, .slice E1 s.promises.length e1] ge gp st.E st.P wr) ∧ Hid (n ≤ (cntB st.E + cntB st.P : Nat) ∧ (n = (cntB st.E + cntB st.P : Nat) → Marked s roots st.E st.P))) (fun i _ => ((s.envs.length + s.promises.length : Int) - intOf i).toNat)
  case atStart => exact ⟨st0, -1, rfl, by omega, by omega, HM.out, G1.out, by omega, fun h => by omega⟩
  case round =>
    clear G1
    obtain ⟨st, n, rfl, hn1, hn2, HI, HX, HN⟩ := hrel
    have hle : st.E.length = s.envs.length := HI.out.lenE
    have hlp : st.P.length = s.promises.length := HI.out.lenP
    have hc1 := cntB_le st.E
    have hc2 := cntB_le st.P
    obtain ⟨ca, hca⟩ : ∃ ca, ca = cntB st.E := ⟨_, rfl⟩
    obtain ⟨cb, hcb⟩ : ∃ cb, cb = cntB st.P := ⟨_, rfl⟩
    have q1 := fun W (h : Blk W ge 4 (bls st.E)) => spec_l27Count_b st.E ge W h (by omega)
    have q2 := fun W (h : Blk W gp 4 (bls st.P)) => spec_l27Count_b st.P gp W h (by omega)
    rw [hle, ← hca] at q1
    rw [hlp, ← hcb] at q2
    have Q1 := Lib.hid q1
    have Q2 := Lib.hid q2
    rw [← hca, ← hcb] at HN
    rw [← hca] at hc1
    rw [← hcb] at hc2
    clear q1 q2
    go_wp2_with fail
    refine Calls.mono (Q1.out _ HX.out.bE) ?_
    rintro e w2 ⟨rfl, rfl⟩
    go_wp2_with fail
    refine Calls.mono (Q2.out _ HX.out.bP) ?_
    rintro e w2 ⟨rfl, rfl⟩
    by_cases hq : n = (ca : Int) + cb
    · have hd : (n != (ca : Int) + cb) = false := by simp [hq]
      go_wp2_with fail
      refine bodyPost_end (v := .tuple #[]) (by kernel_rfl) rfl ?_
      exact ⟨st.E, st.P, HN.out.2 (by omega), HX.out.ret⟩
    · have hd : (n != (ca : Int) + cb) = true := by simpa using hq
      go_wp2_with fail
      refine Calls.mono (Q1.out _ HX.out.bE) ?_
      rintro e w2 ⟨rfl, rfl⟩
      go_wp2_with fail
      refine Calls.mono (Q2.out _ HX.out.bP) ?_
      rintro e w2 ⟨rfl, rfl⟩
      have hBl : Below w0.heap.size w0 wr := HW.out.trans (HX.out.bel hge hgp hws)
      have x0 := HX.out.bx.cell 0 _ rfl
      have x1 := HX.out.bx.cell 1 _ rfl
      go_wp2_with fail
      refine Calls.mono (spec_l27Round s _ w0 wr st ge gp HS.out hBl hge hgp hne HX.out.bE HX.out.bP (wf_of HOK.out) (fun i x hx => (env_par HOK.out i x hx).2.1) hle hlp HZ.out) ?_
      rintro e w2 ⟨rfl, r1, r2, r3, r4⟩
      have HX2 := Lib.hid (HX.out.call (show w.heap.size ≠ ge by omega) (show w.heap.size ≠ gp by omega) r1 r2 r3 r4)
      obtain ⟨i1, i2, i3⟩ := HSTEP.out st HI.out
      rw [← hca, ← hcb] at i2 i3
      have HI2 := Lib.hid i1
      have HN2 := Lib.hid (And.intro i2 i3)
      have hn3 := HN.out.1
      clear r1 r2 r3 r4 i1 i2 i3 HX x0 x1 hBl Q1 Q2
      go_wp2_with fail
      go_roundw
      case rel => exact ⟨roundM s st, (ca : Int) + cb, by go_num, by omega, by omega, HI2.out, HX2.out, by have := HN2.out.1; omega, fun h => HN2.out.2 (by omega)⟩
      case measure => simp [intOf]; omega
end Go.Proofs.YtejieacdfjpfnaaGreat
namespace Go.Proofs.YtejieacdfjpfnaaGreat
open Go.ChangeShapes Go.WideShapes Go.ChangeAt Go.RowKit Go.Deep
set_option linter.unusedVariables false
set_option maxRecDepth 100000
set_option maxRecDepth 100000

theorem made_bls (n : Nat) : (madeCells (Value.bool false).cells n) = (bls (List.replicate n false)).toArray := by
  apply Array.ext'
  apply List.ext_getElem
  · simp [bls, madeCells]
  · intro i h1 h2
    simp [bls, madeCells, Value.cells, Nat.mod_one]
def rootsOk (s : StoreD) (roots : List Int) : Bool := storeOk s && roots.all (envU s)
theorem gB_repl (n i : Nat) : gB (List.replicate n false) i = false := by
  unfold gB
  rw [List.getD_eq_getElem?_getD, List.getElem?_replicate]
  split <;> rfl
theorem setsL_iff (l : List Int) (P : List Bool) (i : Nat) (h : gB (setsL l P) i = true) : gB P i = true ∨ ∃ e ∈ l, e.toNat = i := by
  unfold setsL at h
  induction l generalizing P with
  | nil => exact .inl h
  | cons a l ih =>
    rw [List.foldl_cons] at h
    rcases ih _ h with h1 | ⟨e, he, h1⟩
    · rw [gB_set] at h1
      split at h1
      · rename_i h2
        exact .inr ⟨a, by simp, h2.1⟩
      · exact .inl h1
    · exact .inr ⟨e, by simp [he], h1⟩
theorem MInv.first {s : StoreD} {roots : List Int} (h0 : 0 < s.envs.length) (hr : ∀ e ∈ roots, 0 ≤ e ∧ e < s.envs.length) : MInv s roots ⟨(setsL roots (List.replicate s.envs.length false)).set 0 true, List.replicate s.promises.length false⟩ where
  lenE := by show ((setsL _ _).set _ _).length = _; rw [List.length_set, setsL_len, List.length_replicate]
  lenP := by simp
  snd := ⟨fun i hi => by
    have hi : gB ((setsL roots (List.replicate s.envs.length false)).set 0 true) i = true := hi
    rw [gB_set] at hi
    split at hi
    · rename_i h
      rw [← h.1]
      exact .zero
    · rcases setsL_iff _ _ _ hi with h | ⟨e, he, rfl⟩
      · rw [gB_repl] at h; cases h
      · exact .root e he, fun k hk => by
    have hk : gB (List.replicate s.promises.length false) k = true := hk
    rw [gB_repl] at hk; cases hk⟩
  zero := by show gB ((setsL _ _).set 0 true) 0 = true; rw [gB_set, if_pos ⟨rfl, by rw [setsL_len, List.length_replicate]; exact h0⟩]
  root e he := (LeB.set _ _).2 _ ((sets_le roots _).2 e he (by rw [List.length_replicate]; have := hr e he; omega))
def RetRoots (s : StoreD) (roots : List Int) (w : World) (e : Ending) (w' : World) : Prop := ∃ (ge gp : Nat) (E P : List Bool), e = .returned (.tuple #[.slice (some ⟨ge, 0, none⟩) s.envs.length s.envs.length, .slice (some ⟨gp, 0, none⟩) s.promises.length s.promises.length, .bool (rootsOk s roots)]) ∧
  w.heap.size ≤ ge ∧ w.heap.size ≤ gp ∧ ge ≠ gp ∧ Blk w' ge 4 (bls E) ∧ Blk w' gp 4 (bls P) ∧ E.length = s.envs.length ∧ P.length = s.promises.length ∧ (rootsOk s roots = true → Marked s roots E P) ∧ Below w.heap.size w w'
theorem MT.roots {s : StoreD} {roots : List Int} {w : World} {box bt : Nat} {xcs : List Value} {ge gp : Nat} {E P : List Bool} {W : World} {b : Bool} (h : MT w box bt xcs ge gp E P W) (hb : rootsOk s roots = b) (h1 : w.heap.size ≤ ge) (h2 : w.heap.size ≤ gp) (h3 : ge ≠ gp) (hE : E.length = s.envs.length) (hP : P.length = s.promises.length) (hm : b = true → Marked s roots E P) :
    RetRoots s roots w (.returned (.tuple #[.slice (some ⟨ge, 0, none⟩) s.envs.length s.envs.length, .slice (some ⟨gp, 0, none⟩) s.promises.length s.promises.length, .bool b])) W :=
  ⟨ge, gp, E, P, by rw [hb], h1, h2, h3, h.bE, h.bP, hE, hP, fun h => hm (by rw [← hb]; exact h), h.bel h1 h2 (Nat.le_refl _)⟩
theorem rootsOk_no {s : StoreD} {roots : List Int} {k : Nat} (hk : k < roots.length) (h : (storeOk s && envU s roots[k]) = false) : rootsOk s roots = false := by
  unfold rootsOk
  cases ho : storeOk s
  · rfl
  · rw [ho, Bool.true_and] at h
    rw [Bool.true_and, List.all_eq_false]
    exact ⟨roots[k], List.getElem_mem hk, by simp [h]⟩

set_option maxHeartbeats 4000000 in
theorem spec_l27Roots (s : StoreD) (roots : List Int) (ss : List Value) (rv : Value) (w : World) (h : StoreR w ss s) (hr : Ints w rv roots) (hz : szStore s ≤ 600000000000) :
    Calls Tryz.prog 45 #[.agg ss.toArray, rv] w (RetRoots s roots w) := by
  have HS := Lib.hid h
  have HZ := Lib.hid hz
  have hzE : s.envs.length ≤ 600000000000 := by unfold szStore at hz; have := szS_length szEnv s.envs; omega
  have hzP : s.promises.length ≤ 600000000000 := by unfold szStore at hz; have := szS_length szPromise s.promises; omega
  clear hz
  obtain ⟨E0, e0, E1, e1, rfl, l0, l1, _⟩ := h.open_
  obtain ⟨RA, rc, rfl, hl1, hm1, HC1⟩ := Ints.open_ hr
  clear h hr
  unfold maxLen at hm1
  have g1 : Ok (MT w w.heap.size 33 [.slice E0 s.envs.length e0, .slice E1 s.promises.length e1] (w.heap.size + 1) (w.heap.size + 2) (List.replicate s.envs.length false) (List.replicate s.promises.length false)) (((w.alloc (.cells #[.slice E0 s.envs.length e0, .slice E1 s.promises.length e1] 33)).alloc (.cells (madeCells (Value.bool false).cells s.envs.length) 4)).alloc (.cells (madeCells (Value.bool false).cells s.promises.length) 4)) := by
    rw [made_bls, made_bls]
    exact ⟨((Blk.new _ _ _).alloc _).alloc _, (Blk.new_at _ _ _ _ (by simp)).alloc _, Blk.new_at _ _ _ _ (by simp), Keeps.of_below _ ((((Below.refl _ _).alloc (Nat.le_refl _) _).alloc (by simp) _).alloc (by simp <;> omega) _), (((Below.refl _ _).alloc (Nat.zero_le _) _).alloc (Nat.zero_le _) _).alloc (Nat.zero_le _) _⟩
  have hmk1 := fun W => run_mk (P := Tryz.prog) W 77 4 _ 1 1 Tryz.underlying77 info_bool s.envs.length (by omega) (by omega)
  have hmk2 := fun W => run_mk (P := Tryz.prog) W 77 4 _ 1 1 Tryz.underlying77 info_bool s.promises.length (by omega) (by omega)
  go_enter Tryz.func45, Tryz.ntmps45
  go_upto_region 3 with fail
  clear hmk1 hmk2
  refine gen_w g1 ?_
  clear g1
  intro W1 g1
  have G1 := Lib.hid (show MT w w.heap.size 33 [.slice E0 s.envs.length e0, .slice E1 s.promises.length e1] (w.heap.size + 1) (w.heap.size + 2) (List.replicate s.envs.length false) (List.replicate s.promises.length false) W1 from g1)
  generalize (Value.agg #[.slice E0 s.envs.length e0, .slice E1 s.promises.length e1]) = V0
  clear g1
  go_wp2_with fail
  go_loopw [9] (fun i wr => ∃ k : Nat, k ≤ roots.length ∧ i = .int .i64 k ∧ Hid (∀ j (h : j < roots.length), j < k → (storeOk s && envU s roots[j]) = true) ∧ Hid (MT w w.heap.size 33 [.slice E0 s.envs.length e0, .slice E1 s.promises.length e1] (w.heap.size + 1) (w.heap.size + 2) (setsL (roots.take k) (List.replicate s.envs.length false)) (List.replicate s.promises.length false) wr)) (fun i _ => roots.length - (intOf i).toNat)
  case atStart => exact ⟨0, Nat.zero_le _, rfl, fun j _ h => absurd h (by omega), G1.out⟩
  case round =>
    clear G1
    obtain ⟨k, hk, rfl, HJ, HX⟩ := hrel
    have hlk : (setsL (roots.take k) (List.replicate s.envs.length false)).length = s.envs.length := by rw [setsL_len, List.length_replicate]
    have hBl : Below w.heap.size w wr := HX.out.bel (by omega) (by omega) (Nat.le_refl _)
    by_cases hlt : k < roots.length
    · obtain ⟨b, off, rfl, hbl, hat, _, _⟩ := HC1.out k hlt
      have HAT := Lib.hid hat
      have x0 := fun W (h : Ok (MT w w.heap.size 33 [.slice E0 s.envs.length e0, .slice E1 s.promises.length e1] (w.heap.size + 1) (w.heap.size + 2) (setsL (roots.take k) (List.replicate s.envs.length false)) (List.replicate s.promises.length false)) W) => (show MT w w.heap.size 33 [.slice E0 s.envs.length e0, .slice E1 s.promises.length e1] (w.heap.size + 1) (w.heap.size + 2) _ _ W from h).bx.cell 0 _ rfl
      have x1 := fun W (h : Ok (MT w w.heap.size 33 [.slice E0 s.envs.length e0, .slice E1 s.promises.length e1] (w.heap.size + 1) (w.heap.size + 2) (setsL (roots.take k) (List.replicate s.envs.length false)) (List.replicate s.promises.length false)) W) => (show MT w w.heap.size 33 [.slice E0 s.envs.length e0, .slice E1 s.promises.length e1] (w.heap.size + 1) (w.heap.size + 2) _ _ W from h).bx.cell 1 _ rfl
      have z0 := fun W (h : Ok (MT w w.heap.size 33 [.slice E0 s.envs.length e0, .slice E1 s.promises.length e1] (w.heap.size + 1) (w.heap.size + 2) (setsL (roots.take k) (List.replicate s.envs.length false)) (List.replicate s.promises.length false)) W) => (((show MT w w.heap.size 33 [.slice E0 s.envs.length e0, .slice E1 s.promises.length e1] (w.heap.size + 1) (w.heap.size + 2) _ _ W from h).bel (B := w.heap.size) (by omega) (by omega) (Nat.le_refl _)).cell (p := ⟨b, off + k, none⟩) hbl).trans HAT.out
      have g1 : Ok (MT w w.heap.size 33 [.slice E0 s.envs.length e0, .slice E1 s.promises.length e1] (w.heap.size + 1) (w.heap.size + 2) (setsL (roots.take k) (List.replicate s.envs.length false)) (List.replicate s.promises.length false)) wr.drew := HX.out.step (Below.drew (Below.refl _ _))
      clear hat
      go_wp2_with fail
      refine wp_region_plan (S := Ok (MT w w.heap.size 33 [.slice E0 s.envs.length e0, .slice E1 s.promises.length e1] (w.heap.size + 1) (w.heap.size + 2) (setsL (roots.take k) (List.replicate s.envs.length false)) (List.replicate s.promises.length false))) (by kernel_rfl) [(true, 0), (true, 1), (true, 2), (true, 3), (true, 4), (false, 5), (true, 6)] (by kernel_rfl) g1 ?_
      repeat ((first | (refine dyn_take rfl rfl (fun W g => by go_simp; rfl) ?_) | (refine dyn_skip rfl rfl ?_)); go_simp)
      refine dyn_act rfl rfl (fun K hK => ?_)
      go_wp2_with fail
      refine Calls.mono (spec_l26Used s roots[k] _ _ (HS.out.below ((show MT w w.heap.size 33 [.slice E0 s.envs.length e0, .slice E1 s.promises.length e1] (w.heap.size + 1) (w.heap.size + 2) _ _ _ from g1).bel (by omega) (by omega) (Nat.le_refl _))) (by have := HZ.out; omega)) ?_
      rintro e w2 ⟨rfl, hb⟩
      replace g1 := (show MT w w.heap.size 33 [.slice E0 s.envs.length e0, .slice E1 s.promises.length e1] (w.heap.size + 1) (w.heap.size + 2) _ _ _ from g1).step hb
      clear hb
      simp only []
      refine hK.out _ _ g1 ?_
      clear hK
      cases hu : storeOk s && envU s roots[k]
      · have HU := Lib.hid (rootsOk_no hlt hu)
        clear hu
        repeat ((first | (refine dyn_take rfl rfl (fun W g => by go_simp; rfl) ?_) | (refine dyn_skip rfl rfl ?_)); go_simp)
        refine dyn_done ?_
        go_wp2_with fail
        refine bodyPost_ret (v := .tuple #[.slice (some ⟨w.heap.size + 1, 0, none⟩) s.envs.length s.envs.length, .slice (some ⟨w.heap.size + 2, 0, none⟩) s.promises.length s.promises.length, .bool false]) (by simp [results, Tryz.results45, go_sem]) rfl ?_
        exact g1.roots HU.out (by omega) (by omega) (by omega) hlk (by simp) (fun h => by cases h)
      · have HU := Lib.hid hu
        clear hu
        repeat ((first | (refine dyn_take rfl rfl (fun W g => by go_simp; rfl) ?_) | (refine dyn_skip rfl rfl ?_)); go_simp)
        refine dyn_done ?_
        have hu2 := HU.out
        rw [Bool.and_eq_true] at hu2
        obtain ⟨hf1, hf2⟩ := envU_in hu2.2
        obtain ⟨en, hen⟩ := Int.eq_ofNat_of_zero_le hf1
        have HN := Lib.hid (setsL_succ roots (List.replicate s.envs.length false) k hlt)
        rw [hen, Int.toNat_natCast] at HN
        have hz0 := z0 _ g1
        rw [hen] at hz0 hf2
        have y0 := g1.bE.cell en _ (bls_get _ en (by omega))
        have f0 := g1.bE.frozen en
        have G2 := Lib.hid g1
        clear hu2 z0 x0 x1 g1
        go_wp2_with fail
        have HX2 := Lib.hid (G2.out.setE (by omega) (by omega) en true)
        rw [← HN.out] at HX2
        clear y0 f0 hz0 G2 HX hBl
        go_roundw
        case rel => exact ⟨k + 1, by omega, by go_num, fun j h1 hj => by rcases Nat.lt_succ_iff_lt_or_eq.1 hj with h3 | rfl; exact HJ.out j h1 h3; exact HU.out, HX2.out⟩
        case measure => simp [intOf]; omega
    · obtain rfl : k = roots.length := by omega
      rw [List.take_length] at HX hlk
      have x0 := HX.out.bx.cell 0 _ rfl
      have x1 := HX.out.bx.cell 1 _ rfl
      go_wp2_with fail
      refine Calls.mono (spec_IsStore s _ _ (HS.out.below hBl) (by have := HZ.out; omega)) ?_
      rintro e w2 ⟨rfl, hb⟩
      have HX2 := Lib.hid (HX.out.step hb)
      clear hb HX x0 x1 hBl
      cases ho : storeOk s
      · have HU := Lib.hid (show rootsOk s roots = false by unfold rootsOk; rw [ho]; rfl)
        clear ho
        go_wp2_with fail
        refine bodyPost_ret (v := .tuple #[.slice (some ⟨w.heap.size + 1, 0, none⟩) s.envs.length s.envs.length, .slice (some ⟨w.heap.size + 2, 0, none⟩) s.promises.length s.promises.length, .bool false]) (by simp [results, Tryz.results45, go_sem]) rfl ?_
        exact HX2.out.roots HU.out (by omega) (by omega) (by omega) hlk (by simp) (fun h => by cases h)
      · have HO := Lib.hid ho
        have HALL := Lib.hid (fun j (h : j < roots.length) => (Bool.and_eq_true _ _ ▸ HJ.out j h h : storeOk s = true ∧ envU s roots[j] = true).2)
        have HU := Lib.hid (show rootsOk s roots = true by
          unfold rootsOk
          rw [ho, Bool.true_and, List.all_eq_true]
          intro e he
          obtain ⟨j, hj, rfl⟩ := List.getElem_of_mem he
          exact HALL.out j hj)
        have hpos := storeOk_pos ho
        clear ho
        have y0 := HX2.out.bE.cell 0 _ (bls_get _ 0 (by omega))
        have f0 := HX2.out.bE.frozen 0
        have HX3 := Lib.hid (HX2.out.setE (by omega) (by omega) 0 true)
        have x0 := HX3.out.bx.cell 0 _ rfl
        have x1 := HX3.out.bx.cell 1 _ rfl
        have HM := Lib.hid (MInv.first (roots := roots) hpos (fun e he => by obtain ⟨j, hj, rfl⟩ := List.getElem_of_mem he; exact envU_in (HALL.out j hj)))
        go_wp2_with fail
        refine Calls.mono (spec_l27Mark s roots _ w _ ⟨(setsL roots (List.replicate s.envs.length false)).set 0 true, List.replicate s.promises.length false⟩ (w.heap.size + 1) (w.heap.size + 2) HS.out (HX3.out.bel (by omega) (by omega) (Nat.le_refl _)) (by omega) (by omega) (by omega) HX3.out.bE HX3.out.bP HO.out HM.out HZ.out) ?_
        rintro e w4 ⟨E', P', hmk, rfl, r1, r2, r3, r4⟩
        have HX4 := Lib.hid (HX3.out.call (by omega) (by omega) r1 r2 r3 r4)
        have HMK := Lib.hid hmk
        clear r1 r2 r3 r4 hmk HX3 HX2 x0 x1 y0 f0
        go_wp2_with fail
        refine bodyPost_ret (v := .tuple #[.slice (some ⟨w.heap.size + 1, 0, none⟩) s.envs.length s.envs.length, .slice (some ⟨w.heap.size + 2, 0, none⟩) s.promises.length s.promises.length, .bool true]) (by simp [results, Tryz.results45, go_sem]) rfl ?_
        exact HX4.out.roots HU.out (by omega) (by omega) (by omega) HMK.out.lenE HMK.out.lenP (fun _ => HMK.out)
end Go.Proofs.YtejieacdfjpfnaaGreat
namespace Go.Proofs.YtejieacdfjpfnaaGreat
open Go.ChangeShapes Go.WideShapes Go.ChangeAt Go.RowKit Go.Deep
set_option linter.unusedVariables false
set_option maxRecDepth 100000
set_option maxRecDepth 100000

def ReachP (s : StoreD) (roots : List Int) (l0 l1 : List Int) (b : Bool) : Prop := b = rootsOk s roots ∧ (b = true → ∃ E P, Marked s roots E P ∧ l0 = posF (gB E) E.length ∧ l1 = posF (gB P) P.length) ∧ (b = false → l0 = [] ∧ l1 = [])
theorem posF_small (p : Nat → Bool) (n : Nat) : ∀ x ∈ posF p n, 0 ≤ x ∧ x < n := by
  intro x hx
  simp only [posF, List.mem_map, List.mem_filter, List.mem_range] at hx
  obtain ⟨i, hi, rfl⟩ := hx
  omega
theorem RetJT.own {w w' : World} {p : Nat → Bool} {n : Nat} {e : Ending} (hn : n ≤ 600000000000) (h : RetJT w (posF p n) e w') : ∃ A c, e = .returned (.slice A (posF p n).length c) ∧ IntO (Rng w.heap.size w'.heap.size) w' (.slice A (posF p n).length c) (posF p n) ∧ Below w.heap.size w w' := by
  obtain ⟨A, c, he, ho, hb⟩ := h
  exact ⟨A, c, he, ⟨FlO.of_own ho, fun x hx => by have := posF_small _ _ x hx; exact ⟨by omega, by omega⟩⟩, hb⟩
theorem IntO.nilL (S : Nat → Prop) (w : World) : IntO S w (.slice none 0 0) [] := ⟨FlO.nil_ _ _ _ _, fun _ h => by cases h⟩
def RetReach (s : StoreD) (roots : List Int) (w : World) (e : Ending) (w' : World) : Prop := ∃ (A0 : Option Addr) (c0 : Nat) (A1 : Option Addr) (c1 : Nat) (l0 l1 : List Int) (b : Bool) (f : Nat → Nat), e = .returned (.tuple #[.slice A0 l0.length c0, .slice A1 l1.length c1, .bool b]) ∧ ReachP s roots l0 l1 b ∧
  IntO (fun x => Rng w.heap.size w'.heap.size x ∧ f x = 0) w' (.slice A0 l0.length c0) l0 ∧ IntO (fun x => Rng w.heap.size w'.heap.size x ∧ f x = 1) w' (.slice A1 l1.length c1) l1 ∧ Below w.heap.size w w'
theorem reach_join {s : StoreD} {roots l0 l1 : List Int} {b : Bool} {w w1 w2 : World} {A0 A1 : Option Addr} {c0 c1 m0 m1 : Nat} (hp : ReachP s roots l0 l1 b) (h0 : IntO (Rng m0 w1.heap.size) w1 (.slice A0 l0.length c0) l0) (h1 : IntO (Rng m1 w2.heap.size) w2 (.slice A1 l1.length c1) l1) (hb1 : Below w.heap.size w w1) (hb2 : Below w1.heap.size w1 w2) (hm0 : w.heap.size ≤ m0) (hm1 : w1.heap.size ≤ m1) :
    RetReach s roots w (.returned (.tuple #[.slice A0 l0.length c0, .slice A1 l1.length c1, .bool b])) w2 := by
  have s1 := hb1.size
  have s2 := hb2.size
  refine ⟨A0, c0, A1, c1, l0, l1, b, fun x => if x < w1.heap.size then 0 else 1, rfl, hp, (h0.keeps (Keeps.of_below _ hb2)).mono fun x hx => ?_, h1.mono fun x hx => ?_, hb1.trans (hb2.mono s1)⟩
  · have := hx.1; have := hx.2
    exact ⟨⟨by omega, by omega⟩, if_pos (by omega)⟩
  · have := hx.1; have := hx.2
    exact ⟨⟨by omega, by omega⟩, if_neg (by omega)⟩
end Go.Proofs.YtejieacdfjpfnaaGreat
