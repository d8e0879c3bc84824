/-
  Merged texts: Names, ChkP, OptP.
-/
import Derived.Test.YtjdfancbmjnjfaaGreatKOk
import Derived.Deep.Light
import Derived.Test.YtjdfancbmjnjfaaGreatKCode
import Derived.Test.YtjdfancbmjnjfaaGreatKOk5
import Derived.Test.YtjdfancbmjnjfaaGreatEqVec
namespace Go.Proofs.YtjdfancbmjnjfaaGreat
set_option maxRecDepth 100000
set_option maxRecDepth 100000
open Go.ChangeShapes Go.WideShapes Go.ChangeAt Go.RowKit Go.Deep

def nameByte (c : UInt8) : Bool := decide (33 ≤ (c.toNat : Int)) && decide ((c.toNat : Int) ≤ 126) && !((c.toNat : Int) == 96)
def isNameB (s : List UInt8) : Bool := decide (1 ≤ s.length) && decide (s.length ≤ 20) && decide (∀ j (h : j < s.length), nameByte s[j] = true)
theorem isNameB_no {s : List UInt8} (k : Nat) (hk : k < s.length) (h : nameByte s[k] = false) : isNameB s = false := by
  simp only [isNameB, Bool.and_eq_false_iff, decide_eq_false_iff_not]
  right
  exact fun h' => by rw [h' k hk] at h; cases h
theorem isNameB_all {s : List UInt8} (h : ∀ j (h : j < s.length), nameByte s[j] = true) : isNameB s = (decide (1 ≤ s.length) && decide (s.length ≤ 20)) := by
  simp only [isNameB, Bool.and_eq_left_iff_imp]
  intro _
  exact decide_eq_true h

theorem str_at (s : List UInt8) (k : Nat) (h : k < (str s).size) : (str s)[k] = s[k]'(by rw [str_size] at h; exact h) := rfl

set_option maxHeartbeats 1000000 in
theorem impl_IsName (s : List UInt8) (w : World) (hs : s.length ≤ maxLen) :
    Calls Tryz.prog 55 #[.string (str s)] w fun e w' => e = .returned (.bool (isNameB s)) ∧ w = w' := by
  unfold maxLen at hs
  go_enter Tryz.func55, Tryz.ntmps55
  go_wp2
  go_loop [3] (fun i => ∃ k : Nat, k ≤ s.length ∧ i = .int .i64 k ∧ Hid (∀ j (h : j < s.length), j < k → nameByte s[j] = true)) (fun i => s.length - (intOf i).toNat)
  case atStart => exact ⟨0, Nat.zero_le _, rfl, fun j _ h => absurd h (by omega)⟩
  case round =>
    obtain ⟨k, hk, rfl, hn⟩ := hrel
    by_cases hlt : k < s.length
    · have HS := Lib.hid (show nameByte s[k] = nameByte ((str s)[k]'(by rw [str_size]; exact hlt)) by rw [str_at])
      go_wp2
      all_goals
        first
          | (go_ret
             exact ⟨ret_bool (isNameB_no k hlt (by rw [HS.out]; go_light; grind [nameByte])).symm, rfl⟩)
          | (go_round
             case rel => exact ⟨k + 1, by omega, by go_num, fun j h1 hj => by (rcases Nat.lt_succ_iff_lt_or_eq.1 hj with h3 | rfl); exact hn.out j h1 h3; rw [HS.out]; go_light; grind [nameByte]⟩
             case measure => simp [intOf]; omega)
    · have HN := Lib.hid (isNameB_all (s := s) (fun j h => hn.out j h (by omega)))
      go_wp2
      all_goals
        go_ret
        exact ⟨ret_bool (by rw [HN.out]; go_light; grind), rfl⟩

set_option maxHeartbeats 1000000 in
theorem spec_IsName (s : List UInt8) (w : World) (hs : s.length ≤ maxLen) :
    Calls Tryz.prog 49 #[.string (str s)] w fun e w' => e = .returned (.bool (isNameB s)) ∧ w = w' := by
  unfold maxLen at hs
  go_enter Tryz.func49, Tryz.ntmps49
  go_wp2
  go_loop [3] (fun i => ∃ k : Nat, k ≤ s.length ∧ i = .int .i64 k ∧ Hid (∀ j (h : j < s.length), j < k → nameByte s[j] = true)) (fun i => s.length - (intOf i).toNat)
  case atStart => exact ⟨0, Nat.zero_le _, rfl, fun j _ h => absurd h (by omega)⟩
  case round =>
    obtain ⟨k, hk, rfl, hn⟩ := hrel
    by_cases hlt : k < s.length
    · have HS := Lib.hid (show nameByte s[k] = nameByte ((str s)[k]'(by rw [str_size]; exact hlt)) by rw [str_at])
      go_wp2
      all_goals
        first
          | (go_ret
             exact ⟨ret_bool (isNameB_no k hlt (by rw [HS.out]; go_light; grind [nameByte])).symm, rfl⟩)
          | (go_round
             case rel => exact ⟨k + 1, by omega, by go_num, fun j h1 hj => by (rcases Nat.lt_succ_iff_lt_or_eq.1 hj with h3 | rfl); exact hn.out j h1 h3; rw [HS.out]; go_light; grind [nameByte]⟩
             case measure => simp [intOf]; omega)
    · have HN := Lib.hid (isNameB_all (s := s) (fun j h => hn.out j h (by omega)))
      by_cases hr : 1 ≤ (s.length : Int) ∧ (s.length : Int) ≤ 20
      all_goals
        go_wp2_with (first | (go_at_call 21; refine (spec_l1In_t _ _ _ _ (by omega) (by omega)).mono ?_; rintro e w' ⟨rfl, rfl⟩) | (go_at_call 21; refine (spec_l1In_f _ _ _ _ (by omega)).mono ?_; rintro e w' ⟨rfl, rfl⟩))
        go_ret
        exact ⟨ret_bool (by rw [HN.out]; go_light; grind), rfl⟩

end Go.Proofs.YtjdfancbmjnjfaaGreat
namespace Go.Proofs.YtjdfancbmjnjfaaGreat
set_option maxRecDepth 100000
open Go.ChangeShapes Go.WideShapes Go.ChangeAt Go.RowKit Go.Deep
set_option linter.unusedVariables false
set_option linter.unusedSimpArgs false

/-- a value that an instruction other than a constant may hold -/
theorem null_zero (d : VecD) : (vecOk d && d.kind == 0 && !hasFun d) = zeroQ d := by
  cases h : zeroQ d
  · cases h1 : vecOk d
    · rfl
    · have hs : shapeOk d = true := by
        unfold vecOk at h1
        simp only [Bool.and_eq_true] at h1
        have := h1.1
        unfold okN at this
        simp only [Bool.and_eq_true] at this
        first | exact this.1 | exact this.1.1
      by_cases hk : d.kind = 0
      · exfalso
        simp only [shapeOk, Bool.and_eq_true, sA, sB, sC, sD, sE, sF, sG, lenV] at hs
        simp only [zeroQ] at h
        cases d with
        | mk k i p n c l co e =>
          simp only [VecD.kind, VecD.items, VecD.parts, VecD.names, VecD.cls, VecD.levels, VecD.code, VecD.env] at hk hs h
          subst hk
          cases i <;> cases p <;> cases n <;> cases c <;> cases l <;> simp_all
      · simp [hk]
  · simp only [zeroQ, Bool.and_eq_true, beq_iff_eq, List.isEmpty_iff] at h
    obtain ⟨⟨⟨⟨⟨⟨⟨h1, h2⟩, h3⟩, h4⟩, h5⟩, h6⟩, h7⟩, h8⟩ := h
    cases d with
    | mk k i p n c l co e =>
      simp only [VecD.kind, VecD.items, VecD.parts, VecD.names, VecD.cls, VecD.levels, VecD.code, VecD.env] at h1 h2 h3 h4 h5 h6 h7 h8
      subst h1 h2 h3 h4 h5 h6 h7 h8
      decide

/-! ### Instructions -/
def binL : List (List UInt8) := [[43], [45], [42], [47], [94], [37, 37], [37, 47, 37], [61, 61], [33, 61], [60], [60, 61], [62], [62, 61], [38], [124], [38, 38], [124, 124], [58], [126]]
def nameOp (op : Int) : Bool := op == 1 || op == 2 || op == 19 || op == 20 || op == 21 || op == 22 || op == 23 || op == 24 || op == 25 || op == 28 || op == 29 || op == 30 || op == 32
def refOp (op : Int) : Bool := op == 3 || op == 4 || op == 28 || op == 31
def jmpOp (op : Int) : Bool := op == 13 || op == 14 || op == 15 || op == 16 || op == 19
def endOp (op : Int) : Bool := op == 13 || op == 26 || op == 27 || op == 29 || op == 32
def txtB (op : Int) (t : List UInt8) : Bool :=
  if nameOp op then isNameB t
  else if op = 7 then t == [45] || t == [33]
  else if op = 8 then hasB binL t && t != [38, 38] && t != [124, 124] && t != [126]
  else if op = 17 then t == [38, 38] || t == [124, 124]
  else if op = 11 then decide (1 ≤ t.length) && decide (t.length ≤ 60)
  else if op = 27 then decide (t.length ≤ 60)
  else t.isEmpty
def short60 (l : List (List UInt8)) : Bool := l.all fun s => decide (s.length ≤ 60)
def lblB (op : Int) (l : List (List UInt8)) : Bool :=
  if op = 6 then short60 l && decide (l.length ≤ 200)
  else if op = 24 then decide (l.length = 1) && l.all fun s => decide (1 ≤ s.length) && decide (s.length ≤ 60)
  else if op = 25 then decide (l.length = 1) && l.all fun s => isNameB (s ++ [60, 45]) && !s.isEmpty
  else l.isEmpty
def topC (op : Int) : Int := if op = 4 ∨ op = 5 then 200 else if op = 28 then 2 else 0
def valB (op : Int) (v : VecD) : Bool := vecOk v && (op == 0 || v.kind == 0) && !hasFun v
/-- all of an instruction but where it leads -/
def insR (x : InstrD) : Bool := decide (0 ≤ x.op) && decide (x.op ≤ 33) && txtB x.op x.text && lblB x.op x.labels && (decide (0 ≤ x.count) && decide (x.count ≤ topC x.op)) && valB x.op x.value
def argB (nseg i pc n : Nat) (op arg : Int) : Bool :=
  if refOp op then decide ((i : Int) + 1 ≤ arg) && decide (arg ≤ (nseg : Int) - 1)
  else if op = 13 then decide (0 ≤ arg) && decide (arg ≤ n)
  else if jmpOp op then decide ((pc : Int) + 1 ≤ arg) && decide (arg ≤ n)
  else arg == 0
def insB (nseg i pc n : Nat) (x : InstrD) : Bool := insR x && argB nseg i pc n x.op x.arg

/-! ### Operands -/
def ndI (op : Int) (cnt nl : Nat) (s : List UInt8) : List UInt8 × List UInt8 :=
  if op = 4 ∨ op = 5 then (118 :: List.replicate cnt 112, 118 :: List.replicate cnt 112 ++ [112])
  else if op = 6 then (118 :: List.replicate nl 112, [118])
  else if op = 7 ∨ op = 11 ∨ op = 20 ∨ op = 21 ∨ op = 15 ∨ op = 16 ∨ op = 26 ∨ op = 29 ∨ op = 28 then ([118], [118])
  else if op = 8 ∨ op = 9 ∨ op = 10 ∨ op = 17 ∨ op = 24 ∨ op = 25 then ([118, 118], [118])
  else if op = 22 ∨ op = 23 then ([118, 118, 118], [118])
  else if op = 14 then ([118], [])
  else if op = 18 then ([118], [118, 99])
  else if op = 19 then ([118, 99], [118, 99])
  else if op = 13 ∨ op = 27 ∨ op = 32 then ([], [])
  else if op = 12 then (if s.getLast? = some 99 then ([99], []) else ([118], []))
  else ([], [118])
def repB (s need give : List UInt8) : Option (List UInt8) :=
  if need.length ≤ s.length ∧ s.drop (s.length - need.length) = need then some (s.take (s.length - need.length) ++ give) else none
def aft (x : InstrD) (s : List UInt8) : Option (List UInt8) := repB s (ndI x.op x.count.toNat x.labels.length s).1 (ndI x.op x.count.toNat x.labels.length s).2
/-- the program's form -/
def effI (x : InstrD) (s : List UInt8) : Option (List UInt8) :=
  if x.op = 0 ∨ x.op = 1 ∨ x.op = 2 ∨ x.op = 30 ∨ x.op = 3 ∨ x.op = 31 ∨ x.op = 33 then some (s ++ [118])
  else if x.op = 4 ∨ x.op = 5 then repB s (118 :: List.replicate x.count.toNat 112) (118 :: List.replicate x.count.toNat 112 ++ [112])
  else if x.op = 6 then repB s (118 :: List.replicate x.labels.length 112) [118]
  else if x.op = 7 ∨ x.op = 11 ∨ x.op = 15 ∨ x.op = 16 ∨ x.op = 20 ∨ x.op = 21 ∨ x.op = 28 then repB s [118] [118]
  else if x.op = 8 ∨ x.op = 9 ∨ x.op = 10 ∨ x.op = 17 ∨ x.op = 24 ∨ x.op = 25 then repB s [118, 118] [118]
  else if x.op = 12 then (if s.length > 0 ∧ s.getLast? ≠ some 112 then some s.dropLast else none)
  else if x.op = 14 ∨ x.op = 26 ∨ x.op = 29 then repB s [118] []
  else if x.op = 18 then repB s [118] [118, 99]
  else if x.op = 19 then repB s [118, 99] [118, 99]
  else if x.op = 22 ∨ x.op = 23 then repB s [118, 118, 118] [118]
  else some s
def vpc (s : List UInt8) : Prop := ∀ c ∈ s, c = 118 ∨ c = 112 ∨ c = 99
theorem repB_len {s need give t : List UInt8} (h : repB s need give = some t) : t.length + need.length = s.length + give.length := by
  unfold repB at h
  split at h
  · injection h with h
    subst h
    simp
    omega
  · cases h
theorem repB_vpc {s need give t : List UInt8} (h : repB s need give = some t) (hs : vpc s) (hg : vpc give) : vpc t := by
  unfold repB at h
  split at h
  · injection h with h
    subst h
    intro c hc
    rcases List.mem_append.1 hc with hc | hc
    · exact hs c (List.mem_of_mem_take hc)
    · exact hg c hc
  · cases h
theorem repB_nil (s give : List UInt8) : repB s [] give = some (s ++ give) := by simp [repB]
theorem ndI_grow (op : Int) (cnt nl : Nat) (s : List UInt8) : (ndI op cnt nl s).2.length ≤ (ndI op cnt nl s).1.length + 1 := by
  unfold ndI
  repeat' split
  all_goals simp
theorem ndI_vpc (op : Int) (cnt nl : Nat) (s : List UInt8) : vpc (ndI op cnt nl s).2 := by
  unfold ndI
  repeat' split
  all_goals
    intro c hc
    simp at hc
    try omega
    try (rcases hc with rfl | rfl <;> decide)
    try (rcases hc with rfl | ⟨_, rfl⟩ | rfl <;> decide)
    try (subst hc; decide)
theorem aft_len {x : InstrD} {s t : List UInt8} (h : aft x s = some t) : t.length ≤ s.length + 1 := by
  have := repB_len h
  have := ndI_grow x.op x.count.toNat x.labels.length s
  omega
theorem aft_vpc {x : InstrD} {s t : List UInt8} (h : aft x s = some t) (hs : vpc s) : vpc t := repB_vpc h hs (ndI_vpc _ _ _ _)

theorem repB_v_nil (s : List UInt8) : (repB s [118] []).isSome = (repB s [118] [118]).isSome := by
  unfold repB
  split <;> simp_all

theorem last_drop (s : List UInt8) (c : UInt8) (h : 0 < s.length) : s.drop (s.length - 1) = [c] ↔ s.getLast? = some c := by
  have : s.drop (s.length - 1) = [s[s.length - 1]] := by
    rw [List.drop_eq_getElem_cons (by omega), List.drop_eq_nil_of_le (by omega)]
  rw [this, List.getLast?_eq_getElem?, List.getElem?_eq_getElem (by omega)]
  simp
theorem repB_one (s : List UInt8) (c : UInt8) : repB s [c] [] = if s.getLast? = some c then some s.dropLast else none := by
  unfold repB
  by_cases h : 0 < s.length
  · have e : s.take (s.length - 1) = s.dropLast := by rw [List.dropLast_eq_take]
    simp only [List.length_cons, List.length_nil, Nat.zero_add, last_drop s c h, List.append_nil, e]
    by_cases h2 : s.getLast? = some c
    · rw [if_pos ⟨by omega, h2⟩, if_pos h2]
    · rw [if_neg (fun h => h2 h.2), if_neg h2]
  · have : s = [] := List.eq_nil_of_length_eq_zero (by omega)
    subst this
    simp

/-- case by case -/
theorem op34 {P : Int → Prop} (h0 : P 0) (h1 : P 1) (h2 : P 2) (h3 : P 3) (h4 : P 4) (h5 : P 5) (h6 : P 6) (h7 : P 7) (h8 : P 8) (h9 : P 9) (h10 : P 10) (h11 : P 11) (h12 : P 12) (h13 : P 13) (h14 : P 14) (h15 : P 15) (h16 : P 16) (h17 : P 17) (h18 : P 18) (h19 : P 19) (h20 : P 20) (h21 : P 21) (h22 : P 22) (h23 : P 23) (h24 : P 24) (h25 : P 25) (h26 : P 26) (h27 : P 27) (h28 : P 28) (h29 : P 29) (h30 : P 30) (h31 : P 31) (h32 : P 32) (h33 : P 33) (op : Int) (l : 0 ≤ op) (u : op ≤ 33) : P op := by
  obtain ⟨n, rfl⟩ := Int.eq_ofNat_of_zero_le l
  match n, u with
  | 0, _ => exact h0
  | 1, _ => exact h1
  | 2, _ => exact h2
  | 3, _ => exact h3
  | 4, _ => exact h4
  | 5, _ => exact h5
  | 6, _ => exact h6
  | 7, _ => exact h7
  | 8, _ => exact h8
  | 9, _ => exact h9
  | 10, _ => exact h10
  | 11, _ => exact h11
  | 12, _ => exact h12
  | 13, _ => exact h13
  | 14, _ => exact h14
  | 15, _ => exact h15
  | 16, _ => exact h16
  | 17, _ => exact h17
  | 18, _ => exact h18
  | 19, _ => exact h19
  | 20, _ => exact h20
  | 21, _ => exact h21
  | 22, _ => exact h22
  | 23, _ => exact h23
  | 24, _ => exact h24
  | 25, _ => exact h25
  | 26, _ => exact h26
  | 27, _ => exact h27
  | 28, _ => exact h28
  | 29, _ => exact h29
  | 30, _ => exact h30
  | 31, _ => exact h31
  | 32, _ => exact h32
  | 33, _ => exact h33
  | n + 34, u => exact absurd u (by omega)

theorem effI_aft_op (arg count : Int) (text : List UInt8) (labels : List (List UInt8)) (value : VecD) (s : List UInt8) (hs : vpc s) : ∀ op : Int, 0 ≤ op → op ≤ 33 →
    (effI ⟨op, arg, count, text, labels, value⟩ s = none ↔ aft ⟨op, arg, count, text, labels, value⟩ s = none) ∧ (∀ t, aft ⟨op, arg, count, text, labels, value⟩ s = some t → op ≠ 26 → op ≠ 29 → effI ⟨op, arg, count, text, labels, value⟩ s = some t) := by
  refine op34 ?_ ?_ ?_ ?_ ?_ ?_ ?_ ?_ ?_ ?_ ?_ ?_ ?_ ?_ ?_ ?_ ?_ ?_ ?_ ?_ ?_ ?_ ?_ ?_ ?_ ?_ ?_ ?_ ?_ ?_ ?_ ?_ ?_ ?_
  case refine_13 =>
    have e : aft ⟨12, arg, count, text, labels, value⟩ s = if s.getLast? = some 99 then some s.dropLast else if s.getLast? = some 118 then some s.dropLast else none := by
      simp only [aft, ndI]
      by_cases h : s.getLast? = some 99
      · simp [h, repB_one]
      · simp [h, repB_one]
    have e2 : effI ⟨12, arg, count, text, labels, value⟩ s = if s.length > 0 ∧ s.getLast? ≠ some 112 then some s.dropLast else none := by simp [effI]
    rw [e, e2]
    cases hl : s.getLast? with
    | none =>
      have : s = [] := by simpa using hl
      subst this
      simp
    | some c =>
      have hm : c ∈ s := List.mem_of_getLast? hl
      have h0 : s.length > 0 := List.length_pos_of_mem hm
      rcases hs c hm with rfl | rfl | rfl <;> simp [h0]
  case refine_27 =>
    refine ⟨?_, fun t _ h => absurd rfl h⟩
    have := repB_v_nil s
    simp only [effI, aft, ndI]
    cases h1 : repB s [118] [] <;> cases h2 : repB s [118] [118] <;> simp_all
  case refine_30 =>
    refine ⟨?_, fun t _ _ h => absurd rfl h⟩
    have := repB_v_nil s
    simp only [effI, aft, ndI]
    cases h1 : repB s [118] [] <;> cases h2 : repB s [118] [118] <;> simp_all
  all_goals
    simp [effI, aft, ndI, repB_nil]
theorem effI_none (x : InstrD) (s : List UInt8) (hs : vpc s) (h0 : 0 ≤ x.op) (h1 : x.op ≤ 33) : effI x s = none ↔ aft x s = none :=
  (effI_aft_op x.arg x.count x.text x.labels x.value s hs x.op h0 h1).1
theorem effI_some (x : InstrD) (s t : List UInt8) (hs : vpc s) (h0 : 0 ≤ x.op) (h1 : x.op ≤ 33) (h : aft x s = some t) (h2 : x.op ≠ 26) (h3 : x.op ≠ 29) : effI x s = some t :=
  (effI_aft_op x.arg x.count x.text x.labels x.value s hs x.op h0 h1).2 t h h2 h3

/-! ### The flow of a segment -/
abbrev St := List (Option (List UInt8))
/-- what is known at a place must be what comes -/
def meet (st : St) (a : Nat) (s : List UInt8) : Option St :=
  match st[a]? with
  | some (some t) => if t = s then some st else none
  | _ => some (st.set a (some s))
def jmpS (op : Int) (t : List UInt8) : List UInt8 := if op = 19 then t.take (t.length - 2) ++ [118] else t
def backOk (st : St) (pc : Nat) (arg : Int) : Bool := decide ((pc : Int) < arg) || (st[arg.toNat]?.getD none).isSome
/-- the reference's step: behind itself first -/
def stepS (pc : Nat) (x : InstrD) (st : St) : Option St :=
  match st[pc]?.getD none with
  | none => some st
  | some s =>
    match aft x s with
    | none => none
    | some t =>
      match (if endOp x.op then some st else meet st (pc + 1) t) with
      | none => none
      | some st1 => if jmpOp x.op then (if backOk st1 pc x.arg then meet st1 x.arg.toNat (jmpS x.op t) else none) else some st1
/-- the program's step: the jump first -/
def jmpI (op : Int) (s t : List UInt8) : List UInt8 := if op = 19 then s.dropLast else if op = 13 then s else t
def stepI (pc : Nat) (x : InstrD) (st : St) : Option St :=
  match st[pc]?.getD none with
  | none => some st
  | some s =>
    match effI x s with
    | none => none
    | some t =>
      match (if jmpOp x.op then (if backOk st pc x.arg then meet st x.arg.toNat (jmpI x.op s t) else none) else some st) with
      | none => none
      | some st1 => if endOp x.op then some st1 else meet st1 (pc + 1) t
def runF (f : Nat → InstrD → St → Option St) : List InstrD → Nat → St → Option St
  | [], _, st => some st
  | x :: l, pc, st => match f pc x st with | none => none | some st' => runF f l (pc + 1) st'
def init (n : Nat) : St := some [] :: List.replicate n none
def endOk (n : Nat) : Option St → Bool
  | none => false
  | some st => match st[n]?.getD none with | none => true | some s => s == [118]
def flowS (l : List InstrD) : Bool := endOk l.length (runF stepS l 0 (init l.length))
def flowI (l : List InstrD) : Bool := endOk l.length (runF stepI l 0 (init l.length))

theorem meet_comm (st : St) (a b : Nat) (s t : List UInt8) (ha : a < st.length) (hb : b < st.length) :
    (meet st a s).bind (fun st => meet st b t) = (meet st b t).bind (fun st => meet st a s) := by
  unfold meet
  by_cases hab : a = b
  · subst hab
    rw [List.getElem?_eq_getElem ha]
    cases h : st[a] with
    | none =>
      simp only [Option.bind]
      simp only [List.getElem?_set_self, ha]
      by_cases he : s = t
      · subst he; rfl
      · simp [he, Ne.symm he]
    | some u =>
      by_cases h1 : u = s <;> by_cases h2 : u = t <;> simp_all [List.getElem?_eq_getElem ha]
  · rw [List.getElem?_eq_getElem ha, List.getElem?_eq_getElem hb]
    cases h1 : st[a] with
    | none =>
      cases h2 : st[b] with
      | none => simp [List.getElem?_set_ne (Ne.symm hab), List.getElem?_set_ne hab, List.getElem?_eq_getElem ha, List.getElem?_eq_getElem hb, h1, h2, List.set_comm _ _ hab]
      | some v => by_cases h3 : v = t <;> simp [List.getElem?_set_ne (Ne.symm hab), List.getElem?_set_ne hab, List.getElem?_eq_getElem ha, List.getElem?_eq_getElem hb, h1, h2, h3, hab]
    | some u =>
      cases h2 : st[b] with
      | none => by_cases h3 : u = s <;> simp [List.getElem?_set_ne (Ne.symm hab), List.getElem?_set_ne hab, List.getElem?_eq_getElem ha, List.getElem?_eq_getElem hb, h1, h2, h3, hab]
      | some v => by_cases h3 : u = s <;> by_cases h4 : v = t <;> simp [List.getElem?_eq_getElem ha, List.getElem?_eq_getElem hb, h1, h2, h3, h4]
theorem meet_len {st st' : St} {a : Nat} {s : List UInt8} (h : meet st a s = some st') : st'.length = st.length := by
  unfold meet at h
  split at h
  · split at h
    · injection h with h; rw [h]
    · cases h
  · injection h with h; rw [← h]; simp
theorem meet_get {st st' : St} {a b : Nat} {s : List UInt8} (h : meet st a s = some st') (hab : a ≠ b) : st'[b]? = st[b]? := by
  unfold meet at h
  split at h
  · split at h
    · injection h with h; rw [h]
    · cases h
  · injection h with h; rw [← h, List.getElem?_set_ne hab]
theorem meet_all {Q : List UInt8 → Prop} {st st' : St} {a : Nat} {s : List UInt8} (h : meet st a s = some st') (hq : ∀ t, some t ∈ st → Q t) (hs : Q s) : ∀ t, some t ∈ st' → Q t := by
  unfold meet at h
  split at h
  · split at h
    · injection h with h; rw [← h]; exact hq
    · cases h
  · injection h with h
    subst h
    intro t ht
    rcases List.mem_or_eq_of_mem_set ht with h1 | h1
    · exact hq t h1
    · injection h1 with h1; rw [h1]; exact hs

theorem for_dropLast {x : InstrD} {s t : List UInt8} (hx : x.op = 19) (h : aft x s = some t) : s.dropLast = t.take (t.length - 2) ++ [118] := by
  simp only [aft, ndI, hx] at h
  simp [repB] at h
  obtain ⟨⟨h1, h2⟩, h3⟩ := h
  have h4 : t.length = s.length := by rw [← h3]; simp; omega
  rw [h4, ← h3]
  have h5 : s = s.take (s.length - 2) ++ [118, 99] := by conv => lhs; rw [← List.take_append_drop (s.length - 2) s, h2]
  rw [List.take_append_of_le_length (by simp), List.take_take, Nat.min_self]
  conv => lhs; rw [h5]
  simp [List.dropLast_append]
theorem jump_same {x : InstrD} {s t : List UInt8} (h : aft x s = some t) : jmpI x.op s t = jmpS x.op t := by
  unfold jmpI jmpS
  by_cases h1 : x.op = 19
  · simp only [h1, if_true]; exact for_dropLast h1 h
  · by_cases h2 : x.op = 13
    · simp only [h2]
      have : aft x s = some s := by simp [aft, ndI, h2, repB_nil]
      rw [this] at h
      injection h with h
    · simp [h1, h2]
/-- one step, in both orders -/
theorem step_same (pc : Nat) (x : InstrD) (st : St) (h0 : 0 ≤ x.op) (h1 : x.op ≤ 33) (hpc : pc + 1 < st.length) (harg : jmpOp x.op = true → 0 ≤ x.arg ∧ x.arg < st.length) (hv : ∀ s, some s ∈ st → vpc s) : stepI pc x st = stepS pc x st := by
  unfold stepI stepS
  have hp : pc < st.length := by omega
  rw [List.getElem?_eq_getElem hp, Option.getD_some]
  cases hs : st[pc] with
  | none => rfl
  | some s =>
    have hvs : vpc s := hv s (hs ▸ List.getElem_mem hp)
    simp only
    cases ha : aft x s with
    | none => rw [(effI_none x s hvs h0 h1).2 ha]
    | some t =>
      have hn : effI x s ≠ none := fun h => by rw [effI_none x s hvs h0 h1, ha] at h; cases h
      cases he : effI x s with
      | none => exact absurd he hn
      | some t' =>
        simp only
        by_cases hr : x.op = 26 ∨ x.op = 29
        · have e1 : jmpOp x.op = false := by rcases hr with hr | hr <;> simp [jmpOp, hr]
          have e2 : endOp x.op = true := by rcases hr with hr | hr <;> simp [endOp, hr]
          simp [e1, e2]
        · have : t' = t := by
            have := effI_some x s t hvs h0 h1 ha (fun h => hr (.inl h)) (fun h => hr (.inr h))
            rw [he] at this
            injection this
          subst this
          rw [jump_same ha]
          cases hj : jmpOp x.op
          · cases hE : endOp x.op
            · simp only [Bool.false_eq_true, if_false]; cases meet st (pc + 1) t' <;> rfl
            · rfl
          · obtain ⟨a0, a1⟩ := harg hj
            obtain ⟨a, haa⟩ := Int.eq_ofNat_of_zero_le a0
            have ha' : a < st.length := by omega
            cases hE : endOp x.op
            · simp only [if_true, Bool.false_eq_true, if_false, haa, Int.toNat_natCast]
              by_cases hb : backOk st pc (a : Int) = true
              · rw [if_pos hb]
                have hc := meet_comm st a (pc + 1) (jmpS x.op t') t' ha' hpc
                have hb2 : ∀ st1, meet st (pc + 1) t' = some st1 → backOk st1 pc (a : Int) = true := by
                  intro st1 hm
                  unfold backOk at hb ⊢
                  by_cases hlt : (pc : Int) < a
                  · simp [hlt]
                  · rw [meet_get hm (by omega)]
                    exact hb
                cases hm : meet st (pc + 1) t' with
                | none => rw [hm] at hc; simp only [Option.bind] at hc ⊢; split <;> simp_all
                | some st1 =>
                  rw [hm] at hc
                  simp only [Option.bind, hb2 st1 hm, if_true] at hc ⊢
                  rw [← hc]
                  cases meet st a (jmpS x.op t') <;> rfl
              · rw [if_neg hb]
                cases hm : meet st (pc + 1) t' with
                | none => rfl
                | some st1 =>
                  have : ¬ backOk st1 pc (a : Int) = true := by
                    intro h
                    apply hb
                    unfold backOk at h ⊢
                    by_cases hlt : (pc : Int) < a
                    · simp [hlt]
                    · rw [meet_get hm (by omega)] at h
                      exact h
                  simp [this]
            · simp only [if_true]
              by_cases hb : backOk st pc x.arg = true
              · simp only [hb, if_true]; cases meet st x.arg.toNat (jmpS x.op t') <;> rfl
              · simp [hb]
theorem stepS_inv {pc : Nat} {x : InstrD} {st st' : St} (h : stepS pc x st = some st') (hv : ∀ s, some s ∈ st → vpc s) : st'.length = st.length ∧ ∀ s, some s ∈ st' → vpc s := by
  unfold stepS at h
  split at h
  · injection h with h; subst h; exact ⟨rfl, hv⟩
  · rename_i s hs
    have hvs : vpc s := by
      cases hg : st[pc]? with
      | none => rw [hg] at hs; cases hs
      | some o => rw [hg] at hs; simp only [Option.getD_some] at hs; subst hs; exact hv s (List.mem_of_getElem? hg)
    split at h
    · cases h
    · rename_i t ht
      have hvt := aft_vpc ht hvs
      have hj : vpc (jmpS x.op t) := by
        unfold jmpS
        split
        · intro c hc
          rcases List.mem_append.1 hc with hc | hc
          · exact hvt c (List.mem_of_mem_take hc)
          · simp at hc; exact .inl hc
        · exact hvt
      split at h
      · cases h
      · rename_i st1 h1
        have hI : st1.length = st.length ∧ ∀ s, some s ∈ st1 → vpc s := by
          split at h1
          · injection h1 with h1; subst h1; exact ⟨rfl, hv⟩
          · exact ⟨meet_len h1, meet_all h1 hv hvt⟩
        split at h
        · split at h
          · exact ⟨(meet_len h).trans hI.1, meet_all h hI.2 hj⟩
          · cases h
        · injection h with h; subst h; exact hI
theorem run_same (n : Nat) : ∀ (l : List InstrD) (pc : Nat) (st : St), pc + l.length = n → st.length = n + 1 → (∀ x ∈ l, 0 ≤ x.op ∧ x.op ≤ 33 ∧ (jmpOp x.op = true → 0 ≤ x.arg ∧ x.arg ≤ n)) → (∀ s, some s ∈ st → vpc s) → runF stepI l pc st = runF stepS l pc st := by
  intro l
  induction l with
  | nil => intro pc st _ _ _ _; rfl
  | cons x l ih =>
    intro pc st hn hl hx hv
    have hx0 := hx x (by simp)
    simp only [List.length_cons] at hn
    have hs := step_same pc x st hx0.1 hx0.2.1 (by omega) (fun h => by have := hx0.2.2 h; omega) hv
    simp only [runF, hs]
    cases h : stepS pc x st with
    | none => rfl
    | some st' =>
      have hi := stepS_inv h hv
      exact ih (pc + 1) st' (by omega) (by omega) (fun y hy => hx y (by simp [hy])) hi.2
theorem flow_same (l : List InstrD) (hx : ∀ x ∈ l, 0 ≤ x.op ∧ x.op ≤ 33 ∧ (jmpOp x.op = true → 0 ≤ x.arg ∧ x.arg ≤ l.length)) : flowI l = flowS l := by
  unfold flowI flowS
  rw [run_same l.length l 0 (init l.length) (by omega) (by simp [init]) hx]
  intro s hs
  simp only [init, List.mem_cons, List.mem_replicate] at hs
  rcases hs with hs | ⟨_, hs⟩
  · injection hs with hs; subst hs; intro c hc; cases hc
  · cases hs

/-! ### Segments and programs -/
def lb1 (nseg k : Nat) (g : SegD) (i : Nat) : Bool :=
  isNameB (g.labels[i]?.getD []) && !hasB (g.labels.take i) (g.labels[i]?.getD []) && (g.defaults[i]?.getD 0 == -1 || (decide ((k : Int) + 1 ≤ g.defaults[i]?.getD 0) && decide (g.defaults[i]?.getD 0 ≤ (nseg : Int) - 1)))
def lbsB (nseg k : Nat) (g : SegD) : Bool := decide (g.labels.length = g.defaults.length) && decide (g.labels.length ≤ 200) && decide (∀ i (h : i < g.labels.length), lb1 nseg k g i = true)
def insAll (nseg k : Nat) (g : SegD) : Bool := decide (∀ i (h : i < g.instrs.length), insB nseg k i g.instrs.length g.instrs[i] = true)
def segB (nseg k : Nat) (g : SegD) : Bool := lbsB nseg k g && insAll nseg k g && flowS g.instrs
theorem argB_jump {nseg i pc n : Nat} {op arg : Int} (h : argB nseg i pc n op arg = true) (hj : jmpOp op = true) : 0 ≤ arg ∧ arg ≤ n := by
  unfold argB at h
  have hr : refOp op = false := by
    simp only [jmpOp, Bool.or_eq_true, beq_iff_eq] at hj
    rcases hj with (((h | h) | h) | h) | h <;> subst h <;> decide
  rw [hr] at h
  simp only [Bool.false_eq_true, if_false, hj, if_true] at h
  split at h <;> simp at h <;> omega
theorem insAll_flow {nseg k : Nat} {g : SegD} (h : insAll nseg k g = true) : flowI g.instrs = flowS g.instrs := by
  refine flow_same _ fun x hx => ?_
  obtain ⟨i, hi, rfl⟩ := List.getElem_of_mem hx
  have := of_decide_eq_true h i hi
  simp only [insB, insR, Bool.and_eq_true, decide_eq_true_eq] at this
  exact ⟨this.1.1.1.1.1.1, this.1.1.1.1.1.2, fun hj => argB_jump this.2 hj⟩
/-- the segments to which a segment refers -/
def refsG (g : SegD) : List Int := g.defaults.filter (fun d => decide (0 ≤ d)) ++ (g.instrs.filter fun x => refOp x.op).map InstrD.arg
def refsB (b : CodeD) : List Int := b.main ++ b.segments.flatMap refsG
def mainB (b : CodeD) : Bool := decide (b.segments.length ≤ 200) && decide (sizeC b.segments ≤ 1000) && decide (b.main.length = b.quiet.length) && decide (b.main.length ≤ 200)
def inB (b : CodeD) : Bool := b.main.all fun k => decide (0 ≤ k) && decide (k ≤ (b.segments.length : Int) - 1)
def segsB (b : CodeD) : Bool := decide (∀ i (h : i < b.segments.length), segB b.segments.length i b.segments[i] = true)
def checkB (b : CodeD) : Bool := mainB b && inB b && segsB b && decide (refsB b).Nodup
end Go.Proofs.YtjdfancbmjnjfaaGreat
namespace Go.Proofs.YtjdfancbmjnjfaaGreat
set_option maxRecDepth 100000
open Go.ChangeShapes Go.WideShapes Go.ChangeAt Go.RowKit Go.Deep
set_option linter.unusedVariables false
set_option linter.unusedSimpArgs false

/-! ### Places that can be reached going forward -/
inductive FR (l : List InstrD) : Nat → Prop
  | zero : FR l 0
  | next {p : Nat} (h : p < l.length) : FR l p → endOp l[p].op = false → FR l (p + 1)
  | jump {p : Nat} (h : p < l.length) : FR l p → jmpOp l[p].op = true → (p : Int) < l[p].arg → FR l l[p].arg.toNat
/-- what can be reached by any way -/
inductive RR (l : List InstrD) : Nat → Prop
  | zero : RR l 0
  | next {p : Nat} (h : p < l.length) : RR l p → endOp l[p].op = false → RR l (p + 1)
  | jump {p : Nat} (h : p < l.length) : RR l p → jmpOp l[p].op = true → RR l l[p].arg.toNat
/-- where instructions lead lies inside, and only plain jumps go back -/
def ArgOk (l : List InstrD) : Prop := ∀ (p : Nat) (h : p < l.length), jmpOp l[p].op = true → 0 ≤ l[p].arg ∧ l[p].arg ≤ l.length ∧ (l[p].op ≠ 13 → (p : Int) < l[p].arg)
/-- what a jump that is reached leads back to is reached without it -/
def BackOk (l : List InstrD) : Prop := ∀ (p : Nat) (h : p < l.length), FR l p → jmpOp l[p].op = true → l[p].arg ≤ p → FR l l[p].arg.toNat
theorem RR_FR {l : List InstrD} (hb : BackOk l) (p : Nat) : RR l p ↔ FR l p := by
  constructor
  · intro h
    induction h with
    | zero => exact .zero
    | next h _ he ih => exact .next h ih he
    | @jump p h _ hj ih =>
      by_cases hlt : (p : Int) < l[p].arg
      · exact .jump h ih hj hlt
      · exact hb p h ih hj (by omega)
  · intro h
    induction h with
    | zero => exact .zero
    | next h _ he ih => exact .next h ih he
    | jump h _ hj _ ih => exact .jump h ih hj

/-! ### Threading -/
/-- a jump leads back to place t -/
def backB (l : List InstrD) (t : Nat) : Bool := (List.range l.length).any fun i => match l[i]? with | some x => x.op == 13 && decide (x.arg ≤ i) && x.arg == t | none => false
theorem backB_of {l : List InstrD} {p : Nat} (h : p < l.length) (ho : l[p].op = 13) (ha : l[p].arg ≤ p) (h0 : 0 ≤ l[p].arg) : backB l l[p].arg.toNat = true := by
  unfold backB
  rw [List.any_eq_true]
  refine ⟨p, List.mem_range.2 h, ?_⟩
  rw [List.getElem?_eq_getElem h]
  simp [ho, ha, Int.toNat_of_nonneg h0]
/-- place t is a jump ahead to which none leads back -/
def skipB (back : Nat → Bool) (cur : List InstrD) (t : Nat) : Bool := match cur[t]? with | some x => x.op == 13 && decide ((t : Int) < x.arg) && !back t | none => false
def goB (back : Nat → Bool) (cur : List InstrD) (i : Nat) : Bool := match cur[i]? with | some x => jmpOp x.op && decide ((i : Int) < x.arg) && skipB back cur x.arg.toNat | none => false
def argAt (cur : List InstrD) (t : Nat) : Int := match cur[t]? with | some x => x.arg | none => 0
def setArg (cur : List InstrD) (i : Nat) (a : Int) : List InstrD := match cur[i]? with | some x => cur.set i { x with arg := a } | none => cur
def follow (back : Nat → Bool) (i : Nat) : Nat → List InstrD → List InstrD
  | 0, cur => cur
  | f + 1, cur => if goB back cur i then follow back i f (setArg cur i (argAt cur (argAt cur i).toNat)) else cur
/-- the places from i on, from the last to the first -/
def thrN (l : List InstrD) : Nat → List InstrD
  | 0 => l
  | k + 1 => follow (backB l) (l.length - (k + 1)) (l.length + 1) (thrN l k)
def thrF (l : List InstrD) : List InstrD := thrN l l.length

theorem setArg_len (cur : List InstrD) (i : Nat) (a : Int) : (setArg cur i a).length = cur.length := by unfold setArg; split <;> simp
theorem follow_len (back : Nat → Bool) (i : Nat) : ∀ f cur, (follow back i f cur).length = cur.length := by
  intro f
  induction f with
  | zero => intro cur; rfl
  | succ f ih => intro cur; unfold follow; split; rw [ih, setArg_len]; rfl
theorem thrN_len (l : List InstrD) : ∀ k, (thrN l k).length = l.length := by
  intro k
  induction k with
  | zero => rfl
  | succ k ih => rw [thrN, follow_len, ih]
theorem setArg_get (cur : List InstrD) (i j : Nat) (a : Int) (h : j < cur.length) (h2 : j < (setArg cur i a).length) : (setArg cur i a)[j] = if j = i then { cur[j] with arg := a } else cur[j] := by
  unfold setArg
  by_cases hi : i < cur.length
  · simp only [List.getElem?_eq_getElem hi, List.getElem_set]
    by_cases e : i = j
    · subst e; simp
    · rw [if_neg e, if_neg (Ne.symm e)]
  · have : j ≠ i := by omega
    simp only [List.getElem?_eq_none (Nat.le_of_not_lt hi), if_neg this]

/-- cur is l with other targets -/
def Sim (l cur : List InstrD) : Prop := ∃ h : cur.length = l.length, ∀ (j : Nat) (hj : j < l.length), (cur[j]'(by omega)) = { l[j] with arg := (cur[j]'(by omega)).arg }
theorem Sim.refl (l : List InstrD) : Sim l l := ⟨rfl, fun _ _ => rfl⟩
theorem Sim.op {l cur : List InstrD} (h : Sim l cur) {j : Nat} (hj : j < l.length) (hc : j < cur.length) : cur[j].op = l[j].op := by
  obtain ⟨h1, h2⟩ := h
  rw [h2 j hj]
theorem Sim.set {l cur : List InstrD} (h : Sim l cur) (i : Nat) (a : Int) : Sim l (setArg cur i a) := by
  obtain ⟨h1, h2⟩ := h
  refine ⟨by rw [setArg_len, h1], fun j hj => ?_⟩
  rw [setArg_get cur i j a (by omega)]
  split
  · have := h2 j hj
    rw [this]
  · exact h2 j hj

/-- the threaded targets: cur has them from place k on -/
structure Thr (l cur : List InstrD) (k : Nat) : Prop where
  sim : Sim l cur
  low : ∀ (j : Nat) (hj : j < l.length) (hc : j < cur.length), j < k → cur[j].arg = l[j].arg
  same : ∀ (j : Nat) (hj : j < l.length) (hc : j < cur.length), ¬ (jmpOp l[j].op = true ∧ (j : Int) < l[j].arg) → cur[j].arg = l[j].arg
  jmp : ∀ (j : Nat) (hj : j < l.length) (hc : j < cur.length), k ≤ j → jmpOp l[j].op = true → (j : Int) < l[j].arg →
    cur[j].arg = if skipB (backB l) l l[j].arg.toNat then argAt cur l[j].arg.toNat else l[j].arg
  up : ∀ (j : Nat) (hj : j < l.length) (hc : j < cur.length), jmpOp l[j].op = true → (j : Int) < l[j].arg → l[j].arg ≤ cur[j].arg
  fin : ∀ (j : Nat) (hj : j < l.length) (hc : j < cur.length), k ≤ j → jmpOp l[j].op = true → (j : Int) < l[j].arg → skipB (backB l) l cur[j].arg.toNat = false
  top : ∀ (j : Nat) (hj : j < l.length) (hc : j < cur.length), jmpOp l[j].op = true → 0 ≤ cur[j].arg ∧ cur[j].arg ≤ l.length

theorem jmp13 : jmpOp 13 = true := by decide
theorem skipB_iff (back : Nat → Bool) (l : List InstrD) (t : Nat) : skipB back l t = true ↔ ∃ h : t < l.length, l[t].op = 13 ∧ (t : Int) < l[t].arg ∧ back t = false := by
  unfold skipB
  by_cases h : t < l.length
  · simp only [List.getElem?_eq_getElem h, Bool.and_eq_true, beq_iff_eq, decide_eq_true_eq, Bool.not_eq_true']
    constructor
    · rintro ⟨⟨a, b⟩, c⟩; exact ⟨h, a, b, c⟩
    · rintro ⟨_, a, b, c⟩; exact ⟨⟨a, b⟩, c⟩
  · simp only [List.getElem?_eq_none (Nat.le_of_not_lt h)]
    constructor
    · intro h; cases h
    · rintro ⟨h2, _⟩; exact absurd h2 h
theorem argAt_eq (l : List InstrD) (t : Nat) (h : t < l.length) : argAt l t = l[t].arg := by unfold argAt; rw [List.getElem?_eq_getElem h]
theorem goB_eq (back : Nat → Bool) (l : List InstrD) (t : Nat) (h : t < l.length) : goB back l t = (jmpOp l[t].op && decide ((t : Int) < l[t].arg) && skipB back l l[t].arg.toNat) := by unfold goB; rw [List.getElem?_eq_getElem h]

/-- whether a place may be jumped over is the same in what has been threaded -/
theorem Thr.skip {l cur : List InstrD} {k : Nat} (h : Thr l cur k) (t : Nat) : skipB (backB l) cur t = skipB (backB l) l t := by
  have hl := h.sim.1
  rw [Bool.eq_iff_iff, skipB_iff, skipB_iff]
  constructor
  · rintro ⟨h1, h2, h3, h4⟩
    have ht : t < l.length := by omega
    have ho := h.sim.op ht h1
    rw [h2] at ho
    refine ⟨ht, ho.symm, ?_, h4⟩
    by_cases hn : (t : Int) < l[t].arg
    · exact hn
    · have := h.same t ht h1 (fun hh => hn hh.2)
      omega
  · rintro ⟨h1, h2, h3, h4⟩
    have ht : t < cur.length := by omega
    have ho := h.sim.op h1 ht
    have hu := h.up t h1 ht (by rw [h2]; exact jmp13) h3
    exact ⟨ht, by rw [ho, h2], by omega, h4⟩

theorem Thr.start (l : List InstrD) (ha : ArgOk l) : Thr l l l.length where
  sim := Sim.refl l
  low := fun _ _ _ _ => rfl
  same := fun _ _ _ _ => rfl
  jmp := fun j hj _ h => absurd h (by omega)
  up := fun _ _ _ _ _ => Int.le_refl _
  fin := fun j hj _ h => absurd h (by omega)
  top := fun j hj _ hjm => ⟨(ha j hj hjm).1, (ha j hj hjm).2.1⟩

theorem follow_stop (back : Nat → Bool) (i f : Nat) (cur : List InstrD) (h : goB back cur i = false) : follow back i f cur = cur := by
  cases f with
  | zero => rfl
  | succ f => unfold follow; rw [h]; rfl

theorem Thr.step {l cur : List InstrD} {i : Nat} (h : Thr l cur (i + 1)) (hi : i < l.length) : Thr l (follow (backB l) i (l.length + 1) cur) i := by
  have hl := h.sim.1
  have hc : i < cur.length := by omega
  have hlow := h.low i hi hc (by omega)
  have hop := h.sim.op hi hc
  have hg := goB_eq (backB l) cur i hc
  rw [hop, hlow, h.skip] at hg
  by_cases hgo : goB (backB l) cur i = true
  · rw [hgo] at hg
    have hg' := hg.symm
    simp only [Bool.and_eq_true, decide_eq_true_eq] at hg'
    obtain ⟨⟨hj, hlt⟩, hsk⟩ := hg'
    obtain ⟨ht, ho13, htl, hbk⟩ := (skipB_iff _ _ _).1 hsk
    have ht0 : ((l[i].arg.toNat : Nat) : Int) = l[i].arg := Int.toNat_of_nonneg (by omega)
    have hit : i + 1 ≤ l[i].arg.toNat := by omega
    have htc : l[i].arg.toNat < cur.length := by omega
    have hju : jmpOp l[l[i].arg.toNat].op = true := by rw [ho13]; exact jmp13
    have hfin := h.fin _ ht htc hit hju htl
    have hup := h.up _ ht htc hju htl
    have htop := h.top _ ht htc hju
    have e1 : argAt cur i = l[i].arg := by rw [argAt_eq cur i hc, hlow]
    have e2 : argAt cur (argAt cur i).toNat = cur[l[i].arg.toNat].arg := by rw [e1, argAt_eq cur _ htc]
    have hstep : follow (backB l) i (l.length + 1) cur = setArg cur i cur[l[i].arg.toNat].arg := by
      rw [follow, if_pos hgo, e2]
      refine follow_stop _ _ _ _ ?_
      rw [goB_eq _ _ i (by rw [setArg_len]; exact hc), setArg_get cur i i _ hc, if_pos rfl]
      have hs2 : skipB (backB l) (setArg cur i cur[l[i].arg.toNat].arg) cur[l[i].arg.toNat].arg.toNat = skipB (backB l) cur cur[l[i].arg.toNat].arg.toNat := by
        have hne : cur[l[i].arg.toNat].arg.toNat ≠ i := by omega
        unfold skipB setArg
        rw [List.getElem?_eq_getElem hc]
        simp only
        rw [List.getElem?_set_ne (Ne.symm hne)]
      rw [hs2, h.skip, hfin]
      simp
    rw [hstep]
    have hlen := setArg_len cur i cur[l[i].arg.toNat].arg
    have gt : ∀ (j : Nat) (hj : j < cur.length) (hj2 : j < (setArg cur i cur[l[i].arg.toNat].arg).length), (setArg cur i cur[l[i].arg.toNat].arg)[j]'hj2 = if j = i then { cur[j] with arg := cur[l[i].arg.toNat].arg } else cur[j] := fun j hj hj2 => setArg_get cur i j _ hj hj2
    exact {
      sim := h.sim.set i _
      low := fun j hj hjc hlt2 => by rw [gt j (by omega), if_neg (by omega)]; exact h.low j hj (by omega) (by omega)
      same := fun j hj hjc hn => by
        have hne : j ≠ i := by rintro rfl; exact hn ⟨‹_›, hlt⟩
        rw [gt j (by omega), if_neg hne]
        exact h.same j hj (by omega) hn
      jmp := fun j hj hjc hk hjj hjl => by
        by_cases e : j = i
        · subst e
          rw [gt j hc, if_pos rfl, hsk, if_pos rfl]
          unfold argAt setArg
          rw [List.getElem?_eq_getElem hc]
          simp only
          rw [List.getElem?_set_ne (by omega), List.getElem?_eq_getElem htc]
        · rw [gt j (by omega), if_neg e, h.jmp j hj (by omega) (by omega) hjj hjl]
          split
          · unfold argAt setArg
            rw [List.getElem?_eq_getElem hc]
            simp only
            rw [List.getElem?_set_ne (by omega)]
          · rfl
      up := fun j hj hjc hjj hjl => by
        by_cases e : j = i
        · subst e
          rw [gt j hc, if_pos rfl]
          show l[j].arg ≤ cur[l[j].arg.toNat].arg
          omega
        · rw [gt j (by omega), if_neg e]
          exact h.up j hj (by omega) hjj hjl
      fin := fun j hj hjc hk hjj hjl => by
        by_cases e : j = i
        · subst e
          rw [gt j hc, if_pos rfl]
          exact hfin
        · rw [gt j (by omega), if_neg e]
          exact h.fin j hj (by omega) (by omega) hjj hjl
      top := fun j hj hjc hjj => by
        by_cases e : j = i
        · subst e
          rw [gt j hc, if_pos rfl]
          exact htop
        · rw [gt j (by omega), if_neg e]
          exact h.top j hj (by omega) hjj }
  · have hgo' : goB (backB l) cur i = false := by simpa using hgo
    rw [follow_stop _ _ _ _ hgo']
    rw [hgo'] at hg
    have hns : jmpOp l[i].op = true → (i : Int) < l[i].arg → skipB (backB l) l l[i].arg.toNat = false := by
      intro h1 h2
      rw [h1] at hg
      simpa [h2] using hg.symm
    exact {
      sim := h.sim
      low := fun j hj hjc hlt2 => h.low j hj hjc (by omega)
      same := h.same
      jmp := fun j hj hjc hk hjj hjl => by
        by_cases e : j = i
        · subst e
          rw [hns hjj hjl, hlow]
          rfl
        · exact h.jmp j hj hjc (by omega) hjj hjl
      up := h.up
      fin := fun j hj hjc hk hjj hjl => by
        by_cases e : j = i
        · subst e
          rw [hlow]
          exact hns hjj hjl
        · exact h.fin j hj hjc (by omega) hjj hjl
      top := h.top }
theorem thrN_Thr (l : List InstrD) (ha : ArgOk l) : ∀ k, k ≤ l.length → Thr l (thrN l k) (l.length - k) := by
  intro k
  induction k with
  | zero => intro _; exact Thr.start l ha
  | succ k ih =>
    intro hk
    have h1 := ih (by omega)
    rw [thrN]
    refine Thr.step ?_ (by omega)
    rw [show l.length - (k + 1) + 1 = l.length - k by omega]
    exact h1
theorem thrF_Thr (l : List InstrD) (ha : ArgOk l) : Thr l (thrF l) 0 := by
  have := thrN_Thr l ha l.length (Nat.le_refl _)
  rwa [Nat.sub_self] at this

/-- where a place leads in the end -/
def endS (l cur : List InstrD) (p : Nat) : Nat := if skipB (backB l) l p then (argAt cur p).toNat else p
theorem Thr.fr {l cur : List InstrD} (h : Thr l cur 0) {p : Nat} (hp : FR l p) : FR cur (endS l cur p) := by
  have hl := h.sim.1
  have key : ∀ q, FR cur q → FR cur (endS l cur q) := by
    intro q hq
    unfold endS
    by_cases hs : skipB (backB l) l q = true
    · rw [if_pos hs]
      obtain ⟨h1, h2, h3, h4⟩ := (skipB_iff _ _ _).1 hs
      have hqc : q < cur.length := by omega
      have ho := h.sim.op h1 hqc
      have hu := h.up q h1 hqc (by rw [h2]; exact jmp13) h3
      rw [argAt_eq cur q hqc]
      exact .jump hqc hq (by rw [ho, h2]; exact jmp13) (by omega)
    · rw [if_neg hs]
      exact hq
  induction hp with
  | zero => exact key 0 .zero
  | @next p hpl _ he ih =>
    have hns : skipB (backB l) l p = false := by
      rw [Bool.eq_false_iff]
      intro hs
      obtain ⟨h1, h2, h3, h4⟩ := (skipB_iff _ _ _).1 hs
      rw [h2] at he
      exact absurd he (by decide)
    unfold endS at ih
    rw [hns] at ih
    have hpc : p < cur.length := by omega
    exact key _ (.next hpc ih (by rw [h.sim.op hpl hpc]; exact he))
  | @jump p hpl _ hj hlt ih =>
    have hpc : p < cur.length := by omega
    have hjm := h.jmp p hpl hpc (Nat.zero_le _) hj hlt
    have e : endS l cur l[p].arg.toNat = cur[p].arg.toNat := by
      unfold endS
      rw [hjm]
      split <;> rfl
    rw [e]
    by_cases hs : skipB (backB l) l p = true
    · unfold endS at ih
      rw [if_pos hs, argAt_eq cur p hpc] at ih
      exact ih
    · unfold endS at ih
      rw [if_neg hs] at ih
      have hu := h.up p hpl hpc hj hlt
      exact .jump hpc ih (by rw [h.sim.op hpl hpc]; exact hj) (by omega)
theorem Thr.fr_back {l cur : List InstrD} (h : Thr l cur 0) {p : Nat} (hp : FR cur p) : FR l p := by
  have hl := h.sim.1
  -- where the threaded target of a place that is reached lies
  have key : ∀ (n p : Nat) (hpl : p < l.length) (hpc : p < cur.length), l.length - p ≤ n → FR l p → jmpOp l[p].op = true → (p : Int) < l[p].arg → FR l cur[p].arg.toNat := by
    intro n
    induction n with
    | zero => intro p hpl hpc hn; omega
    | succ n ih =>
      intro p hpl hpc hn hf hj hlt
      have hjm := h.jmp p hpl hpc (Nat.zero_le _) hj hlt
      have hft : FR l l[p].arg.toNat := .jump hpl hf hj hlt
      by_cases hs : skipB (backB l) l l[p].arg.toNat = true
      · rw [hjm, if_pos hs]
        obtain ⟨h1, h2, h3, h4⟩ := (skipB_iff _ _ _).1 hs
        rw [argAt_eq cur _ (by omega)]
        exact ih _ h1 (by omega) (by omega) hft (by rw [h2]; exact jmp13) h3
      · rw [hjm, if_neg hs]
        exact hft
  induction hp with
  | zero => exact .zero
  | @next p hpc _ he ih =>
    have hpl : p < l.length := by omega
    exact .next hpl ih (by rw [← h.sim.op hpl hpc]; exact he)
  | @jump p hpc _ hj hlt ih =>
    have hpl : p < l.length := by omega
    rw [h.sim.op hpl hpc] at hj
    by_cases hlt2 : (p : Int) < l[p].arg
    · exact key l.length p hpl hpc (by omega) ih hj hlt2
    · have := h.same p hpl hpc (fun hh => hlt2 hh.2)
      omega
theorem Thr.ok {l cur : List InstrD} (h : Thr l cur 0) (ha : ArgOk l) : ArgOk cur := by
  have hl := h.sim.1
  intro p hp hj
  have hpl : p < l.length := by omega
  rw [h.sim.op hpl hp] at hj ⊢
  have ht := h.top p hpl hp hj
  refine ⟨ht.1, by omega, fun hne => ?_⟩
  have h3 := (ha p hpl hj).2.2 hne
  have hu := h.up p hpl hp hj h3
  omega
theorem Thr.back {l cur : List InstrD} (h : Thr l cur 0) (ha : ArgOk l) (hb : BackOk l) : BackOk cur := by
  have hl := h.sim.1
  intro p hp hf hj hle
  have hpl : p < l.length := by omega
  rw [h.sim.op hpl hp] at hj
  have hfl := h.fr_back hf
  have hnl : ¬ (p : Int) < l[p].arg := by
    intro hlt
    have := h.up p hpl hp hj hlt
    omega
  have he := h.same p hpl hp (fun hh => hnl hh.2)
  have h13 : l[p].op = 13 := by
    by_cases e : l[p].op = 13
    · exact e
    · exact absurd ((ha p hpl hj).2.2 e) hnl
  have hf2 := hb p hpl hfl hj (by omega)
  have hbk := backB_of hpl h13 (by omega) (ha p hpl hj).1
  have := h.fr hf2
  unfold endS at this
  have hns : skipB (backB l) l l[p].arg.toNat = false := by
    rw [Bool.eq_false_iff]
    intro hs
    obtain ⟨_, _, _, h4⟩ := (skipB_iff _ _ _).1 hs
    rw [hbk] at h4
    cases h4
  rw [hns] at this
  rw [he]
  exact this
theorem thrF_ok {l : List InstrD} (ha : ArgOk l) : ArgOk (thrF l) := (thrF_Thr l ha).ok ha
theorem thrF_back {l : List InstrD} (ha : ArgOk l) (hb : BackOk l) : BackOk (thrF l) := (thrF_Thr l ha).back ha hb
theorem thrF_len (l : List InstrD) : (thrF l).length = l.length := thrN_len l _
/-! ### What is kept -/
def bAt (r : List Bool) (p : Nat) : Bool := r[p]?.getD false
theorem bAt_set (r : List Bool) (i p : Nat) (b : Bool) : bAt (r.set i b) p = if p = i ∧ i < r.length then b else bAt r p := by
  unfold bAt
  rw [List.getElem?_set]
  by_cases h : i = p
  · subst h
    by_cases h2 : i < r.length
    · simp [h2]
    · simp [h2]
  · simp [h, Ne.symm h]
def rchStep (l : List InstrD) (r : List Bool) (pc : Nat) : List Bool :=
  match l[pc]? with
  | none => r
  | some x => if bAt r pc then (if jmpOp x.op then (if endOp x.op then r else r.set (pc + 1) true).set x.arg.toNat true else (if endOp x.op then r else r.set (pc + 1) true)) else r
/-- what the reference knows to be reached when it comes to place k -/
def rch (l : List InstrD) : Nat → List Bool
  | 0 => true :: List.replicate l.length false
  | k + 1 => rchStep l (rch l k) k
theorem rchStep_len (l : List InstrD) (r : List Bool) (pc : Nat) : (rchStep l r pc).length = r.length := by
  unfold rchStep
  split
  · rfl
  · repeat' split
    all_goals simp
theorem rch_len (l : List InstrD) : ∀ k, (rch l k).length = l.length + 1 := by
  intro k
  induction k with
  | zero => simp [rch]
  | succ k ih => rw [rch, rchStep_len, ih]
theorem rchStep_mono (l : List InstrD) (r : List Bool) (pc p : Nat) (h : bAt r p = true) : bAt (rchStep l r pc) p = true := by
  unfold rchStep
  split
  · exact h
  · repeat' split
    all_goals (try simp only [bAt_set])
    all_goals repeat' split
    all_goals (first | exact h | rfl | simp_all)
theorem rch_mono (l : List InstrD) (p k m : Nat) (hkm : k ≤ m) (h : bAt (rch l k) p = true) : bAt (rch l m) p = true := by
  induction m with
  | zero => obtain rfl : k = 0 := by omega
            exact h
  | succ m ih =>
    by_cases e : k = m + 1
    · subst e; exact h
    · exact rchStep_mono l _ _ _ (ih (by omega))
theorem rch_fr (l : List InstrD) (ha : ArgOk l) : ∀ k p, k ≤ p → bAt (rch l k) p = true → FR l p := by
  intro k
  induction k with
  | zero =>
    intro p _ h
    cases p with
    | zero => exact .zero
    | succ p =>
      simp only [rch, bAt, List.getElem?_cons_succ, List.getElem?_replicate] at h
      split at h <;> cases h
  | succ k ih =>
    intro p hp h
    rw [rch, rchStep] at h
    by_cases hk : k < l.length
    · rw [List.getElem?_eq_getElem hk] at h
      simp only at h
      split at h
      · rename_i hr
        have hfk := ih k (Nat.le_refl _) hr
        have hnx : bAt (if endOp l[k].op then rch l k else (rch l k).set (k + 1) true) p = true → FR l p := by
          intro h2
          by_cases he : endOp l[k].op = true
          · rw [if_pos he] at h2
            exact ih p (by omega) h2
          · rw [if_neg he, bAt_set] at h2
            by_cases e : p = k + 1 ∧ k + 1 < (rch l k).length
            · rw [e.1]
              exact .next hk hfk (by simpa using he)
            · rw [if_neg e] at h2
              exact ih p (by omega) h2
        by_cases hj : jmpOp l[k].op = true
        · rw [if_pos hj, bAt_set] at h
          by_cases e : p = l[k].arg.toNat ∧ l[k].arg.toNat < (if endOp l[k].op then rch l k else (rch l k).set (k + 1) true).length
          · rw [e.1]
            have := ha k hk hj
            exact .jump hk hfk hj (by omega)
          · rw [if_neg e] at h
            exact hnx h
        · rw [if_neg hj] at h
          exact hnx h
      · exact ih p (by omega) h
    · rw [List.getElem?_eq_none (Nat.le_of_not_lt hk)] at h
      exact ih p (by omega) h
theorem FR.le {l : List InstrD} (ha : ArgOk l) {p : Nat} (h : FR l p) : p ≤ l.length := by
  cases h with
  | zero => omega
  | next h _ _ => omega
  | @jump q h _ hj _ =>
    have := ha q h hj
    omega
theorem fr_rch (l : List InstrD) (ha : ArgOk l) {p : Nat} (h : FR l p) : bAt (rch l p) p = true := by
  induction h with
  | zero => simp [rch, bAt]
  | @next p hp _ he ih =>
    rw [rch, rchStep, List.getElem?_eq_getElem hp]
    simp only
    rw [if_pos ih, he]
    have hb : bAt ((rch l p).set (p + 1) true) (p + 1) = true := by rw [bAt_set, if_pos ⟨rfl, by rw [rch_len]; omega⟩]
    simp only [Bool.false_eq_true, if_false]
    split
    · rw [bAt_set]
      split
      · rfl
      · exact hb
    · exact hb
  | @jump p hp _ hj hlt ih =>
    have hap := ha p hp hj
    refine rch_mono l _ (p + 1) _ (by omega) ?_
    rw [rch, rchStep, List.getElem?_eq_getElem hp]
    simp only
    rw [if_pos ih, if_pos hj, bAt_set, if_pos]
    refine ⟨rfl, ?_⟩
    split
    · rw [rch_len]; omega
    · rw [List.length_set, rch_len]; omega
theorem rch_iff (l : List InstrD) (ha : ArgOk l) (p : Nat) : bAt (rch l p) p = true ↔ FR l p := ⟨fun h => rch_fr l ha p p (Nat.le_refl _) h, fun h => fr_rch l ha h⟩

def nextB (x : InstrD) (p : Nat) : Bool := x.op == 13 && x.arg == (p : Int) + 1
def keep0 (l : List InstrD) (p : Nat) : Bool := match l[p]? with | some x => bAt (rch l p) p && !nextB x p | none => false
def ledTo (l : List InstrD) (t : Nat) : Bool := l.any fun x => jmpOp x.op && x.arg == (t : Int)
def pairB (l : List InstrD) (kp : Nat → Bool) (p : Nat) : Bool :=
  match l[p]?, l[p + 1]? with
  | some x, some y => kp p && kp (p + 1) && x.op == 0 && y.op == 12 && !ledTo l (p + 1)
  | _, _ => false
/-- places that are kept, when pairs have been looked at up to place k -/
def pairs (l : List InstrD) : Nat → Nat → Bool
  | 0, p => keep0 l p
  | k + 1, p => if pairB l (pairs l k) k ∧ (p = k ∨ p = k + 1) then false else pairs l k p
def keepF (l : List InstrD) (p : Nat) : Bool := pairs l (l.length - 1) p
theorem pairs_keep0 (l : List InstrD) : ∀ k p, pairs l k p = true → keep0 l p = true := by
  intro k
  induction k with
  | zero => intro p h; exact h
  | succ k ih =>
    intro p h
    rw [pairs] at h
    split at h
    · cases h
    · exact ih p h
theorem pairs_gone (l : List InstrD) : ∀ k p (hp : p < l.length), pairs l k p = false → keep0 l p = false ∨ l[p].op = 0 ∨ l[p].op = 12 := by
  intro k
  induction k with
  | zero => intro p hp h; exact .inl h
  | succ k ih =>
    intro p hp h
    rw [pairs] at h
    split at h
    · rename_i hh
      obtain ⟨h1, h2⟩ := hh
      right
      unfold pairB at h1
      split at h1
      · rename_i x y hx hy
        simp only [Bool.and_eq_true, beq_iff_eq] at h1
        rcases h2 with rfl | rfl
        · left
          rw [List.getElem?_eq_getElem hp] at hx
          injection hx with hx
          rw [hx]; exact h1.1.1.2
        · right
          rw [List.getElem?_eq_getElem hp] at hy
          injection hy with hy
          rw [hy]; exact h1.1.2
      · cases h1
    · exact ih p hp h
theorem keepF_fr {l : List InstrD} (ha : ArgOk l) {p : Nat} (hp : p < l.length) (h : keepF l p = true) : FR l p := by
  have := pairs_keep0 l _ p h
  unfold keep0 at this
  rw [List.getElem?_eq_getElem hp] at this
  simp only [Bool.and_eq_true] at this
  exact (rch_iff l ha p).1 this.1
/-- from a place that is left out there is but the next one -/
theorem keepF_gone {l : List InstrD} (ha : ArgOk l) {p : Nat} (hp : p < l.length) (hf : FR l p) (h : keepF l p = false) : (l[p].op = 13 ∧ l[p].arg = (p : Int) + 1) ∨ jmpOp l[p].op = false := by
  rcases pairs_gone l _ p hp h with h | h | h
  · left
    unfold keep0 at h
    rw [List.getElem?_eq_getElem hp] at h
    simp only [(rch_iff l ha p).2 hf, Bool.true_and, Bool.not_eq_false', nextB, Bool.and_eq_true, beq_iff_eq] at h
    exact h
  · right; rw [h]; decide
  · right; rw [h]; decide

/-! ### Leaving out -/
def atN (kp : Nat → Bool) : Nat → Nat
  | 0 => 0
  | k + 1 => atN kp k + if kp k then 1 else 0
def mvI (kp : Nat → Bool) (x : InstrD) : InstrD := if jmpOp x.op then { x with arg := (atN kp x.arg.toNat : Int) } else x
def dropN (kp : Nat → Bool) (l : List InstrD) : Nat → List InstrD
  | 0 => []
  | k + 1 => dropN kp l k ++ (match l[k]? with | some x => if kp k then [mvI kp x] else [] | none => [])
def dropF (l : List InstrD) : List InstrD := dropN (keepF l) l l.length
theorem atN_mono (kp : Nat → Bool) {a b : Nat} (h : a ≤ b) : atN kp a ≤ atN kp b := by
  induction b with
  | zero => obtain rfl : a = 0 := by omega
            exact Nat.le_refl _
  | succ b ih =>
    by_cases e : a = b + 1
    · subst e; exact Nat.le_refl _
    · exact Nat.le_trans (ih (by omega)) (Nat.le_add_right _ _)
theorem atN_le (kp : Nat → Bool) (a : Nat) : atN kp a ≤ a := by
  induction a with
  | zero => exact Nat.le_refl _
  | succ a ih => rw [atN]; split <;> omega
theorem atN_lt (kp : Nat → Bool) {a b : Nat} (h : a < b) (hk : kp a = true) : atN kp a < atN kp b := by
  have := atN_mono kp (show a + 1 ≤ b from h)
  rw [atN, hk] at this
  simp at this
  omega
theorem dropN_len (kp : Nat → Bool) (l : List InstrD) : ∀ k, k ≤ l.length → (dropN kp l k).length = atN kp k := by
  intro k
  induction k with
  | zero => intro _; rfl
  | succ k ih =>
    intro hk
    rw [dropN, atN, List.length_append, ih (by omega), List.getElem?_eq_getElem (by omega)]
    simp only
    split <;> simp
theorem dropN_get (kp : Nat → Bool) (l : List InstrD) : ∀ k p (hp : p < l.length), k ≤ l.length → p < k → kp p = true → (dropN kp l k)[atN kp p]? = some (mvI kp l[p]) := by
  intro k
  induction k with
  | zero => intro p hp _ h; omega
  | succ k ih =>
    intro p hp hk hpk hkp
    rw [dropN, List.getElem?_eq_getElem (show k < l.length by omega)]
    simp only
    by_cases e : p = k
    · subst e
      rw [List.getElem?_append_right (by rw [dropN_len kp l p (by omega)]; exact Nat.le_refl _), dropN_len kp l p (by omega), Nat.sub_self, if_pos hkp]
      rfl
    · rw [List.getElem?_append_left (by rw [dropN_len kp l k (by omega)]; exact atN_lt kp (by omega) hkp)]
      exact ih p hp (by omega) (by omega) hkp
theorem dropN_from (kp : Nat → Bool) (l : List InstrD) : ∀ k q, k ≤ l.length → q < atN kp k → ∃ p, p < k ∧ kp p = true ∧ atN kp p = q := by
  intro k
  induction k with
  | zero => intro q _ h; simp [atN] at h
  | succ k ih =>
    intro q hk hq
    rw [atN] at hq
    by_cases h : q < atN kp k
    · obtain ⟨p, h1, h2, h3⟩ := ih q (by omega) h
      exact ⟨p, by omega, h2, h3⟩
    · by_cases hkp : kp k = true
      · rw [if_pos hkp] at hq
        exact ⟨k, by omega, hkp, by omega⟩
      · rw [if_neg hkp] at hq
        omega
theorem dropF_len (l : List InstrD) : (dropF l).length = atN (keepF l) l.length := dropN_len _ _ _ (Nat.le_refl _)
theorem dropF_get {l : List InstrD} {p : Nat} (hp : p < l.length) (hk : keepF l p = true) (h2 : atN (keepF l) p < (dropF l).length) : (dropF l)[atN (keepF l) p] = mvI (keepF l) l[p] := by
  have := dropN_get (keepF l) l l.length p hp (Nat.le_refl _) hp hk
  have h3 : (dropF l)[atN (keepF l) p]? = some (mvI (keepF l) l[p]) := this
  rw [List.getElem?_eq_getElem h2] at h3
  injection h3
theorem mvI_op (kp : Nat → Bool) (x : InstrD) : (mvI kp x).op = x.op := by unfold mvI; split <;> rfl
theorem mvI_arg (kp : Nat → Bool) (x : InstrD) (h : jmpOp x.op = true) : (mvI kp x).arg = (atN kp x.arg.toNat : Int) := by unfold mvI; rw [if_pos h]
theorem dropF_fr {l : List InstrD} (ha : ArgOk l) {p : Nat} (h : FR l p) : FR (dropF l) (atN (keepF l) p) := by
  induction h with
  | zero => exact .zero
  | @next p hp hf he ih =>
    by_cases hk : keepF l p = true
    · have hl : atN (keepF l) p < (dropF l).length := by rw [dropF_len]; exact atN_lt _ hp hk
      have hg := dropF_get hp hk hl
      rw [atN, if_pos hk]
      exact .next hl ih (by rw [hg, mvI_op]; exact he)
    · rw [atN, if_neg hk]
      exact ih
  | @jump p hp hf hj hlt ih =>
    by_cases hk : keepF l p = true
    · have hl : atN (keepF l) p < (dropF l).length := by rw [dropF_len]; exact atN_lt _ hp hk
      have hg := dropF_get hp hk hl
      have h0 := ha p hp hj
      have hm : (atN (keepF l) p : Int) < (atN (keepF l) l[p].arg.toNat : Int) := by
        have := atN_lt (keepF l) (show p < l[p].arg.toNat by omega) hk
        omega
      have ea : (dropF l)[atN (keepF l) p].arg = (atN (keepF l) l[p].arg.toNat : Int) := by rw [hg, mvI_arg _ _ hj]
      have := FR.jump hl ih (by rw [hg, mvI_op]; exact hj) (by rw [ea]; exact hm)
      rw [ea] at this
      exact this
    · rcases keepF_gone ha hp hf (by simpa using hk) with ⟨_, h13⟩ | hnj
      · have e : l[p].arg.toNat = p + 1 := by omega
        rw [e, atN, if_neg hk]
        exact ih
      · rw [hnj] at hj
        cases hj
theorem dropF_at {l : List InstrD} {q : Nat} (hq : q < (dropF l).length) : ∃ p, ∃ hp : p < l.length, keepF l p = true ∧ atN (keepF l) p = q ∧ (dropF l)[q] = mvI (keepF l) l[p] := by
  rw [dropF_len] at hq
  obtain ⟨p, h1, h2, rfl⟩ := dropN_from (keepF l) l l.length q (Nat.le_refl _) hq
  exact ⟨p, h1, h2, rfl, dropF_get h1 h2 _⟩
theorem dropF_ok {l : List InstrD} (ha : ArgOk l) : ArgOk (dropF l) := by
  intro q hq hj
  obtain ⟨p, hp, hk, rfl, hg⟩ := dropF_at hq
  rw [hg, mvI_op] at hj ⊢
  rw [mvI_arg _ _ hj, dropF_len]
  obtain ⟨h1, h2, h3⟩ := ha p hp hj
  refine ⟨by omega, ?_, fun hne => ?_⟩
  · have := atN_mono (keepF l) (show l[p].arg.toNat ≤ l.length by omega)
    omega
  · have h4 := h3 hne
    have := atN_lt (keepF l) (show p < l[p].arg.toNat by omega) hk
    omega
theorem dropF_back {l : List InstrD} (ha : ArgOk l) (hb : BackOk l) : BackOk (dropF l) := by
  intro q hq hf hj hle
  obtain ⟨p, hp, hk, rfl, hg⟩ := dropF_at hq
  rw [hg, mvI_op] at hj
  rw [hg, mvI_arg _ _ hj] at hle ⊢
  have h0 := ha p hp hj
  have hle2 : l[p].arg ≤ p := by
    by_cases hh : l[p].arg ≤ p
    · exact hh
    · have := atN_lt (keepF l) (show p < l[p].arg.toNat by omega) hk
      omega
  have := dropF_fr ha (hb p hp (keepF_fr ha hp hk) hj hle2)
  simpa using this

/-! ### The rounds -/
def optF : Nat → List InstrD → List InstrD
  | 0, l => l
  | f + 1, l => if (dropF (thrF l)).length = l.length then dropF (thrF l) else optF f (dropF (thrF l))
def optL (l : List InstrD) : List InstrD := optF (l.length + 1) l
theorem dropF_le (l : List InstrD) : (dropF l).length ≤ l.length := by rw [dropF_len]; exact atN_le _ _
theorem atN_full {kp : Nat → Bool} {n : Nat} (h : atN kp n = n) : (∀ p, p < n → kp p = true) ∧ ∀ p, p ≤ n → atN kp p = p := by
  induction n with
  | zero => exact ⟨fun p hp => by omega, fun p hp => by obtain rfl : p = 0 := by omega
                                                        rfl⟩
  | succ n ih =>
    rw [atN] at h
    have hle := atN_le kp n
    have hk : kp n = true := by
      by_cases hk : kp n = true
      · exact hk
      · rw [if_neg hk] at h; omega
    rw [if_pos hk] at h
    obtain ⟨h1, h2⟩ := ih (by omega)
    refine ⟨fun p hp => ?_, fun p hp => ?_⟩
    · by_cases e : p = n
      · subst e; exact hk
      · exact h1 p (by omega)
    · by_cases e : p = n + 1
      · subst e; rw [atN, if_pos hk]; omega
      · exact h2 p (by omega)
/-- where nothing is left out nothing changes -/
theorem dropF_all {l : List InstrD} (ha : ArgOk l) (h : (dropF l).length = l.length) : dropF l = l := by
  refine List.ext_getElem h fun q hq hq2 => ?_
  rw [dropF_len] at h
  obtain ⟨h1, h2⟩ := atN_full h
  obtain ⟨p, hp, hk, e, hg⟩ := dropF_at hq
  rw [h2 p (by omega)] at e
  subst e
  rw [hg]
  unfold mvI
  split
  · rename_i hj
    have := ha p hp hj
    rw [h2 _ (by omega), Int.toNat_of_nonneg this.1]
  · rfl
/-! ### What the program knows to be reached -/
/-- what holds of its list of places -/
structure Todo (l : List InstrD) (seen : List Bool) (todo : List Nat) : Prop where
  len : seen.length = l.length + 1
  zero : bAt seen 0 = true
  fair : ∀ p, bAt seen p = true → RR l p
  mem : ∀ p ∈ todo, bAt seen p = true ∧ p ≤ l.length
  done : ∀ (p : Nat) (hp : p < l.length), bAt seen p = true → p ∉ todo → (endOp l[p].op = false → bAt seen (p + 1) = true) ∧ (jmpOp l[p].op = true → bAt seen l[p].arg.toNat = true)
theorem Todo.end_ {l : List InstrD} {seen : List Bool} (h : Todo l seen []) (p : Nat) : bAt seen p = true ↔ RR l p := by
  refine ⟨h.fair p, fun hr => ?_⟩
  induction hr with
  | zero => exact h.zero
  | next hp _ he ih => exact (h.done _ hp ih (by simp)).1 he
  | jump hp _ hj ih => exact (h.done _ hp ih (by simp)).2 hj
def visS (seen : List Bool) (k : Nat) : List Bool := if bAt seen k then seen else seen.set k true
def visT (seen : List Bool) (todo : List Nat) (k : Nat) : List Nat := if bAt seen k then todo else todo ++ [k]
/-! ### Code that is right -/
theorem insAll_ok {nseg k : Nat} {g : SegD} (h : insAll nseg k g = true) : ArgOk g.instrs := by
  intro p hp hj
  have := of_decide_eq_true h p hp
  simp only [insB, Bool.and_eq_true] at this
  have ha := argB_jump this.2 hj
  refine ⟨ha.1, ha.2, fun hne => ?_⟩
  have h2 := this.2
  unfold argB at h2
  have hr : refOp g.instrs[p].op = false := by
    simp only [jmpOp, Bool.or_eq_true, beq_iff_eq] at hj
    rcases hj with (((h | h) | h) | h) | h <;> rw [h] <;> decide
  rw [hr] at h2
  simp only [Bool.false_eq_true, if_false, hj, if_true] at h2
  rw [if_neg hne] at h2
  simp at h2
  omega
def knw (st : St) (p : Nat) : Bool := (st[p]?.getD none).isSome
theorem meet_knw {st st' : St} {a : Nat} {s : List UInt8} (h : meet st a s = some st') (p : Nat) : knw st' p = if p = a ∧ a < st.length then true else knw st p := by
  unfold meet at h
  split at h
  · rename_i t ht
    split at h
    · injection h with h
      subst h
      split
      · rename_i e
        unfold knw
        rw [e.1, ht]
        rfl
      · rfl
    · cases h
  · injection h with h
    subst h
    unfold knw
    rw [List.getElem?_set]
    by_cases e : a = p
    · subst e
      by_cases hl : a < st.length
      · simp [hl]
      · simp [hl]
    · simp [e, Ne.symm e]
theorem flow_step {l : List InstrD} {st st' : St} {k : Nat} (ha : ArgOk l) (hk : k < l.length) (hl : st.length = l.length + 1) (hr : ∀ p, knw st p = bAt (rch l k) p)
    (hf : ∀ p, bAt (rch l k) p = true → FR l p) (h : stepS k l[k] st = some st') : st'.length = l.length + 1 ∧ (∀ p, knw st' p = bAt (rch l (k + 1)) p) ∧ (∀ p, bAt (rch l (k + 1)) p = true → FR l p) := by
  unfold stepS at h
  rw [rch, rchStep, List.getElem?_eq_getElem hk]
  simp only
  split at h
  · rename_i hn
    injection h with h
    subst h
    have : bAt (rch l k) k = false := by rw [← hr, knw, hn]; rfl
    rw [this]
    exact ⟨hl, hr, hf⟩
  · rename_i s hs
    have hkk : bAt (rch l k) k = true := by rw [← hr, knw, hs]; rfl
    have hfk := hf k hkk
    rw [if_pos hkk]
    split at h
    · cases h
    · rename_i t ht
      split at h
      · cases h
      · rename_i st1 h1
        have hm1 : st1.length = l.length + 1 ∧ (∀ p, knw st1 p = bAt (if endOp l[k].op then rch l k else (rch l k).set (k + 1) true) p) ∧ (∀ p, bAt (if endOp l[k].op then rch l k else (rch l k).set (k + 1) true) p = true → FR l p) := by
          by_cases he : endOp l[k].op = true
          · rw [if_pos he] at h1 ⊢
            injection h1 with h1
            subst h1
            exact ⟨hl, hr, hf⟩
          · rw [if_neg he] at h1 ⊢
            refine ⟨by rw [meet_len h1, hl], fun p => ?_, fun p hp => ?_⟩
            · rw [meet_knw h1, bAt_set, rch_len, hl, hr]
            · rw [bAt_set] at hp
              split at hp
              · rename_i e
                rw [e.1]
                exact .next hk hfk (by simpa using he)
              · exact hf p hp
        obtain ⟨g1, g2, g3⟩ := hm1
        by_cases hj : jmpOp l[k].op = true
        · rw [if_pos hj] at h ⊢
          split at h
          · rename_i hb
            have h0 := ha k hk hj
            refine ⟨by rw [meet_len h, g1], fun p => ?_, fun p hp => ?_⟩
            · rw [meet_knw h, bAt_set, g2, g1]
              have hlen : (if endOp l[k].op then rch l k else (rch l k).set (k + 1) true).length = l.length + 1 := by split <;> simp [rch_len]
              rw [hlen]
            · rw [bAt_set] at hp
              by_cases e : p = l[k].arg.toNat ∧ l[k].arg.toNat < (if endOp l[k].op then rch l k else (rch l k).set (k + 1) true).length
              · rw [e.1]
                unfold backOk at hb
                rw [Bool.or_eq_true, decide_eq_true_eq] at hb
                rcases hb with hb | hb
                · exact .jump hk hfk hj hb
                · exact g3 _ (by rw [← g2]; exact hb)
              · rw [if_neg e] at hp
                exact g3 p hp
          · cases h
        · rw [if_neg hj] at h ⊢
          injection h with h
          subst h
          exact ⟨g1, g2, g3⟩
theorem flow_run {l : List InstrD} (ha : ArgOk l) {fin : St} : ∀ (n k : Nat) (st : St), n + k = l.length → st.length = l.length + 1 → (∀ p, knw st p = bAt (rch l k) p) → (∀ p, bAt (rch l k) p = true → FR l p) → runF stepS (l.drop k) k st = some fin →
    ∀ p, bAt (rch l l.length) p = true → FR l p := by
  intro n
  induction n with
  | zero =>
    intro k st hn hl hr hf _ p hp
    obtain rfl : k = l.length := by omega
    exact hf p hp
  | succ n ih =>
    intro k st hn hl hr hf h
    have hk : k < l.length := by omega
    rw [List.drop_eq_getElem_cons hk, runF] at h
    split at h
    · cases h
    · rename_i st' hst
      obtain ⟨g1, g2, g3⟩ := flow_step ha hk hl hr hf hst
      exact ih (k + 1) st' (by omega) g1 g2 g3 h
theorem flow_back {l : List InstrD} (ha : ArgOk l) (h : flowS l = true) : BackOk l := by
  have key : ∀ p, bAt (rch l l.length) p = true → FR l p := by
    unfold flowS at h
    cases hr : runF stepS l 0 (init l.length) with
    | none => rw [hr] at h; cases h
    | some fin =>
      refine flow_run ha l.length 0 (init l.length) (by omega) (by simp [init]) (fun p => ?_) (fun p hp => ?_) (by simpa using hr)
      · unfold knw init rch bAt
        cases p with
        | zero => rfl
        | succ p =>
          simp only [List.getElem?_cons_succ, List.getElem?_replicate]
          split <;> rfl
      · exact rch_fr l ha 0 p (Nat.zero_le _) hp
  intro p hp hf hj hle
  refine key _ ?_
  have hap := ha p hp hj
  refine rch_mono l _ (p + 1) _ (by omega) ?_
  rw [rch, rchStep, List.getElem?_eq_getElem hp]
  simp only
  rw [if_pos (fr_rch l ha hf), if_pos hj, bAt_set, if_pos]
  refine ⟨rfl, ?_⟩
  split
  · rw [rch_len]; omega
  · rw [List.length_set, rch_len]; omega
end Go.Proofs.YtjdfancbmjnjfaaGreat
