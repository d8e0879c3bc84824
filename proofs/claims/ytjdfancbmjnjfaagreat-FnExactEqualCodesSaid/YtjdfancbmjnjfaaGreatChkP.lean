/-
  Bytecode that is right: the plain functions, with no program in sight.
-/
import Derived.Test.YtjdfancbmjnjfaaGreatCodeSize
import Derived.Test.YtjdfancbmjnjfaaGreatVecOk5
import Derived.Test.YtjdfancbmjnjfaaGreatEqVec
import Derived.Test.YtjdfancbmjnjfaaGreatNames
namespace Go.Proofs.YtjdfancbmjnjfaaGreat
set_option maxRecDepth 100000
open Go.ChangeShapes Go.WideShapes Go.ChangeAt Go.RowKit Go.Deep
set_option linter.unusedVariables false
set_option linter.unusedSimpArgs false

/-- a value that an instruction other than a constant may hold -/
theorem null_zero (d : VecD) : (vecOk d && d.kind == 0 && !hasFun d) = zeroQ d := by
  cases h : zeroQ d
  · cases h1 : vecOk d
    · rfl
    · have hs : shapeOk d = true := by
        unfold vecOk at h1
        simp only [Bool.and_eq_true] at h1
        have := h1.1
        unfold okN at this
        simp only [Bool.and_eq_true] at this
        first | exact this.1 | exact this.1.1
      by_cases hk : d.kind = 0
      · exfalso
        simp only [shapeOk, Bool.and_eq_true, sA, sB, sC, sD, sE, sF, sG, lenV] at hs
        simp only [zeroQ] at h
        cases d with
        | mk k i p n c l co e =>
          simp only [VecD.kind, VecD.items, VecD.parts, VecD.names, VecD.cls, VecD.levels, VecD.code, VecD.env] at hk hs h
          subst hk
          cases i <;> cases p <;> cases n <;> cases c <;> cases l <;> simp_all
      · simp [hk]
  · simp only [zeroQ, Bool.and_eq_true, beq_iff_eq, List.isEmpty_iff] at h
    obtain ⟨⟨⟨⟨⟨⟨⟨h1, h2⟩, h3⟩, h4⟩, h5⟩, h6⟩, h7⟩, h8⟩ := h
    cases d with
    | mk k i p n c l co e =>
      simp only [VecD.kind, VecD.items, VecD.parts, VecD.names, VecD.cls, VecD.levels, VecD.code, VecD.env] at h1 h2 h3 h4 h5 h6 h7 h8
      subst h1 h2 h3 h4 h5 h6 h7 h8
      decide

/-! ### Instructions -/
def sV : List UInt8 := [118]
def binL : List (List UInt8) := [[43], [45], [42], [47], [94], [37, 37], [37, 47, 37], [61, 61], [33, 61], [60], [60, 61], [62], [62, 61], [38], [124], [38, 38], [124, 124], [58], [126]]
def nameOp (op : Int) : Bool := op == 1 || op == 2 || op == 19 || op == 20 || op == 21 || op == 22 || op == 23 || op == 24 || op == 25 || op == 28 || op == 29 || op == 30 || op == 32
def refOp (op : Int) : Bool := op == 3 || op == 4 || op == 28 || op == 31
def jmpOp (op : Int) : Bool := op == 13 || op == 14 || op == 15 || op == 16 || op == 19
def endOp (op : Int) : Bool := op == 13 || op == 26 || op == 27 || op == 29 || op == 32
def txtB (op : Int) (t : List UInt8) : Bool :=
  if nameOp op then isNameB t
  else if op = 7 then t == [45] || t == [33]
  else if op = 8 then hasB binL t && t != [38, 38] && t != [124, 124] && t != [126]
  else if op = 17 then t == [38, 38] || t == [124, 124]
  else if op = 11 then decide (1 ≤ t.length) && decide (t.length ≤ 60)
  else if op = 27 then decide (t.length ≤ 60)
  else t.isEmpty
def short60 (l : List (List UInt8)) : Bool := l.all fun s => decide (s.length ≤ 60)
def lblB (op : Int) (l : List (List UInt8)) : Bool :=
  if op = 6 then short60 l && decide (l.length ≤ 200)
  else if op = 24 then decide (l.length = 1) && l.all fun s => decide (1 ≤ s.length) && decide (s.length ≤ 60)
  else if op = 25 then decide (l.length = 1) && l.all fun s => isNameB (s ++ [60, 45]) && !s.isEmpty
  else l.isEmpty
def topC (op : Int) : Int := if op = 4 ∨ op = 5 then 200 else if op = 28 then 2 else 0
def valB (op : Int) (v : VecD) : Bool := vecOk v && (op == 0 || v.kind == 0) && !hasFun v
/-- all of an instruction but where it leads -/
def insR (x : InstrD) : Bool := decide (0 ≤ x.op) && decide (x.op ≤ 33) && txtB x.op x.text && lblB x.op x.labels && (decide (0 ≤ x.count) && decide (x.count ≤ topC x.op)) && valB x.op x.value
def argB (nseg i pc n : Nat) (op arg : Int) : Bool :=
  if refOp op then decide ((i : Int) + 1 ≤ arg) && decide (arg ≤ (nseg : Int) - 1)
  else if op = 13 then decide (0 ≤ arg) && decide (arg ≤ n)
  else if jmpOp op then decide ((pc : Int) + 1 ≤ arg) && decide (arg ≤ n)
  else arg == 0
def insB (nseg i pc n : Nat) (x : InstrD) : Bool := insR x && argB nseg i pc n x.op x.arg

/-! ### Operands -/
def ndI (op : Int) (cnt nl : Nat) (s : List UInt8) : List UInt8 × List UInt8 :=
  if op = 4 ∨ op = 5 then (118 :: List.replicate cnt 112, 118 :: List.replicate cnt 112 ++ [112])
  else if op = 6 then (118 :: List.replicate nl 112, [118])
  else if op = 7 ∨ op = 11 ∨ op = 20 ∨ op = 21 ∨ op = 15 ∨ op = 16 ∨ op = 26 ∨ op = 29 ∨ op = 28 then ([118], [118])
  else if op = 8 ∨ op = 9 ∨ op = 10 ∨ op = 17 ∨ op = 24 ∨ op = 25 then ([118, 118], [118])
  else if op = 22 ∨ op = 23 then ([118, 118, 118], [118])
  else if op = 14 then ([118], [])
  else if op = 18 then ([118], [118, 99])
  else if op = 19 then ([118, 99], [118, 99])
  else if op = 13 ∨ op = 27 ∨ op = 32 then ([], [])
  else if op = 12 then (if s.getLast? = some 99 then ([99], []) else ([118], []))
  else ([], [118])
def repB (s need give : List UInt8) : Option (List UInt8) :=
  if need.length ≤ s.length ∧ s.drop (s.length - need.length) = need then some (s.take (s.length - need.length) ++ give) else none
def aft (x : InstrD) (s : List UInt8) : Option (List UInt8) := repB s (ndI x.op x.count.toNat x.labels.length s).1 (ndI x.op x.count.toNat x.labels.length s).2
/-- the program's form -/
def effI (x : InstrD) (s : List UInt8) : Option (List UInt8) :=
  if x.op = 0 ∨ x.op = 1 ∨ x.op = 2 ∨ x.op = 30 ∨ x.op = 3 ∨ x.op = 31 ∨ x.op = 33 then some (s ++ [118])
  else if x.op = 4 ∨ x.op = 5 then repB s (118 :: List.replicate x.count.toNat 112) (118 :: List.replicate x.count.toNat 112 ++ [112])
  else if x.op = 6 then repB s (118 :: List.replicate x.labels.length 112) [118]
  else if x.op = 7 ∨ x.op = 11 ∨ x.op = 15 ∨ x.op = 16 ∨ x.op = 20 ∨ x.op = 21 ∨ x.op = 28 then repB s [118] [118]
  else if x.op = 8 ∨ x.op = 9 ∨ x.op = 10 ∨ x.op = 17 ∨ x.op = 24 ∨ x.op = 25 then repB s [118, 118] [118]
  else if x.op = 12 then (if s.length > 0 ∧ s.getLast? ≠ some 112 then some s.dropLast else none)
  else if x.op = 14 ∨ x.op = 26 ∨ x.op = 29 then repB s [118] []
  else if x.op = 18 then repB s [118] [118, 99]
  else if x.op = 19 then repB s [118, 99] [118, 99]
  else if x.op = 22 ∨ x.op = 23 then repB s [118, 118, 118] [118]
  else some s
def vpc (s : List UInt8) : Prop := ∀ c ∈ s, c = 118 ∨ c = 112 ∨ c = 99
theorem repB_len {s need give t : List UInt8} (h : repB s need give = some t) : t.length + need.length = s.length + give.length := by
  unfold repB at h
  split at h
  · injection h with h
    subst h
    simp
    omega
  · cases h
theorem repB_vpc {s need give t : List UInt8} (h : repB s need give = some t) (hs : vpc s) (hg : vpc give) : vpc t := by
  unfold repB at h
  split at h
  · injection h with h
    subst h
    intro c hc
    rcases List.mem_append.1 hc with hc | hc
    · exact hs c (List.mem_of_mem_take hc)
    · exact hg c hc
  · cases h
theorem repB_nil (s give : List UInt8) : repB s [] give = some (s ++ give) := by simp [repB]
theorem ndI_grow (op : Int) (cnt nl : Nat) (s : List UInt8) : (ndI op cnt nl s).2.length ≤ (ndI op cnt nl s).1.length + 1 := by
  unfold ndI
  repeat' split
  all_goals simp
theorem ndI_vpc (op : Int) (cnt nl : Nat) (s : List UInt8) : vpc (ndI op cnt nl s).2 := by
  unfold ndI
  repeat' split
  all_goals
    intro c hc
    simp at hc
    try omega
    try (rcases hc with rfl | rfl <;> decide)
    try (rcases hc with rfl | ⟨_, rfl⟩ | rfl <;> decide)
    try (subst hc; decide)
theorem aft_len {x : InstrD} {s t : List UInt8} (h : aft x s = some t) : t.length ≤ s.length + 1 := by
  have := repB_len h
  have := ndI_grow x.op x.count.toNat x.labels.length s
  omega
theorem aft_vpc {x : InstrD} {s t : List UInt8} (h : aft x s = some t) (hs : vpc s) : vpc t := repB_vpc h hs (ndI_vpc _ _ _ _)

theorem repB_v_nil (s : List UInt8) : (repB s [118] []).isSome = (repB s [118] [118]).isSome := by
  unfold repB
  split <;> simp_all

theorem last_drop (s : List UInt8) (c : UInt8) (h : 0 < s.length) : s.drop (s.length - 1) = [c] ↔ s.getLast? = some c := by
  have : s.drop (s.length - 1) = [s[s.length - 1]] := by
    rw [List.drop_eq_getElem_cons (by omega), List.drop_eq_nil_of_le (by omega)]
  rw [this, List.getLast?_eq_getElem?, List.getElem?_eq_getElem (by omega)]
  simp
theorem repB_one (s : List UInt8) (c : UInt8) : repB s [c] [] = if s.getLast? = some c then some s.dropLast else none := by
  unfold repB
  by_cases h : 0 < s.length
  · have e : s.take (s.length - 1) = s.dropLast := by rw [List.dropLast_eq_take]
    simp only [List.length_cons, List.length_nil, Nat.zero_add, last_drop s c h, List.append_nil, e]
    by_cases h2 : s.getLast? = some c
    · rw [if_pos ⟨by omega, h2⟩, if_pos h2]
    · rw [if_neg (fun h => h2 h.2), if_neg h2]
  · have : s = [] := List.eq_nil_of_length_eq_zero (by omega)
    subst this
    simp

/-- case by case -/
theorem op34 {P : Int → Prop} (h0 : P 0) (h1 : P 1) (h2 : P 2) (h3 : P 3) (h4 : P 4) (h5 : P 5) (h6 : P 6) (h7 : P 7) (h8 : P 8) (h9 : P 9) (h10 : P 10) (h11 : P 11) (h12 : P 12) (h13 : P 13) (h14 : P 14) (h15 : P 15) (h16 : P 16) (h17 : P 17) (h18 : P 18) (h19 : P 19) (h20 : P 20) (h21 : P 21) (h22 : P 22) (h23 : P 23) (h24 : P 24) (h25 : P 25) (h26 : P 26) (h27 : P 27) (h28 : P 28) (h29 : P 29) (h30 : P 30) (h31 : P 31) (h32 : P 32) (h33 : P 33) (op : Int) (l : 0 ≤ op) (u : op ≤ 33) : P op := by
  obtain ⟨n, rfl⟩ := Int.eq_ofNat_of_zero_le l
  match n, u with
  | 0, _ => exact h0
  | 1, _ => exact h1
  | 2, _ => exact h2
  | 3, _ => exact h3
  | 4, _ => exact h4
  | 5, _ => exact h5
  | 6, _ => exact h6
  | 7, _ => exact h7
  | 8, _ => exact h8
  | 9, _ => exact h9
  | 10, _ => exact h10
  | 11, _ => exact h11
  | 12, _ => exact h12
  | 13, _ => exact h13
  | 14, _ => exact h14
  | 15, _ => exact h15
  | 16, _ => exact h16
  | 17, _ => exact h17
  | 18, _ => exact h18
  | 19, _ => exact h19
  | 20, _ => exact h20
  | 21, _ => exact h21
  | 22, _ => exact h22
  | 23, _ => exact h23
  | 24, _ => exact h24
  | 25, _ => exact h25
  | 26, _ => exact h26
  | 27, _ => exact h27
  | 28, _ => exact h28
  | 29, _ => exact h29
  | 30, _ => exact h30
  | 31, _ => exact h31
  | 32, _ => exact h32
  | 33, _ => exact h33
  | n + 34, u => exact absurd u (by omega)

theorem effI_aft_op (arg count : Int) (text : List UInt8) (labels : List (List UInt8)) (value : VecD) (s : List UInt8) (hs : vpc s) : ∀ op : Int, 0 ≤ op → op ≤ 33 →
    (effI ⟨op, arg, count, text, labels, value⟩ s = none ↔ aft ⟨op, arg, count, text, labels, value⟩ s = none) ∧ (∀ t, aft ⟨op, arg, count, text, labels, value⟩ s = some t → op ≠ 26 → op ≠ 29 → effI ⟨op, arg, count, text, labels, value⟩ s = some t) := by
  refine op34 ?_ ?_ ?_ ?_ ?_ ?_ ?_ ?_ ?_ ?_ ?_ ?_ ?_ ?_ ?_ ?_ ?_ ?_ ?_ ?_ ?_ ?_ ?_ ?_ ?_ ?_ ?_ ?_ ?_ ?_ ?_ ?_ ?_ ?_
  case refine_13 =>
    have e : aft ⟨12, arg, count, text, labels, value⟩ s = if s.getLast? = some 99 then some s.dropLast else if s.getLast? = some 118 then some s.dropLast else none := by
      simp only [aft, ndI]
      by_cases h : s.getLast? = some 99
      · simp [h, repB_one]
      · simp [h, repB_one]
    have e2 : effI ⟨12, arg, count, text, labels, value⟩ s = if s.length > 0 ∧ s.getLast? ≠ some 112 then some s.dropLast else none := by simp [effI]
    rw [e, e2]
    cases hl : s.getLast? with
    | none =>
      have : s = [] := by simpa using hl
      subst this
      simp
    | some c =>
      have hm : c ∈ s := List.mem_of_getLast? hl
      have h0 : s.length > 0 := List.length_pos_of_mem hm
      rcases hs c hm with rfl | rfl | rfl <;> simp [h0]
  case refine_27 =>
    refine ⟨?_, fun t _ h => absurd rfl h⟩
    have := repB_v_nil s
    simp only [effI, aft, ndI]
    cases h1 : repB s [118] [] <;> cases h2 : repB s [118] [118] <;> simp_all
  case refine_30 =>
    refine ⟨?_, fun t _ _ h => absurd rfl h⟩
    have := repB_v_nil s
    simp only [effI, aft, ndI]
    cases h1 : repB s [118] [] <;> cases h2 : repB s [118] [118] <;> simp_all
  all_goals
    simp [effI, aft, ndI, repB_nil]
theorem effI_none (x : InstrD) (s : List UInt8) (hs : vpc s) (h0 : 0 ≤ x.op) (h1 : x.op ≤ 33) : effI x s = none ↔ aft x s = none :=
  (effI_aft_op x.arg x.count x.text x.labels x.value s hs x.op h0 h1).1
theorem effI_some (x : InstrD) (s t : List UInt8) (hs : vpc s) (h0 : 0 ≤ x.op) (h1 : x.op ≤ 33) (h : aft x s = some t) (h2 : x.op ≠ 26) (h3 : x.op ≠ 29) : effI x s = some t :=
  (effI_aft_op x.arg x.count x.text x.labels x.value s hs x.op h0 h1).2 t h h2 h3

/-! ### The flow of a segment -/
abbrev St := List (Option (List UInt8))
/-- what is known at a place must be what comes -/
def meet (st : St) (a : Nat) (s : List UInt8) : Option St :=
  match st[a]? with
  | some (some t) => if t = s then some st else none
  | _ => some (st.set a (some s))
def jmpS (op : Int) (t : List UInt8) : List UInt8 := if op = 19 then t.take (t.length - 2) ++ [118] else t
def backOk (st : St) (pc : Nat) (arg : Int) : Bool := decide ((pc : Int) < arg) || (st[arg.toNat]?.getD none).isSome
/-- the reference's step: behind itself first -/
def stepS (pc : Nat) (x : InstrD) (st : St) : Option St :=
  match st[pc]?.getD none with
  | none => some st
  | some s =>
    match aft x s with
    | none => none
    | some t =>
      match (if endOp x.op then some st else meet st (pc + 1) t) with
      | none => none
      | some st1 => if jmpOp x.op then (if backOk st1 pc x.arg then meet st1 x.arg.toNat (jmpS x.op t) else none) else some st1
/-- the program's step: the jump first -/
def jmpI (op : Int) (s t : List UInt8) : List UInt8 := if op = 19 then s.dropLast else if op = 13 then s else t
def stepI (pc : Nat) (x : InstrD) (st : St) : Option St :=
  match st[pc]?.getD none with
  | none => some st
  | some s =>
    match effI x s with
    | none => none
    | some t =>
      match (if jmpOp x.op then (if backOk st pc x.arg then meet st x.arg.toNat (jmpI x.op s t) else none) else some st) with
      | none => none
      | some st1 => if endOp x.op then some st1 else meet st1 (pc + 1) t
def runF (f : Nat → InstrD → St → Option St) : List InstrD → Nat → St → Option St
  | [], _, st => some st
  | x :: l, pc, st => match f pc x st with | none => none | some st' => runF f l (pc + 1) st'
def init (n : Nat) : St := some [] :: List.replicate n none
def endOk (n : Nat) : Option St → Bool
  | none => false
  | some st => match st[n]?.getD none with | none => true | some s => s == [118]
def flowS (l : List InstrD) : Bool := endOk l.length (runF stepS l 0 (init l.length))
def flowI (l : List InstrD) : Bool := endOk l.length (runF stepI l 0 (init l.length))

theorem meet_comm (st : St) (a b : Nat) (s t : List UInt8) (ha : a < st.length) (hb : b < st.length) :
    (meet st a s).bind (fun st => meet st b t) = (meet st b t).bind (fun st => meet st a s) := by
  unfold meet
  by_cases hab : a = b
  · subst hab
    rw [List.getElem?_eq_getElem ha]
    cases h : st[a] with
    | none =>
      simp only [Option.bind]
      simp only [List.getElem?_set_self, ha]
      by_cases he : s = t
      · subst he; rfl
      · simp [he, Ne.symm he]
    | some u =>
      by_cases h1 : u = s <;> by_cases h2 : u = t <;> simp_all [List.getElem?_eq_getElem ha]
  · rw [List.getElem?_eq_getElem ha, List.getElem?_eq_getElem hb]
    cases h1 : st[a] with
    | none =>
      cases h2 : st[b] with
      | none => simp [List.getElem?_set_ne (Ne.symm hab), List.getElem?_set_ne hab, List.getElem?_eq_getElem ha, List.getElem?_eq_getElem hb, h1, h2, List.set_comm _ _ hab]
      | some v => by_cases h3 : v = t <;> simp [List.getElem?_set_ne (Ne.symm hab), List.getElem?_set_ne hab, List.getElem?_eq_getElem ha, List.getElem?_eq_getElem hb, h1, h2, h3, hab]
    | some u =>
      cases h2 : st[b] with
      | none => by_cases h3 : u = s <;> simp [List.getElem?_set_ne (Ne.symm hab), List.getElem?_set_ne hab, List.getElem?_eq_getElem ha, List.getElem?_eq_getElem hb, h1, h2, h3, hab]
      | some v => by_cases h3 : u = s <;> by_cases h4 : v = t <;> simp [List.getElem?_eq_getElem ha, List.getElem?_eq_getElem hb, h1, h2, h3, h4]
theorem meet_len {st st' : St} {a : Nat} {s : List UInt8} (h : meet st a s = some st') : st'.length = st.length := by
  unfold meet at h
  split at h
  · split at h
    · injection h with h; rw [h]
    · cases h
  · injection h with h; rw [← h]; simp
theorem meet_get {st st' : St} {a b : Nat} {s : List UInt8} (h : meet st a s = some st') (hab : a ≠ b) : st'[b]? = st[b]? := by
  unfold meet at h
  split at h
  · split at h
    · injection h with h; rw [h]
    · cases h
  · injection h with h; rw [← h, List.getElem?_set_ne hab]
theorem meet_all {Q : List UInt8 → Prop} {st st' : St} {a : Nat} {s : List UInt8} (h : meet st a s = some st') (hq : ∀ t, some t ∈ st → Q t) (hs : Q s) : ∀ t, some t ∈ st' → Q t := by
  unfold meet at h
  split at h
  · split at h
    · injection h with h; rw [← h]; exact hq
    · cases h
  · injection h with h
    subst h
    intro t ht
    rcases List.mem_or_eq_of_mem_set ht with h1 | h1
    · exact hq t h1
    · injection h1 with h1; rw [h1]; exact hs

theorem for_dropLast {x : InstrD} {s t : List UInt8} (hx : x.op = 19) (h : aft x s = some t) : s.dropLast = t.take (t.length - 2) ++ [118] := by
  simp only [aft, ndI, hx] at h
  simp [repB] at h
  obtain ⟨⟨h1, h2⟩, h3⟩ := h
  have h4 : t.length = s.length := by rw [← h3]; simp; omega
  rw [h4, ← h3]
  have h5 : s = s.take (s.length - 2) ++ [118, 99] := by conv => lhs; rw [← List.take_append_drop (s.length - 2) s, h2]
  rw [List.take_append_of_le_length (by simp), List.take_take, Nat.min_self]
  conv => lhs; rw [h5]
  simp [List.dropLast_append]
theorem jump_same {x : InstrD} {s t : List UInt8} (h : aft x s = some t) : jmpI x.op s t = jmpS x.op t := by
  unfold jmpI jmpS
  by_cases h1 : x.op = 19
  · simp only [h1, if_true]; exact for_dropLast h1 h
  · by_cases h2 : x.op = 13
    · simp only [h2]
      have : aft x s = some s := by simp [aft, ndI, h2, repB_nil]
      rw [this] at h
      injection h with h
    · simp [h1, h2]
/-- one step, in both orders -/
theorem step_same (pc : Nat) (x : InstrD) (st : St) (h0 : 0 ≤ x.op) (h1 : x.op ≤ 33) (hpc : pc + 1 < st.length) (harg : jmpOp x.op = true → 0 ≤ x.arg ∧ x.arg < st.length) (hv : ∀ s, some s ∈ st → vpc s) : stepI pc x st = stepS pc x st := by
  unfold stepI stepS
  have hp : pc < st.length := by omega
  rw [List.getElem?_eq_getElem hp, Option.getD_some]
  cases hs : st[pc] with
  | none => rfl
  | some s =>
    have hvs : vpc s := hv s (hs ▸ List.getElem_mem hp)
    simp only
    cases ha : aft x s with
    | none => rw [(effI_none x s hvs h0 h1).2 ha]
    | some t =>
      have hn : effI x s ≠ none := fun h => by rw [effI_none x s hvs h0 h1, ha] at h; cases h
      cases he : effI x s with
      | none => exact absurd he hn
      | some t' =>
        simp only
        by_cases hr : x.op = 26 ∨ x.op = 29
        · have e1 : jmpOp x.op = false := by rcases hr with hr | hr <;> simp [jmpOp, hr]
          have e2 : endOp x.op = true := by rcases hr with hr | hr <;> simp [endOp, hr]
          simp [e1, e2]
        · have : t' = t := by
            have := effI_some x s t hvs h0 h1 ha (fun h => hr (.inl h)) (fun h => hr (.inr h))
            rw [he] at this
            injection this
          subst this
          rw [jump_same ha]
          cases hj : jmpOp x.op
          · cases hE : endOp x.op
            · simp only [Bool.false_eq_true, if_false]; cases meet st (pc + 1) t' <;> rfl
            · rfl
          · obtain ⟨a0, a1⟩ := harg hj
            obtain ⟨a, haa⟩ := Int.eq_ofNat_of_zero_le a0
            have ha' : a < st.length := by omega
            cases hE : endOp x.op
            · simp only [if_true, Bool.false_eq_true, if_false, haa, Int.toNat_natCast]
              by_cases hb : backOk st pc (a : Int) = true
              · rw [if_pos hb]
                have hc := meet_comm st a (pc + 1) (jmpS x.op t') t' ha' hpc
                have hb2 : ∀ st1, meet st (pc + 1) t' = some st1 → backOk st1 pc (a : Int) = true := by
                  intro st1 hm
                  unfold backOk at hb ⊢
                  by_cases hlt : (pc : Int) < a
                  · simp [hlt]
                  · rw [meet_get hm (by omega)]
                    exact hb
                cases hm : meet st (pc + 1) t' with
                | none => rw [hm] at hc; simp only [Option.bind] at hc ⊢; split <;> simp_all
                | some st1 =>
                  rw [hm] at hc
                  simp only [Option.bind, hb2 st1 hm, if_true] at hc ⊢
                  rw [← hc]
                  cases meet st a (jmpS x.op t') <;> rfl
              · rw [if_neg hb]
                cases hm : meet st (pc + 1) t' with
                | none => rfl
                | some st1 =>
                  have : ¬ backOk st1 pc (a : Int) = true := by
                    intro h
                    apply hb
                    unfold backOk at h ⊢
                    by_cases hlt : (pc : Int) < a
                    · simp [hlt]
                    · rw [meet_get hm (by omega)] at h
                      exact h
                  simp [this]
            · simp only [if_true]
              by_cases hb : backOk st pc x.arg = true
              · simp only [hb, if_true]; cases meet st x.arg.toNat (jmpS x.op t') <;> rfl
              · simp [hb]
theorem stepS_inv {pc : Nat} {x : InstrD} {st st' : St} (h : stepS pc x st = some st') (hv : ∀ s, some s ∈ st → vpc s) : st'.length = st.length ∧ ∀ s, some s ∈ st' → vpc s := by
  unfold stepS at h
  split at h
  · injection h with h; subst h; exact ⟨rfl, hv⟩
  · rename_i s hs
    have hvs : vpc s := by
      cases hg : st[pc]? with
      | none => rw [hg] at hs; cases hs
      | some o => rw [hg] at hs; simp only [Option.getD_some] at hs; subst hs; exact hv s (List.mem_of_getElem? hg)
    split at h
    · cases h
    · rename_i t ht
      have hvt := aft_vpc ht hvs
      have hj : vpc (jmpS x.op t) := by
        unfold jmpS
        split
        · intro c hc
          rcases List.mem_append.1 hc with hc | hc
          · exact hvt c (List.mem_of_mem_take hc)
          · simp at hc; exact .inl hc
        · exact hvt
      split at h
      · cases h
      · rename_i st1 h1
        have hI : st1.length = st.length ∧ ∀ s, some s ∈ st1 → vpc s := by
          split at h1
          · injection h1 with h1; subst h1; exact ⟨rfl, hv⟩
          · exact ⟨meet_len h1, meet_all h1 hv hvt⟩
        split at h
        · split at h
          · exact ⟨(meet_len h).trans hI.1, meet_all h hI.2 hj⟩
          · cases h
        · injection h with h; subst h; exact hI
theorem run_same (n : Nat) : ∀ (l : List InstrD) (pc : Nat) (st : St), pc + l.length = n → st.length = n + 1 → (∀ x ∈ l, 0 ≤ x.op ∧ x.op ≤ 33 ∧ (jmpOp x.op = true → 0 ≤ x.arg ∧ x.arg ≤ n)) → (∀ s, some s ∈ st → vpc s) → runF stepI l pc st = runF stepS l pc st := by
  intro l
  induction l with
  | nil => intro pc st _ _ _ _; rfl
  | cons x l ih =>
    intro pc st hn hl hx hv
    have hx0 := hx x (by simp)
    simp only [List.length_cons] at hn
    have hs := step_same pc x st hx0.1 hx0.2.1 (by omega) (fun h => by have := hx0.2.2 h; omega) hv
    simp only [runF, hs]
    cases h : stepS pc x st with
    | none => rfl
    | some st' =>
      have hi := stepS_inv h hv
      exact ih (pc + 1) st' (by omega) (by omega) (fun y hy => hx y (by simp [hy])) hi.2
theorem flow_same (l : List InstrD) (hx : ∀ x ∈ l, 0 ≤ x.op ∧ x.op ≤ 33 ∧ (jmpOp x.op = true → 0 ≤ x.arg ∧ x.arg ≤ l.length)) : flowI l = flowS l := by
  unfold flowI flowS
  rw [run_same l.length l 0 (init l.length) (by omega) (by simp [init]) hx]
  intro s hs
  simp only [init, List.mem_cons, List.mem_replicate] at hs
  rcases hs with hs | ⟨_, hs⟩
  · injection hs with hs; subst hs; intro c hc; cases hc
  · cases hs

/-! ### Segments and programs -/
def lb1 (nseg k : Nat) (g : SegD) (i : Nat) : Bool :=
  isNameB (g.labels[i]?.getD []) && !hasB (g.labels.take i) (g.labels[i]?.getD []) && (g.defaults[i]?.getD 0 == -1 || (decide ((k : Int) + 1 ≤ g.defaults[i]?.getD 0) && decide (g.defaults[i]?.getD 0 ≤ (nseg : Int) - 1)))
def lbsB (nseg k : Nat) (g : SegD) : Bool := decide (g.labels.length = g.defaults.length) && decide (g.labels.length ≤ 200) && decide (∀ i (h : i < g.labels.length), lb1 nseg k g i = true)
def insAll (nseg k : Nat) (g : SegD) : Bool := decide (∀ i (h : i < g.instrs.length), insB nseg k i g.instrs.length g.instrs[i] = true)
def segB (nseg k : Nat) (g : SegD) : Bool := lbsB nseg k g && insAll nseg k g && flowS g.instrs
theorem argB_jump {nseg i pc n : Nat} {op arg : Int} (h : argB nseg i pc n op arg = true) (hj : jmpOp op = true) : 0 ≤ arg ∧ arg ≤ n := by
  unfold argB at h
  have hr : refOp op = false := by
    simp only [jmpOp, Bool.or_eq_true, beq_iff_eq] at hj
    rcases hj with (((h | h) | h) | h) | h <;> subst h <;> decide
  rw [hr] at h
  simp only [Bool.false_eq_true, if_false, hj, if_true] at h
  split at h <;> simp at h <;> omega
theorem insAll_flow {nseg k : Nat} {g : SegD} (h : insAll nseg k g = true) : flowI g.instrs = flowS g.instrs := by
  refine flow_same _ fun x hx => ?_
  obtain ⟨i, hi, rfl⟩ := List.getElem_of_mem hx
  have := of_decide_eq_true h i hi
  simp only [insB, insR, Bool.and_eq_true, decide_eq_true_eq] at this
  exact ⟨this.1.1.1.1.1.1, this.1.1.1.1.1.2, fun hj => argB_jump this.2 hj⟩
/-- the segments to which a segment refers -/
def refsG (g : SegD) : List Int := g.defaults.filter (fun d => decide (0 ≤ d)) ++ (g.instrs.filter fun x => refOp x.op).map InstrD.arg
def refsB (b : CodeD) : List Int := b.main ++ b.segments.flatMap refsG
def mainB (b : CodeD) : Bool := decide (b.segments.length ≤ 200) && decide (sizeC b.segments ≤ 1000) && decide (b.main.length = b.quiet.length) && decide (b.main.length ≤ 200)
def inB (b : CodeD) : Bool := b.main.all fun k => decide (0 ≤ k) && decide (k ≤ (b.segments.length : Int) - 1)
def segsB (b : CodeD) : Bool := decide (∀ i (h : i < b.segments.length), segB b.segments.length i b.segments[i] = true)
def checkB (b : CodeD) : Bool := mainB b && inB b && segsB b && decide (refsB b).Nodup
end Go.Proofs.YtjdfancbmjnjfaaGreat
