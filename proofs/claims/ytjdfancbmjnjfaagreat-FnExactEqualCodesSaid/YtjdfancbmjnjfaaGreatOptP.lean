/-
  Optimized code: the plain functions, and that both ways to find what is reached agree; no program in sight.
-/
import Derived.Test.YtjdfancbmjnjfaaGreatChkP
namespace Go.Proofs.YtjdfancbmjnjfaaGreat
set_option maxRecDepth 100000
open Go.ChangeShapes Go.WideShapes Go.ChangeAt Go.RowKit Go.Deep
set_option linter.unusedVariables false
set_option linter.unusedSimpArgs false

/-! ### Places that can be reached going forward -/
inductive FR (l : List InstrD) : Nat → Prop
  | zero : FR l 0
  | next {p : Nat} (h : p < l.length) : FR l p → endOp l[p].op = false → FR l (p + 1)
  | jump {p : Nat} (h : p < l.length) : FR l p → jmpOp l[p].op = true → (p : Int) < l[p].arg → FR l l[p].arg.toNat
/-- what can be reached by any way -/
inductive RR (l : List InstrD) : Nat → Prop
  | zero : RR l 0
  | next {p : Nat} (h : p < l.length) : RR l p → endOp l[p].op = false → RR l (p + 1)
  | jump {p : Nat} (h : p < l.length) : RR l p → jmpOp l[p].op = true → RR l l[p].arg.toNat
/-- where instructions lead lies inside, and only plain jumps go back -/
def ArgOk (l : List InstrD) : Prop := ∀ (p : Nat) (h : p < l.length), jmpOp l[p].op = true → 0 ≤ l[p].arg ∧ l[p].arg ≤ l.length ∧ (l[p].op ≠ 13 → (p : Int) < l[p].arg)
/-- what a jump that is reached leads back to is reached without it -/
def BackOk (l : List InstrD) : Prop := ∀ (p : Nat) (h : p < l.length), FR l p → jmpOp l[p].op = true → l[p].arg ≤ p → FR l l[p].arg.toNat
theorem RR_FR {l : List InstrD} (hb : BackOk l) (p : Nat) : RR l p ↔ FR l p := by
  constructor
  · intro h
    induction h with
    | zero => exact .zero
    | next h _ he ih => exact .next h ih he
    | @jump p h _ hj ih =>
      by_cases hlt : (p : Int) < l[p].arg
      · exact .jump h ih hj hlt
      · exact hb p h ih hj (by omega)
  · intro h
    induction h with
    | zero => exact .zero
    | next h _ he ih => exact .next h ih he
    | jump h _ hj _ ih => exact .jump h ih hj

/-! ### Threading -/
/-- a jump leads back to place t -/
def backB (l : List InstrD) (t : Nat) : Bool := (List.range l.length).any fun i => match l[i]? with | some x => x.op == 13 && decide (x.arg ≤ i) && x.arg == t | none => false
theorem backB_of {l : List InstrD} {p : Nat} (h : p < l.length) (ho : l[p].op = 13) (ha : l[p].arg ≤ p) (h0 : 0 ≤ l[p].arg) : backB l l[p].arg.toNat = true := by
  unfold backB
  rw [List.any_eq_true]
  refine ⟨p, List.mem_range.2 h, ?_⟩
  rw [List.getElem?_eq_getElem h]
  simp [ho, ha, Int.toNat_of_nonneg h0]
/-- place t is a jump ahead to which none leads back -/
def skipB (back : Nat → Bool) (cur : List InstrD) (t : Nat) : Bool := match cur[t]? with | some x => x.op == 13 && decide ((t : Int) < x.arg) && !back t | none => false
def goB (back : Nat → Bool) (cur : List InstrD) (i : Nat) : Bool := match cur[i]? with | some x => jmpOp x.op && decide ((i : Int) < x.arg) && skipB back cur x.arg.toNat | none => false
def argAt (cur : List InstrD) (t : Nat) : Int := match cur[t]? with | some x => x.arg | none => 0
def setArg (cur : List InstrD) (i : Nat) (a : Int) : List InstrD := match cur[i]? with | some x => cur.set i { x with arg := a } | none => cur
def follow (back : Nat → Bool) (i : Nat) : Nat → List InstrD → List InstrD
  | 0, cur => cur
  | f + 1, cur => if goB back cur i then follow back i f (setArg cur i (argAt cur (argAt cur i).toNat)) else cur
/-- the places from i on, from the last to the first -/
def thrN (l : List InstrD) : Nat → List InstrD
  | 0 => l
  | k + 1 => follow (backB l) (l.length - (k + 1)) (l.length + 1) (thrN l k)
def thrF (l : List InstrD) : List InstrD := thrN l l.length

theorem setArg_len (cur : List InstrD) (i : Nat) (a : Int) : (setArg cur i a).length = cur.length := by unfold setArg; split <;> simp
theorem follow_len (back : Nat → Bool) (i : Nat) : ∀ f cur, (follow back i f cur).length = cur.length := by
  intro f
  induction f with
  | zero => intro cur; rfl
  | succ f ih => intro cur; unfold follow; split; rw [ih, setArg_len]; rfl
theorem thrN_len (l : List InstrD) : ∀ k, (thrN l k).length = l.length := by
  intro k
  induction k with
  | zero => rfl
  | succ k ih => rw [thrN, follow_len, ih]
theorem setArg_get (cur : List InstrD) (i j : Nat) (a : Int) (h : j < cur.length) (h2 : j < (setArg cur i a).length) : (setArg cur i a)[j] = if j = i then { cur[j] with arg := a } else cur[j] := by
  unfold setArg
  by_cases hi : i < cur.length
  · simp only [List.getElem?_eq_getElem hi, List.getElem_set]
    by_cases e : i = j
    · subst e; simp
    · rw [if_neg e, if_neg (Ne.symm e)]
  · have : j ≠ i := by omega
    simp only [List.getElem?_eq_none (Nat.le_of_not_lt hi), if_neg this]

/-- cur is l with other targets -/
def Sim (l cur : List InstrD) : Prop := ∃ h : cur.length = l.length, ∀ (j : Nat) (hj : j < l.length), (cur[j]'(by omega)) = { l[j] with arg := (cur[j]'(by omega)).arg }
theorem Sim.refl (l : List InstrD) : Sim l l := ⟨rfl, fun _ _ => rfl⟩
theorem Sim.op {l cur : List InstrD} (h : Sim l cur) {j : Nat} (hj : j < l.length) (hc : j < cur.length) : cur[j].op = l[j].op := by
  obtain ⟨h1, h2⟩ := h
  rw [h2 j hj]
theorem Sim.set {l cur : List InstrD} (h : Sim l cur) (i : Nat) (a : Int) : Sim l (setArg cur i a) := by
  obtain ⟨h1, h2⟩ := h
  refine ⟨by rw [setArg_len, h1], fun j hj => ?_⟩
  rw [setArg_get cur i j a (by omega)]
  split
  · have := h2 j hj
    rw [this]
  · exact h2 j hj

/-- the threaded targets: cur has them from place k on -/
structure Thr (l cur : List InstrD) (k : Nat) : Prop where
  sim : Sim l cur
  low : ∀ (j : Nat) (hj : j < l.length) (hc : j < cur.length), j < k → cur[j].arg = l[j].arg
  same : ∀ (j : Nat) (hj : j < l.length) (hc : j < cur.length), ¬ (jmpOp l[j].op = true ∧ (j : Int) < l[j].arg) → cur[j].arg = l[j].arg
  jmp : ∀ (j : Nat) (hj : j < l.length) (hc : j < cur.length), k ≤ j → jmpOp l[j].op = true → (j : Int) < l[j].arg →
    cur[j].arg = if skipB (backB l) l l[j].arg.toNat then argAt cur l[j].arg.toNat else l[j].arg
  up : ∀ (j : Nat) (hj : j < l.length) (hc : j < cur.length), jmpOp l[j].op = true → (j : Int) < l[j].arg → l[j].arg ≤ cur[j].arg
  fin : ∀ (j : Nat) (hj : j < l.length) (hc : j < cur.length), k ≤ j → jmpOp l[j].op = true → (j : Int) < l[j].arg → skipB (backB l) l cur[j].arg.toNat = false
  top : ∀ (j : Nat) (hj : j < l.length) (hc : j < cur.length), jmpOp l[j].op = true → 0 ≤ cur[j].arg ∧ cur[j].arg ≤ l.length

theorem jmp13 : jmpOp 13 = true := by decide
theorem skipB_iff (back : Nat → Bool) (l : List InstrD) (t : Nat) : skipB back l t = true ↔ ∃ h : t < l.length, l[t].op = 13 ∧ (t : Int) < l[t].arg ∧ back t = false := by
  unfold skipB
  by_cases h : t < l.length
  · simp only [List.getElem?_eq_getElem h, Bool.and_eq_true, beq_iff_eq, decide_eq_true_eq, Bool.not_eq_true']
    constructor
    · rintro ⟨⟨a, b⟩, c⟩; exact ⟨h, a, b, c⟩
    · rintro ⟨_, a, b, c⟩; exact ⟨⟨a, b⟩, c⟩
  · simp only [List.getElem?_eq_none (Nat.le_of_not_lt h)]
    constructor
    · intro h; cases h
    · rintro ⟨h2, _⟩; exact absurd h2 h
theorem argAt_eq (l : List InstrD) (t : Nat) (h : t < l.length) : argAt l t = l[t].arg := by unfold argAt; rw [List.getElem?_eq_getElem h]
theorem goB_eq (back : Nat → Bool) (l : List InstrD) (t : Nat) (h : t < l.length) : goB back l t = (jmpOp l[t].op && decide ((t : Int) < l[t].arg) && skipB back l l[t].arg.toNat) := by unfold goB; rw [List.getElem?_eq_getElem h]

/-- whether a place may be jumped over is the same in what has been threaded -/
theorem Thr.skip {l cur : List InstrD} {k : Nat} (h : Thr l cur k) (t : Nat) : skipB (backB l) cur t = skipB (backB l) l t := by
  have hl := h.sim.1
  rw [Bool.eq_iff_iff, skipB_iff, skipB_iff]
  constructor
  · rintro ⟨h1, h2, h3, h4⟩
    have ht : t < l.length := by omega
    have ho := h.sim.op ht h1
    rw [h2] at ho
    refine ⟨ht, ho.symm, ?_, h4⟩
    by_cases hn : (t : Int) < l[t].arg
    · exact hn
    · have := h.same t ht h1 (fun hh => hn hh.2)
      omega
  · rintro ⟨h1, h2, h3, h4⟩
    have ht : t < cur.length := by omega
    have ho := h.sim.op h1 ht
    have hu := h.up t h1 ht (by rw [h2]; exact jmp13) h3
    exact ⟨ht, by rw [ho, h2], by omega, h4⟩

theorem Thr.start (l : List InstrD) (ha : ArgOk l) : Thr l l l.length where
  sim := Sim.refl l
  low := fun _ _ _ _ => rfl
  same := fun _ _ _ _ => rfl
  jmp := fun j hj _ h => absurd h (by omega)
  up := fun _ _ _ _ _ => Int.le_refl _
  fin := fun j hj _ h => absurd h (by omega)
  top := fun j hj _ hjm => ⟨(ha j hj hjm).1, (ha j hj hjm).2.1⟩

theorem follow_stop (back : Nat → Bool) (i f : Nat) (cur : List InstrD) (h : goB back cur i = false) : follow back i f cur = cur := by
  cases f with
  | zero => rfl
  | succ f => unfold follow; rw [h]; rfl

theorem Thr.step {l cur : List InstrD} {i : Nat} (h : Thr l cur (i + 1)) (hi : i < l.length) : Thr l (follow (backB l) i (l.length + 1) cur) i := by
  have hl := h.sim.1
  have hc : i < cur.length := by omega
  have hlow := h.low i hi hc (by omega)
  have hop := h.sim.op hi hc
  have hg := goB_eq (backB l) cur i hc
  rw [hop, hlow, h.skip] at hg
  by_cases hgo : goB (backB l) cur i = true
  · rw [hgo] at hg
    have hg' := hg.symm
    simp only [Bool.and_eq_true, decide_eq_true_eq] at hg'
    obtain ⟨⟨hj, hlt⟩, hsk⟩ := hg'
    obtain ⟨ht, ho13, htl, hbk⟩ := (skipB_iff _ _ _).1 hsk
    have ht0 : ((l[i].arg.toNat : Nat) : Int) = l[i].arg := Int.toNat_of_nonneg (by omega)
    have hit : i + 1 ≤ l[i].arg.toNat := by omega
    have htc : l[i].arg.toNat < cur.length := by omega
    have hju : jmpOp l[l[i].arg.toNat].op = true := by rw [ho13]; exact jmp13
    have hfin := h.fin _ ht htc hit hju htl
    have hup := h.up _ ht htc hju htl
    have htop := h.top _ ht htc hju
    have e1 : argAt cur i = l[i].arg := by rw [argAt_eq cur i hc, hlow]
    have e2 : argAt cur (argAt cur i).toNat = cur[l[i].arg.toNat].arg := by rw [e1, argAt_eq cur _ htc]
    have hstep : follow (backB l) i (l.length + 1) cur = setArg cur i cur[l[i].arg.toNat].arg := by
      rw [follow, if_pos hgo, e2]
      refine follow_stop _ _ _ _ ?_
      rw [goB_eq _ _ i (by rw [setArg_len]; exact hc), setArg_get cur i i _ hc, if_pos rfl]
      have hs2 : skipB (backB l) (setArg cur i cur[l[i].arg.toNat].arg) cur[l[i].arg.toNat].arg.toNat = skipB (backB l) cur cur[l[i].arg.toNat].arg.toNat := by
        have hne : cur[l[i].arg.toNat].arg.toNat ≠ i := by omega
        unfold skipB setArg
        rw [List.getElem?_eq_getElem hc]
        simp only
        rw [List.getElem?_set_ne (Ne.symm hne)]
      rw [hs2, h.skip, hfin]
      simp
    rw [hstep]
    have hlen := setArg_len cur i cur[l[i].arg.toNat].arg
    have gt : ∀ (j : Nat) (hj : j < cur.length) (hj2 : j < (setArg cur i cur[l[i].arg.toNat].arg).length), (setArg cur i cur[l[i].arg.toNat].arg)[j]'hj2 = if j = i then { cur[j] with arg := cur[l[i].arg.toNat].arg } else cur[j] := fun j hj hj2 => setArg_get cur i j _ hj hj2
    exact {
      sim := h.sim.set i _
      low := fun j hj hjc hlt2 => by rw [gt j (by omega), if_neg (by omega)]; exact h.low j hj (by omega) (by omega)
      same := fun j hj hjc hn => by
        have hne : j ≠ i := by rintro rfl; exact hn ⟨‹_›, hlt⟩
        rw [gt j (by omega), if_neg hne]
        exact h.same j hj (by omega) hn
      jmp := fun j hj hjc hk hjj hjl => by
        by_cases e : j = i
        · subst e
          rw [gt j hc, if_pos rfl, hsk, if_pos rfl]
          unfold argAt setArg
          rw [List.getElem?_eq_getElem hc]
          simp only
          rw [List.getElem?_set_ne (by omega), List.getElem?_eq_getElem htc]
        · rw [gt j (by omega), if_neg e, h.jmp j hj (by omega) (by omega) hjj hjl]
          split
          · unfold argAt setArg
            rw [List.getElem?_eq_getElem hc]
            simp only
            rw [List.getElem?_set_ne (by omega)]
          · rfl
      up := fun j hj hjc hjj hjl => by
        by_cases e : j = i
        · subst e
          rw [gt j hc, if_pos rfl]
          show l[j].arg ≤ cur[l[j].arg.toNat].arg
          omega
        · rw [gt j (by omega), if_neg e]
          exact h.up j hj (by omega) hjj hjl
      fin := fun j hj hjc hk hjj hjl => by
        by_cases e : j = i
        · subst e
          rw [gt j hc, if_pos rfl]
          exact hfin
        · rw [gt j (by omega), if_neg e]
          exact h.fin j hj (by omega) (by omega) hjj hjl
      top := fun j hj hjc hjj => by
        by_cases e : j = i
        · subst e
          rw [gt j hc, if_pos rfl]
          exact htop
        · rw [gt j (by omega), if_neg e]
          exact h.top j hj (by omega) hjj }
  · have hgo' : goB (backB l) cur i = false := by simpa using hgo
    rw [follow_stop _ _ _ _ hgo']
    rw [hgo'] at hg
    have hns : jmpOp l[i].op = true → (i : Int) < l[i].arg → skipB (backB l) l l[i].arg.toNat = false := by
      intro h1 h2
      rw [h1] at hg
      simpa [h2] using hg.symm
    exact {
      sim := h.sim
      low := fun j hj hjc hlt2 => h.low j hj hjc (by omega)
      same := h.same
      jmp := fun j hj hjc hk hjj hjl => by
        by_cases e : j = i
        · subst e
          rw [hns hjj hjl, hlow]
          rfl
        · exact h.jmp j hj hjc (by omega) hjj hjl
      up := h.up
      fin := fun j hj hjc hk hjj hjl => by
        by_cases e : j = i
        · subst e
          rw [hlow]
          exact hns hjj hjl
        · exact h.fin j hj hjc (by omega) hjj hjl
      top := h.top }
theorem thrN_Thr (l : List InstrD) (ha : ArgOk l) : ∀ k, k ≤ l.length → Thr l (thrN l k) (l.length - k) := by
  intro k
  induction k with
  | zero => intro _; exact Thr.start l ha
  | succ k ih =>
    intro hk
    have h1 := ih (by omega)
    rw [thrN]
    refine Thr.step ?_ (by omega)
    rw [show l.length - (k + 1) + 1 = l.length - k by omega]
    exact h1
theorem thrF_Thr (l : List InstrD) (ha : ArgOk l) : Thr l (thrF l) 0 := by
  have := thrN_Thr l ha l.length (Nat.le_refl _)
  rwa [Nat.sub_self] at this

/-- where a place leads in the end -/
def endS (l cur : List InstrD) (p : Nat) : Nat := if skipB (backB l) l p then (argAt cur p).toNat else p
theorem Thr.fr {l cur : List InstrD} (h : Thr l cur 0) {p : Nat} (hp : FR l p) : FR cur (endS l cur p) := by
  have hl := h.sim.1
  have key : ∀ q, FR cur q → FR cur (endS l cur q) := by
    intro q hq
    unfold endS
    by_cases hs : skipB (backB l) l q = true
    · rw [if_pos hs]
      obtain ⟨h1, h2, h3, h4⟩ := (skipB_iff _ _ _).1 hs
      have hqc : q < cur.length := by omega
      have ho := h.sim.op h1 hqc
      have hu := h.up q h1 hqc (by rw [h2]; exact jmp13) h3
      rw [argAt_eq cur q hqc]
      exact .jump hqc hq (by rw [ho, h2]; exact jmp13) (by omega)
    · rw [if_neg hs]
      exact hq
  induction hp with
  | zero => exact key 0 .zero
  | @next p hpl _ he ih =>
    have hns : skipB (backB l) l p = false := by
      rw [Bool.eq_false_iff]
      intro hs
      obtain ⟨h1, h2, h3, h4⟩ := (skipB_iff _ _ _).1 hs
      rw [h2] at he
      exact absurd he (by decide)
    unfold endS at ih
    rw [hns] at ih
    have hpc : p < cur.length := by omega
    exact key _ (.next hpc ih (by rw [h.sim.op hpl hpc]; exact he))
  | @jump p hpl _ hj hlt ih =>
    have hpc : p < cur.length := by omega
    have hjm := h.jmp p hpl hpc (Nat.zero_le _) hj hlt
    have e : endS l cur l[p].arg.toNat = cur[p].arg.toNat := by
      unfold endS
      rw [hjm]
      split <;> rfl
    rw [e]
    by_cases hs : skipB (backB l) l p = true
    · unfold endS at ih
      rw [if_pos hs, argAt_eq cur p hpc] at ih
      exact ih
    · unfold endS at ih
      rw [if_neg hs] at ih
      have hu := h.up p hpl hpc hj hlt
      exact .jump hpc ih (by rw [h.sim.op hpl hpc]; exact hj) (by omega)
theorem Thr.fr_back {l cur : List InstrD} (h : Thr l cur 0) {p : Nat} (hp : FR cur p) : FR l p := by
  have hl := h.sim.1
  -- where the threaded target of a place that is reached lies
  have key : ∀ (n p : Nat) (hpl : p < l.length) (hpc : p < cur.length), l.length - p ≤ n → FR l p → jmpOp l[p].op = true → (p : Int) < l[p].arg → FR l cur[p].arg.toNat := by
    intro n
    induction n with
    | zero => intro p hpl hpc hn; omega
    | succ n ih =>
      intro p hpl hpc hn hf hj hlt
      have hjm := h.jmp p hpl hpc (Nat.zero_le _) hj hlt
      have hft : FR l l[p].arg.toNat := .jump hpl hf hj hlt
      by_cases hs : skipB (backB l) l l[p].arg.toNat = true
      · rw [hjm, if_pos hs]
        obtain ⟨h1, h2, h3, h4⟩ := (skipB_iff _ _ _).1 hs
        rw [argAt_eq cur _ (by omega)]
        exact ih _ h1 (by omega) (by omega) hft (by rw [h2]; exact jmp13) h3
      · rw [hjm, if_neg hs]
        exact hft
  induction hp with
  | zero => exact .zero
  | @next p hpc _ he ih =>
    have hpl : p < l.length := by omega
    exact .next hpl ih (by rw [← h.sim.op hpl hpc]; exact he)
  | @jump p hpc _ hj hlt ih =>
    have hpl : p < l.length := by omega
    rw [h.sim.op hpl hpc] at hj
    by_cases hlt2 : (p : Int) < l[p].arg
    · exact key l.length p hpl hpc (by omega) ih hj hlt2
    · have := h.same p hpl hpc (fun hh => hlt2 hh.2)
      omega
theorem Thr.ok {l cur : List InstrD} (h : Thr l cur 0) (ha : ArgOk l) : ArgOk cur := by
  have hl := h.sim.1
  intro p hp hj
  have hpl : p < l.length := by omega
  rw [h.sim.op hpl hp] at hj ⊢
  have ht := h.top p hpl hp hj
  refine ⟨ht.1, by omega, fun hne => ?_⟩
  have h3 := (ha p hpl hj).2.2 hne
  have hu := h.up p hpl hp hj h3
  omega
theorem Thr.back {l cur : List InstrD} (h : Thr l cur 0) (ha : ArgOk l) (hb : BackOk l) : BackOk cur := by
  have hl := h.sim.1
  intro p hp hf hj hle
  have hpl : p < l.length := by omega
  rw [h.sim.op hpl hp] at hj
  have hfl := h.fr_back hf
  have hnl : ¬ (p : Int) < l[p].arg := by
    intro hlt
    have := h.up p hpl hp hj hlt
    omega
  have he := h.same p hpl hp (fun hh => hnl hh.2)
  have h13 : l[p].op = 13 := by
    by_cases e : l[p].op = 13
    · exact e
    · exact absurd ((ha p hpl hj).2.2 e) hnl
  have hf2 := hb p hpl hfl hj (by omega)
  have hbk := backB_of hpl h13 (by omega) (ha p hpl hj).1
  have := h.fr hf2
  unfold endS at this
  have hns : skipB (backB l) l l[p].arg.toNat = false := by
    rw [Bool.eq_false_iff]
    intro hs
    obtain ⟨_, _, _, h4⟩ := (skipB_iff _ _ _).1 hs
    rw [hbk] at h4
    cases h4
  rw [hns] at this
  rw [he]
  exact this
theorem thrF_ok {l : List InstrD} (ha : ArgOk l) : ArgOk (thrF l) := (thrF_Thr l ha).ok ha
theorem thrF_back {l : List InstrD} (ha : ArgOk l) (hb : BackOk l) : BackOk (thrF l) := (thrF_Thr l ha).back ha hb
theorem thrF_len (l : List InstrD) : (thrF l).length = l.length := thrN_len l _
/-! ### What is kept -/
def bAt (r : List Bool) (p : Nat) : Bool := r[p]?.getD false
theorem bAt_set (r : List Bool) (i p : Nat) (b : Bool) : bAt (r.set i b) p = if p = i ∧ i < r.length then b else bAt r p := by
  unfold bAt
  rw [List.getElem?_set]
  by_cases h : i = p
  · subst h
    by_cases h2 : i < r.length
    · simp [h2]
    · simp [h2]
  · simp [h, Ne.symm h]
def rchStep (l : List InstrD) (r : List Bool) (pc : Nat) : List Bool :=
  match l[pc]? with
  | none => r
  | some x => if bAt r pc then (if jmpOp x.op then (if endOp x.op then r else r.set (pc + 1) true).set x.arg.toNat true else (if endOp x.op then r else r.set (pc + 1) true)) else r
/-- what the reference knows to be reached when it comes to place k -/
def rch (l : List InstrD) : Nat → List Bool
  | 0 => true :: List.replicate l.length false
  | k + 1 => rchStep l (rch l k) k
theorem rchStep_len (l : List InstrD) (r : List Bool) (pc : Nat) : (rchStep l r pc).length = r.length := by
  unfold rchStep
  split
  · rfl
  · repeat' split
    all_goals simp
theorem rch_len (l : List InstrD) : ∀ k, (rch l k).length = l.length + 1 := by
  intro k
  induction k with
  | zero => simp [rch]
  | succ k ih => rw [rch, rchStep_len, ih]
theorem rchStep_mono (l : List InstrD) (r : List Bool) (pc p : Nat) (h : bAt r p = true) : bAt (rchStep l r pc) p = true := by
  unfold rchStep
  split
  · exact h
  · repeat' split
    all_goals (try simp only [bAt_set])
    all_goals repeat' split
    all_goals (first | exact h | rfl | simp_all)
theorem rch_mono (l : List InstrD) (p k m : Nat) (hkm : k ≤ m) (h : bAt (rch l k) p = true) : bAt (rch l m) p = true := by
  induction m with
  | zero => obtain rfl : k = 0 := by omega
            exact h
  | succ m ih =>
    by_cases e : k = m + 1
    · subst e; exact h
    · exact rchStep_mono l _ _ _ (ih (by omega))
theorem rch_fr (l : List InstrD) (ha : ArgOk l) : ∀ k p, k ≤ p → bAt (rch l k) p = true → FR l p := by
  intro k
  induction k with
  | zero =>
    intro p _ h
    cases p with
    | zero => exact .zero
    | succ p =>
      simp only [rch, bAt, List.getElem?_cons_succ, List.getElem?_replicate] at h
      split at h <;> cases h
  | succ k ih =>
    intro p hp h
    rw [rch, rchStep] at h
    by_cases hk : k < l.length
    · rw [List.getElem?_eq_getElem hk] at h
      simp only at h
      split at h
      · rename_i hr
        have hfk := ih k (Nat.le_refl _) hr
        have hnx : bAt (if endOp l[k].op then rch l k else (rch l k).set (k + 1) true) p = true → FR l p := by
          intro h2
          by_cases he : endOp l[k].op = true
          · rw [if_pos he] at h2
            exact ih p (by omega) h2
          · rw [if_neg he, bAt_set] at h2
            by_cases e : p = k + 1 ∧ k + 1 < (rch l k).length
            · rw [e.1]
              exact .next hk hfk (by simpa using he)
            · rw [if_neg e] at h2
              exact ih p (by omega) h2
        by_cases hj : jmpOp l[k].op = true
        · rw [if_pos hj, bAt_set] at h
          by_cases e : p = l[k].arg.toNat ∧ l[k].arg.toNat < (if endOp l[k].op then rch l k else (rch l k).set (k + 1) true).length
          · rw [e.1]
            have := ha k hk hj
            exact .jump hk hfk hj (by omega)
          · rw [if_neg e] at h
            exact hnx h
        · rw [if_neg hj] at h
          exact hnx h
      · exact ih p (by omega) h
    · rw [List.getElem?_eq_none (Nat.le_of_not_lt hk)] at h
      exact ih p (by omega) h
theorem FR.le {l : List InstrD} (ha : ArgOk l) {p : Nat} (h : FR l p) : p ≤ l.length := by
  cases h with
  | zero => omega
  | next h _ _ => omega
  | @jump q h _ hj _ =>
    have := ha q h hj
    omega
theorem fr_rch (l : List InstrD) (ha : ArgOk l) {p : Nat} (h : FR l p) : bAt (rch l p) p = true := by
  induction h with
  | zero => simp [rch, bAt]
  | @next p hp _ he ih =>
    rw [rch, rchStep, List.getElem?_eq_getElem hp]
    simp only
    rw [if_pos ih, he]
    have hb : bAt ((rch l p).set (p + 1) true) (p + 1) = true := by rw [bAt_set, if_pos ⟨rfl, by rw [rch_len]; omega⟩]
    simp only [Bool.false_eq_true, if_false]
    split
    · rw [bAt_set]
      split
      · rfl
      · exact hb
    · exact hb
  | @jump p hp _ hj hlt ih =>
    have hap := ha p hp hj
    refine rch_mono l _ (p + 1) _ (by omega) ?_
    rw [rch, rchStep, List.getElem?_eq_getElem hp]
    simp only
    rw [if_pos ih, if_pos hj, bAt_set, if_pos]
    refine ⟨rfl, ?_⟩
    split
    · rw [rch_len]; omega
    · rw [List.length_set, rch_len]; omega
theorem rch_iff (l : List InstrD) (ha : ArgOk l) (p : Nat) : bAt (rch l p) p = true ↔ FR l p := ⟨fun h => rch_fr l ha p p (Nat.le_refl _) h, fun h => fr_rch l ha h⟩

def nextB (x : InstrD) (p : Nat) : Bool := x.op == 13 && x.arg == (p : Int) + 1
def keep0 (l : List InstrD) (p : Nat) : Bool := match l[p]? with | some x => bAt (rch l p) p && !nextB x p | none => false
def ledTo (l : List InstrD) (t : Nat) : Bool := l.any fun x => jmpOp x.op && x.arg == (t : Int)
def pairB (l : List InstrD) (kp : Nat → Bool) (p : Nat) : Bool :=
  match l[p]?, l[p + 1]? with
  | some x, some y => kp p && kp (p + 1) && x.op == 0 && y.op == 12 && !ledTo l (p + 1)
  | _, _ => false
/-- places that are kept, when pairs have been looked at up to place k -/
def pairs (l : List InstrD) : Nat → Nat → Bool
  | 0, p => keep0 l p
  | k + 1, p => if pairB l (pairs l k) k ∧ (p = k ∨ p = k + 1) then false else pairs l k p
def keepF (l : List InstrD) (p : Nat) : Bool := pairs l (l.length - 1) p
theorem pairs_keep0 (l : List InstrD) : ∀ k p, pairs l k p = true → keep0 l p = true := by
  intro k
  induction k with
  | zero => intro p h; exact h
  | succ k ih =>
    intro p h
    rw [pairs] at h
    split at h
    · cases h
    · exact ih p h
theorem pairs_gone (l : List InstrD) : ∀ k p (hp : p < l.length), pairs l k p = false → keep0 l p = false ∨ l[p].op = 0 ∨ l[p].op = 12 := by
  intro k
  induction k with
  | zero => intro p hp h; exact .inl h
  | succ k ih =>
    intro p hp h
    rw [pairs] at h
    split at h
    · rename_i hh
      obtain ⟨h1, h2⟩ := hh
      right
      unfold pairB at h1
      split at h1
      · rename_i x y hx hy
        simp only [Bool.and_eq_true, beq_iff_eq] at h1
        rcases h2 with rfl | rfl
        · left
          rw [List.getElem?_eq_getElem hp] at hx
          injection hx with hx
          rw [hx]; exact h1.1.1.2
        · right
          rw [List.getElem?_eq_getElem hp] at hy
          injection hy with hy
          rw [hy]; exact h1.1.2
      · cases h1
    · exact ih p hp h
theorem keepF_fr {l : List InstrD} (ha : ArgOk l) {p : Nat} (hp : p < l.length) (h : keepF l p = true) : FR l p := by
  have := pairs_keep0 l _ p h
  unfold keep0 at this
  rw [List.getElem?_eq_getElem hp] at this
  simp only [Bool.and_eq_true] at this
  exact (rch_iff l ha p).1 this.1
/-- from a place that is left out there is but the next one -/
theorem keepF_gone {l : List InstrD} (ha : ArgOk l) {p : Nat} (hp : p < l.length) (hf : FR l p) (h : keepF l p = false) : (l[p].op = 13 ∧ l[p].arg = (p : Int) + 1) ∨ jmpOp l[p].op = false := by
  rcases pairs_gone l _ p hp h with h | h | h
  · left
    unfold keep0 at h
    rw [List.getElem?_eq_getElem hp] at h
    simp only [(rch_iff l ha p).2 hf, Bool.true_and, Bool.not_eq_false', nextB, Bool.and_eq_true, beq_iff_eq] at h
    exact h
  · right; rw [h]; decide
  · right; rw [h]; decide

/-! ### Leaving out -/
def atN (kp : Nat → Bool) : Nat → Nat
  | 0 => 0
  | k + 1 => atN kp k + if kp k then 1 else 0
def mvI (kp : Nat → Bool) (x : InstrD) : InstrD := if jmpOp x.op then { x with arg := (atN kp x.arg.toNat : Int) } else x
def dropN (kp : Nat → Bool) (l : List InstrD) : Nat → List InstrD
  | 0 => []
  | k + 1 => dropN kp l k ++ (match l[k]? with | some x => if kp k then [mvI kp x] else [] | none => [])
def dropF (l : List InstrD) : List InstrD := dropN (keepF l) l l.length
theorem atN_mono (kp : Nat → Bool) {a b : Nat} (h : a ≤ b) : atN kp a ≤ atN kp b := by
  induction b with
  | zero => obtain rfl : a = 0 := by omega
            exact Nat.le_refl _
  | succ b ih =>
    by_cases e : a = b + 1
    · subst e; exact Nat.le_refl _
    · exact Nat.le_trans (ih (by omega)) (Nat.le_add_right _ _)
theorem atN_le (kp : Nat → Bool) (a : Nat) : atN kp a ≤ a := by
  induction a with
  | zero => exact Nat.le_refl _
  | succ a ih => rw [atN]; split <;> omega
theorem atN_lt (kp : Nat → Bool) {a b : Nat} (h : a < b) (hk : kp a = true) : atN kp a < atN kp b := by
  have := atN_mono kp (show a + 1 ≤ b from h)
  rw [atN, hk] at this
  simp at this
  omega
theorem dropN_len (kp : Nat → Bool) (l : List InstrD) : ∀ k, k ≤ l.length → (dropN kp l k).length = atN kp k := by
  intro k
  induction k with
  | zero => intro _; rfl
  | succ k ih =>
    intro hk
    rw [dropN, atN, List.length_append, ih (by omega), List.getElem?_eq_getElem (by omega)]
    simp only
    split <;> simp
theorem dropN_get (kp : Nat → Bool) (l : List InstrD) : ∀ k p (hp : p < l.length), k ≤ l.length → p < k → kp p = true → (dropN kp l k)[atN kp p]? = some (mvI kp l[p]) := by
  intro k
  induction k with
  | zero => intro p hp _ h; omega
  | succ k ih =>
    intro p hp hk hpk hkp
    rw [dropN, List.getElem?_eq_getElem (show k < l.length by omega)]
    simp only
    by_cases e : p = k
    · subst e
      rw [List.getElem?_append_right (by rw [dropN_len kp l p (by omega)]; exact Nat.le_refl _), dropN_len kp l p (by omega), Nat.sub_self, if_pos hkp]
      rfl
    · rw [List.getElem?_append_left (by rw [dropN_len kp l k (by omega)]; exact atN_lt kp (by omega) hkp)]
      exact ih p hp (by omega) (by omega) hkp
theorem dropN_from (kp : Nat → Bool) (l : List InstrD) : ∀ k q, k ≤ l.length → q < atN kp k → ∃ p, p < k ∧ kp p = true ∧ atN kp p = q := by
  intro k
  induction k with
  | zero => intro q _ h; simp [atN] at h
  | succ k ih =>
    intro q hk hq
    rw [atN] at hq
    by_cases h : q < atN kp k
    · obtain ⟨p, h1, h2, h3⟩ := ih q (by omega) h
      exact ⟨p, by omega, h2, h3⟩
    · by_cases hkp : kp k = true
      · rw [if_pos hkp] at hq
        exact ⟨k, by omega, hkp, by omega⟩
      · rw [if_neg hkp] at hq
        omega
theorem dropF_len (l : List InstrD) : (dropF l).length = atN (keepF l) l.length := dropN_len _ _ _ (Nat.le_refl _)
theorem dropF_get {l : List InstrD} {p : Nat} (hp : p < l.length) (hk : keepF l p = true) (h2 : atN (keepF l) p < (dropF l).length) : (dropF l)[atN (keepF l) p] = mvI (keepF l) l[p] := by
  have := dropN_get (keepF l) l l.length p hp (Nat.le_refl _) hp hk
  have h3 : (dropF l)[atN (keepF l) p]? = some (mvI (keepF l) l[p]) := this
  rw [List.getElem?_eq_getElem h2] at h3
  injection h3
theorem mvI_op (kp : Nat → Bool) (x : InstrD) : (mvI kp x).op = x.op := by unfold mvI; split <;> rfl
theorem mvI_arg (kp : Nat → Bool) (x : InstrD) (h : jmpOp x.op = true) : (mvI kp x).arg = (atN kp x.arg.toNat : Int) := by unfold mvI; rw [if_pos h]
theorem dropF_fr {l : List InstrD} (ha : ArgOk l) {p : Nat} (h : FR l p) : FR (dropF l) (atN (keepF l) p) := by
  induction h with
  | zero => exact .zero
  | @next p hp hf he ih =>
    by_cases hk : keepF l p = true
    · have hl : atN (keepF l) p < (dropF l).length := by rw [dropF_len]; exact atN_lt _ hp hk
      have hg := dropF_get hp hk hl
      rw [atN, if_pos hk]
      exact .next hl ih (by rw [hg, mvI_op]; exact he)
    · rw [atN, if_neg hk]
      exact ih
  | @jump p hp hf hj hlt ih =>
    by_cases hk : keepF l p = true
    · have hl : atN (keepF l) p < (dropF l).length := by rw [dropF_len]; exact atN_lt _ hp hk
      have hg := dropF_get hp hk hl
      have h0 := ha p hp hj
      have hm : (atN (keepF l) p : Int) < (atN (keepF l) l[p].arg.toNat : Int) := by
        have := atN_lt (keepF l) (show p < l[p].arg.toNat by omega) hk
        omega
      have ea : (dropF l)[atN (keepF l) p].arg = (atN (keepF l) l[p].arg.toNat : Int) := by rw [hg, mvI_arg _ _ hj]
      have := FR.jump hl ih (by rw [hg, mvI_op]; exact hj) (by rw [ea]; exact hm)
      rw [ea] at this
      exact this
    · rcases keepF_gone ha hp hf (by simpa using hk) with ⟨_, h13⟩ | hnj
      · have e : l[p].arg.toNat = p + 1 := by omega
        rw [e, atN, if_neg hk]
        exact ih
      · rw [hnj] at hj
        cases hj
theorem dropF_at {l : List InstrD} {q : Nat} (hq : q < (dropF l).length) : ∃ p, ∃ hp : p < l.length, keepF l p = true ∧ atN (keepF l) p = q ∧ (dropF l)[q] = mvI (keepF l) l[p] := by
  rw [dropF_len] at hq
  obtain ⟨p, h1, h2, rfl⟩ := dropN_from (keepF l) l l.length q (Nat.le_refl _) hq
  exact ⟨p, h1, h2, rfl, dropF_get h1 h2 _⟩
theorem dropF_ok {l : List InstrD} (ha : ArgOk l) : ArgOk (dropF l) := by
  intro q hq hj
  obtain ⟨p, hp, hk, rfl, hg⟩ := dropF_at hq
  rw [hg, mvI_op] at hj ⊢
  rw [mvI_arg _ _ hj, dropF_len]
  obtain ⟨h1, h2, h3⟩ := ha p hp hj
  refine ⟨by omega, ?_, fun hne => ?_⟩
  · have := atN_mono (keepF l) (show l[p].arg.toNat ≤ l.length by omega)
    omega
  · have h4 := h3 hne
    have := atN_lt (keepF l) (show p < l[p].arg.toNat by omega) hk
    omega
theorem dropF_back {l : List InstrD} (ha : ArgOk l) (hb : BackOk l) : BackOk (dropF l) := by
  intro q hq hf hj hle
  obtain ⟨p, hp, hk, rfl, hg⟩ := dropF_at hq
  rw [hg, mvI_op] at hj
  rw [hg, mvI_arg _ _ hj] at hle ⊢
  have h0 := ha p hp hj
  have hle2 : l[p].arg ≤ p := by
    by_cases hh : l[p].arg ≤ p
    · exact hh
    · have := atN_lt (keepF l) (show p < l[p].arg.toNat by omega) hk
      omega
  have := dropF_fr ha (hb p hp (keepF_fr ha hp hk) hj hle2)
  simpa using this

/-! ### The rounds -/
def optF : Nat → List InstrD → List InstrD
  | 0, l => l
  | f + 1, l => if (dropF (thrF l)).length = l.length then dropF (thrF l) else optF f (dropF (thrF l))
def optL (l : List InstrD) : List InstrD := optF (l.length + 1) l
theorem dropF_le (l : List InstrD) : (dropF l).length ≤ l.length := by rw [dropF_len]; exact atN_le _ _
theorem atN_full {kp : Nat → Bool} {n : Nat} (h : atN kp n = n) : (∀ p, p < n → kp p = true) ∧ ∀ p, p ≤ n → atN kp p = p := by
  induction n with
  | zero => exact ⟨fun p hp => by omega, fun p hp => by obtain rfl : p = 0 := by omega
                                                        rfl⟩
  | succ n ih =>
    rw [atN] at h
    have hle := atN_le kp n
    have hk : kp n = true := by
      by_cases hk : kp n = true
      · exact hk
      · rw [if_neg hk] at h; omega
    rw [if_pos hk] at h
    obtain ⟨h1, h2⟩ := ih (by omega)
    refine ⟨fun p hp => ?_, fun p hp => ?_⟩
    · by_cases e : p = n
      · subst e; exact hk
      · exact h1 p (by omega)
    · by_cases e : p = n + 1
      · subst e; rw [atN, if_pos hk]; omega
      · exact h2 p (by omega)
/-- where nothing is left out nothing changes -/
theorem dropF_all {l : List InstrD} (ha : ArgOk l) (h : (dropF l).length = l.length) : dropF l = l := by
  refine List.ext_getElem h fun q hq hq2 => ?_
  rw [dropF_len] at h
  obtain ⟨h1, h2⟩ := atN_full h
  obtain ⟨p, hp, hk, e, hg⟩ := dropF_at hq
  rw [h2 p (by omega)] at e
  subst e
  rw [hg]
  unfold mvI
  split
  · rename_i hj
    have := ha p hp hj
    rw [h2 _ (by omega), Int.toNat_of_nonneg this.1]
  · rfl
/-! ### What the program knows to be reached -/
/-- what holds of its list of places -/
structure Todo (l : List InstrD) (seen : List Bool) (todo : List Nat) : Prop where
  len : seen.length = l.length + 1
  zero : bAt seen 0 = true
  fair : ∀ p, bAt seen p = true → RR l p
  mem : ∀ p ∈ todo, bAt seen p = true ∧ p ≤ l.length
  done : ∀ (p : Nat) (hp : p < l.length), bAt seen p = true → p ∉ todo → (endOp l[p].op = false → bAt seen (p + 1) = true) ∧ (jmpOp l[p].op = true → bAt seen l[p].arg.toNat = true)
theorem Todo.end_ {l : List InstrD} {seen : List Bool} (h : Todo l seen []) (p : Nat) : bAt seen p = true ↔ RR l p := by
  refine ⟨h.fair p, fun hr => ?_⟩
  induction hr with
  | zero => exact h.zero
  | next hp _ he ih => exact (h.done _ hp ih (by simp)).1 he
  | jump hp _ hj ih => exact (h.done _ hp ih (by simp)).2 hj
def visS (seen : List Bool) (k : Nat) : List Bool := if bAt seen k then seen else seen.set k true
def visT (seen : List Bool) (todo : List Nat) (k : Nat) : List Nat := if bAt seen k then todo else todo ++ [k]
/-! ### Code that is right -/
theorem insAll_ok {nseg k : Nat} {g : SegD} (h : insAll nseg k g = true) : ArgOk g.instrs := by
  intro p hp hj
  have := of_decide_eq_true h p hp
  simp only [insB, Bool.and_eq_true] at this
  have ha := argB_jump this.2 hj
  refine ⟨ha.1, ha.2, fun hne => ?_⟩
  have h2 := this.2
  unfold argB at h2
  have hr : refOp g.instrs[p].op = false := by
    simp only [jmpOp, Bool.or_eq_true, beq_iff_eq] at hj
    rcases hj with (((h | h) | h) | h) | h <;> rw [h] <;> decide
  rw [hr] at h2
  simp only [Bool.false_eq_true, if_false, hj, if_true] at h2
  rw [if_neg hne] at h2
  simp at h2
  omega
def knw (st : St) (p : Nat) : Bool := (st[p]?.getD none).isSome
theorem meet_knw {st st' : St} {a : Nat} {s : List UInt8} (h : meet st a s = some st') (p : Nat) : knw st' p = if p = a ∧ a < st.length then true else knw st p := by
  unfold meet at h
  split at h
  · rename_i t ht
    split at h
    · injection h with h
      subst h
      split
      · rename_i e
        unfold knw
        rw [e.1, ht]
        rfl
      · rfl
    · cases h
  · injection h with h
    subst h
    unfold knw
    rw [List.getElem?_set]
    by_cases e : a = p
    · subst e
      by_cases hl : a < st.length
      · simp [hl]
      · simp [hl]
    · simp [e, Ne.symm e]
theorem endOp13 : endOp 13 = true := by decide
theorem flow_step {l : List InstrD} {st st' : St} {k : Nat} (ha : ArgOk l) (hk : k < l.length) (hl : st.length = l.length + 1) (hr : ∀ p, knw st p = bAt (rch l k) p)
    (hf : ∀ p, bAt (rch l k) p = true → FR l p) (h : stepS k l[k] st = some st') : st'.length = l.length + 1 ∧ (∀ p, knw st' p = bAt (rch l (k + 1)) p) ∧ (∀ p, bAt (rch l (k + 1)) p = true → FR l p) := by
  unfold stepS at h
  rw [rch, rchStep, List.getElem?_eq_getElem hk]
  simp only
  split at h
  · rename_i hn
    injection h with h
    subst h
    have : bAt (rch l k) k = false := by rw [← hr, knw, hn]; rfl
    rw [this]
    exact ⟨hl, hr, hf⟩
  · rename_i s hs
    have hkk : bAt (rch l k) k = true := by rw [← hr, knw, hs]; rfl
    have hfk := hf k hkk
    rw [if_pos hkk]
    split at h
    · cases h
    · rename_i t ht
      split at h
      · cases h
      · rename_i st1 h1
        have hm1 : st1.length = l.length + 1 ∧ (∀ p, knw st1 p = bAt (if endOp l[k].op then rch l k else (rch l k).set (k + 1) true) p) ∧ (∀ p, bAt (if endOp l[k].op then rch l k else (rch l k).set (k + 1) true) p = true → FR l p) := by
          by_cases he : endOp l[k].op = true
          · rw [if_pos he] at h1 ⊢
            injection h1 with h1
            subst h1
            exact ⟨hl, hr, hf⟩
          · rw [if_neg he] at h1 ⊢
            refine ⟨by rw [meet_len h1, hl], fun p => ?_, fun p hp => ?_⟩
            · rw [meet_knw h1, bAt_set, rch_len, hl, hr]
            · rw [bAt_set] at hp
              split at hp
              · rename_i e
                rw [e.1]
                exact .next hk hfk (by simpa using he)
              · exact hf p hp
        obtain ⟨g1, g2, g3⟩ := hm1
        by_cases hj : jmpOp l[k].op = true
        · rw [if_pos hj] at h ⊢
          split at h
          · rename_i hb
            have h0 := ha k hk hj
            refine ⟨by rw [meet_len h, g1], fun p => ?_, fun p hp => ?_⟩
            · rw [meet_knw h, bAt_set, g2, g1]
              have hlen : (if endOp l[k].op then rch l k else (rch l k).set (k + 1) true).length = l.length + 1 := by split <;> simp [rch_len]
              rw [hlen]
            · rw [bAt_set] at hp
              by_cases e : p = l[k].arg.toNat ∧ l[k].arg.toNat < (if endOp l[k].op then rch l k else (rch l k).set (k + 1) true).length
              · rw [e.1]
                unfold backOk at hb
                rw [Bool.or_eq_true, decide_eq_true_eq] at hb
                rcases hb with hb | hb
                · exact .jump hk hfk hj hb
                · exact g3 _ (by rw [← g2]; exact hb)
              · rw [if_neg e] at hp
                exact g3 p hp
          · cases h
        · rw [if_neg hj] at h ⊢
          injection h with h
          subst h
          exact ⟨g1, g2, g3⟩
theorem flow_run {l : List InstrD} (ha : ArgOk l) {fin : St} : ∀ (n k : Nat) (st : St), n + k = l.length → st.length = l.length + 1 → (∀ p, knw st p = bAt (rch l k) p) → (∀ p, bAt (rch l k) p = true → FR l p) → runF stepS (l.drop k) k st = some fin →
    ∀ p, bAt (rch l l.length) p = true → FR l p := by
  intro n
  induction n with
  | zero =>
    intro k st hn hl hr hf _ p hp
    obtain rfl : k = l.length := by omega
    exact hf p hp
  | succ n ih =>
    intro k st hn hl hr hf h
    have hk : k < l.length := by omega
    rw [List.drop_eq_getElem_cons hk, runF] at h
    split at h
    · cases h
    · rename_i st' hst
      obtain ⟨g1, g2, g3⟩ := flow_step ha hk hl hr hf hst
      exact ih (k + 1) st' (by omega) g1 g2 g3 h
theorem flow_back {l : List InstrD} (ha : ArgOk l) (h : flowS l = true) : BackOk l := by
  have key : ∀ p, bAt (rch l l.length) p = true → FR l p := by
    unfold flowS at h
    cases hr : runF stepS l 0 (init l.length) with
    | none => rw [hr] at h; cases h
    | some fin =>
      refine flow_run ha l.length 0 (init l.length) (by omega) (by simp [init]) (fun p => ?_) (fun p hp => ?_) (by simpa using hr)
      · unfold knw init rch bAt
        cases p with
        | zero => rfl
        | succ p =>
          simp only [List.getElem?_cons_succ, List.getElem?_replicate]
          split <;> rfl
      · exact rch_fr l ha 0 p (Nat.zero_le _) hp
  intro p hp hf hj hle
  refine key _ ?_
  have hap := ha p hp hj
  refine rch_mono l _ (p + 1) _ (by omega) ?_
  rw [rch, rchStep, List.getElem?_eq_getElem hp]
  simp only
  rw [if_pos (fr_rch l ha hf), if_pos hj, bAt_set, if_pos]
  refine ⟨rfl, ?_⟩
  split
  · rw [rch_len]; omega
  · rw [List.length_set, rch_len]; omega
end Go.Proofs.YtjdfancbmjnjfaaGreat
