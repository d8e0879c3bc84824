/-
  The machine's values and memory against the model's.
-/
import Derived.Test.YtkdlekonfjeidaaGreatEngHeap
import Derived.Deep.MidRow
import Derived.Below
namespace Go.Proofs.YtkdlekonfjeidaaGreat.Eng
set_option linter.unusedVariables false

/-- where a canonical block lies: its block, and how many cells that has -/
structure RI where
  b : Nat
  tot : Nat
abbrev Rn := Nat → Option RI

def CV.one : CV → Bool
  | .agg _ => false
  | .tup _ => false
  | .any => false
  | _ => true

/-- what an expression in the length is -/
def evalOp (o : BinOp) (a k : Int) : Option Int := match o with
  | .rem => some (a.tmod k)
  | .quo => some (IntKind.i64.wrap (a.tdiv k))
  | .gtr => some (if a > k then 1 else 0)
  | .eql => some (if a = k then 1 else 0)
  | _ => none
def evalE (L : Nat) : SE → Option Int
  | .len => some L
  | .op o e k => (evalE L e).bind fun a => evalOp o a k
def TabOk (L : Nat) (t : Tab) : Prop := ∀ p ∈ t, evalE L p.1 = some p.2

inductive VRel (ρ : Rn) : CV → Value → Prop where
  | bool (b : Bool) : VRel ρ (.bool b) (.bool b)
  | int (k : IntKind) (n : Int) : VRel ρ (.int k n) (.int k n)
  | str (l : List Nat) (s : ByteArray) (h : s.data.toList.map UInt8.toNat = l) : VRel ρ (.str l) (.string s)
  | nilp : VRel ρ .nilp (.pointer none)
  | ptr (id off : Nat) (ri : RI) (h : ρ id = some ri) : VRel ρ (.ptr id off) (.pointer (some ⟨ri.b, off, none⟩))
  | nils : VRel ρ .nils (.slice none 0 0)
  | sl (id off len esz : Nat) (ri : RI) (a : Addr) (cap : Nat) (h : ρ id = some ri) (hc : len ≤ cap) (ha : (a = ⟨ri.b, off, none⟩ ∧ off + cap * esz ≤ ri.tot) ∨ cap = 0) : VRel ρ (.sl id off len esz) (.slice (some a) len cap)
  | nilm : VRel ρ .nilm (.map none)
  | map (id : Nat) (ri : RI) (h : ρ id = some ri) : VRel ρ (.map id) (.map (some ri.b))
  | nilfn : VRel ρ .nilfn .nilFunc
  | fn (f : FuncId) (first cap : List CV) (x y : Array Value) (h1 : first.length = x.size) (h2 : ∀ (i : Nat) (c : CV) (v : Value), first[i]? = some c → x[i]? = some v → VRel ρ c v)
      (h3 : cap.length = y.size) (h4 : ∀ (i : Nat) (c : CV) (v : Value), cap[i]? = some c → y[i]? = some v → VRel ρ c v) : VRel ρ (.fn f first cap) (.func (.func f) x y)
  | agg (cs : List CV) (x : Array Value) (h1 : cs.length = x.size) (h2 : ∀ (i : Nat) (c : CV) (v : Value), cs[i]? = some c → x[i]? = some v → VRel ρ c v) (h3 : ∀ c ∈ cs, c.one = true) : VRel ρ (.agg cs) (.agg x)
  | tup (cs : List CV) (x : Array Value) (h1 : cs.length = x.size) (h2 : ∀ (i : Nat) (c : CV) (v : Value), cs[i]? = some c → x[i]? = some v → VRel ρ c v) : VRel ρ (.tup cs) (.tuple x)
  | any (v : Value) : VRel ρ .any v
  | sym (e : SE) (t : Tab) (ri : RI) (h : ρ 0 = some ri) (ht : TabOk ri.b t) (n : Int) (he : evalE ri.b e = some n) : VRel ρ (.sym e t) (.int .i64 n)
  | slx (t : Tab) (ri : RI) (h : ρ 0 = some ri) (ht : TabOk ri.b t) (A : Option Addr) (cap : Nat) : VRel ρ (.slx t) (.slice A ri.b cap)

/-- lists, one by one -/
def VRels (ρ : Rn) (cs : List CV) (vs : List Value) : Prop := cs.length = vs.length ∧ ∀ (i : Nat) (c : CV) (v : Value), cs[i]? = some c → vs[i]? = some v → VRel ρ c v

theorem VRels.nil (ρ : Rn) : VRels ρ [] [] := ⟨rfl, fun i c v h => by simp at h⟩
theorem VRels.cons {ρ : Rn} {c : CV} {v : Value} {cs : List CV} {vs : List Value} (h : VRel ρ c v) (hs : VRels ρ cs vs) : VRels ρ (c :: cs) (v :: vs) := by
  refine ⟨by simp [hs.1], fun i c' v' h1 h2 => ?_⟩
  cases i with
  | zero => simp at h1 h2; subst h1 h2; exact h
  | succ i => simp at h1 h2; exact hs.2 i c' v' h1 h2
theorem VRels.uncons {ρ : Rn} {c : CV} {cs : List CV} {vs : List Value} (h : VRels ρ (c :: cs) vs) : ∃ v vs', vs = v :: vs' ∧ VRel ρ c v ∧ VRels ρ cs vs' := by
  cases vs with
  | nil => have := h.1; simp at this
  | cons v vs => exact ⟨v, vs, rfl, h.2 0 _ _ rfl rfl, by have := h.1; simpa using this, fun i c' v' h1 h2 => h.2 (i + 1) c' v' (by simpa using h1) (by simpa using h2)⟩
theorem VRels.unnil {ρ : Rn} {vs : List Value} (h : VRels ρ [] vs) : vs = [] := by
  have := h.1
  exact List.eq_nil_of_length_eq_zero this.symm
theorem VRels.append {ρ : Rn} {cs ds : List CV} {vs us : List Value} (h : VRels ρ cs vs) (k : VRels ρ ds us) : VRels ρ (cs ++ ds) (vs ++ us) := by
  refine ⟨by simp [h.1, k.1], fun i c v h1 h2 => ?_⟩
  by_cases hi : i < cs.length
  · rw [List.getElem?_append_left hi] at h1
    rw [List.getElem?_append_left (by rw [← h.1]; exact hi)] at h2
    exact h.2 i c v h1 h2
  · rw [List.getElem?_append_right (by omega)] at h1
    rw [List.getElem?_append_right (by rw [← h.1]; omega), ← h.1] at h2
    exact k.2 _ c v h1 h2
theorem VRels.at {ρ : Rn} {cs : List CV} {vs : List Value} (h : VRels ρ cs vs) {i : Nat} {c : CV} (hi : cs[i]? = some c) : ∃ v, vs[i]? = some v ∧ VRel ρ c v := by
  have hlt := (List.getElem?_eq_some_iff.1 hi).1
  exact ⟨vs[i]'(by rw [← h.1]; exact hlt), List.getElem?_eq_getElem _, h.2 i c _ hi (List.getElem?_eq_getElem _)⟩
theorem VRels.take {ρ : Rn} {cs : List CV} {vs : List Value} (h : VRels ρ cs vs) (n : Nat) : VRels ρ (cs.take n) (vs.take n) := by
  refine ⟨by simp [h.1], fun i c v h1 h2 => ?_⟩
  rw [List.getElem?_take] at h1 h2
  split at h1
  · rename_i hi; rw [if_pos hi] at h2; exact h.2 i c v h1 h2
  · cases h1
theorem VRels.drop {ρ : Rn} {cs : List CV} {vs : List Value} (h : VRels ρ cs vs) (n : Nat) : VRels ρ (cs.drop n) (vs.drop n) := by
  refine ⟨by simp [h.1], fun i c v h1 h2 => ?_⟩
  rw [List.getElem?_drop] at h1 h2
  exact h.2 _ c v h1 h2
theorem VRel.aggL {ρ : Rn} {cs : List CV} {x : Array Value} (h : VRel ρ (.agg cs) (.agg x)) : VRels ρ cs x.toList := by
  cases h with
  | agg _ _ h1 h2 h3 => exact ⟨by simpa using h1, fun i c v h5 h6 => h2 i c v h5 (by simpa using h6)⟩
theorem VRel.mkAgg {ρ : Rn} {cs : List CV} {x : List Value} (h : VRels ρ cs x) (h3 : ∀ c ∈ cs, c.one = true) : VRel ρ (.agg cs) (.agg x.toArray) :=
  .agg cs _ (by simpa using h.1) (fun i c v h5 h6 => h.2 i c v h5 (by simpa using h6)) h3
theorem VRel.mkTup {ρ : Rn} {cs : List CV} {x : List Value} (h : VRels ρ cs x) : VRel ρ (.tup cs) (.tuple x.toArray) :=
  .tup cs _ (by simpa using h.1) (fun i c v h5 h6 => h.2 i c v h5 (by simpa using h6))
theorem VRel.tupL {ρ : Rn} {cs : List CV} {x : Array Value} (h : VRel ρ (.tup cs) (.tuple x)) : VRels ρ cs x.toList := by
  cases h with
  | tup _ _ h1 h2 => exact ⟨by simpa using h1, fun i c v h5 h6 => h2 i c v h5 (by simpa using h6)⟩
theorem VRel.oneCell {ρ : Rn} {c : CV} {v : Value} (h : VRel ρ c v) (h1 : c.one = true) : v.oneCell' = true := by
  cases h <;> first | rfl | (simp [CV.one] at h1)

/-- ρ' knows all that ρ knows -/
def Sub (ρ ρ' : Rn) : Prop := ∀ id ri, ρ id = some ri → ρ' id = some ri
theorem Sub.refl (ρ : Rn) : Sub ρ ρ := fun _ _ h => h
theorem Sub.trans {a b c : Rn} (h : Sub a b) (k : Sub b c) : Sub a c := fun id ri e => k id ri (h id ri e)
theorem VRel.mono {ρ ρ' : Rn} (H : Sub ρ ρ') {c : CV} {v : Value} (h : VRel ρ c v) : VRel ρ' c v := by
  induction h with
  | bool b => exact .bool b
  | int k n => exact .int k n
  | str l s h => exact .str l s h
  | nilp => exact .nilp
  | ptr id off ri h => exact .ptr id off ri (H _ _ h)
  | nils => exact .nils
  | sl id off len esz ri a cap h hc ha => exact .sl id off len esz ri a cap (H _ _ h) hc ha
  | nilm => exact .nilm
  | map id ri h => exact .map id ri (H _ _ h)
  | nilfn => exact .nilfn
  | fn f first cap x y h1 _ h3 _ i2 i4 => exact .fn f first cap x y h1 i2 h3 i4
  | agg cs x h1 _ h3 i2 => exact .agg cs x h1 i2 h3
  | tup cs x h1 _ i2 => exact .tup cs x h1 i2
  | any v => exact .any v
  | sym e t ri h ht n he => exact .sym e t ri (H _ _ h) ht n he
  | slx t ri h ht A cap => exact .slx t ri (H _ _ h) ht A cap
theorem VRels.mono {ρ ρ' : Rn} (H : Sub ρ ρ') {cs : List CV} {vs : List Value} (h : VRels ρ cs vs) : VRels ρ' cs vs := ⟨h.1, fun i c v h1 h2 => (h.2 i c v h1 h2).mono H⟩

theorem undef_rel (ρ : Rn) : VRel ρ undefC undef := .tup [] #[] rfl (fun i c v h => by simp at h)

/-! ### Constants -/
theorem cv1_rel (ρ : Rn) {v : Value} {c : CV} (h : cv1 v = some c) : VRel ρ c v ∧ c.one = true := by
  unfold cv1 at h
  split at h <;> simp at h
  all_goals subst h
  · exact ⟨.bool _, rfl⟩
  · exact ⟨.int _ _, rfl⟩
  · exact ⟨.str _ _ rfl, rfl⟩
  · exact ⟨.nilp, rfl⟩
  · exact ⟨.nils, rfl⟩
  · exact ⟨.nilm, rfl⟩
  · exact ⟨.nilfn, rfl⟩
theorem lmapO_some {α β : Type} {f : α → Option β} {l : List α} {m : List β} (h : lmapO f l = some m) : m.length = l.length ∧ ∀ (i : Nat) (a : α), l[i]? = some a → ∃ b, f a = some b ∧ m[i]? = some b := by
  induction l generalizing m with
  | nil => simp [lmapO_nil] at h; subst h; exact ⟨rfl, fun i a h => by simp at h⟩
  | cons a l ih =>
    rw [lmapO_cons] at h
    cases hf : f a with
    | none => simp [hf] at h
    | some b =>
      rw [hf, oc_some] at h
      cases hl : lmapO f l with
      | none => simp [hl] at h
      | some m' =>
        rw [hl, oc_some] at h
        injection h with h
        subst h
        obtain ⟨h1, h2⟩ := ih hl
        refine ⟨by simp [h1], fun i a' ha => ?_⟩
        cases i with
        | zero => simp at ha; subst ha; exact ⟨b, hf, rfl⟩
        | succ i => simp at ha; simpa using h2 i a' ha
theorem cvOf_rel (ρ : Rn) {v : Value} {c : CV} (h : cvOf v = some c) : VRel ρ c v := by
  unfold cvOf at h
  split at h
  · rename_i cs
    split at h
    · rename_i l hl
      injection h with h
      subst h
      obtain ⟨h1, h2⟩ := lmapO_some hl
      refine .agg l cs (by simpa using h1) (fun i c v h5 h6 => ?_) (fun c hc => ?_)
      · obtain ⟨b, h7, h8⟩ := h2 i v (by simpa using h6)
        rw [h5] at h8
        injection h8 with h8
        subst h8
        exact (cv1_rel ρ h7).1
      · obtain ⟨i, hi, rfl⟩ := List.getElem_of_mem hc
        obtain ⟨b, h7, h8⟩ := h2 i (cs.toList[i]'(by omega)) (List.getElem?_eq_getElem _)
        rw [List.getElem?_eq_getElem hi] at h8
        injection h8 with h8
        rw [h8]
        exact (cv1_rel ρ h7).2
    · cases h
  · rename_i cs
    split at h
    · rename_i hcs
      injection h with h
      subst h
      have : cs = #[] := by cases cs; simp at hcs; simp [hcs]
      subst this
      exact undef_rel ρ
    · cases h
  · exact (cv1_rel ρ h).1

/-! ### Temporaries -/
def TRel (ρ : Rn) (a : Tm) (x : Array Value) : Prop := x.size ≤ 512 ∧ ∀ t, t < 512 → VRel ρ (TM.get a t) (x.getD t undef)
theorem TRel.mono {ρ ρ' : Rn} (H : Sub ρ ρ') {a : Tm} {x : Array Value} (h : TRel ρ a x) : TRel ρ' a x := ⟨h.1, fun t ht => (h.2 t ht).mono H⟩
theorem TRel.set {ρ : Rn} {a : Tm} {x : Array Value} (h : TRel ρ a x) {d : Nat} (hd : d < x.size) {c : CV} {v : Value} (hv : VRel ρ c v) : TRel ρ (TM.set a d c) (x.setIfInBounds d v) := by
  have h512 := h.1
  refine ⟨by simpa using h.1, fun t ht => ?_⟩
  rw [TM.get_set a d t c (by omega) ht]
  by_cases e : d = t
  · subst e
    rw [if_pos rfl]
    have : (x.setIfInBounds d v).getD d undef = v := by simp [Array.getD, hd]
    rw [this]
    exact hv
  · rw [if_neg e]
    have : (x.setIfInBounds d v).getD t undef = x.getD t undef := by
      simp [Array.getElem?_setIfInBounds_ne e]
    rw [this]
    exact h.2 t ht
theorem gE_big {t : Nat} (hb : Nat.ble t 511 = false) : gE (.tmp t) = .bad := by unfold gE cE; simp only [hb]; rfl
theorem gE_small {t : Nat} (hb : Nat.ble t 511 = true) : ∃ g, gE (.tmp t) = .g g ∧ ∀ a, TM.get a t = g a := by
  obtain ⟨g, s, e, _, _⟩ := TMW_at t
  exact ⟨g, by unfold gE cE; simp only [hb, bc_true, e], fun a => by unfold TM.get; rw [e]⟩
theorem gE_none {v : Value} (hc : cvOf v = none) : gE (.const v) = .bad := by unfold gE cE; simp only [hc, cvW]
theorem gE_some {v : Value} {c : CV} (hc : cvOf v = some c) : gE (.const v) = .c c := by unfold gE cE; simp only [hc, cvW]
theorem ev_some {β : Type} {a : Tm} {x : Operand} {k : CV → Option β} {r : β} (h : ev a x k = some r) : ∃ c, k c = some r ∧ ∀ (ρ : Rn) (act : Act), TRel ρ a act.tmps → VRel ρ c (act.eval x) := by
  unfold ev at h
  cases x with
  | tmp t =>
    cases hb : Nat.ble t 511 with
    | false =>
      have e1 : gE (.tmp t) = .bad := by unfold gE cE; simp only [hb]; rfl
      rw [e1] at h
      cases h
    | true =>
      have ht : t < 512 := Nat.lt_succ_of_le (Nat.le_of_ble_eq_true hb)
      obtain ⟨g, s, e, _, _⟩ := TMW_at t
      have e1 : gE (.tmp t) = .g g := by unfold gE cE; simp only [hb, bc_true, e]
      have e2 : TM.get a t = g a := by unfold TM.get; rw [e]
      rw [e1] at h
      exact ⟨g a, h, fun ρ act hT => by rw [← e2]; simpa [Act.eval] using hT.2 t ht⟩
  | const v =>
    cases hc : cvOf v with
    | none =>
      have e1 : gE (.const v) = .bad := by unfold gE cE; simp only [hc, cvW]
      rw [e1] at h
      cases h
    | some c =>
      have e1 : gE (.const v) = .c c := by unfold gE cE; simp only [hc, cvW]
      rw [e1] at h
      exact ⟨c, h, fun ρ act _ => cvOf_rel ρ hc⟩
  | global g => cases h
  | func f => exact ⟨.fn f [] [], h, fun ρ act _ => .fn f [] [] #[] #[] rfl (fun i c v h => by simp at h) rfl (fun i c v h => by simp at h)⟩
theorem evalC_some {a : Tm} {x : Operand} {c : CV} (h : evalC a x = some c) {ρ : Rn} {act : Act} (hT : TRel ρ a act.tmps) : VRel ρ c (act.eval x) := by
  obtain ⟨c', h1, h2⟩ := ev_some h
  injection h1 with h1
  subst h1
  exact h2 ρ act hT
theorem evL_some {a : Tm} {l : List Operand} {cs : List CV} (h : evL a l = some cs) {ρ : Rn} {act : Act} (hT : TRel ρ a act.tmps) : VRels ρ cs (l.map act.eval) := by
  obtain ⟨h1, h2⟩ := lmapO_some h
  refine ⟨by simp [h1], fun i c v h5 h6 => ?_⟩
  rw [List.getElem?_map] at h6
  cases hx : l[i]? with
  | none => simp [hx] at h6
  | some x =>
    rw [hx] at h6
    simp at h6
    subst h6
    obtain ⟨b, h7, h8⟩ := h2 i x hx
    rw [h5] at h8
    injection h8 with h8
    subst h8
    exact evalC_some h7 hT
end Go.Proofs.YtkdlekonfjeidaaGreat.Eng
