/-
  Marking: a slice of structs of a value's own, changed element by element; the marks of strings and numbers.
-/
import Derived.Test.YtjdfancbmjnjfaaGreatSlOwn
import Derived.Test.YtjdfancbmjnjfaaGreatGood
namespace Go.Proofs.YtjdfancbmjnjfaaGreat
set_option maxRecDepth 100000
open Go.ChangeShapes Go.WideShapes Go.ChangeAt Go.RowKit Go.Deep
set_option linter.unusedVariables false

/-- what a marking gives back -/
def RetMark (S : Nat → Prop) (w : World) (n : Int) (P : World → Prop) (e : Ending) (w' : World) : Prop := e = .returned (.int .i64 n) ∧ P w' ∧ Keeps (fun b => ¬ S b) w w' ∧ Below 0 w w'

/-- the cells of a slice of structs, element by element -/
structure MidO {α : Type} (S : Nat → Prop) (f : Nat → Nat) (w : World) (e : TypeId) (size : Nat) (RO : (Nat → Prop) → World → List Value → α → Prop) (g : Nat) (post : List Value) (ys : List (List Value)) (m : List α) : Prop where
  own : S g ∧ f g = 0
  blk : Blk w g e (ys.flatten ++ post)
  len : ys.length = m.length
  elem : ∀ k (h1 : k < ys.length) (h2 : k < m.length), ys[k].length = size ∧ RO (fun b => S b ∧ f b = k + 1) w ys[k] m[k]

section
variable {α : Type} {S : Nat → Prop} {f : Nat → Nat} {w w' : World} {e : TypeId} {size : Nat} {RO : (Nat → Prop) → World → List Value → α → Prop} {g : Nat} {post : List Value} {ys : List (List Value)} {m : List α}

theorem SlO.mid {v : Value} {l : List α} (h : SlO S w e size RO v l) : (v = .slice none 0 0 ∧ l = []) ∨ ∃ g cap f post ys, v = .slice (some ⟨g, 0, none⟩) l.length cap ∧ l.length ≤ cap ∧ cap ≤ maxLen ∧ l.length * size + post.length = cap * size ∧ MidO S f w e size RO g post ys l := by
  obtain ⟨xss, f, h1, h2, h3, h4⟩ := h
  rcases h3.2 with ⟨rfl, hn⟩ | ⟨g, cap, cur, rfl, _, hg, hn, hc, hs, ht⟩
  · exact .inl ⟨rfl, List.eq_nil_of_length_eq_zero hn⟩
  · have hcur : xss.flatten ++ cur.toList.drop (l.length * size) = cur.toList := by rw [← ht]; exact List.take_append_drop _ _
    refine .inr ⟨g, cap, f, cur.toList.drop (l.length * size), xss, rfl, hn, hc, ?_, h4 g rfl, ?_, h1, h2⟩
    · have : l.length * size ≤ cap * size := Nat.mul_le_mul_right _ hn
      simp only [List.length_drop, Array.length_toList]
      omega
    · unfold Blk
      rw [hg, hcur]
theorem flat_len (h : ∀ y ∈ ys, y.length = size) : ys.flatten.length = ys.length * size := by
  induction ys with
  | nil => simp
  | cons y ys ih =>
    rw [List.flatten_cons, List.length_append, h y (by simp), ih (fun z hz => h z (by simp [hz])), List.length_cons, Nat.succ_mul]
    omega
theorem MidO.lens (h : MidO S f w e size RO g post ys m) : ∀ y ∈ ys, y.length = size := fun y hy => by
  obtain ⟨i, hi, rfl⟩ := List.getElem_of_mem hy
  exact (h.elem i hi (by rw [← h.len]; exact hi)).1
theorem MidO.back (h : MidO S f w e size RO g post ys m) {cap : Nat} (hn : m.length ≤ cap) (hc : cap ≤ maxLen) (hp : m.length * size + post.length = cap * size) : SlO S w e size RO (.slice (some ⟨g, 0, none⟩) m.length cap) m := by
  have hl := flat_len h.lens
  rw [h.len] at hl
  refine ⟨ys, f, h.len, h.elem, ⟨hl, .inr ⟨g, cap, _, rfl, Nat.zero_le _, h.blk, hn, hc, ?_, ?_⟩⟩, fun k hk => ?_⟩
  · simp only [List.size_toArray, List.length_append]; omega
  · rw [List.take_append_of_le_length (by omega), List.take_of_length_le (by omega)]
  · simp only [Value.ownBlock, Option.some.injEq] at hk
    subst hk
    exact h.own
theorem MidO.at_ (h : MidO S f w e size RO g post ys m) (i : Nat) (hi : i < m.length) : ∃ (hy : i < ys.length) (pre rest : List Value), pre.length = i * size ∧ Blk w g e (pre ++ ys[i] ++ rest) ∧ (∀ cs', pre ++ cs' ++ rest = (ys.set i cs').flatten ++ post) ∧ RO (fun b => S b ∧ f b = i + 1) w ys[i] m[i] := by
  have hy : i < ys.length := by rw [h.len]; exact hi
  have hset : ∀ cs', (ys.take i).flatten ++ cs' ++ ((ys.drop (i + 1)).flatten ++ post) = (ys.set i cs').flatten ++ post := fun cs' => by
    rw [List.set_eq_take_append_cons_drop, if_pos hy]
    simp
  refine ⟨hy, (ys.take i).flatten, (ys.drop (i + 1)).flatten ++ post, ?_, ?_, hset, (h.elem i hy hi).2⟩
  · rw [flat_len (size := size) (fun y hm => h.lens y (List.mem_of_mem_take hm)), List.length_take, Nat.min_eq_left (by omega)]
  · rw [hset, List.set_getElem_self]
    exact h.blk
theorem MidO.update (hRK : ∀ {T : Nat → Prop} {w w' : World} {cs : List Value} {x : α}, RO T w cs x → Keeps T w w' → RO T w' cs x) (h : MidO S f w e size RO g post ys m) (i : Nat) (hi : i < m.length) (cs' : List Value) (x' : α) (hc : cs'.length = size)
    (hb : Blk w' g e ((ys.set i cs').flatten ++ post)) (hx : RO (fun b => S b ∧ f b = i + 1) w' cs' x') (hk : Keeps (fun b => b ≠ g ∧ ¬ (S b ∧ f b = i + 1)) w w') : MidO S f w' e size RO g post (ys.set i cs') (m.set i x') := by
  refine ⟨h.own, hb, by simp [h.len], fun k h1 h2 => ?_⟩
  by_cases hki : k = i
  · subst hki
    simp only [List.getElem_set_self]
    exact ⟨hc, hx⟩
  · rw [List.getElem_set_ne (by omega), List.getElem_set_ne (by omega)]
    simp only [List.length_set] at h1 h2
    obtain ⟨q1, q2⟩ := h.elem k h1 h2
    refine ⟨q1, hRK q2 (hk.mono fun b hb => ⟨fun hg => ?_, fun hq => ?_⟩)⟩
    · have := hb.2
      have := h.own.2
      subst hg
      omega
    · have := hb.2
      have := hq.2
      omega
end

/-! ### marked lists -/
def cntL {α : Type} (cnt : α → Nat) (l : List α) : Nat := (l.map cnt).sum
def mkL {α : Type} (mk : α → Int → α) (cnt : α → Nat) : List α → Int → List α
  | [], _ => []
  | x :: l, k => mk x k :: mkL mk cnt l (k + cnt x)
theorem mkL_length {α : Type} (mk : α → Int → α) (cnt : α → Nat) (l : List α) : ∀ k, (mkL mk cnt l k).length = l.length := by
  induction l with
  | nil => intro k; rfl
  | cons x l ih => intro k; rw [mkL, List.length_cons, ih, List.length_cons]
theorem cntL_take {α : Type} (cnt : α → Nat) (l : List α) (i : Nat) (h : i < l.length) : cntL cnt (l.take (i + 1)) = cntL cnt (l.take i) + cnt l[i] := by
  unfold cntL
  rw [List.take_succ_eq_append_getElem h]
  simp only [List.map_append, List.sum_append, List.map_cons, List.map_nil, List.sum_cons, List.sum_nil, Nat.add_zero]
theorem cntL_le {α : Type} (cnt : α → Nat) (l : List α) (i : Nat) : cntL cnt (l.take i) ≤ cntL cnt l := by
  unfold cntL
  conv => rhs; rw [← List.take_append_drop i l]
  rw [List.map_append, List.sum_append]
  omega
theorem cntL_at {α : Type} (cnt : α → Nat) (l : List α) (i : Nat) (h : i < l.length) : cntL cnt (l.take i) + cnt l[i] ≤ cntL cnt l := by
  rw [← cntL_take cnt l i h]
  exact cntL_le cnt l _
/-- the first i elements are marked -/
def part {α : Type} (mk : α → Int → α) (cnt : α → Nat) (l : List α) (k : Int) (i : Nat) : List α := mkL mk cnt (l.take i) k ++ l.drop i
theorem part_length {α : Type} (mk : α → Int → α) (cnt : α → Nat) (l : List α) (k : Int) (i : Nat) : (part mk cnt l k i).length = l.length := by
  unfold part
  rw [List.length_append, mkL_length, ← List.length_append, List.take_append_drop]
theorem part_zero {α : Type} (mk : α → Int → α) (cnt : α → Nat) (l : List α) (k : Int) : part mk cnt l k 0 = l := by simp [part, mkL]
theorem part_all {α : Type} (mk : α → Int → α) (cnt : α → Nat) (l : List α) (k : Int) : part mk cnt l k l.length = mkL mk cnt l k := by simp [part]
theorem mkL_snoc {α : Type} (mk : α → Int → α) (cnt : α → Nat) (l : List α) (x : α) : ∀ k, mkL mk cnt (l ++ [x]) k = mkL mk cnt l k ++ [mk x (k + cntL cnt l)] := by
  induction l with
  | nil => intro k; simp [mkL, cntL]
  | cons y l ih =>
    intro k
    rw [List.cons_append, mkL, ih, mkL]
    simp only [cntL, List.map_cons, List.sum_cons, List.cons_append]
    rw [show k + ↑(cnt y) + ↑(List.map cnt l).sum = k + ↑(cnt y + (List.map cnt l).sum) by omega]
theorem part_at {α : Type} (mk : α → Int → α) (cnt : α → Nat) (l : List α) (k : Int) (i : Nat) (h : i < l.length) (h' : i < (part mk cnt l k i).length) : (part mk cnt l k i)[i] = l[i] := by
  have hm : (mkL mk cnt (l.take i) k).length = i := by rw [mkL_length, List.length_take, Nat.min_eq_left (by omega)]
  have h2 : (part mk cnt l k i)[i]? = some l[i] := by
    unfold part
    rw [List.getElem?_append_right (by omega), hm, Nat.sub_self, List.getElem?_drop, Nat.add_zero, List.getElem?_eq_getElem h]
  rw [List.getElem?_eq_getElem h'] at h2
  exact Option.some.inj h2
theorem part_set {α : Type} (mk : α → Int → α) (cnt : α → Nat) (l : List α) (k : Int) (i : Nat) (h : i < l.length) : (part mk cnt l k i).set i (mk l[i] (k + cntL cnt (l.take i))) = part mk cnt l k (i + 1) := by
  have hm : (mkL mk cnt (l.take i) k).length = i := by rw [mkL_length, List.length_take, Nat.min_eq_left (by omega)]
  unfold part
  rw [List.set_append_right _ _ (by omega), hm, Nat.sub_self, List.drop_eq_getElem_cons h, List.set_cons_zero, List.take_succ_eq_append_getElem h, mkL_snoc]
  simp

/-! ### a stretch of a block -/
theorem Blk.mid {w : World} {g : Nat} {e : TypeId} {pre cs rest : List Value} (h : Blk w g e (pre ++ cs ++ rest)) {o : Nat} (ho : pre.length = o) (j : Nat) (u : Value) (hu : cs[j]? = some u) : w.cell? ⟨g, o + j, none⟩ = some u := by
  refine h.cell (o + j) u ?_
  have hj := (List.getElem?_eq_some_iff.1 hu).1
  rw [List.append_assoc, List.getElem?_append_right (by omega), List.getElem?_append_left (by omega), ← ho, Nat.add_sub_cancel_left]
  exact hu
theorem Blk.mid_set {w : World} {g : Nat} {e : TypeId} {pre cs rest : List Value} (h : Blk w g e (pre ++ cs ++ rest)) {o : Nat} (ho : pre.length = o) (j : Nat) (u : Value) (hj : j < cs.length) : Blk (w.setCell ⟨g, o + j, none⟩ u) g e (pre ++ cs.set j u ++ rest) := by
  have := h.set_ (o + j) u
  rw [List.append_assoc, List.set_append_right _ _ (by omega), List.set_append_left _ _ (by omega), ← ho, Nat.add_sub_cancel_left, ← List.append_assoc] at this
  rw [← ho]
  exact this
theorem Blk.keeps {S : Nat → Prop} {w w' : World} {g : Nat} {e : TypeId} {cs : List Value} (h : Blk w g e cs) (hk : Keeps S w w') (hg : S g) : Blk w' g e cs := (hk.2 g h.lt hg).trans h

/-! ### strings -/
theorem Keeps.grown' {S : Nat → Prop} {w w' : World} {row : Option Nat} (hg : w.grownBy w' row) (hs : ∀ k, row = some k → S k) : Keeps (fun b => ¬ S b) w w' :=
  ⟨hg.size, fun b hb hS => hg.block b hb (fun e => hS (hs b e.symm))⟩
theorem laws_markTxt (S : Nat → Prop) (l : List (List UInt8)) (v : Value) (k : Int) (w : World) (h : TxtO S w v l) (h0 : 0 < k) (h1 : k + l.length ≤ 4611686018427387904) :
    Calls Tryz.prog 74 #[v, .int .i64 k] w (RetMark S w (k + l.length) fun w' => TxtO S w' v (markL k.toNat l.length)) :=
  (laws_markStringS _ 0 l.length v k 9 w h.1.1 h0 h1).mono fun e w' ⟨he, ho, hg⟩ => by
    refine ⟨he, ⟨⟨by rw [markL_length]; exact ho, h.1.2⟩, fun s hs => ?_⟩, Keeps.grown' hg h.1.2, (Below.refl 0 w).grown hg (Nat.zero_le _) (fun _ _ => Nat.zero_le _)⟩
    obtain ⟨i, hi, rfl⟩ := List.getElem_of_mem hs
    rw [markL_at]
    rw [markL_length] at hi
    exact markT_small _ (by omega)
end Go.Proofs.YtjdfancbmjnjfaaGreat
