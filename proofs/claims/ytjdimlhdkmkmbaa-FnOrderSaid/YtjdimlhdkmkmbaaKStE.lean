/-
  Merged texts: StCpy, StE, StDef, VecEdit.
-/
import Derived.Test.YtjdimlhdkmkmbaaStCopy
import Derived.Test.YtjdimlhdkmkmbaaKStore
import Derived.Test.YtjdimlhdkmkmbaaKGood
import Derived.Test.YtjdimlhdkmkmbaaKVecMk
import Derived.Test.YtjdimlhdkmkmbaaKOk
namespace Go.Proofs.Ytjdimlhdkmkmbaa
set_option maxRecDepth 100000
set_option maxRecDepth 100000
open Go.ChangeShapes Go.WideShapes Go.ChangeAt Go.RowKit Go.Deep
set_option linter.unusedVariables false
set_option maxRecDepth 100000

end Go.Proofs.Ytjdimlhdkmkmbaa
namespace Go.Proofs.Ytjdimlhdkmkmbaa
open Go.ChangeShapes Go.WideShapes Go.ChangeAt Go.RowKit Go.Deep
set_option linter.unusedVariables false
set_option maxRecDepth 100000
set_option maxRecDepth 100000

end Go.Proofs.Ytjdimlhdkmkmbaa
namespace Go.Proofs.Ytjdimlhdkmkmbaa
open Go.ChangeShapes Go.WideShapes Go.ChangeAt Go.RowKit Go.Deep
set_option linter.unusedVariables false
set_option maxRecDepth 100000
set_option maxRecDepth 100000

end Go.Proofs.Ytjdimlhdkmkmbaa
namespace Go.Proofs.Ytjdimlhdkmkmbaa
open Go.ChangeShapes Go.WideShapes Go.ChangeAt Go.RowKit Go.Deep
set_option linter.unusedVariables false
set_option maxRecDepth 100000
set_option maxRecDepth 100000

end Go.Proofs.Ytjdimlhdkmkmbaa
namespace Go.Proofs.Ytjdimlhdkmkmbaa
set_option maxRecDepth 100000
open Go.ChangeShapes Go.WideShapes Go.ChangeAt Go.RowKit Go.Deep
set_option linter.unusedVariables false
set_option maxRecDepth 100000

section
variable {α : Type} {S : Nat → Prop} {f : Nat → Nat} {w w' : World} {e : TypeId} {size : Nat} {RO : (Nat → Prop) → World → List Value → α → Prop} {g : Nat} {post : List Value} {ys : List (List Value)} {m : List α}
end
end Go.Proofs.Ytjdimlhdkmkmbaa
namespace Go.Proofs.Ytjdimlhdkmkmbaa
open Go.ChangeShapes Go.WideShapes Go.ChangeAt Go.RowKit Go.Deep
set_option linter.unusedVariables false
set_option maxRecDepth 100000
set_option maxRecDepth 100000

end Go.Proofs.Ytjdimlhdkmkmbaa
namespace Go.Proofs.Ytjdimlhdkmkmbaa
set_option maxRecDepth 100000
open Go.ChangeShapes Go.WideShapes Go.ChangeAt Go.RowKit Go.Deep
set_option linter.unusedVariables false
set_option maxRecDepth 100000
open Classical in
theorem SlO.pushD {α : Type} {w : World} {lo : Nat} {e : TypeId} {size : Nat} {RO : (Nat → Prop) → World → List Value → α → Prop} {v : Value} {l : List α} {S T : Nat → Prop}
    (hRK : ∀ {T : Nat → Prop} {w w' : World} {cs : List Value} {x : α}, RO T w cs x → Keeps T w w' → RO T w' cs x)
    (hRM : ∀ {T T' : Nat → Prop} {w : World} {cs : List Value} {x : α}, RO T w cs x → (∀ b, T b → T' b) → RO T' w cs x)
    (h : SlO S w e size RO v l) (hS : ∀ b, S b → lo ≤ b ∧ b < w.heap.size) (x : α) (cs : List Value) (hcs : cs.length = size) (hx : RO T w cs x) (hT : ∀ b, T b → b < w.heap.size) (hd : ∀ b, S b → ¬ T b) :
    ∃ xs, w.ownsRow lo e size v l.length xs ∧ (∀ b, v.ownBlock = some b → S b) ∧ ∀ v' w2, w2.ownsRow lo e size v' (l.length + 1) (xs ++ cs) → w.grownBy w2 v.ownBlock → (v'.ownBlock = v.ownBlock ∨ v'.ownBlock = some (w.heap.size + 1)) →
      SlO (fun b => S b ∨ T b ∨ v'.ownBlock = some b) w2 e size RO v' (l ++ [x]) := by
  obtain ⟨xss, f, h1, h2, h3, h4⟩ := h
  have hown : w.ownsRow lo e size v l.length xss.flatten := by
    refine ⟨h3.1, ?_⟩
    rcases h3.2 with hn | ⟨g, cap, cur, rfl, _, hg, rest⟩
    · exact .inl hn
    · exact .inr ⟨g, cap, cur, rfl, (hS g (h4 g rfl).1).1, hg, rest⟩
  refine ⟨xss.flatten, hown, fun b e1 => (h4 b e1).1, fun v' w2 ho hg hbk => ?_⟩
  have hz2 := hg.size
  have hown0 : ∀ b, v.ownBlock = some b → S b ∧ f b = 0 := fun b e1 => h4 b e1
  refine ⟨xss ++ [cs], fun b => if v'.ownBlock = some b then 0 else if T b then l.length + 1 else f b, by simp [h1], fun k a b => ?_, ⟨?_, ?_⟩, fun k hk => ⟨.inr (.inr hk), by simp [hk]⟩⟩
  · by_cases hk : k < l.length
    · rw [List.getElem_append_left (by omega), List.getElem_append_left hk]
      obtain ⟨q1, q2⟩ := h2 k (by omega) hk
      refine ⟨q1, hRM (hRK q2 (Keeps.grown hg fun b hT' e1 => ?_)) fun b hT' => ⟨.inl hT'.1, ?_⟩⟩
      · have := (hown0 b e1.symm).2
        have := hT'.2
        omega
      · have hbl := (hS b hT'.1).2
        have hne : v'.ownBlock ≠ some b := fun e1 => by
          rcases hbk with e2 | e2
          · have := (hown0 b (e2 ▸ e1)).2
            have := hT'.2
            omega
          · rw [e2] at e1
            injection e1 with e1
            omega
        show (if v'.ownBlock = some b then 0 else if T b then l.length + 1 else f b) = k + 1
        rw [if_neg hne, if_neg (hd b hT'.1)]
        exact hT'.2
    · have hk' : k = l.length := by simp at b; omega
      subst hk'
      rw [List.getElem_append_right (by omega), List.getElem_append_right (by omega)]
      simp only [h1, Nat.sub_self, List.getElem_cons_zero]
      refine ⟨hcs, hRM (hRK hx (Keeps.grown hg fun b hT' e1 => hd b (hown0 b e1.symm).1 hT')) fun b hT' => ⟨.inr (.inl hT'), ?_⟩⟩
      have hne : v'.ownBlock ≠ some b := fun e1 => by
        rcases hbk with e2 | e2
        · exact hd b (hown0 b (e2 ▸ e1)).1 hT'
        · rw [e2] at e1
          injection e1 with e1
          have := hT b hT'
          omega
      show (if v'.ownBlock = some b then 0 else if T b then l.length + 1 else f b) = l.length + 1
      rw [if_neg hne, if_pos hT']
  · have := ho.1
    simpa using this
  · rw [List.flatten_append, List.length_append]
    have := (own_base ho (Nat.zero_le lo)).2
    simpa using this

theorem TxtO.push_ {S : Nat → Prop} {w : World} {v : Value} {l : List (List UInt8)} {lo : Nat} (h : TxtO S w v l) (hS : ∀ b, S b → lo ≤ b) (s : List UInt8) (hs : s.length ≤ maxLen) :
    w.ownsRow lo 9 1 v l.length (l.map fun s => Value.string (str s)) ∧ (∀ b, v.ownBlock = some b → S b) ∧ ∀ v' w2, w2.ownsRow lo 9 1 v' (l.length + 1) ((l.map fun s => Value.string (str s)) ++ [.string (str s)]) → TxtO (fun b => S b ∨ v'.ownBlock = some b) w2 v' (l ++ [s]) := by
  obtain ⟨⟨h1, h2⟩, h3⟩ := h
  refine ⟨⟨h1.1, ?_⟩, h2, fun v' w2 ho => ⟨⟨?_, fun k hk => .inr hk⟩, fun t ht => ?_⟩⟩
  · rcases h1.2 with hn | ⟨g, cap, cur, rfl, _, hg, rest⟩
    · exact .inl hn
    · exact .inr ⟨g, cap, cur, rfl, hS g (h2 g rfl), hg, rest⟩
  · have := own_base ho (Nat.zero_le lo)
    simpa using this
  · rcases List.mem_append.1 ht with ht | ht
    · exact h3 t ht
    · rw [List.mem_singleton] at ht
      subst ht
      exact hs

section
variable {α : Type} {S : Nat → Prop} {f : Nat → Nat} {w w' : World} {e : TypeId} {size : Nat} {RO : (Nat → Prop) → World → List Value → α → Prop} {g : Nat} {post : List Value} {ys : List (List Value)} {m : List α}
end
/-! ### define -/
section
variable {w W W' w3 : World} {lo r6 g k : Nat} {cs xcs pre rest : List Value} {d : EnvD} {nm : List UInt8} {x : SlotD} {A1 N M : Option Addr} {n1 n m : Nat} {SN SM SP KS : Nat → Prop} {pv : Value} {ps : List PromD}
end
theorem info_strD : (Try.prog.info? 9).map (fun i => (i.zero, i.size, i.bytes)) = some (some (.string ByteArray.empty), 1, 16) := by kernel_rfl
end Go.Proofs.Ytjdimlhdkmkmbaa
namespace Go.Proofs.Ytjdimlhdkmkmbaa
set_option maxRecDepth 100000
open Go.ChangeShapes Go.WideShapes Go.ChangeAt Go.RowKit Go.Deep
set_option linter.unusedVariables false

def setN (d : VecD) (l : List (List UInt8)) : VecD := .mk d.kind d.items d.parts l d.cls d.levels d.code d.env
def setC (d : VecD) (l : List (List UInt8)) : VecD := .mk d.kind d.items d.parts d.names l d.levels d.code d.env
def tidyN (l : List (List UInt8)) : List (List UInt8) := if allE l = true then [] else l
theorem setN_same (d : VecD) : setN d d.names = d := by cases d; rfl
theorem tidyN_yes {l : List (List UInt8)} (h : allE l = true) : tidyN l = [] := if_pos h
theorem tidyN_no {l : List (List UInt8)} (h : allE l = false) : tidyN l = l := if_neg (by rw [h]; decide)
theorem szL_tidy (l : List (List UInt8)) : szL (tidyN l) ≤ szL l := by
  unfold tidyN
  split
  · exact Nat.zero_le _
  · exact Nat.le_refl _
theorem sz_setN (d : VecD) (l : List (List UInt8)) : szVector (setN d l) + szL d.names = szVector d + szL l := by
  rw [szVector_eq, szVector_eq d]
  simp only [setN, VecD.items, VecD.parts, VecD.names, VecD.cls, VecD.levels]
  omega
theorem sz_setC (d : VecD) (l : List (List UInt8)) : szVector (setC d l) + szL d.cls = szVector d + szL l := by
  rw [szVector_eq, szVector_eq d]
  simp only [setC, VecD.items, VecD.parts, VecD.names, VecD.cls, VecD.levels]
  omega
theorem sz_tidy (d : VecD) : szVector (setN d (tidyN d.names)) ≤ szVector d := by
  have h := sz_setN d (tidyN d.names)
  have h2 := szL_tidy d.names
  omega
/-- the first texts of a row that is written down -/
theorem txtO_take {W : World} {q : Nat} (ss : List (List UInt8)) (m : Nat) (hm : ss.length = m) (hB : Blk W q 9 (ss.map fun s => Value.string (str s))) (k : Nat) (hk : k ≤ m) (hm2 : m ≤ 256) (h1 : ∀ s ∈ ss, s.length ≤ 100) :
    TxtO (fun b => b = q) W (.slice (some ⟨q, 0, none⟩) k m) (ss.take k) := by
  subst hm
  refine ⟨⟨?_, fun x hx => ?_⟩, fun s hs => ?_⟩
  · rw [List.length_take, Nat.min_eq_left hk]
    refine ⟨by simp [hk], .inr ⟨q, ss.length, (ss.map fun s => Value.string (str s)).toArray, rfl, Nat.zero_le _, hB, hk, by unfold maxLen; omega, by simp, ?_⟩⟩
    simp [List.map_take]
  · simp only [Value.ownBlock, Option.some.injEq] at hx
    exact hx.symm
  · have := h1 s (List.mem_of_mem_take hs); unfold maxLen; omega

open Classical in
theorem VecO.ed1 {S : Nat → Prop} {w : World} {k co ev : Int} {v2 v3 v4 v5 : Value} {A : Option Addr} {n c : Nat} {d : VecD} (h : VecO S w [.int .i64 k, .slice A n c, v2, v3, v4, v5, .int .i64 co, .int .i64 ev] d) :
    ∃ S3 : Nat → Prop, ItemsO S3 w (.slice A n c) d.items ∧ d.items.length = n ∧ (∀ x, S3 x → S x) ∧
      ∀ (w' : World) (S' T : Nat → Prop) (A' : Option Addr) (c' : Nat) (l' : List ItemD), Keeps (fun x => S x ∧ ¬ S3 x) w w' → ItemsO T w' (.slice A' l'.length c') l' → (∀ x, T x → S' x ∧ (S3 x ∨ ¬ S x)) → (∀ x, S x → ¬ S3 x → S' x) →
        VecO S' w' [.int .i64 k, .slice A' l'.length c', v2, v3, v4, v5, .int .i64 co, .int .i64 ev] (.mk d.kind l' d.parts d.names d.cls d.levels d.code d.env) := by
  obtain ⟨m, h⟩ := h
  cases m with
  | zero => exact h.elim
  | succ m =>
  obtain ⟨A1, c1, A2, c2, A3, c3, A4, c4, A5, c5, f, hcs, hk, h1, h2, h3, h4, h5, hc, he⟩ := h
  simp only [List.cons.injEq, Value.int.injEq, Value.slice.injEq, true_and, and_true] at hcs
  obtain ⟨rfl, ⟨rfl, rfl, rfl⟩, rfl, rfl, rfl, rfl, rfl, rfl⟩ := hcs
  replace h2 : VecsO (fun b => S b ∧ f b = 2) w _ d.parts := SlO.imp (fun _ h => ⟨_, h⟩) h2
  refine ⟨fun b => S b ∧ f b = 1, h1, rfl, fun x h => h.1, fun w' S' T A' c' l' hk' ht hT hS => ?_⟩
  have hj : ∀ (j : Nat), j ≠ 1 → Keeps (fun b => S b ∧ f b = j) w w' := fun j hj => hk'.mono fun b hb => ⟨hb.1, fun h => hj (hb.2.symm.trans h.2)⟩
  have hm : ∀ (j : Nat), j ≠ 1 → ∀ b, S b ∧ f b = j → S' b ∧ (if T b then 1 else f b) = j := fun j hj b hb =>
    ⟨hS b hb.1 (fun h => hj (hb.2.symm.trans h.2)), by
      rw [if_neg (fun ht => by
        rcases (hT b ht).2 with h | h
        · exact hj (hb.2.symm.trans h.2)
        · exact h hb.1)]
      exact hb.2⟩
  exact vecO_mk (fun x => if T x then 1 else f x) (.mk d.kind l' d.parts d.names d.cls d.levels d.code d.env) hk (ht.mono fun b hb => ⟨(hT b hb).1, if_pos hb⟩) ((h2.keeps (hj 2 (by decide))).mono (hm 2 (by decide))) ((h3.keeps (hj 3 (by decide))).mono (hm 3 (by decide))) ((h4.keeps (hj 4 (by decide))).mono (hm 4 (by decide))) ((h5.keeps (hj 5 (by decide))).mono (hm 5 (by decide))) hc he
open Classical in
theorem VecO.ed2 {S : Nat → Prop} {w : World} {k co ev : Int} {v1 v3 v4 v5 : Value} {A : Option Addr} {n c : Nat} {d : VecD} (h : VecO S w [.int .i64 k, v1, .slice A n c, v3, v4, v5, .int .i64 co, .int .i64 ev] d) :
    ∃ S3 : Nat → Prop, VecsO S3 w (.slice A n c) d.parts ∧ d.parts.length = n ∧ (∀ x, S3 x → S x) ∧
      ∀ (w' : World) (S' T : Nat → Prop) (A' : Option Addr) (c' : Nat) (l' : List VecD), Keeps (fun x => S x ∧ ¬ S3 x) w w' → VecsO T w' (.slice A' l'.length c') l' → (∀ x, T x → S' x ∧ (S3 x ∨ ¬ S x)) → (∀ x, S x → ¬ S3 x → S' x) →
        VecO S' w' [.int .i64 k, v1, .slice A' l'.length c', v3, v4, v5, .int .i64 co, .int .i64 ev] (.mk d.kind d.items l' d.names d.cls d.levels d.code d.env) := by
  obtain ⟨m, h⟩ := h
  cases m with
  | zero => exact h.elim
  | succ m =>
  obtain ⟨A1, c1, A2, c2, A3, c3, A4, c4, A5, c5, f, hcs, hk, h1, h2, h3, h4, h5, hc, he⟩ := h
  simp only [List.cons.injEq, Value.int.injEq, Value.slice.injEq, true_and, and_true] at hcs
  obtain ⟨rfl, rfl, ⟨rfl, rfl, rfl⟩, rfl, rfl, rfl, rfl, rfl⟩ := hcs
  replace h2 : VecsO (fun b => S b ∧ f b = 2) w _ d.parts := SlO.imp (fun _ h => ⟨_, h⟩) h2
  refine ⟨fun b => S b ∧ f b = 2, h2, rfl, fun x h => h.1, fun w' S' T A' c' l' hk' ht hT hS => ?_⟩
  have hj : ∀ (j : Nat), j ≠ 2 → Keeps (fun b => S b ∧ f b = j) w w' := fun j hj => hk'.mono fun b hb => ⟨hb.1, fun h => hj (hb.2.symm.trans h.2)⟩
  have hm : ∀ (j : Nat), j ≠ 2 → ∀ b, S b ∧ f b = j → S' b ∧ (if T b then 2 else f b) = j := fun j hj b hb =>
    ⟨hS b hb.1 (fun h => hj (hb.2.symm.trans h.2)), by
      rw [if_neg (fun ht => by
        rcases (hT b ht).2 with h | h
        · exact hj (hb.2.symm.trans h.2)
        · exact h hb.1)]
      exact hb.2⟩
  exact vecO_mk (fun x => if T x then 2 else f x) (.mk d.kind d.items l' d.names d.cls d.levels d.code d.env) hk ((h1.keeps (hj 1 (by decide))).mono (hm 1 (by decide))) (ht.mono fun b hb => ⟨(hT b hb).1, if_pos hb⟩) ((h3.keeps (hj 3 (by decide))).mono (hm 3 (by decide))) ((h4.keeps (hj 4 (by decide))).mono (hm 4 (by decide))) ((h5.keeps (hj 5 (by decide))).mono (hm 5 (by decide))) hc he
open Classical in
theorem VecO.ed3 {S : Nat → Prop} {w : World} {k co ev : Int} {v1 v2 v4 v5 : Value} {A : Option Addr} {n c : Nat} {d : VecD} (h : VecO S w [.int .i64 k, v1, v2, .slice A n c, v4, v5, .int .i64 co, .int .i64 ev] d) :
    ∃ S3 : Nat → Prop, TxtO S3 w (.slice A n c) d.names ∧ d.names.length = n ∧ (∀ x, S3 x → S x) ∧
      ∀ (w' : World) (S' T : Nat → Prop) (A' : Option Addr) (c' : Nat) (l' : List (List UInt8)), Keeps (fun x => S x ∧ ¬ S3 x) w w' → TxtO T w' (.slice A' l'.length c') l' → (∀ x, T x → S' x ∧ (S3 x ∨ ¬ S x)) → (∀ x, S x → ¬ S3 x → S' x) →
        VecO S' w' [.int .i64 k, v1, v2, .slice A' l'.length c', v4, v5, .int .i64 co, .int .i64 ev] (.mk d.kind d.items d.parts l' d.cls d.levels d.code d.env) := by
  obtain ⟨m, h⟩ := h
  cases m with
  | zero => exact h.elim
  | succ m =>
  obtain ⟨A1, c1, A2, c2, A3, c3, A4, c4, A5, c5, f, hcs, hk, h1, h2, h3, h4, h5, hc, he⟩ := h
  simp only [List.cons.injEq, Value.int.injEq, Value.slice.injEq, true_and, and_true] at hcs
  obtain ⟨rfl, rfl, rfl, ⟨rfl, rfl, rfl⟩, rfl, rfl, rfl, rfl⟩ := hcs
  replace h2 : VecsO (fun b => S b ∧ f b = 2) w _ d.parts := SlO.imp (fun _ h => ⟨_, h⟩) h2
  refine ⟨fun b => S b ∧ f b = 3, h3, rfl, fun x h => h.1, fun w' S' T A' c' l' hk' ht hT hS => ?_⟩
  have hj : ∀ (j : Nat), j ≠ 3 → Keeps (fun b => S b ∧ f b = j) w w' := fun j hj => hk'.mono fun b hb => ⟨hb.1, fun h => hj (hb.2.symm.trans h.2)⟩
  have hm : ∀ (j : Nat), j ≠ 3 → ∀ b, S b ∧ f b = j → S' b ∧ (if T b then 3 else f b) = j := fun j hj b hb =>
    ⟨hS b hb.1 (fun h => hj (hb.2.symm.trans h.2)), by
      rw [if_neg (fun ht => by
        rcases (hT b ht).2 with h | h
        · exact hj (hb.2.symm.trans h.2)
        · exact h hb.1)]
      exact hb.2⟩
  exact vecO_mk (fun x => if T x then 3 else f x) (.mk d.kind d.items d.parts l' d.cls d.levels d.code d.env) hk ((h1.keeps (hj 1 (by decide))).mono (hm 1 (by decide))) ((h2.keeps (hj 2 (by decide))).mono (hm 2 (by decide))) (ht.mono fun b hb => ⟨(hT b hb).1, if_pos hb⟩) ((h4.keeps (hj 4 (by decide))).mono (hm 4 (by decide))) ((h5.keeps (hj 5 (by decide))).mono (hm 5 (by decide))) hc he
open Classical in
theorem VecO.ed4 {S : Nat → Prop} {w : World} {k co ev : Int} {v1 v2 v3 v5 : Value} {A : Option Addr} {n c : Nat} {d : VecD} (h : VecO S w [.int .i64 k, v1, v2, v3, .slice A n c, v5, .int .i64 co, .int .i64 ev] d) :
    ∃ S3 : Nat → Prop, TxtO S3 w (.slice A n c) d.cls ∧ d.cls.length = n ∧ (∀ x, S3 x → S x) ∧
      ∀ (w' : World) (S' T : Nat → Prop) (A' : Option Addr) (c' : Nat) (l' : List (List UInt8)), Keeps (fun x => S x ∧ ¬ S3 x) w w' → TxtO T w' (.slice A' l'.length c') l' → (∀ x, T x → S' x ∧ (S3 x ∨ ¬ S x)) → (∀ x, S x → ¬ S3 x → S' x) →
        VecO S' w' [.int .i64 k, v1, v2, v3, .slice A' l'.length c', v5, .int .i64 co, .int .i64 ev] (.mk d.kind d.items d.parts d.names l' d.levels d.code d.env) := by
  obtain ⟨m, h⟩ := h
  cases m with
  | zero => exact h.elim
  | succ m =>
  obtain ⟨A1, c1, A2, c2, A3, c3, A4, c4, A5, c5, f, hcs, hk, h1, h2, h3, h4, h5, hc, he⟩ := h
  simp only [List.cons.injEq, Value.int.injEq, Value.slice.injEq, true_and, and_true] at hcs
  obtain ⟨rfl, rfl, rfl, rfl, ⟨rfl, rfl, rfl⟩, rfl, rfl, rfl⟩ := hcs
  replace h2 : VecsO (fun b => S b ∧ f b = 2) w _ d.parts := SlO.imp (fun _ h => ⟨_, h⟩) h2
  refine ⟨fun b => S b ∧ f b = 4, h4, rfl, fun x h => h.1, fun w' S' T A' c' l' hk' ht hT hS => ?_⟩
  have hj : ∀ (j : Nat), j ≠ 4 → Keeps (fun b => S b ∧ f b = j) w w' := fun j hj => hk'.mono fun b hb => ⟨hb.1, fun h => hj (hb.2.symm.trans h.2)⟩
  have hm : ∀ (j : Nat), j ≠ 4 → ∀ b, S b ∧ f b = j → S' b ∧ (if T b then 4 else f b) = j := fun j hj b hb =>
    ⟨hS b hb.1 (fun h => hj (hb.2.symm.trans h.2)), by
      rw [if_neg (fun ht => by
        rcases (hT b ht).2 with h | h
        · exact hj (hb.2.symm.trans h.2)
        · exact h hb.1)]
      exact hb.2⟩
  exact vecO_mk (fun x => if T x then 4 else f x) (.mk d.kind d.items d.parts d.names l' d.levels d.code d.env) hk ((h1.keeps (hj 1 (by decide))).mono (hm 1 (by decide))) ((h2.keeps (hj 2 (by decide))).mono (hm 2 (by decide))) ((h3.keeps (hj 3 (by decide))).mono (hm 3 (by decide))) (ht.mono fun b hb => ⟨(hT b hb).1, if_pos hb⟩) ((h5.keeps (hj 5 (by decide))).mono (hm 5 (by decide))) hc he
open Classical in
theorem VecO.ed5 {S : Nat → Prop} {w : World} {k co ev : Int} {v1 v2 v3 v4 : Value} {A : Option Addr} {n c : Nat} {d : VecD} (h : VecO S w [.int .i64 k, v1, v2, v3, v4, .slice A n c, .int .i64 co, .int .i64 ev] d) :
    ∃ S3 : Nat → Prop, TxtO S3 w (.slice A n c) d.levels ∧ d.levels.length = n ∧ (∀ x, S3 x → S x) ∧
      ∀ (w' : World) (S' T : Nat → Prop) (A' : Option Addr) (c' : Nat) (l' : List (List UInt8)), Keeps (fun x => S x ∧ ¬ S3 x) w w' → TxtO T w' (.slice A' l'.length c') l' → (∀ x, T x → S' x ∧ (S3 x ∨ ¬ S x)) → (∀ x, S x → ¬ S3 x → S' x) →
        VecO S' w' [.int .i64 k, v1, v2, v3, v4, .slice A' l'.length c', .int .i64 co, .int .i64 ev] (.mk d.kind d.items d.parts d.names d.cls l' d.code d.env) := by
  obtain ⟨m, h⟩ := h
  cases m with
  | zero => exact h.elim
  | succ m =>
  obtain ⟨A1, c1, A2, c2, A3, c3, A4, c4, A5, c5, f, hcs, hk, h1, h2, h3, h4, h5, hc, he⟩ := h
  simp only [List.cons.injEq, Value.int.injEq, Value.slice.injEq, true_and, and_true] at hcs
  obtain ⟨rfl, rfl, rfl, rfl, rfl, ⟨rfl, rfl, rfl⟩, rfl, rfl⟩ := hcs
  replace h2 : VecsO (fun b => S b ∧ f b = 2) w _ d.parts := SlO.imp (fun _ h => ⟨_, h⟩) h2
  refine ⟨fun b => S b ∧ f b = 5, h5, rfl, fun x h => h.1, fun w' S' T A' c' l' hk' ht hT hS => ?_⟩
  have hj : ∀ (j : Nat), j ≠ 5 → Keeps (fun b => S b ∧ f b = j) w w' := fun j hj => hk'.mono fun b hb => ⟨hb.1, fun h => hj (hb.2.symm.trans h.2)⟩
  have hm : ∀ (j : Nat), j ≠ 5 → ∀ b, S b ∧ f b = j → S' b ∧ (if T b then 5 else f b) = j := fun j hj b hb =>
    ⟨hS b hb.1 (fun h => hj (hb.2.symm.trans h.2)), by
      rw [if_neg (fun ht => by
        rcases (hT b ht).2 with h | h
        · exact hj (hb.2.symm.trans h.2)
        · exact h hb.1)]
      exact hb.2⟩
  exact vecO_mk (fun x => if T x then 5 else f x) (.mk d.kind d.items d.parts d.names d.cls l' d.code d.env) hk ((h1.keeps (hj 1 (by decide))).mono (hm 1 (by decide))) ((h2.keeps (hj 2 (by decide))).mono (hm 2 (by decide))) ((h3.keeps (hj 3 (by decide))).mono (hm 3 (by decide))) ((h4.keeps (hj 4 (by decide))).mono (hm 4 (by decide))) (ht.mono fun b hb => ⟨(hT b hb).1, if_pos hb⟩) hc he
theorem VecO.edk {S : Nat → Prop} {w : World} {k co ev : Int} {v1 v2 v3 v4 v5 : Value} {d : VecD} (h : VecO S w [.int .i64 k, v1, v2, v3, v4, v5, .int .i64 co, .int .i64 ev] d) (k' co' : Int) (hk : I64 k') (hc : I64 co') :
    VecO S w [.int .i64 k', v1, v2, v3, v4, v5, .int .i64 co', .int .i64 ev] (.mk k' d.items d.parts d.names d.cls d.levels co' d.env) := by
  obtain ⟨m, h⟩ := h
  cases m with
  | zero => exact h.elim
  | succ m =>
  obtain ⟨A1, c1, A2, c2, A3, c3, A4, c4, A5, c5, f, hcs, hk0, h1, h2, h3, h4, h5, hc0, he⟩ := h
  simp only [List.cons.injEq, Value.int.injEq, true_and, and_true] at hcs
  obtain ⟨rfl, rfl, rfl, rfl, rfl, rfl, rfl, rfl⟩ := hcs
  exact ⟨m + 1, A1, c1, A2, c2, A3, c3, A4, c4, A5, c5, f, rfl, hk, h1, h2, h3, h4, h5, hc, he⟩
theorem VecO.kinds {S : Nat → Prop} {w : World} {k co ev : Int} {v1 v2 v3 v4 v5 : Value} {d : VecD} (h : VecO S w [.int .i64 k, v1, v2, v3, v4, v5, .int .i64 co, .int .i64 ev] d) : d.kind = k ∧ d.code = co ∧ d.env = ev ∧ I64 k ∧ I64 co ∧ I64 ev := by
  obtain ⟨m, h⟩ := h
  cases m with
  | zero => exact h.elim
  | succ m =>
  obtain ⟨A1, c1, A2, c2, A3, c3, A4, c4, A5, c5, f, hcs, hk0, h1, h2, h3, h4, h5, hc0, he⟩ := h
  simp only [List.cons.injEq, Value.int.injEq, true_and, and_true] at hcs
  obtain ⟨rfl, rfl, rfl, rfl, rfl, rfl, rfl, rfl⟩ := hcs
  exact ⟨rfl, rfl, rfl, hk0, hc0, he⟩
end Go.Proofs.Ytjdimlhdkmkmbaa
