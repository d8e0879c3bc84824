/-
  Contracts: MethodNames and NextMethods, of the program and of the reference, give the same lists.
-/
import Derived.Test.YtdkjfilcdcbidaaStrs
namespace Go.Proofs.Ytdkjfilcdcbidaa
set_option maxRecDepth 100000
open Go.ChangeShapes Go.WideShapes Go.ChangeAt Go.RowKit Go.Deep

theorem info_str : (Try.prog.info? 9).map (fun i => (i.zero, i.size, i.bytes)) = some (some (.string ByteArray.empty), 1, 16) := by kernel_rfl

def dotB (g c : List UInt8) : List UInt8 := g ++ 46 :: c
def defB (g : List UInt8) : List UInt8 := g ++ [46, 100, 101, 102, 97, 117, 108, 116]
/-- the names of the methods -/
def methB (g : List UInt8) (cs : List (List UInt8)) : List (List UInt8) := cs.map (dotB g) ++ [defB g]

theorem methB_length (g : List UInt8) (l : List (List UInt8)) : (methB g l).length = l.length + 1 := by simp [methB]
theorem methB_small (g : List UInt8) (l : List (List UInt8)) (hg : g.length ≤ 1048576) (hs : ∀ s ∈ l, s.length ≤ 1048576) : ∀ s ∈ methB g l, s.length ≤ 2097160 := by
  intro s h
  simp only [methB, List.mem_append, List.mem_map, List.mem_singleton] at h
  rcases h with ⟨c, hc, rfl⟩ | rfl
  · have := hs c hc; simp [dotB]; omega
  · simp [defB]; omega

theorem methT {w : World} {base : Nat} {e : TypeId} {v : Value} {g : List UInt8} {l : List (List UInt8)} (hg : g.length ≤ 1048576) (hs : ∀ s ∈ l, s.length ≤ 1048576) (h : w.ownsRow base e 1 v (l.length + 1) ((methB g l).map fun s => Value.string (str s))) : Txts w v (methB g l) :=
  Txts.of_own (by rw [methB_length]; exact h) (fun s hx => by have := methB_small g l hg hs s hx; unfold maxLen; omega)

theorem take_map_succ {α β : Type} (f : α → β) (l : List α) (k : Nat) (h : k < l.length) : (l.take (k + 1)).map f = (l.take k).map f ++ [f l[k]] := by
  rw [List.take_succ_eq_append_getElem h, List.map_append]; rfl

theorem impl_copyTexts (l : List (List UInt8)) (v : Value) (w : World) (h : Txts w v l) (hl : l.length ≤ 8388608) :
    Calls Try.prog 46 #[v] w fun e w' => ∃ v', e = .returned v' ∧ w'.ownsRow w.heap.size 9 1 v' l.length (l.map fun s => Value.string (str s)) ∧ Below w.heap.size w w' := by
  obtain ⟨A, c, rfl, hlc, hm, HC⟩ := h.open_
  have hsrc := Lib.hid (Txts.src h).2
  clear h HC
  unfold maxLen at hm
  have hb0 : Below w.heap.size w (w.alloc (.cells #[] 9)) := (Below.refl _ _).alloc (Nat.le_refl _) _
  have HB0 := Lib.hid hb0
  clear hb0
  go_enter Try.func46, Try.ntmps46
  go_wp2_with (at_builtin; go_must (refine wpList_cat rfl _ _ 24 rfl w.heap.size 9 (.string ByteArray.empty) 1 16 Try.underlying24 info_str rfl (by decide) _ _ 0 [] rfl (by exact owns_new w _ 1 0 _ 0 [] rfl (Nat.le_refl _) (by unfold maxLen; omega) rfl rfl) A l.length c _ rfl (by exact hsrc.out.below (by decide) HB0.out) (by omega) (by omega) (by simp) ?_); intro v1 w1 ho1 _ _ hb1)
  go_ret
  simp only [Nat.zero_add, List.nil_append] at ho1
  exact ⟨_, rfl, ho1, HB0.out.trans hb1⟩
end Go.Proofs.Ytdkjfilcdcbidaa
