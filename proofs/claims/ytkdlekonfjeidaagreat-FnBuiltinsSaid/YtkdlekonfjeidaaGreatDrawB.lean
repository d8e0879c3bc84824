/-
  Contracts: the name that is drawn for the law about builtins.
-/
import Derived.Test.YtkdlekonfjeidaaGreatIsBuiltin
import Derived.Test.YtkdlekonfjeidaaGreatDraw
namespace Go.Proofs.YtkdlekonfjeidaaGreat
set_option maxRecDepth 100000
open Go.ChangeShapes Go.WideShapes Go.ChangeAt Go.RowKit Go.Deep
set_option linter.unusedVariables false

/-- what may be drawn -/
def drawn : List (List UInt8) := biNames ++ [[113, 117, 111, 116, 101], [], [102, 105, 116]]
theorem drawn_map : (biNames.map fun s => Value.string (str s)) ++ [Value.string (str [113, 117, 111, 116, 101]), Value.string (str []), Value.string (str [102, 105, 116])] = drawn.map fun s => Value.string (str s) := by
  simp [drawn]
theorem drawn_length : drawn.length = 37 := rfl
theorem drawn_short : ∀ s ∈ drawn, s.length ≤ maxLen := by
  intro s hs
  have h : s.length ≤ 100 := by revert s; decide
  unfold maxLen; omega
theorem spec_l30Names_own (w : World) :
    Calls Tryz.prog 21 #[] w fun e w' => ∃ v, e = .returned v ∧ w'.ownsRow w.heap.size 9 1 v biNames.length (biNames.map fun s => Value.string (str s)) ∧ Below w.heap.size w w' := by
  go_enter Tryz.func21, Tryz.ntmps21
  go_wp2
  go_ret
  exact ⟨_, rfl, owns_new w _ 1 34 _ 34 _ rfl (Nat.le_refl _) (by unfold maxLen; omega) rfl rfl, (Below.refl _ _).alloc (Nat.le_refl _) _⟩

theorem info_strB : (Tryz.prog.info? 9).map (fun i => (i.zero, i.size, i.bytes)) = some (some (.string ByteArray.empty), 1, 16) := by kernel_rfl
theorem Cur.belowB {w w' : World} {g : Nat} {v : Value} {l : List Nat} (h : Cur w g v l) (hb : Below w.heap.size w w') : Cur w' g v l := by
  obtain ⟨i, k, h1, h2, h3, h4⟩ := h
  exact ⟨i, k, h1.below hb, h2, h3, SlR.below h4 hb (fun _ _ h => h)⟩
def lit3 : List Value := [Value.string (str [113, 117, 111, 116, 101]), Value.string (str []), Value.string (str [102, 105, 116])]
theorem src_lit3 (w : World) : Src (w.alloc (.cells lit3.toArray 9)) 1 (some ⟨w.heap.size, 0, none⟩) 3 lit3 := by
  refine ⟨rfl, fun u hu => ?_, fun _ => ⟨_, 0, rfl, fun k u hk => ?_⟩⟩
  · simp only [lit3, List.mem_cons, List.not_mem_nil, or_false] at hu
    rcases hu with rfl | rfl | rfl <;> rfl
  · rw [Nat.zero_add]
    show (w.alloc _).cell? _ = _
    simp only [World.cell?, World.alloc, Array.getElem?_push, if_pos]
    simpa using hk

def RetDraw (w : World) (e : Ending) (w' : World) : Prop := ∃ s, e = .returned (.string (str s)) ∧ s ∈ drawn ∧ Below w.heap.size w w'

set_option maxHeartbeats 1000000 in
theorem spec_DrawIsBuiltin (v : Value) (l : List Nat) (w : World) (h : Bytes w v l) (hl : l.length ≤ 1048576) :
    Calls Tryz.prog 6 #[v] w (RetDraw w) := by
  go_enter Tryz.func6, Tryz.ntmps6
  go_wp2_with fail
  refine (spec_l1New v l _ h hl).mono ?_
  rintro e w1 ⟨rfl, hc, ha, hb, hs⟩
  have HB := Lib.hid hb
  have HA := Lib.hid ha
  have HC := Lib.hid hc
  clear hb ha hs hc h
  go_wp2_with fail
  refine (spec_l30Names_own _).mono ?_
  rintro e w2 ⟨u, rfl, ho, hb⟩
  have hgl : w.heap.size < w1.heap.size := HC.out.choose_spec.choose_spec.1.lt
  have hz := hb.size
  have HO := Lib.hid (own_below ho ((Below.refl _ _).alloc (Nat.le_refl _) (.cells lit3.toArray 9)))
  have HS := Lib.hid (src_lit3 w2)
  have HBA := Lib.hid (hb.trans (((Below.refl _ _).alloc (Nat.le_refl _) (.cells lit3.toArray 9)).mono hb.size))
  clear ho hb
  go_wp2_with (at_builtin; go_must (refine wpList_cat rfl _ _ 28 rfl w1.heap.size 9 (.string ByteArray.empty) 1 16 Tryz.underlying28 info_strB rfl (by decide) _ _ biNames.length _ rfl (by exact HO.out) _ 3 _ _ rfl (by exact HS.out) (by decide) (by decide) (by simp; omega) ?_); intro v1 w3 ho3 hg3 _ hb3)
  have HB3 := Lib.hid (HBA.out.trans (hb3.mono (by have := HBA.out.size; omega)))
  have hc3 := hb3
  have HT := Lib.hid (Txts.of_own (l := drawn) (by have h9 := ho3; rw [show lit3 = [Value.string (str [113, 117, 111, 116, 101]), Value.string (str []), Value.string (str [102, 105, 116])] from rfl, drawn_map] at h9; exact h9) drawn_short)
  have HAP := Lib.hid (show Apart drawn.length w.heap.size v1 from fun _ a n c hv => by have := ho3.lt; subst hv; have := (this _ rfl).1; omega)
  have hC3 : Cur w3 w.heap.size v l := Cur.belowB HC.out (HBA.out.trans hb3)
  refine (spec_l1Pick _ v l _ drawn _ (by exact hC3) HA.out (by exact HT.out) (by exact HAP.out) (by decide) (by decide)).mono ?_
  rintro e w4 ⟨s, rfl, hs, _, ho⟩
  have HB4 := Lib.hid (Only.below (HB.out.trans ((HBA.out.trans hb3).mono HB.out.size)) ho (Nat.le_refl _) (Nat.le_trans HB.out.size (HBA.out.trans hb3).size))
  clear ho hb3 hc3 hC3 ho3 hg3
  go_wp2_with fail
  go_ret
  exact ⟨s, rfl, hs, HB4.out⟩
end Go.Proofs.YtkdlekonfjeidaaGreat
