/-
  Vectors of whatever depth: the laws' helpers on them; a vector among the arguments, opened.
-/
import Derived.Test.YtjdfancbmjnjfaaGreatGVector
namespace Go.Proofs.YtjdfancbmjnjfaaGreat
set_option maxRecDepth 100000
open Go.ChangeShapes Go.WideShapes Go.ChangeAt Go.RowKit Go.Deep

theorem szVector_all : ∀ n, SzVectorC n
  | 0 => fun _ _ _ _ h => h.elim
  | n + 1 => laws_szVector_step n (laws_szVectorS n (szVector_all n))
theorem toVector_all : ∀ n, ToVectorC n
  | 0 => fun _ _ _ h => h.elim
  | n + 1 => laws_toVector_step n (laws_toVectorS n (toVector_all n))
theorem eqVector_all : ∀ n, EqVectorC n
  | 0 => fun _ _ _ _ h => h.elim
  | n + 1 => laws_eqVector_same_step n (laws_eqVectorS_same n (eqVector_all n))

def VecR (w : World) (cs : List Value) (d : VecD) : Prop := ∃ n, VectorR n w cs d
def VecO (S : Nat → Prop) (w : World) (cs : List Value) (d : VecD) : Prop := ∃ n, VectorO n S w cs d
theorem VecR.below {w w' : World} {cs : List Value} {d : VecD} (h : VecR w cs d) (hb : Below w.heap.size w w') : VecR w' cs d := by
  obtain ⟨n, h⟩ := h
  exact ⟨n, h.below hb⟩
theorem VecR.shape {w : World} {cs : List Value} {d : VecD} (h : VecR w cs d) : ∃ v1 v2 v3 v4 v5, cs = [.int .i64 d.kind, v1, v2, v3, v4, v5, .int .i64 d.code, .int .i64 d.env] := by
  obtain ⟨n, h⟩ := h
  exact h.shape
theorem VecR.length {w : World} {cs : List Value} {d : VecD} (h : VecR w cs d) : cs.length = 8 := by
  obtain ⟨n, h⟩ := h
  exact h.length
theorem VecO.read {S : Nat → Prop} {w : World} {cs : List Value} {d : VecD} (h : VecO S w cs d) : VecR w cs d := by
  obtain ⟨n, h⟩ := h
  exact ⟨n, h.read⟩
theorem VecO.keeps {S : Nat → Prop} {w w' : World} {cs : List Value} {d : VecD} (h : VecO S w cs d) (hk : Keeps S w w') : VecO S w' cs d := by
  obtain ⟨n, h⟩ := h
  exact ⟨n, h.keeps hk⟩
theorem VecO.mono {S S' : Nat → Prop} {w : World} {cs : List Value} {d : VecD} (h : VecO S w cs d) (hs : ∀ b, S b → S' b) : VecO S' w cs d := by
  obtain ⟨n, h⟩ := h
  exact ⟨n, h.mono hs⟩
theorem VecO.shape {S : Nat → Prop} {w : World} {cs : List Value} {d : VecD} (h : VecO S w cs d) : ∃ (A1 : Option Addr) (c1 : Nat) (A2 : Option Addr) (c2 : Nat) (A3 : Option Addr) (c3 : Nat) (A4 : Option Addr) (c4 : Nat) (A5 : Option Addr) (c5 : Nat), cs = [.int .i64 d.kind, .slice A1 d.items.length c1, .slice A2 d.parts.length c2, .slice A3 d.names.length c3, .slice A4 d.cls.length c4, .slice A5 d.levels.length c5, .int .i64 d.code, .int .i64 d.env] := by
  obtain ⟨n, h⟩ := h
  exact h.shape
theorem VecO.length {S : Nat → Prop} {w : World} {cs : List Value} {d : VecD} (h : VecO S w cs d) : cs.length = 8 := h.read.length

def RetVec (w : World) (d : VecD) (e : Ending) (w' : World) : Prop := ∃ cs, e = .returned (.agg cs.toArray) ∧ VecO (Rng w.heap.size w'.heap.size) w' cs d ∧ Below w.heap.size w w'
theorem laws_szVec (d : VecD) (cs : List Value) (left : Int) (w : World) (h : VecR w cs d) (h0 : 0 ≤ left) (h1 : left ≤ 1048576) :
    Calls Tryz.prog 132 #[.agg cs.toArray, .int .i64 left] w fun e w' => e = .returned (.int .i64 (szR left (szVector d))) ∧ Below w.heap.size w w' := by
  obtain ⟨n, h⟩ := h
  exact szVector_all n d cs left w h h0 h1
theorem laws_toVec (d : VecD) (cs : List Value) (w : World) (h : VecR w cs d) (hz : szVector d ≤ 1048576) : Calls Tryz.prog 137 #[.agg cs.toArray] w (RetVec w d) := by
  obtain ⟨n, h⟩ := h
  refine (toVector_all n d cs w h hz).mono ?_
  rintro e w' ⟨cs', he, ho, hb⟩
  exact ⟨cs', he, ⟨n, ho⟩, hb⟩
theorem laws_eqVec_same (d : VecD) (cs cs' : List Value) (w : World) (h : VecR w cs d) (h' : VecR w cs' d) :
    Calls Tryz.prog 140 #[.agg cs.toArray, .agg cs'.toArray] w fun e w' => e = .returned (.bool true) ∧ Below w.heap.size w w' := by
  obtain ⟨n, h⟩ := h
  obtain ⟨m, h'⟩ := h'
  exact eqVector_all (max n m) d cs cs' w (h.le (Nat.le_max_left _ _)) (h'.le (Nat.le_max_right _ _))

theorem cells_Vector : Tryz.prog.cellsOf 111 = 8 := by kernel_rfl

theorem open_VectorR {H : Type} {enc : TypeId × Value → H} {w : World} {base : Nat} {spare : Nat → Bool} {held : Bool} : ∀ (m : Nat) (n : Nat), n ≤ m → ∀ (cs : List Value) (x : DataW H × List MemPlace), DataW.trod enc Tryz.prog w base spare held n 111 cs = some x → ∃ d, VectorR n w cs d := by
  intro m
  induction m with
  | zero =>
    intro n hn cs x h
    obtain ⟨_, n', hn', _⟩ := open_field Tryz.underlying111 h
    omega
  | succ m ih =>
    intro n hnm cs x h
    obtain ⟨hlen, n', hn, hg⟩ := open_field Tryz.underlying111 h
    match cs, hlen.trans cells_Vector with
    | [c0, c1, c2, c3, c4, c5, c6, c7], _ =>
      obtain ⟨y0, g0⟩ := hg 0 _ rfl
      obtain ⟨y1, g1⟩ := hg 1 _ rfl
      obtain ⟨y2, g2⟩ := hg 2 _ rfl
      obtain ⟨y3, g3⟩ := hg 3 _ rfl
      obtain ⟨y4, g4⟩ := hg 4 _ rfl
      obtain ⟨y5, g5⟩ := hg 5 _ rfl
      obtain ⟨y6, g6⟩ := hg 6 _ rfl
      obtain ⟨y7, g7⟩ := hg 7 _ rfl
      rw [show List.take (Tryz.prog.cellsOf _) (List.drop _ [c0, c1, c2, c3, c4, c5, c6, c7]) = [c0] by simp [cells_int]] at g0
      rw [show List.take (Tryz.prog.cellsOf _) (List.drop _ [c0, c1, c2, c3, c4, c5, c6, c7]) = [c1] by simp [cells_slice_Item]] at g1
      rw [show List.take (Tryz.prog.cellsOf _) (List.drop _ [c0, c1, c2, c3, c4, c5, c6, c7]) = [c2] by simp [cells_slice_Vector]] at g2
      rw [show List.take (Tryz.prog.cellsOf _) (List.drop _ [c0, c1, c2, c3, c4, c5, c6, c7]) = [c3] by simp [cells_slice_string]] at g3
      rw [show List.take (Tryz.prog.cellsOf _) (List.drop _ [c0, c1, c2, c3, c4, c5, c6, c7]) = [c4] by simp [cells_slice_string]] at g4
      rw [show List.take (Tryz.prog.cellsOf _) (List.drop _ [c0, c1, c2, c3, c4, c5, c6, c7]) = [c5] by simp [cells_slice_string]] at g5
      rw [show List.take (Tryz.prog.cellsOf _) (List.drop _ [c0, c1, c2, c3, c4, c5, c6, c7]) = [c6] by simp [cells_int]] at g6
      rw [show List.take (Tryz.prog.cellsOf _) (List.drop _ [c0, c1, c2, c3, c4, c5, c6, c7]) = [c7] by simp [cells_int]] at g7
      obtain ⟨d0, e0, r0⟩ := open_i64 Tryz.underlying3 g0
      obtain ⟨a1, d1, e1, r1⟩ := open_slr Tryz.underlying108 (show Tryz.prog.cellsOf 137 = 3 by kernel_rfl) (by decide) (ItemR w) (fun _ _ _ _ _ h => open_ItemR h) g1
      obtain ⟨a2, d2, e2, r2⟩ := open_slr Tryz.underlying109 cells_Vector (by decide) (VectorR n' w) (fun k cs d pl hk h => by
        obtain ⟨d, hd⟩ := ih k (by omega) cs _ h
        exact ⟨d, hd.le (by omega)⟩) g2
      obtain ⟨a3, d3, e3, r3⟩ := open_slr Tryz.underlying46 cells_string (by decide) StrR (fun _ _ _ _ _ h => open_str Tryz.underlying9 h) g3
      obtain ⟨a4, d4, e4, r4⟩ := open_slr Tryz.underlying46 cells_string (by decide) StrR (fun _ _ _ _ _ h => open_str Tryz.underlying9 h) g4
      obtain ⟨a5, d5, e5, r5⟩ := open_slr Tryz.underlying46 cells_string (by decide) StrR (fun _ _ _ _ _ h => open_str Tryz.underlying9 h) g5
      obtain ⟨d6, e6, r6⟩ := open_i64 Tryz.underlying3 g6
      obtain ⟨d7, e7, r7⟩ := open_i64 Tryz.underlying3 g7
      simp only [List.cons.injEq, and_true] at e0 e1 e2 e3 e4 e5 e6 e7
      subst e0 e1 e2 e3 e4 e5 e6 e7
      subst hn
      exact ⟨.mk d0 d1 d2 d3 d4 d5 d6 d7, _, _, _, _, _, rfl, r0, r1, r2, r3, r4, r5, r6, r7⟩

theorem open_VecR {H : Type} {enc : TypeId × Value → H} {w : World} {base : Nat} {spare : Nat → Bool} {held : Bool} {n : Nat} {cs : List Value} {x : DataW H × List MemPlace} (h : DataW.trod enc Tryz.prog w base spare held n 111 cs = some x) : ∃ d, VecR w cs d := by
  obtain ⟨d, hd⟩ := open_VectorR n n (Nat.le_refl _) cs x h
  exact ⟨d, n, hd⟩
theorem open_vector {H : Type} {enc : TypeId × Value → H} {w : World} {base : Nat} {spare : Nat → Bool} {held : Bool} {v : Value} {d : DataW H} {p : List MemPlace} {r : Reach} {b0 : Nat} (hv : Value.okWide Tryz.prog w r b0 111 v) (h : DataW.Trod enc Tryz.prog w base spare held 111 v d p) : ∃ x : List Value × VecD, v = .agg x.1.toArray ∧ VecR w x.1 x.2 := by
  obtain ⟨cs, rfl, _⟩ := okWide_struct Tryz.underlying111 hv
  obtain ⟨fuel, hf⟩ := h
  obtain ⟨d, hd⟩ := open_VecR hf
  exact ⟨(cs.toList, d), by simp, by simpa [Value.cells] using hd⟩
end Go.Proofs.YtjdfancbmjnjfaaGreat
