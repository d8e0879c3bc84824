/-
  Merged texts: TextVec, VecMk.
-/
import Derived.Test.YtjdimlhdkmkmbaaKGood
import Derived.Test.YtjdimlhdkmkmbaaKOk5
import Derived.Deep.DeepCutAuto
import Derived.Test.YtjdimlhdkmkmbaaKVec
namespace Go.Proofs.Ytjdimlhdkmkmbaa
set_option maxRecDepth 100000
set_option maxRecDepth 100000
open Go.ChangeShapes Go.WideShapes Go.ChangeAt Go.RowKit Go.Deep
set_option linter.unusedVariables false

theorem spec_l4Text (s : List UInt8) (w : World) :
    Calls Try.prog 63 #[.string (str s)] w fun e w' => e = .returned (.agg #[.int .i64 0, .int .i64 1, .string (str s)]) ∧ Below w.heap.size w w' := by
  go_enter Try.func63, Try.ntmps63
  go_wp2_with fail
  exact bodyPost_ret (v := .agg #[.int .i64 0, .int .i64 1, .string (str s)]) (by simp [results, Try.results63, go_sem]) rfl ⟨rfl, (Below.refl _ _).alloc (Nat.le_refl _) _⟩

end Go.Proofs.Ytjdimlhdkmkmbaa
namespace Go.Proofs.Ytjdimlhdkmkmbaa
set_option maxRecDepth 100000
open Go.ChangeShapes Go.WideShapes Go.ChangeAt Go.RowKit Go.Deep
set_option linter.unusedVariables false

theorem SlO.imp {α : Type} {S : Nat → Prop} {w : World} {e : TypeId} {size : Nat} {RO RO' : (Nat → Prop) → World → List Value → α → Prop} {v : Value} {l : List α}
    (hR : ∀ {T : Nat → Prop} {cs : List Value} {x : α}, x ∈ l → RO T w cs x → RO' T w cs x) (h : SlO S w e size RO v l) : SlO S w e size RO' v l := by
  obtain ⟨xss, f, h1, h2, h3⟩ := h
  exact ⟨xss, f, h1, fun k a b => ⟨(h2 k a b).1, hR (List.getElem_mem b) (h2 k a b).2⟩, h3⟩
theorem VectorO.succ {n : Nat} : ∀ {S : Nat → Prop} {w : World} {cs : List Value} {d : VecD}, VectorO n S w cs d → VectorO (n + 1) S w cs d := by
  induction n with
  | zero => intro S w cs d h; exact h.elim
  | succ n ih =>
    intro S w cs d h
    obtain ⟨A1, c1, A2, c2, A3, c3, A4, c4, A5, c5, f, rfl, h0, h1, h2, h3⟩ := h
    exact ⟨A1, c1, A2, c2, A3, c3, A4, c4, A5, c5, f, rfl, h0, h1, SlO.imp (fun _ h => ih h) h2, h3⟩
theorem VectorO.le {n m : Nat} {S : Nat → Prop} {w : World} {cs : List Value} {d : VecD} (h : VectorO n S w cs d) (hm : n ≤ m) : VectorO m S w cs d := by
  induction hm with
  | refl => exact h
  | step _ ih => exact ih.succ
/-- parts in blocks of their own, of any depth -/
def VecsO (S : Nat → Prop) (w : World) (v : Value) (l : List VecD) : Prop := SlO S w 28 8 VecO v l
theorem VecsO.keeps {S : Nat → Prop} {w w' : World} {v : Value} {l : List VecD} (h : VecsO S w v l) (hk : Keeps S w w') : VecsO S w' v l := SlO.keeps (fun _ h k => h.keeps k) h hk
theorem VecsO.mono {S S' : Nat → Prop} {w : World} {v : Value} {l : List VecD} (h : VecsO S w v l) (hs : ∀ b, S b → S' b) : VecsO S' w v l := SlO.mono (fun _ h k => h.mono k) h hs
theorem vecs_depth {S : Nat → Prop} {w : World} {v : Value} {l : List VecD} (h : VecsO S w v l) : ∃ n, VectorsO n S w v l := by
  obtain ⟨xss, f, h1, h2, h3⟩ := h
  have key : ∀ m, m ≤ l.length → ∃ n, ∀ k (a : k < xss.length) (b : k < l.length), k < m → VectorO n (fun x => S x ∧ f x = k + 1) w xss[k] l[k] := by
    intro m
    induction m with
    | zero => intro _; exact ⟨0, fun k _ _ h => absurd h (by omega)⟩
    | succ m ih =>
      intro hm
      obtain ⟨n, hn⟩ := ih (by omega)
      obtain ⟨n2, hn2⟩ := (h2 m (by omega) (by omega)).2
      refine ⟨max n n2, fun k a b hk => ?_⟩
      by_cases he : k = m
      · subst he
        exact hn2.le (Nat.le_max_right _ _)
      · exact (hn k a b (by omega)).le (Nat.le_max_left _ _)
  obtain ⟨n, hn⟩ := key l.length (Nat.le_refl _)
  exact ⟨n, xss, f, h1, fun k a b => ⟨(h2 k a b).1, hn k a b b⟩, h3⟩
theorem vecO_mk {S : Nat → Prop} {w : World} (f : Nat → Nat) {A1 A2 A3 A4 A5 : Option Addr} {c1 c2 c3 c4 c5 : Nat} (d : VecD) (hk : I64 d.kind)
    (h1 : ItemsO (fun b => S b ∧ f b = 1) w (.slice A1 d.items.length c1) d.items) (h2 : VecsO (fun b => S b ∧ f b = 2) w (.slice A2 d.parts.length c2) d.parts)
    (h3 : TxtO (fun b => S b ∧ f b = 3) w (.slice A3 d.names.length c3) d.names) (h4 : TxtO (fun b => S b ∧ f b = 4) w (.slice A4 d.cls.length c4) d.cls) (h5 : TxtO (fun b => S b ∧ f b = 5) w (.slice A5 d.levels.length c5) d.levels) (hc : I64 d.code) (he : I64 d.env) :
    VecO S w [.int .i64 d.kind, .slice A1 d.items.length c1, .slice A2 d.parts.length c2, .slice A3 d.names.length c3, .slice A4 d.cls.length c4, .slice A5 d.levels.length c5, .int .i64 d.code, .int .i64 d.env] d := by
  obtain ⟨n, h2⟩ := vecs_depth h2
  exact ⟨n + 1, A1, c1, A2, c2, A3, c3, A4, c4, A5, c5, f, rfl, hk, h1, h2, h3, h4, h5, hc, he⟩
theorem TxtO.nil_ (S : Nat → Prop) (w : World) : TxtO S w (.slice none 0 0) [] := ⟨FlO.nil_ _ _ _ _, fun _ h => by cases h⟩
theorem ItemsO.nil_ (S : Nat → Prop) (w : World) : ItemsO S w (.slice none 0 0) [] := SlO.nil_ _ _ _ _ _
theorem VecsO.nil_ (S : Nat → Prop) (w : World) : VecsO S w (.slice none 0 0) [] := SlO.nil_ _ _ _ _ _
end Go.Proofs.Ytjdimlhdkmkmbaa
