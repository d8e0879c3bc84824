/-
  Handlers: what a slice of them reads as; contracts of the laws' helpers on them.
-/
import Derived.Test.YtaliiodngekahaaStrs
import Derived.Test.YtaliiodngekahaaOpen
import Derived.StillTailTactics
namespace Go.Proofs.Ytaliiodngekahaa
set_option maxRecDepth 100000
open Go.ChangeShapes Go.WideShapes Go.ChangeAt Go.RowKit Go.Deep

structure HandD where
  kind : Int
  name : List UInt8
  deriving DecidableEq

def HandR (cs : List Value) (d : HandD) : Prop := cs = [.int .i64 d.kind, .string (str d.name)] ∧ I64 d.kind ∧ d.name.length ≤ maxLen
def Hands (w : World) (v : Value) (l : List HandD) : Prop := SlR w 2 HandR v l
def HandD.cells (d : HandD) : List Value := [.int .i64 d.kind, .string (str d.name)]

theorem Hands.below {w w' : World} {v : Value} {l : List HandD} (h : Hands w v l) (hb : Below w.heap.size w w') : Hands w' v l := SlR.below h hb (fun _ _ h => h)
theorem Hands.open_ {w : World} {v : Value} {l : List HandD} (h : Hands w v l) : ∃ A c, v = .slice A l.length c ∧ l.length ≤ c ∧ c ≤ maxLen ∧
    Hid (∀ k (hk : k < l.length), ∃ b off, A = some ⟨b, off, none⟩ ∧ b < w.heap.size ∧ w.cell? ⟨b, off + k * 2, none⟩ = some (.int .i64 l[k].kind) ∧ w.cell? ⟨b, off + k * 2 + 1, none⟩ = some (.string (str l[k].name)) ∧ I64 l[k].kind ∧ l[k].name.length ≤ maxLen) := by
  obtain ⟨A, c, rfl, hn, hc, hx⟩ := SlR.open_ h
  refine ⟨A, c, rfl, hn, hc, fun k hk => ?_⟩
  obtain ⟨b, off, cs, rfl, hlt, _, hat, rfl, hl⟩ := hx.out k hk
  exact ⟨b, off, rfl, hlt, by simpa using hat 0 _ rfl, by simpa using hat 1 _ rfl, hl⟩

def szH (l : List HandD) : Nat := szL (l.map HandD.name)
theorem szH_cons (d : HandD) (l : List HandD) : szH (d :: l) = szH l + 1 + d.name.length := by simp [szH, szL]; omega

theorem szH_take_succ (l : List HandD) (k : Nat) (h : k < l.length) : szH (l.take (k + 1)) = szH (l.take k) + 1 + l[k].name.length := by
  unfold szH szL
  rw [List.take_succ_eq_append_getElem h]
  simp only [List.map_append, List.length_append, List.sum_append, List.map_cons, List.map_nil, List.length_cons, List.length_nil, List.sum_cons, List.sum_nil]
  omega
theorem szH_take_le (l : List HandD) (k : Nat) : szH (l.take k) + (l.drop k).length ≤ szH l := by
  unfold szH szL
  have h : l.map HandD.name = (l.take k).map HandD.name ++ (l.drop k).map HandD.name := by rw [← List.map_append, List.take_append_drop]
  rw [h]
  simp only [List.map_append, List.length_append, List.sum_append, List.length_map]
  omega

theorem take_flat_succ {α β : Type} (f : α → List β) (l : List α) (k : Nat) (h : k < l.length) : (l.take (k + 1)).flatMap f = (l.take k).flatMap f ++ f l[k] := by
  rw [List.take_succ_eq_append_getElem h, List.flatMap_append]; simp

theorem info_hand : (Try.prog.info? 31).map (fun i => (i.zero, i.size, i.bytes)) = some (some (.agg #[.int .i64 0, .string ByteArray.empty]), 2, 24) := by kernel_rfl

theorem Hands.of_own {w : World} {base : Nat} {e : TypeId} {v : Value} {l : List HandD} (h : w.ownsRow base e 2 v l.length (l.flatMap HandD.cells)) (hs : ∀ d ∈ l, I64 d.kind ∧ d.name.length ≤ maxLen) : Hands w v l :=
  SlR.of_own HandD.cells l h rfl rfl (fun x hx => ⟨rfl, rfl, hs x hx⟩)
theorem Hands.small {w : World} {v : Value} {l : List HandD} (h : Hands w v l) : ∀ d ∈ l, I64 d.kind ∧ d.name.length ≤ maxLen := fun d hd => by
  obtain ⟨A, c, rfl, hlc, hm, HC⟩ := h.open_
  obtain ⟨k, hk, rfl⟩ := List.getElem_of_mem hd
  obtain ⟨_, _, _, _, _, _, h5⟩ := HC.out k hk
  exact h5

end Go.Proofs.Ytaliiodngekahaa
