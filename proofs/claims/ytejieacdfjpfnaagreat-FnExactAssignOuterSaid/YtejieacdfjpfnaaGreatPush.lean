/-
  'out = append(out, x)' as one operation of a region.
-/
import Derived.Test.YtejieacdfjpfnaaGreatPhase
import Derived.Maps.AppendAt
namespace Go.Proofs.YtejieacdfjpfnaaGreat
set_option maxRecDepth 100000
open Go.ChangeShapes Go.WideShapes Go.ChangeAt Go.RowKit Go.Deep
set_option linter.unusedVariables false

section
variable {P : Program}
theorem wp_push {o : Oper} {a : Act} {K : Act → World → Prop} {Q : Exit → Act → World → Prop} (s x : Operand) (t : TypeId)
    (ho : o.op = .call { callee := .builtin .append, args := #[s, x], argTypes := #[t, t] })
    (base : Nat) (e : TypeId) (z : Value) (size bytes : Nat) (ht : P.underlying t = some (.slice e)) (hi : (P.info? e).map (fun i => (i.zero, i.size, i.bytes)) = some (some z, size, bytes)) (hzs : z.cells.size = size) (hsz : 0 < size)
    (w : World) (v : Value) (n : Nat) (xs : List Value) (cs : Array Value) (hs : a.eval s = v) (hx : a.eval x = .slice (some ⟨w.heap.size, 0, none⟩) 1 1)
    (hown : w.ownsRow base e size v n xs) (hcs : cs.size = size) (h1 : ∀ u ∈ cs.toList, u.oneCell' = true)
    (h63 : n + 1 ≤ 1099511627776) (hbytes : (n + 1) * bytes ≤ 140737488355328) (hbase : base ≤ w.heap.size)
    (h : ∀ v' w', w'.ownsRow base e size v' (n + 1) (xs ++ cs.toList) → w.grownBy w' v.ownBlock → (v'.ownBlock = v.ownBlock ∨ v'.ownBlock = some (w.heap.size + 1)) → Below base w w' → K (a.put o.dst v') w') :
    o.wp P a (w.alloc (.cells cs e)) K Q := by
  obtain ⟨i, h2, h3, h4, h5⟩ := info_parts hi
  have hbl : Below w.heap.size w (w.alloc (.cells cs e)) := (Below.refl _ _).alloc (Nat.le_refl _) _
  have hrow : ∀ k, v.ownBlock = some k → base ≤ k := fun k hk => (hown.lt k hk).1
  obtain ⟨v', w', hr, g1, g2, _, g3⟩ := run_append_own_at (P := P) (w := w.alloc (.cells cs e)) base t o.type e i z size bytes ht h2 h3 h4 h5 hzs hsz v n xs (own_below hown hbl) ⟨w.heap.size, 0, none⟩ 1 1 cs.toList (by simpa using hcs) (news_new w cs e) h1
    (by unfold maxLen; omega) hbytes (by simp; omega)
  unfold Oper.wp execOp
  simp only [ho, resolve, invoke, builtin, Sem.run_bind, Sem.run_pure, Result.andThen_ok, List.map_toArray, List.map_cons, List.map_nil, hs, hx, hr]
  exact h v' w' g1 ((grown_of_below hbl v.ownBlock).trans g2) (by simpa using g3) ((hbl.mono hbase).grown g2 (by simp; omega) hrow)
end
end Go.Proofs.YtejieacdfjpfnaaGreat
