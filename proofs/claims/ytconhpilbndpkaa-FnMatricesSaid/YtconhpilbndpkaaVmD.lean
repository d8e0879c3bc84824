/-
  A machine on values that read as trees: regions that draw their order, with more than one store.
-/
import Derived.Test.YtconhpilbndpkaaVmC
namespace Go.Proofs.Ytconhpilbndpkaa.Vm
open Go.RowKit
set_option linter.unusedVariables false

/-! ### a region that draws its order: values are loaded from some boxes and stored in others -/
section
variable {ti : TI} {X : Ctx} {z : ZO}
def E (X : Ctx) (ks : List K) (ops : List Oper) (esc : List Nat) (m0 : Mem) (l : PT) (a : Slots) (m : Mem) (nx : Nat) (st : Bool) : Prop :=
  ∀ Z ρ w0 act w, Rel X Z ρ m nx w → RdS Z ρ a act.tmps → act.tmps.size = X.n → act.defers = [] → SubM m0 m → TW Z ρ m0 w0 w → (st = true → w0 = w) →
    dynL X.P ops.toArray (NoPanic (SK X ks)) (TW Z ρ m0 w0) esc l act w
theorem W_draw2 (hm : X.P.follows .mixedOrders = true) {id : Nat} {ops : Array Oper} {ks : List K} {a : Slots} {m : Mem} {nx : Nat} (M : List Nat) (l : List (Nat × Nat)) (esc : List Nat) (hc : (Region.noSelect ops && planL ops esc l (Array.replicate ops.size false) && l.length == ops.size) = true)
    (h : E X ks ops.toList esc (keepM M m) (PT.of l) a m nx true) : W X ⟨.code (.region id ops true) :: ks, a, m, nx⟩ := by
  intro Z ρ act w H hS hn hd
  have H' := H.drew
  have hs : SubM (keepM M m) m := fun id o e => mget_keepM M m id o e
  refine wp_region_phase hm (PT.of l) esc (T := TW Z ρ (keepM M m) w.drew) (by rw [PT.of_len]; exact hc) (H'.sub hs).tw ?_
  have := h Z ρ w.drew act w.drew H' hS hn hd hs (H'.sub hs).tw (fun _ => rfl)
  simpa using this
theorem E_load (hti : TIok X.P ti) (hz : z = realZ) {ks : List K} {ops : List Oper} {esc : List Nat} {m0 : Mem} {i : Nat} {r : PT} {a : Slots} {m : Mem} {nx : Nat} {o : Oper} {t : T} (ho : nth ops i = some o) (hd : dstOk X.n o.dst = true) (hg : gd a ops o.guard = .yes) (hq : opT ti z m0 nx a o.op = .val t)
    (hw : E X ks ops esc m0 r (put a o.dst t) m nx true) : E X ks ops esc m0 (.cons (1, i) r) a m nx true := by
  rw [nth_eq] at ho
  have ho' : ops.toArray[i]? = some o := by simpa using ho
  intro Z ρ w0 act w H hS hn hdf hsub hT hst
  obtain rfl := hst rfl
  have hwant : Region.wanted o (yielded ops.toArray act.tmps) = true := (gd_wanted hS).1 hg
  have hG := op_sound hti hz (H.sub hsub) hS o
  rw [hq] at hG
  obtain ⟨v, h1, h2⟩ := hG
  obtain ⟨p1, p2, p3⟩ := put_rel (KLe.refl Z) (RLe.refl ρ) hS hn hd h2
  exact dynL_take ho' hwant (fun W hW => h1 W fun _ => hW) (hw Z ρ w0 _ w0 H p1 p2 (p3.trans hdf) hsub hT (fun _ => rfl))
def stQ (ti : TI) (a : Slots) (m : Mem) (o : Oper) : Option (Nat × Nat × List T × List T) := match o.op with
  | .store t x y => (match tget ti t, evT a x with
    | some i, .pt id off => (match mget m id with
      | some (.box cs) => (match allOne (cellsT (evT a y)), Nat.beq (len (cellsT (evT a y))) i.size, Nat.ble (off + len (cellsT (evT a y))) (len cs) with
        | true, true, true => some (id, off, cs, cellsT (evT a y))
        | _, _, _ => none)
      | _ => none)
    | _, _ => none)
  | _ => none
theorem E_store (hti : TIok X.P ti) {ks : List K} {ops : List Oper} {esc : List Nat} {m0 : Mem} {i : Nat} {r : PT} {a : Slots} {m : Mem} {nx : Nat} {st : Bool} {o : Oper} {id off : Nat} {ts us : List T} (ho : nth ops i = some o) (hd : dstOk X.n o.dst = true) (hg : gd a ops o.guard = .yes) (hq : stQ ti a m o = some (id, off, ts, us)) (h0 : mget m0 id = none)
    (hw : E X ks ops esc m0 r (put a o.dst .any) (mset m id (.box (putAt off us ts))) nx false) : E X ks ops esc m0 (.cons (0, i) r) a m nx st := by
  rw [nth_eq] at ho
  have ho' : ops.toArray[i]? = some o := by simpa using ho
  unfold stQ at hq
  split at hq
  · rename_i t x y hop
    split at hq
    · rename_i ty id' off' hty hx
      split at hq
      · rename_i cs hm
        split at hq
        · rename_i b1 b2 b3
          injection hq with hq
          injection hq with q1 q2
          injection q2 with q2 q3
          injection q3 with q3 q4
          subst q1 q2 q3 q4
          intro Z ρ w0 act w H hS hn hdf hsub hT hst
          have hwant : Region.wanted o (yielded ops.toArray act.tmps) = true := (gd_wanted hS).1 hg
          have hxr := evT_rel hS x
          rw [hx] at hxr
          obtain ⟨b, hb, hxv⟩ := hxr.ptI
          have hy := evT_rel hS y
          have a2 := Nat.eq_of_beq_eq_true b2
          have a3 := Nat.le_of_ble_eq_true b3
          rw [len_eq] at a2 a3
          rw [len_eq] at a3
          have hc := cellsT_rel hy b1
          have ho1 := allOne_eq _ b1
          obtain ⟨k1, k2⟩ := H.put hm hb hc ho1 a3
          have hone : ∀ u ∈ (act.eval y).cells.toList, u.oneCell' = true := fun u hu => by
            obtain ⟨j, hj, rfl⟩ := List.getElem_of_mem hu
            have hlt : j < (cellsT (evT a y)).length := by rw [hc.1]; exact hj
            exact (hc.2 j _ _ (List.getElem?_eq_getElem hlt) (List.getElem?_eq_getElem hj)).oneV (ho1 _ (List.getElem_mem hlt))
          have hst := run_storeCells_cells (P := X.P) b off' (act.eval y).cells.toList 0 w (by simpa using fun j hj => (k1 j (by simpa using hj)).1) (by simpa using fun j hj => (k1 j (by simpa using hj)).2) hone
          simp only [Nat.add_zero] at hst
          have hsz : (sizeOf t).run X.P w = .ok (act.eval y).cells.size w := by
            rw [(hti t ty hty).sz w, ← a2, hc.1]; simp
          have hT' : TW Z ρ m0 w0 (w.setCells b off' (act.eval y).cells.toList) := ⟨k2.kn, fun id2 o2 b' e1 es e2 => by
            refine (heap_setCells_far (fun e => ?_) _ _ _).trans (hT.2 id2 o2 b' e1 es e2)
            subst e
            have := H.apart id2 id' _ _ b' (hsub _ _ e1) hm ⟨_, e2, rfl⟩ ⟨_, hb, rfl⟩
            subst this
            rw [e1] at h0; cases h0⟩
          have hsub' : SubM m0 (mset m id' (.box (putAt off' (cellsT (evT a y)) cs))) := fun id2 o2 e => by
            rw [mget_set, if_neg (fun e' => by subst e'; rw [e] at h0; cases h0)]
            exact hsub id2 o2 e
          obtain ⟨p1, p2, p3⟩ := put_rel (KLe.refl Z) (RLe.refl ρ) hS hn hd (RdT.any undef)
          refine dynL_act ho' hwant fun K hK => OpRes.wp (.inr ⟨?_, rfl⟩) (hK.out _ _ hT' (hw Z ρ w0 _ _ k2 p1 p2 (p3.trans hdf) hsub' hT' (fun h => by cases h)))
          obtain ⟨dst, op, ty', pos, after, guard⟩ := o
          simp only at hop
          subst hop
          simp [execOp, Instr.storeAt, Instr.sureAddr, storeVar, hsz, hxv, hst]
        · cases hq
      · cases hq
    · cases hq
  · cases hq
theorem E_done {ks : List K} {ops : List Oper} {esc : List Nat} {m0 : Mem} {a : Slots} {m : Mem} {nx : Nat} {st : Bool} (h : W X ⟨ks, a, m, nx⟩) : E X ks ops esc m0 .nil a m nx st :=
  fun Z ρ w0 act w H hS hn hdf _ _ _ => dynL_done (h Z ρ act w H hS hn hdf)
end
end Go.Proofs.Ytconhpilbndpkaa.Vm
