/-
  A machine on values that read as trees: rows made, read and written at an index.
-/
import Derived.Test.YtconhpilbndpkaaVmB
namespace Go.Proofs.Ytconhpilbndpkaa.Vm
open Go.RowKit
set_option linter.unusedVariables false

section
variable {ti : TI} {X : Ctx} {z : ZO}
/-! ### rows: made, read and written at an index -/
def mkQ (ti : TI) (n : Nat) (a : Slots) (all : List Oper) (o : Oper) : Option (Int × Int × C) := match dstOk n o.dst, gd a all o.guard with
  | true, .yes => (match o.op with
    | .makeSlice t l c => (match tget ti t with
      | some ty => (match ty.kind, tget ti ty.elem, evT a l, evT a c with
        | .sl, some e, .c (.i .i64 x), .c (.i .i64 y) => (match e.zero with
          | [.c z] => some (x, y, z)
          | _ => none)
        | _, _, _, _ => none)
      | none => none)
    | _ => none)
  | _, _ => none
theorem W_make (hti : TIok X.P ti) {o : Oper} {r all : List Oper} {ks : List K} {a : Slots} {m : Mem} {nx : Nat} {x y : Int} {c0 : C} (hq : mkQ ti X.n a all o = some (x, y, c0)) (N : Nat) (hx : x = (N : Int)) (hy : y = (N : Int)) (hN : N ≤ 67108864)
    (hw : W X ⟨.ops r all :: ks, put a o.dst (.rw nx N N), (nx, .row (List.replicate N [c0]) N) :: m, nx + 1⟩) : W X ⟨.ops (o :: r) all :: ks, a, m, nx⟩ := by
  unfold mkQ at hq
  split at hq
  · rename_i hd hg
    split at hq
    · rename_i t l c ho
      split at hq
      · rename_i ty hty
        split at hq
        · rename_i e x' y' hkd hel h1 h2
          split at hq
          · rename_i z0 hz0
            injection hq with hq
            injection hq with q1 q2
            injection q2 with q2 q3
            subst q1 q2 q3 hx hy
            refine W_op hg fun Z ρ act w H hS hn hdf K hK => ?_
            have hl := evT_rel hS l
            rw [h1] at hl
            have hc := evT_rel hS c
            rw [h2] at hc
            have hu := (hti t ty hty).sl hkd
            have Ke := hti _ e hel
            obtain ⟨zv, z1, z2, z3, z4⟩ := Ke.zero
            obtain ⟨j, zz, i1, i2, i3, i4, i5⟩ := Ke.inf
            have hzz : zz = zv := by
              have := z1 w
              simp [zeroValue, typeInfo, i1, i4] at this
              exact this
            subst hzz
            have hlen : zz.cells.toList.length = 1 := by
              have := congrArg List.length z3
              rw [hz0] at this
              simpa using this.symm
            have hsz : j.size = 1 := by rw [i2, ← z4]; simpa using hlen
            obtain ⟨v0, hv0⟩ : ∃ v0, zz.cells.toList = [v0] := by
              match hh : zz.cells.toList with
              | [v0] => exact ⟨v0, rfl⟩
              | [] => rw [hh] at hlen; cases hlen
              | _ :: _ :: _ => rw [hh] at hlen; simp at hlen
            have hr0 : RdC Z z0 v0 := by
              have := zero_rel (Z := Z) (ρ := ρ) zz
              rw [← z3, hz0, hv0] at this
              obtain ⟨u, us, e1, e2, _⟩ := this.uncons
              injection e1 with e1 _
              rw [← e1] at e2
              exact e2.cI
            have hb1 : (j.bytes : Int) * (N : Int) ≤ 281474976710656 := by
              have : j.bytes * N ≤ 1048576 * 67108864 := Nat.mul_le_mul i3 hN
              have h' : ((j.bytes * N : Nat) : Int) ≤ 281474976710656 := by omega
              rwa [Int.natCast_mul] at h'
            have hrun := run_make (P := X.P) w t ty.elem j zz hu i1 i4 .i64 .i64 (N : Int) (N : Int) (Int.natCast_nonneg N) (Int.le_refl _) hb1 (by omega)
            rw [hsz, Nat.mul_one, Int.toNat_natCast] at hrun
            have hcells : madeCells zz.cells N = (List.replicate N v0).toArray := by
              have hzc : zz.cells = #[v0] := by rw [← hv0]
              rw [hzc]
              apply Array.toList_inj.1
              rw [madeCells, Array.toList_map, Array.toList_range]
              have : ∀ i, (#[v0] : Array Value)[i % (#[v0] : Array Value).size]! = v0 := fun i => by
                have h1 : i % (#[v0] : Array Value).size = 0 := Nat.mod_one i
                rw [h1]; rfl
              rw [List.map_congr_left fun i _ => this i]
              exact List.eq_replicate_iff.2 ⟨by simp, fun b hb => by simp at hb; exact hb.2.symm⟩
            rw [hcells] at hrun
            have hb : Below w.heap.size w (w.alloc (.cells (List.replicate N v0).toArray ty.elem)) := (Below.refl _ _).alloc (Nat.le_refl _) _
            have hk : KnOk Z (w.alloc (.cells (List.replicate N v0).toArray ty.elem)) := fun b o u e => (hb.cell (p := ⟨b, o, none⟩) (H.kn.lt e)).trans (H.kn b o u e)
            have hrep : ∀ (k : Nat) (cs : List C), (List.replicate N [z0])[k]? = some cs → k < N ∧ cs = [z0] := fun k cs e => by
              have hlt := (List.getElem?_eq_some_iff.1 e).1
              rw [List.length_replicate] at hlt
              rw [List.getElem?_replicate, if_pos hlt] at e
              injection e with e
              exact ⟨hlt, e.symm⟩
            obtain ⟨_, k2, k3⟩ := H.new hb hk (fun _ _ _ => rfl) (.blk w.heap.size) (.row (List.replicate N [z0]) N) (fun b e => by injection e with e; omega)
              (.inr ⟨w.heap.size, List.replicate N v0, 1, updR_same _ _ _, X.hown _ H.size, CellsAt.new w _ ty.elem, by simp, ⟨by simp, by unfold maxLen; omega, fun e => by simpa using e⟩, fun k cs e => by rw [(hrep k cs e).2]; rfl,
                (fun k cs j c e ej => by
                  obtain ⟨hlt, rfl⟩ := hrep k cs e
                  match j, ej with
                  | 0, ej =>
                    injection ej with ej; subst ej
                    exact ⟨v0, by rw [Nat.mul_one, Nat.add_zero, List.getElem?_replicate, if_pos hlt], hr0⟩
                  | j + 1, ej => cases ej),
                fun o => by
                  cases e : Z w.heap.size o with
                  | none => rfl
                  | some u => exact absurd (H.kn.lt e) (by omega)⟩)
            have hv : RdT Z (updR ρ nx (.blk w.heap.size)) (.rw nx N N) (.slice (some ⟨w.heap.size, 0, none⟩) N N) := .rw nx N _ N (updR_same _ _ _) (Nat.le_refl _) (by unfold maxLen; omega)
            obtain ⟨p1, p2, p3⟩ := put_rel (KLe.refl Z) k2 hS hn hd hv
            refine OpRes.wp (.inl ?_) (hK _ _ (hw Z _ _ _ k3 p1 p2 (p3.trans hdf)))
            obtain ⟨dst, op, ty', pos, after, guard⟩ := o
            simp only at ho
            subst ho
            simp [execOp, hl.cI.intI, hc.cI.intI, hrun]
          · cases hq
        · cases hq
      · cases hq
    · cases hq
  · cases hq
def rwAtQ (ti : TI) (a : Slots) (o : Oper) : Option (Nat × Nat × Int × Nat) := match o.op with
  | .indexAddr t x i => (match tget ti t with
    | some ty => (match ty.kind, tget ti ty.elem, evT a x, evT a i with
      | .sl, some e, .rw id n _, .c (.i _ j) => some (id, n, j, e.size)
      | _, _, _, _ => none)
    | none => none)
  | _ => none
theorem Val_rwAt (hti : TIok X.P ti) {o : Oper} {a : Slots} {m : Mem} {id n sz : Nat} {idx : Int} (hq : rwAtQ ti a o = some (id, n, idx, sz)) (j : Nat) (hj : idx = (j : Int)) (hlt : j < n) : Val X a m o (.pe id j 0 sz) := by
  unfold rwAtQ at hq
  split at hq
  · rename_i t x i ho
    split at hq
    · rename_i ty hty
      split at hq
      · rename_i e id' n' cap kk j' hkd hel hx hi
        injection hq with hq
        injection hq with q1 q2
        injection q2 with q2 q3
        injection q3 with q3 q4
        subst q1 q2 q3 q4
        intro Z ρ nx act w H hS
        have hx' := evT_rel hS x
        rw [hx] at hx'
        obtain ⟨b, hb, hv⟩ := hx'.rwI.1.resolve_right (by rintro ⟨h0, _⟩; omega)
        have hi' := (evT_rel hS i)
        rw [hi] at hi'
        have hiv := hi'.cI.intI
        have hu := (hti t ty hty).sl hkd
        have hs := (hti _ e hel).sz
        have hrun : ∀ w, (execOp act.eval o).run X.P w = .ok (.value (.pointer (some ⟨b, 0 + j * e.size, none⟩))) w := fun w => by
          obtain ⟨dst, op, ty', pos, after, guard⟩ := o
          simp only at ho
          subst ho
          rw [hj] at hiv
          have h0 : (0 : Int) ≤ (j : Int) := Int.natCast_nonneg j
          have h1' : (j : Int) < (n' : Int) := by omega
          simp [execOp, hv, hiv, Instr.indexAt, run_underlying hu, asIntOf, hlt, hs, Addr.add_mid]
        rw [Nat.zero_add] at hrun
        exact ⟨_, hrun, .pe id' j 0 e.size b hb⟩
      · cases hq
    · cases hq
  · cases hq
def peLdQ (ti : TI) (n : Nat) (a : Slots) (all : List Oper) (o : Oper) : Option (Nat × Nat × Nat × Nat) := match dstOk n o.dst, gd a all o.guard with
  | true, .yes => (match o.op with
    | .load t x => (match tget ti t, evT a x with
      | some i, .pe id j off sz => (match i.agg with | false => some (id, j, off, sz) | true => none)
      | _, _ => none)
    | _ => none)
  | _, _ => none
theorem W_peLoad (hti : TIok X.P ti) {o : Oper} {r all : List Oper} {ks : List K} {a : Slots} {m : Mem} {nx : Nat} {id j off sz : Nat} {els : List (List C)} {cap : Nat} {cs : List C} {c : C} (hq : peLdQ ti X.n a all o = some (id, j, off, sz)) (hm : mget m id = some (.row els cap)) (he : els[j]? = some cs) (hl : cs.length = sz) (hc : cs[off]? = some c)
    (hw : W X ⟨.ops r all :: ks, put a o.dst (.c c), m, nx⟩) : W X ⟨.ops (o :: r) all :: ks, a, m, nx⟩ := by
  unfold peLdQ at hq
  split at hq
  · rename_i hd hg
    split at hq
    · rename_i t x ho
      split at hq
      · rename_i i id' j' off' sz' hti' hx
        split at hq
        · rename_i hagg
          injection hq with hq
          injection hq with q1 q2
          injection q2 with q2 q3
          injection q3 with q3 q4
          subst q1 q2 q3 q4
          refine W_op hg fun Z ρ act w H hS hn hdf K hK => ?_
          have hx' := evT_rel hS x
          rw [hx] at hx'
          obtain ⟨b, hb, hv⟩ := hx'.peI
          obtain ⟨_, hO⟩ := H.obj id' _ hm
          obtain ⟨b', cells, sz2, k1, k2, k3, k4, _, k5, k6, k7⟩ := hO.resolve_left (by rintro ⟨rfl, _⟩; simp at he)
          rw [hb] at k1; injection k1 with k1; injection k1 with k1; subst k1
          have hsz : sz2 = sz' := by rw [← k5 j' cs he, hl]
          subst hsz
          obtain ⟨u, u1, u2⟩ := k6 j' cs off' c he hc
          have hcell : w.cell? ⟨b, j' * sz2 + off', none⟩ = some u := by rw [k3.cell]; exact u1
          have hag := (hti t i hti').agg w
          rw [hagg] at hag
          obtain ⟨p1, p2, p3⟩ := put_rel (KLe.refl Z) (RLe.refl ρ) hS hn hd (RdT.c c u u2)
          refine OpRes.wp (.inl ?_) (hK _ _ (hw Z ρ _ _ H p1 p2 (p3.trans hdf)))
          obtain ⟨dst, op, ty', pos, after, guard⟩ := o
          simp only at ho
          subst ho
          simp [execOp, hv, Instr.loadAt, Instr.sureAddr, loadVar, hag, hcell]
        · cases hq
      · cases hq
    · cases hq
  · cases hq
def peStQ (ti : TI) (n : Nat) (a : Slots) (all : List Oper) (o : Oper) : Option (Nat × Nat × Nat × Nat × C) := match dstOk n o.dst, gd a all o.guard with
  | true, .yes => (match o.op with
    | .store t x y => (match tget ti t, evT a x, evT a y with
      | some i, .pe id j off sz, .c c => (match Nat.beq i.size 1 with | true => some (id, j, off, sz, c) | false => none)
      | _, _, _ => none)
    | _ => none)
  | _, _ => none
/-- a cell of a row is set -/
theorem Rel.rowSet {Z : Kn} {ρ : Rho} {m : Mem} {nx : Nat} {w : World} (H : Rel X Z ρ m nx w) {id b j off : Nat} {els : List (List C)} {cap : Nat} {cs : List C} {c : C} {v : Value} (hm : mget m id = some (.row els cap)) (hi : ρ id = some (.blk b)) (he : els[j]? = some cs) (ho : off < cs.length) (hv : RdC Z c v) :
    w.there b (j * cs.length + off) 1 ∧ Rel X Z ρ (mset m id (.row (els.set j (cs.set off c)) cap)) nx (w.setCell ⟨b, j * cs.length + off, none⟩ v) := by
  obtain ⟨hid, hO⟩ := H.obj id _ hm
  obtain ⟨b', cells, sz, k1, k2, k3, k4, k4', k5, k6, k7⟩ := hO.resolve_left (by rintro ⟨rfl, _⟩; simp at he)
  rw [hi] at k1; injection k1 with k1; injection k1 with k1; subst k1
  have hsz := k5 j cs he
  subst hsz
  have hjl := (List.getElem?_eq_some_iff.1 he).1
  have hle : j * cs.length + off + 1 ≤ cells.length := by
    rw [k4]
    have : (j + 1) * cs.length ≤ cap * cs.length := Nat.mul_le_mul_right _ (Nat.le_trans hjl k4'.1)
    rw [Nat.succ_mul] at this; omega
  have g1 := k3.setCell (j * cs.length + off) v
  have hbe : Bel X.own w (w.setCell ⟨b, j * cs.length + off, none⟩ v) := bel_setCells k2 [v] (j * cs.length + off) w
  have far : ∀ b', b' ≠ b → (w.setCell ⟨b, j * cs.length + off, none⟩ v).heap[b']? = w.heap[b']? := fun b' hb' => heap_setCell_far hb'
  refine ⟨k3.there hle, H.below.trans hbe, fun b' o u e => ?_, H.z0, H.kle, fun i o e => ?_, fun i i' oi oj b' ei ej => ?_, H.fresh, H.kb, H.anch⟩
  · have hne : b' ≠ b := fun e' => by subst e'; rw [k7] at e; cases e
    exact (World.cell?_of_block (a := ⟨b', o, none⟩) (far b' hne)).trans (H.kn b' o u e)
  · rw [mget_set] at e
    by_cases hj : id = i
    · rw [if_pos hj] at e
      injection e with e; subst hj e
      refine ⟨hid, .inr ⟨b, _, cs.length, hi, k2, g1, by simpa using k4, ⟨by simpa using k4'.1, k4'.2.1, fun e => k4'.2.2 (by simpa using e)⟩, fun k cs' e => ?_, fun k cs' q c' e ej => ?_, k7⟩⟩
      · rw [List.getElem?_set] at e
        split at e
        · first | (split at e; (injection e with e; rw [← e]; simp); cases e) | (injection e with e; rw [← e]; simp)
        · exact k5 k cs' e
      · rw [List.getElem?_set] at e
        split at e
        · rename_i hk
          subst hk
          have e : cs.set off c = cs' := by simpa [hjl] using e
          subst e
          rw [List.getElem?_set] at ej
          split at ej
          · rename_i hq
            subst hq
            have ej : c = c' := by simpa [ho] using ej
            subst ej
            exact ⟨v, by rw [List.getElem?_set]; simp; omega, hv⟩
          · rename_i hq
            obtain ⟨u, u1, u2⟩ := k6 j cs q c' he ej
            exact ⟨u, by rw [List.getElem?_set_ne (by omega)]; exact u1, u2⟩
        · rename_i hk
          obtain ⟨u, u1, u2⟩ := k6 k cs' q c' e ej
          refine ⟨u, ?_, u2⟩
          have hq : q < cs.length := by rw [← k5 k cs' e]; exact (List.getElem?_eq_some_iff.1 ej).1
          rw [List.getElem?_set_ne fun h => ?_]
          · exact u1
          · rcases Nat.lt_or_gt_of_ne hk with h2 | h2
            · have : (j + 1) * cs.length ≤ k * cs.length := Nat.mul_le_mul_right _ h2
              rw [Nat.succ_mul] at this; omega
            · have : (k + 1) * cs.length ≤ j * cs.length := Nat.mul_le_mul_right _ h2
              rw [Nat.succ_mul] at this; omega
    · rw [if_neg hj] at e
      obtain ⟨q1, q2⟩ := H.obj i o e
      refine ⟨q1, q2.keep (KLe.refl _) (RLe.refl _) rfl fun b' hb' => ⟨far b' (fun e' => ?_), fun _ => rfl⟩⟩
      subst e'
      exact hj (H.apart id i _ _ b' hm e ⟨_, hi, rfl⟩ hb')
  · have back : ∀ i oi, mget (mset m id (.row (els.set j (cs.set off c)) cap)) i = some oi → ∃ o, mget m i = some o := fun i oi e => by
      rw [mget_set] at e
      by_cases h : id = i
      · subst h; exact ⟨_, hm⟩
      · rw [if_neg h] at e; exact ⟨_, e⟩
    obtain ⟨oi', ei'⟩ := back i oi ei
    obtain ⟨oj', ej'⟩ := back i' oj ej
    exact H.apart i i' oi' oj' b' ei' ej'
theorem W_peStore (hti : TIok X.P ti) {o : Oper} {r all : List Oper} {ks : List K} {a : Slots} {m : Mem} {nx : Nat} {id j off sz : Nat} {els : List (List C)} {cap : Nat} {cs : List C} {c : C} (hq : peStQ ti X.n a all o = some (id, j, off, sz, c)) (hm : mget m id = some (.row els cap)) (he : els[j]? = some cs) (hl : cs.length = sz) (hc : off < cs.length)
    (hw : W X ⟨.ops r all :: ks, put a o.dst .any, mset m id (.row (els.set j (cs.set off c)) cap), nx⟩) : W X ⟨.ops (o :: r) all :: ks, a, m, nx⟩ := by
  unfold peStQ at hq
  split at hq
  · rename_i hd hg
    split at hq
    · rename_i t x y ho
      split at hq
      · rename_i i id' j' off' sz' c' hti' hx hy
        split at hq
        · rename_i hsize
          injection hq with hq
          injection hq with q1 q2
          injection q2 with q2 q3
          injection q3 with q3 q4
          injection q4 with q4 q5
          subst q1 q2 q3 q4 q5 hl
          refine W_op hg fun Z ρ act w H hS hn hdf K hK => ?_
          have hx' := evT_rel hS x
          rw [hx] at hx'
          obtain ⟨b, hb, hv⟩ := hx'.peI
          have hy' := evT_rel hS y
          rw [hy] at hy'
          have hcv := hy'.cI
          obtain ⟨g1, g2⟩ := H.rowSet hm hb he hc hcv
          have hst := run_storeCells_cells (P := X.P) b (j' * cs.length + off') [act.eval y] 0 w (fun j hj => (g1 j (by simpa using hj)).1) (fun j hj => (g1 j (by simpa using hj)).2) (fun u hu => by rw [List.mem_singleton.1 hu]; exact hcv.one)
          have hsz : (sizeOf t).run X.P w = .ok 1 w := by rw [(hti t i hti').sz w, Nat.eq_of_beq_eq_true hsize]
          obtain ⟨p1, p2, p3⟩ := put_rel (KLe.refl Z) (RLe.refl ρ) hS hn hd (RdT.any undef)
          refine OpRes.wp (.inr ⟨?_, rfl⟩) (hK _ _ (hw Z ρ _ _ g2 p1 p2 (p3.trans hdf)))
          obtain ⟨dst, op, ty', pos, after, guard⟩ := o
          simp only at ho
          subst ho
          have hcl := hcv.cells
          simp only [Nat.add_zero] at hst
          simp [execOp, Instr.storeAt, Instr.sureAddr, storeVar, hsz, hv, hcl, hst]
          rfl
        · cases hq
      · cases hq
    · cases hq
  · cases hq
end
end Go.Proofs.Ytconhpilbndpkaa.Vm
namespace Go.Proofs.Ytconhpilbndpkaa.Vm
open Go.RowKit
set_option linter.unusedVariables false

/-! ### what is known of a result may be said in a weaker form -/
def Le (t t' : T) : Prop := ∀ Z v, RdT Z rho0 t v → RdT Z rho0 t' v
theorem Le.refl (t : T) : Le t t := fun _ _ h => h
theorem Le.nil : Le .nil (.c (.sl [])) := fun Z v h => by
  rw [h.nilI]
  exact .c _ _ (.nl none 0 (Nat.zero_le _))
def LeL : List T → List T → Prop
  | [], [] => True
  | t :: ts, u :: us => Le t u ∧ LeL ts us
  | _, _ => False
theorem LeL.rel {Z : Kn} : ∀ {ts us : List T} {vs : List Value}, LeL ts us → RdTs Z rho0 ts vs → RdTs Z rho0 us vs
  | [], [], vs, _, h => h
  | t :: ts, u :: us, vs, hl, h => by
    obtain ⟨v, vs', rfl, h1, h2⟩ := h.uncons
    exact .cons (hl.1 Z v h1) (hl.2.rel h2)
  | [], _ :: _, _, hl, _ => hl.elim
  | _ :: _, [], _, hl, _ => hl.elim
theorem Le.ag {ts us : List T} (h : LeL ts us) (h1 : ∀ t ∈ us, t.one = true) : Le (.ag ts) (.ag us) := fun Z v hv => by
  obtain ⟨vs, rfl, k1, _⟩ := hv.agI
  have := h.rel k1
  exact .ag us vs this.1 this.2 h1
theorem Le.tu {ts us : List T} (h : LeL ts us) : Le (.tu ts) (.tu us) := fun Z v hv => by
  cases hv with
  | tu _ vs h1 h2 =>
    have := h.rel ⟨h1, h2⟩
    exact .tu us vs this.1 this.2
theorem Ct.weak {P : Program} {f : FuncId} {args : List T} {R R' : T → Prop} (h : Ct P f args R) (k : ∀ t, R t → ∃ t', R' t' ∧ Le t t') : Ct P f args R' := fun w Z vs h1 h2 =>
  Calls.mono (h w Z vs h1 h2) fun e w' ⟨v, t, Z', a1, a2, a3, a4, a5, a6⟩ => by
    obtain ⟨t', b1, b2⟩ := k t a2
    exact ⟨v, t', Z', a1, b1, a3, a4, a5, b2 Z' v a6⟩
/-! ### max, min of two -/
def mxQ (a : Slots) (o : Oper) : Option (Int × Int) := match o.op with
  | .call ⟨.builtin .max, args, _⟩ => (match args.toList with
    | [x, y] => (match evT a x, evT a y with
      | .c (.i .i64 x), .c (.i .i64 y) => some (x, y)
      | _, _ => none)
    | _ => none)
  | _ => none
theorem Val_max {X : Ctx} {a : Slots} {m : Mem} {o : Oper} {x y r : Int} (hq : mxQ a o = some (x, y)) (hr : r = if y > x then y else x) : Val X a m o (.c (.i .i64 r)) := by
  intro Z ρ nx act w H hS
  unfold mxQ at hq
  split at hq
  · rename_i args tys ho
    split at hq
    · rename_i xo yo ha
      split at hq
      · rename_i x' y' h1 h2
        injection hq with hq
        injection hq with e1 e2
        subst e1 e2
        have ea : args = #[xo, yo] := by apply Array.ext'; simpa using ha
        subst ea
        have hx := evT_rel hS xo
        rw [h1] at hx
        have hy := evT_rel hS yo
        rw [h2] at hy
        refine ⟨.int .i64 r, fun W => ?_, .c _ _ (.i _ _)⟩
        obtain ⟨dst, op, ty, pos, after, guard⟩ := o
        simp only at ho
        subst ho
        simp [execOp, resolve, invoke, builtin, Builtin.max_, Builtin.max2, hx.cI.intI, hy.cI.intI, hr]
      · cases hq
    · cases hq
  · cases hq
def mnQ (a : Slots) (o : Oper) : Option (Int × Int) := match o.op with
  | .call ⟨.builtin .min, args, _⟩ => (match args.toList with
    | [x, y] => (match evT a x, evT a y with
      | .c (.i .i64 x), .c (.i .i64 y) => some (x, y)
      | _, _ => none)
    | _ => none)
  | _ => none
theorem Val_min {X : Ctx} {a : Slots} {m : Mem} {o : Oper} {x y r : Int} (hq : mnQ a o = some (x, y)) (hr : r = if y < x then y else x) : Val X a m o (.c (.i .i64 r)) := by
  intro Z ρ nx act w H hS
  unfold mnQ at hq
  split at hq
  · rename_i args tys ho
    split at hq
    · rename_i xo yo ha
      split at hq
      · rename_i x' y' h1 h2
        injection hq with hq
        injection hq with e1 e2
        subst e1 e2
        have ea : args = #[xo, yo] := by apply Array.ext'; simpa using ha
        subst ea
        have hx := evT_rel hS xo
        rw [h1] at hx
        have hy := evT_rel hS yo
        rw [h2] at hy
        refine ⟨.int .i64 r, fun W => ?_, .c _ _ (.i _ _)⟩
        obtain ⟨dst, op, ty, pos, after, guard⟩ := o
        simp only at ho
        subst ho
        simp [execOp, resolve, invoke, builtin, Builtin.min_, Builtin.min2, hx.cI.intI, hy.cI.intI, hr]
      · cases hq
    · cases hq
  · cases hq
end Go.Proofs.Ytconhpilbndpkaa.Vm
