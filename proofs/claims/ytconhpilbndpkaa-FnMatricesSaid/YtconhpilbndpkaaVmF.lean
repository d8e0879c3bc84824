/-
  A machine on values that read as trees: rows that grow.
-/
import Derived.Test.YtconhpilbndpkaaVmE
import Derived.Laws.IdiomCopy
namespace Go.Proofs.Ytconhpilbndpkaa.Vm
open Go.RowKit
set_option linter.unusedVariables false

/-! ### rows that grow -/
def mdel : Mem → Nat → Mem
  | [], _ => []
  | (k, o) :: r, id => match Nat.beq k id with | true => mdel r id | false => (k, o) :: mdel r id
theorem mget_mdel (m : Mem) (id j : Nat) : mget (mdel m id) j = if j = id then none else mget m j := by
  induction m with
  | nil => simp [mdel, mget]
  | cons p m ih =>
    obtain ⟨k, o⟩ := p
    simp only [mdel]
    cases hb : Nat.beq k id with
    | true =>
      have e := Nat.eq_of_beq_eq_true hb
      subst e
      simp only [ih, mget_cons]
      by_cases h : j = k
      · rw [if_pos h, if_pos h]
      · rw [if_neg h, if_neg h, if_neg (fun e => h e.symm)]
    | false =>
      have hne : k ≠ id := fun e => by subst e; simp at hb
      simp only [mget_cons, ih]
      by_cases h : k = j
      · subst h; rw [if_pos rfl, if_neg hne, if_pos rfl]
      · rw [if_neg h]
        by_cases h2 : j = id
        · rw [if_pos h2, if_pos h2]
        · rw [if_neg h2, if_neg h2, if_neg h]
section
variable {ti : TI} {X : Ctx} {z : ZO}
/-- an object takes another name: it is changed in place, or moved to a new block -/
theorem Rel.move {Z : Kn} {ρ : Rho} {m : Mem} {nx : Nat} {w w' : World} (H : Rel X Z ρ m nx w) {id : Nat} {o o' : Obj} {l l' : Loc} (hm : mget m id = some o) (hi : ρ id = some l)
    (hk : KnOk Z w') (hbe : Bel X.own w w') (hnb : ∀ b, l'.B = some b → l.B = some b ∨ w.heap.size ≤ b)
    (hfar : ∀ b, b < w.heap.size → l.B ≠ some b → w'.heap[b]? = w.heap[b]?)
    (ho : ObjR Z (updR ρ nx l') X.own w' nx o') : RLe ρ (updR ρ nx l') ∧ Rel X Z (updR ρ nx l') ((nx, o') :: mdel m id) (nx + 1) w' := by
  have hr := updR_le l' (H.fresh nx (Nat.le_refl _))
  have old : ∀ j oj, mget ((nx, o') :: mdel m id) j = some oj → (j = nx ∧ oj = o') ∨ (j ≠ nx ∧ j ≠ id ∧ mget m j = some oj ∧ j < nx) := fun j oj e => by
    rw [mget_cons] at e
    by_cases h : nx = j
    · rw [if_pos h] at e; injection e with e; exact .inl ⟨h.symm, e.symm⟩
    · rw [if_neg h, mget_mdel] at e
      by_cases h2 : j = id
      · rw [if_pos h2] at e; cases e
      · rw [if_neg h2] at e; exact .inr ⟨fun e => h e.symm, h2, e, (H.obj j oj e).1⟩
  refine ⟨hr, H.below.trans hbe, hk, H.z0, H.kle, fun j oj e => ?_, fun i j oi oj b ei ej bi bj => ?_, fun j hj => ?_, Nat.le_succ_of_le H.kb, fun j hj => (H.anch j hj).trans (hr j)⟩
  · rcases old j oj e with ⟨rfl, rfl⟩ | ⟨h1, h2, h3, h4⟩
    · exact ⟨Nat.lt_succ_self _, ho⟩
    · obtain ⟨q1, q2⟩ := H.obj j oj h3
      refine ⟨by omega, q2.keep (KLe.refl _) hr (updR_ne ρ l' h1) fun b hb => ⟨hfar b (q2.blk hb).2 fun e' => ?_, fun _ => rfl⟩⟩
      exact h2 (H.apart j id oj o b h3 hm hb ⟨l, hi, e'⟩)
  · have blkOld : ∀ i, i ≠ nx → BlkOf (updR ρ nx l') i b → BlkOf ρ i b := fun i hi ⟨l2, k1, k2⟩ => by
      rw [updR_ne ρ l' hi] at k1; exact ⟨l2, k1, k2⟩
    have blkNew : BlkOf (updR ρ nx l') nx b → l.B = some b ∨ w.heap.size ≤ b := fun ⟨l2, k1, k2⟩ => by
      rw [updR_same] at k1; injection k1 with k1; subst k1; exact hnb b k2
    have clash : ∀ i oi, i ≠ nx → i ≠ id → mget m i = some oi → BlkOf (updR ρ nx l') i b → BlkOf (updR ρ nx l') nx b → False := fun i oi h1 h2 h3 hb hn => by
      have hb' := blkOld i h1 hb
      rcases blkNew hn with h4 | h4
      · exact h2 (H.apart i id oi o b h3 hm hb' ⟨l, hi, h4⟩)
      · have := ((H.obj i oi h3).2.blk hb').2; omega
    rcases old i oi ei with ⟨rfl, rfl⟩ | ⟨h1, h2, h3, h4⟩ <;> rcases old j oj ej with ⟨rfl, rfl⟩ | ⟨g1, g2, g3, g4⟩
    · rfl
    · exact (clash j oj g1 g2 g3 bj bi).elim
    · exact (clash i oi h1 h2 h3 bi bj).elim
    · exact H.apart i j oi oj b h3 g3 (blkOld i h1 bi) (blkOld j g1 bj)
  · rw [updR_ne ρ l' (by omega)]
    exact H.fresh j (by omega)
/-- a nil slice is a row without room -/
theorem W_nilRow {ks : List K} {a : Slots} {m : Mem} {nx : Nat} (d : Nat) (hc : get a d = .nil) (h : W X ⟨ks, set a d (.rw nx 0 0), (nx, .row [] 0) :: m, nx + 1⟩) : W X ⟨ks, a, m, nx⟩ := by
  intro Z ρ act w H hS hn hd
  obtain ⟨_, r1, H1⟩ := H.new (Z' := Z) (Below.refl _ _) H.kn (fun _ _ _ => rfl) (.tok (.slice none 0 0) 0) (.row [] 0) (fun b e => by cases e)
    (.inl ⟨rfl, rfl, updR_same _ _ _⟩)
  refine h Z _ act w H1 (fun k => ?_) hn hd
  rw [get_set]
  by_cases hk : d = k
  · subst hk
    rw [if_pos rfl]
    have := hS d
    rw [hc] at this
    rw [this.nilI]
    exact .rn nx
  · rw [if_neg hk]; exact (hS k).mono (KLe.refl _) r1
theorem append_row {Z : Kn} {ρ : Rho} {m : Mem} {nx : Nat} {w : World} (H : Rel X Z ρ m nx w) {id cap sz : Nat} {els ys : List (List C)} {v uy : Value} (hm : mget m id = some (.row els cap)) (hv : RdT Z ρ (.rw id els.length cap) v)
    (hes : ∀ cs ∈ els, cs.length = sz) (hy : RdC Z (.sl ys) uy) (hys : ∀ cs ∈ ys, cs.length = sz) (hp : 0 < sz) {t ty0 el : TypeId} (hu : X.P.underlying t = some (.slice el)) {i : TypeInfo} {zv : Value} (hi : X.P.info? el = some i) (hz : i.zero = some zv) (hsz : i.size = sz) (hby : i.bytes ≤ 1048576) (hzs : zv.cells.size = sz)
    (hb : els.length + ys.length ≤ 67108864) (hne : 0 < ys.length) :
    ∃ v' w' ρ' cap', (Builtin.append_ #[t, t] ty0 #[v, uy]).run X.P w = .ok v' w' ∧ els.length + ys.length ≤ cap' ∧ cap' ≤ maxLen ∧ RLe ρ ρ' ∧ Rel X Z ρ' ((nx, .row (els ++ ys) cap') :: mdel m id) (nx + 1) w' ∧ RdT Z ρ' (.rw nx (els.length + ys.length) cap') v' ∧ ∀ b', b' < w.heap.size → ¬ BlkOf ρ id b' → w'.heap[b']? = w.heap[b']? := by
  obtain ⟨hid, hO⟩ := H.obj id _ hm
  obtain ⟨us, hsrc, hus⟩ := src_rel hy H.kn hys hu
  have hul := hsrc.newsLen
  rw [← hsz] at hsrc
  have hek : ∀ (k : Nat) (cs : List C), (els ++ ys)[k]? = some cs → cs.length = sz := fun k cs e => by
    rcases List.mem_append.1 (List.mem_of_getElem? e) with h | h
    · exact hes cs h
    · exact hys cs h
  -- the cells read as the two lists do
  have read : ∀ (olds rest : List Value), olds.length = els.length * sz → (∀ (k : Nat) (cs : List C) (j : Nat) (c : C), els[k]? = some cs → cs[j]? = some c → ∃ v, olds[k * sz + j]? = some v ∧ RdC Z c v) →
      ∀ (k : Nat) (cs : List C) (j : Nat) (c : C), (els ++ ys)[k]? = some cs → cs[j]? = some c → ∃ v, (olds ++ us ++ rest)[k * sz + j]? = some v ∧ RdC Z c v := fun olds rest hol helt k cs j c e ej => by
    have hj : j < sz := by rw [← hek k cs e]; exact (List.getElem?_eq_some_iff.1 ej).1
    rcases Nat.lt_or_ge k els.length with hk | hk
    · rw [List.getElem?_append_left hk] at e
      obtain ⟨u, q1, q2⟩ := helt k cs j c e ej
      have h1 := (List.getElem?_eq_some_iff.1 q1).1
      exact ⟨u, by rw [List.append_assoc, List.getElem?_append_left h1]; exact q1, q2⟩
    · rw [List.getElem?_append_right hk] at e
      obtain ⟨u, q1, q2⟩ := hus _ cs j c e ej
      have h1 := (List.getElem?_eq_some_iff.1 q1).1
      have hge : els.length * sz ≤ k * sz := Nat.mul_le_mul_right _ hk
      have hsub : k * sz + j - olds.length = (k - els.length) * sz + j := by rw [hol, Nat.sub_mul]; omega
      refine ⟨u, ?_, q2⟩
      rw [List.append_assoc, List.getElem?_append_right (by omega), hsub, List.getElem?_append_left h1]
      exact q1
  have grow : ∀ (l : Loc) (base : Option Addr) (capv : Nat) (olds : List Value), ρ id = some l → v = .slice base els.length capv → (Builtin.firstCells i.size els.length (.slice base els.length capv)).run X.P w.drew = .ok olds.toArray w.drew → olds.length = els.length * sz → capv < els.length + ys.length →
      (∀ (k : Nat) (cs : List C) (j : Nat) (c : C), els[k]? = some cs → cs[j]? = some c → ∃ v, olds[k * sz + j]? = some v ∧ RdC Z c v) →
      ∃ v' w' ρ' cap', (Builtin.append_ #[t, t] ty0 #[v, uy]).run X.P w = .ok v' w' ∧ els.length + ys.length ≤ cap' ∧ cap' ≤ maxLen ∧ RLe ρ ρ' ∧ Rel X Z ρ' ((nx, .row (els ++ ys) cap') :: mdel m id) (nx + 1) w' ∧ RdT Z ρ' (.rw nx (els.length + ys.length) cap') v' ∧ ∀ b', b' < w.heap.size → ¬ BlkOf ρ id b' → w'.heap[b']? = w.heap[b']? := by
    intro l base capv olds hl hve hold hol hgr helt
    have hge := grownCap_ge w (els.length + ys.length) capv el
    have hgm := grownCap_le_maxLen w (els.length + ys.length) capv el (by unfold maxLen; omega)
    have hrun := run_append_grow_src (P := X.P) w t t ty0 el i zv hu hi hz base els.length capv olds hold uy ys.length us hsrc hgr (by omega) (growslice_fits hgr (by
      have : (els.length + ys.length) * i.bytes ≤ 67108864 * 1048576 := Nat.mul_le_mul hb hby
      omega))
    generalize hcap : grownCap w (els.length + ys.length) capv el = cap' at hrun hge hgm
    have hzc : (Builtin.zeroCells zv.cells (cap' - (els.length + ys.length))).toList.length = (cap' - (els.length + ys.length)) * sz := by simp [size_zeroCells, hzs]
    generalize hze : Builtin.zeroCells zv.cells (cap' - (els.length + ys.length)) = zs at hrun hzc
    have hcells : ((olds ++ us).toArray ++ zs) = (olds ++ us ++ zs.toList).toArray := by apply Array.ext'; simp
    rw [hcells, ← hve] at hrun
    have hbl : Below w.heap.size w (w.drew.alloc (.cells (olds ++ us ++ zs.toList).toArray el)) := ((Below.refl _ _).drew).alloc (by simp) _
    have hCA : CellsAt (w.drew.alloc (.cells (olds ++ us ++ zs.toList).toArray el)) w.heap.size (olds ++ us ++ zs.toList) := CellsAt.new w.drew _ el
    have hk : KnOk Z (w.drew.alloc (.cells (olds ++ us ++ zs.toList).toArray el)) := fun b o u e => (hbl.cell (p := ⟨b, o, none⟩) (H.kn.lt e)).trans (H.kn b o u e)
    obtain ⟨q1, q2⟩ := H.move (l' := .blk w.heap.size) (o' := .row (els ++ ys) cap') hm hl hk (Bel.of hbl fun b h => X.hown b (Nat.le_trans H.size h)) (fun b e => by injection e with e; right; omega) (fun b h _ => hbl.block b h)
      (.inr ⟨w.heap.size, _, sz, updR_same _ _ _, X.hown _ H.size, hCA, by
        rw [List.length_append, List.length_append, hol, hul, hzc, ← Nat.add_mul, ← Nat.add_mul]
        congr 1; omega, ⟨by rw [List.length_append]; exact hge, hgm, fun e => by rw [List.append_eq_nil_iff] at e; rw [e.2] at hne; simp at hne⟩, hek, read olds zs.toList hol helt, fun o => by
          cases e : Z w.heap.size o with
          | none => rfl
          | some u => exact absurd (H.kn.lt e) (by omega)⟩)
    exact ⟨_, _, _, cap', hrun, hge, hgm, q1, q2, .rw nx _ _ cap' (updR_same _ _ _) hge hgm, fun b' h _ => hbl.block b' h⟩
  have nilGrow : ∀ l, ρ id = some l → els.length = 0 → v = .slice none 0 0 → ∃ v' w' ρ' cap', (Builtin.append_ #[t, t] ty0 #[v, uy]).run X.P w = .ok v' w' ∧ els.length + ys.length ≤ cap' ∧ cap' ≤ maxLen ∧ RLe ρ ρ' ∧ Rel X Z ρ' ((nx, .row (els ++ ys) cap') :: mdel m id) (nx + 1) w' ∧ (RdT Z ρ' (.rw nx (els.length + ys.length) cap') v' ∧ ∀ b', b' < w.heap.size → ¬ BlkOf ρ id b' → w'.heap[b']? = w.heap[b']?) := fun l hl h0 hv0 => by
    have he := List.eq_nil_of_length_eq_zero h0
    exact grow l none 0 [] hl (by rw [hv0, h0]) (by rw [h0]; exact run_firstCells_none w.drew i.size 0 0 0) (by rw [h0]; simp) (by omega) (fun k cs j c e => by rw [he] at e; simp at e)
  rcases hO with ⟨e1, e2, k1⟩ | ⟨b, cells, sz', k1, k2, k3, k4, k4', k5, k6, k7⟩
  · rcases hv.rwI.1 with ⟨b, h1, _⟩ | ⟨h1, _, h3⟩
    · rw [k1] at h1; injection h1 with h1; cases h1
    · exact nilGrow _ k1 h1 h3
  · rcases hv.rwI.1 with ⟨b', h1, h2⟩ | ⟨h1, _, h3⟩
    rotate_left
    · exact nilGrow _ k1 h1 h3
    rw [k1] at h1; injection h1 with h1; injection h1 with h1; subst h1
    rcases Nat.eq_zero_or_pos els.length with hz0 | hz0
    · have he := List.eq_nil_of_length_eq_zero hz0
      have hc0 := k4'.2.2 he
      exact grow _ (some ⟨b, 0, none⟩) cap [] k1 h2 (run_firstCells_some w.drew i.size els.length _ els.length cap [] (by rw [hz0]; simp) (fun j u hj => by simp at hj)) (by rw [hz0]; simp) (by omega) (fun k cs j c e => by rw [he] at e; simp at e)
    have hszz : sz' = sz := by
      have e := List.getElem?_eq_getElem hz0
      rw [← k5 0 _ e, hes _ (List.mem_of_getElem? e)]
    subst hszz
    by_cases hroom : els.length + ys.length ≤ cap
    · have htot : els.length * sz' + us.length ≤ cells.length := by
        rw [hul, ← Nat.add_mul, k4]
        exact Nat.mul_le_mul_right _ hroom
      obtain ⟨cells', c1, c2, c3⟩ := CellsAt.setCells us (els.length * sz') w cells k3 htot
      have hth := k3.there htot
      have hrun := run_append_room_src (P := X.P) w t t ty0 el i hu hi b 0 els.length cap uy ys.length us hsrc hroom (fun j hj => by rw [hsz, Nat.zero_add]; exact (hth j hj).1) (fun j hj => by rw [hsz, Nat.zero_add]; exact (hth j hj).2)
      rw [hsz, Nat.zero_add] at hrun
      have hk : KnOk Z (w.setCells b (els.length * sz') us) := fun b' o u e => by
        have hne : b' ≠ b := fun e' => by subst e'; rw [k7] at e; cases e
        exact (World.cell?_of_block (a := ⟨b', o, none⟩) (heap_setCells_far hne us _ w)).trans (H.kn b' o u e)
      have hcl : cells'.length = cells.length := c2
      obtain ⟨q1, q2⟩ := H.move (l' := .blk b) (o' := .row (els ++ ys) cap) hm k1 hk (bel_setCells k2 us _ w) (fun b' e => .inl e) (fun b' h hne => heap_setCells_far (fun e => hne (by rw [e]; rfl)) us _ w)
        (.inr ⟨b, cells', sz', updR_same _ _ _, k2, c1, by rw [hcl, k4], ⟨by rw [List.length_append]; exact hroom, k4'.2.1, fun e => by rw [List.append_eq_nil_iff] at e; rw [e.2] at hne; simp at hne⟩, hek, fun k cs j c e ej => by
          have hj : j < sz' := by rw [← hek k cs e]; exact (List.getElem?_eq_some_iff.1 ej).1
          rcases Nat.lt_or_ge k els.length with hkl | hkl
          · rw [List.getElem?_append_left hkl] at e
            obtain ⟨u, r1, r2⟩ := k6 k cs j c e ej
            have : (k + 1) * sz' ≤ els.length * sz' := Nat.mul_le_mul_right _ hkl
            rw [Nat.succ_mul] at this
            exact ⟨u, by rw [c3, if_neg (by omega)]; exact r1, r2⟩
          · rw [List.getElem?_append_right hkl] at e
            obtain ⟨u, r1, r2⟩ := hus _ cs j c e ej
            have h1 := (List.getElem?_eq_some_iff.1 r1).1
            have hge : els.length * sz' ≤ k * sz' := Nat.mul_le_mul_right _ hkl
            have hsub : k * sz' + j - els.length * sz' = (k - els.length) * sz' + j := by rw [Nat.sub_mul]; omega
            refine ⟨u, ?_, r2⟩
            rw [c3, if_pos (by omega), hsub]
            exact r1, k7⟩)
      exact ⟨_, _, _, cap, by rw [h2]; exact hrun, hroom, k4'.2.1, q1, q2, .rw nx _ b cap (updR_same _ _ _) hroom k4'.2.1, fun b' h hne => heap_setCells_far (fun e => hne ⟨_, k1, by rw [e]; rfl⟩) us _ w⟩
    · refine grow _ (some ⟨b, 0, none⟩) cap (cells.take (els.length * sz')) k1 h2 (run_firstCells_some w.drew i.size els.length _ els.length cap _ ?_ ?_) ?_ (by omega) (fun k cs j c e ej => ?_)
      · rw [List.length_take, hsz, k4, Nat.min_eq_left]
        exact Nat.mul_le_mul_right _ k4'.1
      · intro j u hj
        rw [Addr.add_mid, Nat.zero_add]
        have hlt : j < els.length * sz' := by have := (List.getElem?_eq_some_iff.1 hj).1; rw [List.length_take] at this; omega
        rw [List.getElem?_take_of_lt hlt] at hj
        have := k3.cell j
        simp only [World.cell?, World.drew] at this ⊢
        rw [hj] at this
        exact this
      · rw [List.length_take, k4, Nat.min_eq_left]
        exact Nat.mul_le_mul_right _ k4'.1
      · obtain ⟨u, r1, r2⟩ := k6 k cs j c e ej
        refine ⟨u, ?_, r2⟩
        have hk : k < els.length := (List.getElem?_eq_some_iff.1 e).1
        have hj : j < sz' := by rw [← k5 k cs e]; exact (List.getElem?_eq_some_iff.1 ej).1
        have : (k + 1) * sz' ≤ els.length * sz' := Nat.mul_le_mul_right _ hk
        rw [Nat.succ_mul] at this
        rw [List.getElem?_take_of_lt (by omega)]
        exact r1
end
end Go.Proofs.Ytconhpilbndpkaa.Vm
namespace Go.Proofs.Ytconhpilbndpkaa.Vm
open Go.RowKit
set_option linter.unusedVariables false

/-! ### what names a thing of memory -/
mutual
def mentB (id : Nat) : T → Bool
  | .sk k _ => Nat.beq k id
  | .rw k _ _ => Nat.beq k id
  | .pt k _ => Nat.beq k id
  | .pe k _ _ _ => Nat.beq k id
  | .rp k _ _ _ => Nat.beq k id
  | .ag ts => mentBs id ts
  | .tu ts => mentBs id ts
  | .fn _ xs ys => mentBs id xs || mentBs id ys
  | _ => false
def mentBs (id : Nat) : List T → Bool
  | [] => false
  | t :: ts => mentB id t || mentBs id ts
end
theorem mentBs_mem {id : Nat} : ∀ {ts : List T} {t : T}, t ∈ ts → mentB id t = true → mentBs id ts = true
  | x :: ts, t, h, e => by
    simp only [mentBs, Bool.or_eq_true]
    rcases List.mem_cons.1 h with rfl | h
    · exact .inl e
    · exact .inr (mentBs_mem h e)
theorem free_rel {Z : Kn} {ρ ρ2 : Rho} {t : T} {v : Value} (h : RdT Z ρ t v) : (∀ j, mentB j t = true → ρ2 j = ρ j) → RdT Z ρ2 t v := by
  have self : ∀ k, Nat.beq k k = true := fun k => by simp
  induction h with
  | c x v h => intro _; exact .c x v h
  | q e => intro _; exact .q e
  | nil => intro _; exact .nil
  | sk id els v u n h hi hn he => intro hb; exact .sk id els v u n h ((hb id (self id)).trans hi) hn he
  | rw id n b cap hi hc hm => intro hb; exact .rw id n b cap ((hb id (self id)).trans hi) hc hm
  | rn id => intro hb; exact .rn id
  | pt id off b hi => intro hb; exact .pt id off b ((hb id (self id)).trans hi)
  | pf cs b off v hz hr => intro _; exact .pf cs b off v hz hr
  | pe id i off sz b hi => intro hb; exact .pe id i off sz b ((hb id (self id)).trans hi)
  | rp id off n cap b hi => intro hb; exact .rp id off n cap b ((hb id (self id)).trans hi)
  | np => intro _; exact .np
  | ag ts vs h1 h2 h3 ih => intro hb; exact .ag ts vs h1 (fun i t v e1 e2 => ih i t v e1 e2 fun j hj => hb j (mentBs_mem (List.mem_of_getElem? e1) hj)) h3
  | tu ts vs h1 h2 ih => intro hb; exact .tu ts vs h1 (fun i t v e1 e2 => ih i t v e1 e2 fun j hj => hb j (mentBs_mem (List.mem_of_getElem? e1) hj))
  | fn f xs ys us vs h1 h2 h3 h4 ih1 ih2 =>
    intro hb
    exact .fn f xs ys us vs h1 (fun i t v e1 e2 => ih1 i t v e1 e2 fun j hj => hb j (by simp only [mentB, Bool.or_eq_true]; exact .inl (mentBs_mem (List.mem_of_getElem? e1) hj))) h3
      (fun i t v e1 e2 => ih2 i t v e1 e2 fun j hj => hb j (by simp only [mentB, Bool.or_eq_true]; exact .inr (mentBs_mem (List.mem_of_getElem? e1) hj)))
  | nf => intro _; exact .nf
  | any v => intro _; exact .any v
/-- slots that name one of two things are forgotten -/
def dropS (i j : Nat) : Slots → Slots
  | [] => []
  | (k, t) :: a => (k, match mentB i t || mentB j t with | true => .any | false => t) :: dropS i j a
theorem get_dropS (i j k : Nat) : ∀ a : Slots, get (dropS i j a) k = .any ∨ (get (dropS i j a) k = get a k ∧ mentB i (get a k) = false ∧ mentB j (get a k) = false)
  | [] => .inl rfl
  | (p, t) :: a => by
    simp only [dropS, get]
    cases hb : Nat.beq p k with
    | true =>
      simp only
      cases hm : mentB i t || mentB j t with
      | true => exact .inl rfl
      | false => rw [Bool.or_eq_false_iff] at hm; exact .inr ⟨rfl, hm⟩
    | false => exact get_dropS i j k a
def freeM (i j : Nat) : Mem → Bool
  | [] => true
  | (_, .box ts) :: m => !(mentBs i ts || mentBs j ts) && freeM i j m
  | _ :: m => freeM i j m
theorem freeM_get {i j : Nat} : ∀ (m : Mem) {k : Nat} {ts : List T}, freeM i j m = true → mget m k = some (.box ts) → mentBs i ts = false ∧ mentBs j ts = false
  | [], k, ts, _, h => by cases h
  | (p, o) :: m, k, ts, h, e => by
    rw [mget_cons] at e
    by_cases hk : p = k
    · rw [if_pos hk] at e
      injection e with e; subst e
      simp only [freeM, Bool.and_eq_true, Bool.not_eq_true', Bool.or_eq_false_iff] at h
      exact h.1
    · rw [if_neg hk] at e
      cases o with
      | box us => simp only [freeM, Bool.and_eq_true] at h; exact freeM_get m h.2 e
      | tok _ _ => exact freeM_get m h e
      | row _ _ => exact freeM_get m h e
section
variable {ti : TI} {X : Ctx} {z : ZO}
/-- a new thing takes the place of an old one -/
theorem Rel.ren {Z : Kn} {ρ : Rho} {m : Mem} {nx id : Nat} {o : Obj} {l : Loc} {els : List (List C)} {cap : Nat} {w : World} (ho : o = .row els cap) (hidn : id < nx) (H : Rel X Z ρ ((nx, o) :: mdel m id) (nx + 1) w) (hl : ρ nx = some l) (hf : freeM id nx m = true) (hlt : ∀ j oj, mget m j = some oj → j < nx) (hkid : X.k ≤ id) (hknx : X.k ≤ nx) :
    Rel X Z (fun j => if j = id then some l else if j = nx then none else ρ j) (mset m id o) nx w := by
  have other : ∀ j, j ≠ id → j ≠ nx → (fun j => if j = id then some l else if j = nx then none else ρ j) j = ρ j := fun j h1 h2 => by simp only [if_neg h1, if_neg h2]
  have old : ∀ j oj, mget (mset m id o) j = some oj → (j = id ∧ oj = o) ∨ (j ≠ id ∧ mget m j = some oj) := fun j oj e => by
    rw [mget_set] at e
    by_cases h : id = j
    · rw [if_pos h] at e; injection e with e; exact .inl ⟨h.symm, e.symm⟩
    · rw [if_neg h] at e; exact .inr ⟨fun e => h e.symm, e⟩
  have hnx : mget ((nx, o) :: mdel m id) nx = some o := by rw [mget_cons, if_pos rfl]
  have hother : ∀ j oj, j ≠ id → mget m j = some oj → mget ((nx, o) :: mdel m id) j = some oj := fun j oj h1 h2 => by
    rw [mget_cons, if_neg (by have := hlt j oj h2; omega), mget_mdel, if_neg h1]; exact h2
  have blkId : ∀ b, BlkOf (fun j => if j = id then some l else if j = nx then none else ρ j) id b → BlkOf ρ nx b := fun b ⟨l2, k1, k2⟩ => by
    simp only [if_true] at k1
    injection k1 with k1; subst k1
    exact ⟨_, hl, k2⟩
  have blkOt : ∀ j b, j ≠ id → j ≠ nx → BlkOf (fun j => if j = id then some l else if j = nx then none else ρ j) j b → BlkOf ρ j b := fun j b h1 h2 ⟨l2, k1, k2⟩ => ⟨l2, by rw [← other j h1 h2]; exact k1, k2⟩
  refine ⟨H.below, H.kn, H.z0, H.kle, fun j oj e => ?_, fun i j oi oj b ei ej bi bj => ?_, fun j hj => ?_, hknx, fun j hj => (by rw [if_neg (show ¬ j = id by omega), if_neg (show ¬ j = nx by omega)]; exact H.anch j hj)⟩
  · rcases old j oj e with ⟨rfl, rfl⟩ | ⟨h1, h2⟩
    · refine ⟨hidn, ?_⟩
      have hO := (H.obj nx _ hnx).2
      subst ho
      rcases hO with ⟨e1, e2, k1⟩ | ⟨b, cells, sz, k1, k2⟩
      · exact .inl ⟨e1, e2, by simp only [if_true]; rw [← hl]; exact k1⟩
      · exact .inr ⟨b, cells, sz, by simp only [if_true]; rw [← hl]; exact k1, k2⟩
    · have hjn := hlt j oj h2
      refine ⟨hjn, ?_⟩
      have hO := (H.obj j oj (hother j oj h1 h2)).2
      have he := other j h1 (by omega)
      cases oj with
      | box ts =>
        obtain ⟨b, vs, k1, k2, k3, k4, k5, k6⟩ := hO
        obtain ⟨f1, f2⟩ := freeM_get m hf h2
        refine ⟨b, vs, he.trans k1, k2, k3, ⟨k4.1, fun i t v e1 e2 => free_rel (k4.2 i t v e1 e2) fun q hq => other q (fun e => ?_) (fun e => ?_)⟩, k5, k6⟩
        · subst e
          have := mentBs_mem (List.mem_of_getElem? e1) hq
          rw [f1] at this; cases this
        · subst e
          have := mentBs_mem (List.mem_of_getElem? e1) hq
          rw [f2] at this; cases this
      | tok sz els =>
        obtain ⟨v, k1, k2⟩ := hO
        exact ⟨v, he.trans k1, k2⟩
      | row els cap =>
        rcases hO with ⟨e1, e2, k1⟩ | ⟨b, cells, sz, k1, k2⟩
        · exact .inl ⟨e1, e2, he.trans k1⟩
        · exact .inr ⟨b, cells, sz, he.trans k1, k2⟩
  · rcases old i oi ei with ⟨rfl, rfl⟩ | ⟨h1, h2⟩ <;> rcases old j oj ej with ⟨rfl, rfl⟩ | ⟨g1, g2⟩
    · rfl
    · have hjn := hlt j oj g2
      have := H.apart nx j _ oj b hnx (hother j oj g1 g2) (blkId b bi) (blkOt j b g1 (by omega) bj)
      omega
    · have hin := hlt i oi h2
      have := H.apart i nx oi _ b (hother i oi h1 h2) hnx (blkOt i b h1 (by omega) bi) (blkId b bj)
      omega
    · exact H.apart i j oi oj b (hother i oi h1 h2) (hother j oj g1 g2) (blkOt i b h1 (by have := hlt i oi h2; omega) bi) (blkOt j b g1 (by have := hlt j oj g2; omega) bj)
  · rw [if_neg (by omega)]
    by_cases h : j = nx
    · rw [if_pos h]
    · rw [if_neg h]; exact H.fresh j (by omega)
theorem W_rowApp (hti : TIok X.P ti) {o : Oper} {r all : List Oper} {ks : List K} {a : Slots} {m : Mem} {nx : Nat} {id n cap sz : Nat} {els ys : List (List C)} (hq : appQ ti X.n a all o = some (.rw id n cap, ys, sz)) (hm : mget m id = some (.row els cap)) (hf : freeM id nx m = true)
    (hn : n = els.length) (hes : ∀ cs ∈ els, cs.length = sz) (hs : ∀ cs ∈ ys, cs.length = sz) (hl : els.length + ys.length ≤ 67108864) (hne : 0 < ys.length)
    (hw : ∀ cap', els.length + ys.length ≤ cap' → cap' ≤ maxLen → W X ⟨.ops r all :: ks, put (dropS id nx a) o.dst (.rw id (els.length + ys.length) cap'), mset m id (.row (els ++ ys) cap'), nx⟩) (hkid : X.k ≤ id := by first | exact Nat.zero_le _ | exact Nat.le_of_ble_eq_true rfl) : W X ⟨.ops (o :: r) all :: ks, a, m, nx⟩ := by
  obtain ⟨hd, hg, hp, xo, yo, t, el, i, zv, ho, hx, hy, hu, hi, hz, hsz, hby, hzs⟩ := appQ_some hti hq
  refine W_op hg fun Z ρ act w H hS hn' hdf K hK => ?_
  have hxr := evT_rel hS xo
  rw [hx, hn] at hxr
  obtain ⟨v', w', ρ', cap', h1, h2, h3, h4, h5, h6, -⟩ := append_row (ty0 := o.type) H hm hxr hes (elsOf_rel (evT_rel hS yo) hy) hs hp hu hi hz hsz hby hzs hl hne
  have hidn := (H.obj id _ hm).1
  obtain ⟨b, hb, hv'⟩ : ∃ b, ρ' nx = some (.blk b) ∧ v' = .slice (some ⟨b, 0, none⟩) (els.length + ys.length) cap' := by
    rcases h6.rwI.1 with h | ⟨h, _⟩
    · exact h
    · omega
  have H2 := h5.ren rfl hidn hb hf (fun j oj e => (H.obj j oj e).1) hkid H.kb
  have hS2 : RdS Z (fun j => if j = id then some (.blk b) else if j = nx then none else ρ' j) (dropS id nx a) act.tmps := fun k => by
    rcases get_dropS id nx k a with h | ⟨h, f1, f2⟩
    · rw [h]; exact .any _
    · rw [h]
      refine free_rel ((hS k).mono (KLe.refl _) h4) fun q hq => ?_
      have e1 : q ≠ id := fun e => by rw [e] at hq; exact absurd (hq.symm.trans f1) (by decide)
      have e2 : q ≠ nx := fun e => by rw [e] at hq; exact absurd (hq.symm.trans f2) (by decide)
      simp only [if_neg e1, if_neg e2]
  have hr : RdT Z (fun j => if j = id then some (.blk b) else if j = nx then none else ρ' j) (.rw id (els.length + ys.length) cap') v' := by
    rw [hv']
    exact .rw id _ b cap' (by simp only [if_true]) h2 h3
  obtain ⟨p1, p2, p3⟩ := put_rel (KLe.refl Z) (RLe.refl _) hS2 hn' hd hr
  exact OpRes.wp (.inl (app_exec ho rfl rfl h1)) (hK _ _ (hw cap' h2 h3 Z _ _ w' H2 p1 p2 (p3.trans hdf)))
end
end Go.Proofs.Ytconhpilbndpkaa.Vm
namespace Go.Proofs.Ytconhpilbndpkaa.Vm
open Go.RowKit
set_option linter.unusedVariables false

section
variable {ti : TI} {X : Ctx} {z : ZO}
theorem subM_mdel (m : Mem) (id : Nat) : SubM (mdel m id) m := fun j o e => by
  rw [mget_mdel] at e
  by_cases h : j = id
  · rw [if_pos h] at e; cases e
  · rw [if_neg h] at e; exact e
/-- a row of one's own is done with: what it holds is known from now on -/
theorem W_freeze {ks : List K} {a : Slots} {m : Mem} {nx : Nat} (d : Nat) {id n cap : Nat} {els : List (List C)} (hc : get a d = .rw id n cap) (hm : mget m id = some (.row els cap)) (hn : n = els.length)
    (h : W X ⟨ks, set a d (.c (.sl els)), mdel m id, nx⟩) : W X ⟨ks, a, m, nx⟩ := by
  intro Z ρ act w H hS hsz hd
  have hdv := hS d
  rw [hc, hn] at hdv
  have setRel : ∀ (Z' : Kn), KLe Z Z' → RdC Z' (.sl els) (act.tmps.getD d undef) → RdS Z' ρ (set a d (.c (.sl els))) act.tmps := fun Z' hle hr k => by
    rw [get_set]
    by_cases hk : d = k
    · subst hk; rw [if_pos rfl]; exact .c _ _ hr
    · rw [if_neg hk]; exact (hS k).mono hle (RLe.refl _)
  have nilCase : els = [] → act.tmps.getD d undef = .slice none 0 0 → SK X ks .normal act w ∨ True := fun _ _ => .inr trivial
  rcases hdv.rwI.1 with ⟨b, hb, hv⟩ | ⟨h0, _, hv⟩
  · obtain ⟨hid, hO⟩ := H.obj id _ hm
    rcases hO with ⟨e1, e2, k1⟩ | ⟨b', cells, sz, k1, k2, k3, k4, k4', k5, k6, k7⟩
    · rw [hb] at k1; injection k1 with k1; cases k1
    · rw [hb] at k1; injection k1 with k1; injection k1 with k1; subst k1
      let Z' : Kn := fun b' o => if b' = b then (cells.take (els.length * sz))[o]? else Z b' o
      have hZ' : ∀ b' o, b' ≠ b → Z' b' o = Z b' o := fun b' o h => if_neg h
      have hZb : ∀ o, Z' b o = (cells.take (els.length * sz))[o]? := fun o => if_pos rfl
      have hle : KLe Z Z' := fun b' o u e => (hZ' b' o (fun h => by subst h; rw [k7] at e; cases e)).trans e
      have hk : KnOk Z' w := fun b' o u e => by
        by_cases hbb : b' = b
        · subst hbb
          rw [hZb] at e
          have hlt := (List.getElem?_eq_some_iff.1 e).1
          rw [List.length_take] at hlt
          rw [List.getElem?_take_of_lt (by omega)] at e
          rw [k3.cell]; exact e
        · rw [hZ' b' o hbb] at e; exact H.kn b' o u e
      have hr : RdC Z' (.sl els) (act.tmps.getD d undef) := by
        rw [hv]
        refine RdC.mk k5 (fun k cs j c e ej => ?_) k4'.1 k4'.2.1
        obtain ⟨u, r1, r2⟩ := k6 k cs j c e ej
        have hkl : k < els.length := (List.getElem?_eq_some_iff.1 e).1
        have hj : j < sz := by rw [← k5 k cs e]; exact (List.getElem?_eq_some_iff.1 ej).1
        have : (k + 1) * sz ≤ els.length * sz := Nat.mul_le_mul_right _ hkl
        rw [Nat.succ_mul] at this
        exact ⟨u, by rw [hZb, List.getElem?_take_of_lt (by omega)]; exact r1, r2.mono hle⟩
      have H0 := H.sub (subM_mdel m id)
      have H' : Rel X Z' ρ (mdel m id) nx w := ⟨H0.below, hk, fun b' o h => (hZ' b' o (fun e' => h (by rw [e']; exact k2))).trans (H0.z0 b' o h), H0.kle.trans hle, (fun j oj e => by
        obtain ⟨q1, q2⟩ := H0.obj j oj e
        refine ⟨q1, q2.keep hle (RLe.refl _) rfl fun b' hb' => ⟨rfl, fun o => hZ' b' o fun e' => ?_⟩⟩
        subst e'
        have hj := H.apart j id oj _ b' (subM_mdel m id _ _ e) hm hb' ⟨_, hb, rfl⟩
        subst hj
        rw [mget_mdel, if_pos rfl] at e; cases e), H0.apart, H0.fresh, H0.kb, H0.anch⟩
      exact h Z' ρ act w H' (setRel Z' hle hr) hsz hd
  · have he := List.eq_nil_of_length_eq_zero h0
    exact h Z ρ act w (H.sub (subM_mdel m id)) (setRel Z (KLe.refl Z) (by rw [hv, he]; exact .nl none 0 (Nat.zero_le _))) hsz hd
end
end Go.Proofs.Ytconhpilbndpkaa.Vm
namespace Go.Proofs.Ytconhpilbndpkaa.Vm
open Go.RowKit
set_option linter.unusedVariables false

section
variable {ti : TI} {X : Ctx} {z : ZO}
/-! ### closures -/
def mkfQ (a : Slots) (o : Oper) : Option (FuncId × List T) := match o.op with
  | .makeFunc (.func f) xs ys => (match xs.toList with
    | [] => some (f, evTs a ys.toList)
    | _ => none)
  | _ => none
theorem Val_makeFunc {a : Slots} {m : Mem} {o : Oper} {f : FuncId} {caps : List T} (hq : mkfQ a o = some (f, caps)) : Val X a m o (.fn f [] caps) := by
  unfold mkfQ at hq
  split at hq
  · rename_i f' xs ys ho
    split at hq
    · rename_i hxs
      injection hq with hq
      injection hq with e1 e2
      subst e1 e2
      intro Z ρ nx act w H hS
      have hxs' : xs = #[] := by
        apply Array.ext'
        simpa using hxs
      subst hxs'
      have hv := evTs_rel hS ys.toList
      refine ⟨.func (.func f') #[] (ys.map act.eval), fun W => ?_, ?_⟩
      · obtain ⟨dst, op, ty, pos, after, guard⟩ := o
        simp only at ho
        subst ho
        simp [execOp, Instr.makeFunc]
      · have := RdT.fn (Z := Z) (ρ := ρ) f' [] (evTs a ys.toList) [] (ys.toList.map act.eval) rfl (fun i t v h => by simp at h) hv.1 hv.2
        have e : (ys.toList.map act.eval).toArray = ys.map act.eval := by
          apply Array.ext'
          simp
        rw [e] at this
        exact this
    · cases hq
  · cases hq
/-! ### a box that is not written any more -/
theorem W_freezeB {ks : List K} {a : Slots} {m : Mem} {nx : Nat} (d : Nat) {id : Nat} {ts : List T} {cs : List C} (hc : get a d = .pt id 0) (hm : mget m id = some (.box ts)) (hts : toCs ts = some cs)
    (h : W X ⟨ks, set a d (.pf cs), mdel m id, nx⟩) : W X ⟨ks, a, m, nx⟩ := by
  intro Z ρ act w H hS hsz hd
  have hdv := hS d
  rw [hc] at hdv
  obtain ⟨b, hb, hv⟩ := hdv.ptI
  obtain ⟨hid, b', vs, k1, k2, k3, k4, k5, k6⟩ := H.obj id _ hm
  rw [hb] at k1; injection k1 with k1; injection k1 with k1; subst k1
  obtain ⟨l1, l2⟩ := toCs_rel k4 hts
  let Z' : Kn := fun b' o => if b' = b then vs[o]? else Z b' o
  have hZ' : ∀ b' o, b' ≠ b → Z' b' o = Z b' o := fun b' o h => if_neg h
  have hZb : ∀ o, Z' b o = vs[o]? := fun o => if_pos rfl
  have hle : KLe Z Z' := fun b' o u e => (hZ' b' o (fun h => by subst h; rw [k6] at e; cases e)).trans e
  have hk : KnOk Z' w := fun b' o u e => by
    by_cases hbb : b' = b
    · subst hbb
      rw [hZb] at e
      rw [k3.cell]; exact e
    · rw [hZ' b' o hbb] at e; exact H.kn b' o u e
  have hr : RdT Z' ρ (.pf cs) (act.tmps.getD d undef) := by
    rw [hv]
    refine .pf cs b 0 (fun j => vs.getD j undef) (fun j c e => ?_) (fun j c e => ?_)
    · have hj : j < vs.length := by rw [← l1]; exact (List.getElem?_eq_some_iff.1 e).1
      rw [hZb, Nat.zero_add]
      simp [hj]
    · have hj : j < vs.length := by rw [← l1]; exact (List.getElem?_eq_some_iff.1 e).1
      have : vs.getD j undef = vs[j] := by simp [hj]
      rw [this]
      exact (l2 j c _ e (List.getElem?_eq_getElem hj)).mono hle
  have H0 := H.sub (subM_mdel m id)
  have H' : Rel X Z' ρ (mdel m id) nx w := ⟨H0.below, hk, fun b' o h => (hZ' b' o (fun e' => h (by rw [e']; exact k2))).trans (H0.z0 b' o h), H0.kle.trans hle, (fun j oj e => by
    obtain ⟨q1, q2⟩ := H0.obj j oj e
    refine ⟨q1, q2.keep hle (RLe.refl _) rfl fun b' hb' => ⟨rfl, fun o => hZ' b' o fun e' => ?_⟩⟩
    subst e'
    have hj := H.apart j id oj _ b' (subM_mdel m id _ _ e) hm hb' ⟨_, hb, rfl⟩
    subst hj
    rw [mget_mdel, if_pos rfl] at e; cases e), H0.apart, H0.fresh, H0.kb, H0.anch⟩
  refine h Z' ρ act w H' (fun k => ?_) hsz hd
  rw [get_set]
  by_cases hk : d = k
  · subst hk; rw [if_pos rfl]; exact hr
  · rw [if_neg hk]; exact (hS k).mono hle (RLe.refl _)
/-! ### an element of a row is loaded in a region that draws its order -/
theorem D_peLoad (hti : TIok X.P ti) {ks : List K} {ops : List Oper} {esc : List Nat} {m0 : Mem} {i : Nat} {r : PT} {a : Slots} {m : Mem} {nx : Nat} {o : Oper} {id j off sz : Nat} {els : List (List C)} {cap : Nat} {cs : List C} {c : C} (ho : nth ops i = some o) (hq : peLdQ ti X.n a ops o = some (id, j, off, sz)) (hm : mget m0 id = some (.row els cap)) (he : els[j]? = some cs) (hl : cs.length = sz) (hc : cs[off]? = some c)
    (hw : D X ks ops esc m0 ⟨r, put a o.dst (.c c), m, nx, true⟩) : D X ks ops esc m0 ⟨.cons (1, i) r, a, m, nx, true⟩ := by
  rw [nth_eq] at ho
  have ho' : ops.toArray[i]? = some o := by simpa using ho
  unfold peLdQ at hq
  split at hq
  · rename_i hd hg
    split at hq
    · rename_i t x hop
      split at hq
      · rename_i ty id' j' off' sz' hti' hx
        split at hq
        · rename_i hagg
          injection hq with hq
          injection hq with q1 q2
          injection q2 with q2 q3
          injection q3 with q3 q4
          subst q1 q2 q3 q4
          intro Z0 ρ0 w0 Z ρ act w H hS hn hdf hZ hT hB hst
          obtain ⟨rfl, rfl, hsub⟩ := hst rfl
          have hwant : Region.wanted o (yielded ops.toArray act.tmps) = true := (gd_wanted hS).1 hg
          have hx' := evT_rel hS x
          rw [hx] at hx'
          obtain ⟨b, hb, hv⟩ := hx'.peI
          obtain ⟨_, hO⟩ := (H.sub hsub).obj id' _ hm
          obtain ⟨b', cells, sz2, k1, k2, k3, k4, _, k5, k6, k7⟩ := hO.resolve_left (by rintro ⟨rfl, _⟩; simp at he)
          rw [hb] at k1; injection k1 with k1; injection k1 with k1; subst k1
          have hsz : sz2 = sz' := by rw [← k5 j' cs he, hl]
          subst hsz
          obtain ⟨u, u1, u2⟩ := k6 j' cs off' c he hc
          obtain ⟨p1, p2, p3⟩ := put_rel (KLe.refl Z0) (RLe.refl ρ0) hS hn hd (RdT.c c u u2)
          refine dynL_take ho' hwant (fun W hW => ?_) (hw Z0 ρ0 w0 Z0 ρ0 _ w H p1 p2 (p3.trans hdf) hZ hT hB (fun _ => ⟨rfl, rfl, hsub⟩))
          have hcell : W.cell? ⟨b, j' * sz2 + off', none⟩ = some u := by rw [(k3.keep ((hT.two hW).2 id' _ b hm rfl hb)).cell]; exact u1
          have hag := (hti t ty hti').agg W
          rw [hagg] at hag
          obtain ⟨dst, op, ty', pos, after, guard⟩ := o
          simp only at hop
          subst hop
          simp [execOp, hv, Instr.loadAt, Instr.sureAddr, loadVar, hag, hcell]
        · cases hq
      · cases hq
    · cases hq
  · cases hq
/-! ### a part of a row -/
def rwPartQ (ti : TI) (a : Slots) (o : Oper) : Option (Nat × Nat × Nat × Int × Nat) := match o.op with
  | .slice t x (some lo) none none => (match tget ti t with
    | some ty => (match ty.kind, tget ti ty.elem, evT a x, evT a lo with
      | .sl, some e, .rw id n cap, .c (.i .i64 l) => some (id, n, cap, l, e.size)
      | _, _, _, _ => none)
    | none => none)
  | _ => none
theorem Val_rwPart (hti : TIok X.P ti) {o : Oper} {a : Slots} {m : Mem} {id n cap sz : Nat} {lo : Int} (hq : rwPartQ ti a o = some (id, n, cap, lo, sz)) (l off : Nat) (h1 : lo = (l : Int)) (hl : l ≤ n) (hn : 0 < n) (ho : off = if cap = l then 0 else l * sz) : Val X a m o (.rp id off (n - l) (cap - l)) := by
  unfold rwPartQ at hq
  split at hq
  · rename_i t x lo' hop
    split at hq
    · rename_i ty hty
      split at hq
      · rename_i e id' n' cap' l' hkd hel hx hlo
        injection hq with hq
        injection hq with q1 q2
        injection q2 with q2 q3
        injection q3 with q3 q4
        injection q4 with q4 q5
        subst q1 q2 q3 q4 q5
        intro Z ρ nx act w H hS
        have hxr := evT_rel hS x
        rw [hx] at hxr
        obtain ⟨b, hb, hv⟩ := hxr.rwI.1.resolve_right (by rintro ⟨h0, _⟩; omega)
        have hnc := hxr.rwI.2.1
        have hlv := evT_rel hS lo'
        rw [hlo] at hlv
        have hlv := hlv.cI.intI
        have hu := (hti t ty hty).sl hkd
        have hel' : X.P.elem t = ty.elem := by simp [Program.elem, hu]
        have hu' : X.P.underlying t = some (.slice (X.P.elem t)) := by rw [hel']; exact hu
        have hs := (hti _ e hel).sz
        have hrun : ∀ w, (Instr.sliceAt t (act.eval x) (some (act.eval lo')) none none).run X.P w = .ok (sliced (some ⟨b, 0, none⟩) l n' cap' e.size) w := fun w => by
          rw [hv, hlv, h1, run_sliceAt_slice (w := w) t _ _ _ _ hu']
          rw [run_slice_l (w := w) t _ _ _ hu' _ _ (Int.natCast_nonneg _) (by omega), hel', hs]; simp [Result.andThen]
        refine ⟨sliced (some ⟨b, 0, none⟩) l n' cap' e.size, fun W => ?_, ?_⟩
        · obtain ⟨dst, op2, ty2, pos, after, guard⟩ := o
          simp only at hop
          subst hop
          have := hrun W
          simp only [execOp, Option.map_none, Option.map_some, Sem.run_bind, this]
          rfl
        · unfold sliced
          by_cases hc : cap' = l
          · rw [if_pos hc] at ho ⊢
            subst ho
            exact .rp id' 0 _ _ b hb
          · rw [if_neg hc] at ho ⊢
            subst ho
            rw [Option.map_some, Addr.add_mid, Nat.zero_add]
            exact .rp id' _ _ _ b hb
      · cases hq
    · cases hq
  · cases hq
theorem RdT.rpI {Z : Kn} {ρ : Rho} {id off n cap : Nat} {v : Value} (h : RdT Z ρ (.rp id off n cap) v) : ∃ b, ρ id = some (.blk b) ∧ v = .slice (some ⟨b, off, none⟩) n cap := by
  cases h with
  | rp _ _ _ _ b hi => exact ⟨b, hi, rfl⟩
/-! ### parts of a row are copied -/
def setsL (els : List (List C)) (o : Nat) : List C → List (List C)
  | [] => els
  | c :: cs => setsL (els.set o [c]) (o + 1) cs
theorem setsL_length : ∀ (cs : List C) (els : List (List C)) (o : Nat), (setsL els o cs).length = els.length
  | [], els, o => rfl
  | c :: cs, els, o => by rw [setsL, setsL_length cs]; simp
theorem setsL_get : ∀ (cs : List C) (els : List (List C)) (o : Nat), o + cs.length ≤ els.length → ∀ j : Nat, (setsL els o cs)[j]? = if o ≤ j ∧ j < o + cs.length then (cs[j - o]?).map fun c => [c] else els[j]?
  | [], els, o, _, j => by rw [if_neg (by simp)]; rfl
  | c :: cs, els, o, h, j => by
    simp only [List.length_cons] at h
    rw [setsL, setsL_get cs _ _ (by simp; omega)]
    by_cases hj : o = j
    · subst hj
      rw [if_neg (by omega), if_pos (by simp), List.getElem?_set_self (by omega)]
      simp
    · by_cases hc : o + 1 ≤ j ∧ j < o + 1 + cs.length
      · rw [if_pos hc, if_pos (by simp; omega), show j - o = (j - (o + 1)) + 1 by omega, List.getElem?_cons_succ]
      · rw [if_neg hc, if_neg (by simp; omega), List.getElem?_set_ne hj]
theorem mset_mset (m : Mem) (k : Nat) (x y : Obj) : mset (mset m k x) k y = mset m k y := by
  induction m with
  | nil => simp [mset]
  | cons p m ih =>
    simp only [mset]
    cases hb : Nat.beq p.1 k with
    | true => simp [mset]
    | false => simp only [mset, hb, ih]
theorem Rel.rowSets {Z : Kn} {ρ : Rho} {id b cap nx : Nat} (hi : ρ id = some (.blk b)) : ∀ (us : List Value) (cs : List C) (o : Nat) (els : List (List C)) (m : Mem) (w : World), Rel X Z ρ m nx w → mget m id = some (.row els cap) → (∀ cs ∈ els, cs.length = 1) → o + us.length ≤ els.length → cs.length = us.length → (∀ (j : Nat) (c : C) (u : Value), cs[j]? = some c → us[j]? = some u → RdC Z c u) →
    us ≠ [] → Rel X Z ρ (mset m id (.row (setsL els o cs) cap)) nx (w.setCells b o us)
  | [], cs, o, els, m, w, H, hm, hone, hl, hlen, hus, hne => absurd rfl hne
  | u :: us, cs, o, els, m, w, H, hm, hone, hl, hlen, hus, _ => by
    cases cs with
    | nil => cases hlen
    | cons c cs =>
      simp only [List.length_cons] at hl hlen
      have he : els[o]? = some els[o] := List.getElem?_eq_getElem (by omega)
      have h1 := hone els[o] (List.getElem_mem (by omega))
      obtain ⟨_, H1⟩ := H.rowSet (off := 0) (c := c) hm hi he (by omega) (hus 0 c u rfl rfl)
      rw [h1, Nat.mul_one, Nat.add_zero] at H1
      have e0 : els[o].set 0 c = [c] := by
        cases hx : els[o] with
        | nil => rw [hx] at h1; cases h1
        | cons y ys => rw [hx] at h1; simp at h1; subst h1; rfl
      rw [e0] at H1
      by_cases hus0 : us = []
      · subst hus0
        have : cs = [] := List.eq_nil_of_length_eq_zero (by simpa using hlen)
        subst this
        exact H1
      · have := Rel.rowSets hi us cs (o + 1) (els.set o [c]) _ _ H1 (by rw [mget_set, if_pos rfl]) (fun x hx => by
          rcases List.mem_or_eq_of_mem_set hx with h | h
          · exact hone x h
          · rw [h]; rfl) (by simp; omega) (by omega) (fun j c' u' e1 e2 => hus (j + 1) c' u' (by simpa using e1) (by simpa using e2)) hus0
        rw [mset_mset] at this
        rw [World.setCells]
        exact this
def copyQ (ti : TI) (a : Slots) (o : Oper) : Option (Nat × Nat × Nat × Nat × Nat × Nat × Nat) := match o.op with
  | .call ⟨.builtin .copy, args, tys⟩ => (match args.toList, tys.toList with
    | [x, y], [t, s] => (match tget ti t with
      | some ty => (match ty.kind, tget ti ty.elem, evT a x, evT a y with
        | .sl, some e, .rp id o1 n1 c1, .rp id2 o2 n2 c2 => (match Nat.beq e.size 1, Nat.beq id id2 with
          | true, true => some (id, o1, n1, c1, o2, n2, c2)
          | _, _ => none)
        | _, _, _, _ => none)
      | none => none)
    | _, _ => none)
  | _ => none
/-- what the parts' copy leaves -/
def shiftL (els : List (List C)) (o1 o2 n : Nat) : List (List C) := setsL els o1 (((els.drop o2).take n).map fun cs => cs.getD 0 .np)
theorem D_rowCopy (hti : TIok X.P ti) {ks : List K} {ops : List Oper} {esc : List Nat} {m0 : Mem} {i : Nat} {a : Slots} {m : Mem} {nx : Nat} {st : Bool} {o : Oper} {id o1 n1 c1 o2 n2 c2 : Nat} {els : List (List C)} {cap : Nat} (ho : nth ops i = some o) (he : memB i esc = true) (hd : dstOk X.n o.dst = true) (hg : gd a ops o.guard = .yes) (hq : copyQ ti a o = some (id, o1, n1, c1, o2, n2, c2))
    (hm : mget m id = some (.row els cap)) (hone : ∀ cs ∈ els, cs.length = 1) (h1 : o1 + Nat.min n2 n1 ≤ els.length) (h2 : o2 + Nat.min n2 n1 ≤ els.length)
    (hw : W X ⟨ks, put a o.dst .any, mset m id (.row (shiftL els o1 o2 (Nat.min n2 n1)) cap), nx⟩) : D X ks ops esc m0 ⟨.cons (0, i) .nil, a, m, nx, st⟩ := by
  rw [nth_eq] at ho
  have ho' : ops.toArray[i]? = some o := by simpa using ho
  unfold copyQ at hq
  split at hq
  · rename_i args tys hop
    split at hq
    · rename_i x y t s hargs htys
      split at hq
      · rename_i ty hty
        split at hq
        · rename_i e id' p1 p2 p3 id2 p4 p5 p6 hkd hel hx hy
          split at hq
          · rename_i hb1 hb2
            injection hq with hq
            injection hq with q1 hq
            injection hq with q2 hq
            injection hq with q3 hq
            injection hq with q4 hq
            injection hq with q5 hq
            injection hq with q6 q7
            subst q1 q2 q3 q4 q5 q6 q7
            obtain rfl := Nat.eq_of_beq_eq_true hb2
            intro Z0 ρ0 w0 Z ρ act w H hS hn hdf hZ hT hB hst
            have hwant : Region.wanted o (yielded ops.toArray act.tmps) = true := (gd_wanted hS).1 hg
            have hxr := evT_rel hS x
            rw [hx] at hxr
            obtain ⟨b, hb, hv⟩ := hxr.rpI
            have hyr := evT_rel hS y
            rw [hy] at hyr
            obtain ⟨b', hb', hv'⟩ := hyr.rpI
            rw [hb] at hb'; injection hb' with hb'; injection hb' with hb'; subst hb'
            have hu := (hti t ty hty).sl hkd
            have hs : (X.P.info? ty.elem).map (·.size) = some 1 := by rw [(hti _ e hel).size, Nat.eq_of_beq_eq_true hb1]
            have hargs' : args = #[x, y] := by apply Array.ext'; simpa using hargs
            have htys' : tys = #[t, s] := by apply Array.ext'; simpa using htys
            subst hargs' htys'
            obtain ⟨p1', p2', p3'⟩ := put_rel (KLe.refl Z) (RLe.refl ρ) hS hn hd (RdT.any (goInt (Nat.min p5 p2)))
            have key : ∃ w', (Builtin.copy_ #[t, s] o.type #[act.eval x, act.eval y]).run X.P w = .ok (goInt (Nat.min p5 p2)) w' ∧ Rel X Z ρ (mset m id' (.row (shiftL els p1 p4 (Nat.min p5 p2)) cap)) nx w' := by
              rw [hv, hv']
              by_cases h0 : Nat.min p5 p2 = 0
              · refine ⟨w, ?_, ?_⟩
                · rw [run_copy_none w t s o.type ty.elem _ _ p2 p3 p5 p6 hu hs h0, h0]; rfl
                · rw [h0]
                  have : mset m id' (.row (shiftL els p1 p4 0) cap) = mset m id' (.row els cap) := by simp [shiftL, setsL]
                  rw [this]
                  exact H.sub fun j oj e => by
                    rw [mget_set] at e
                    by_cases hj : id' = j
                    · rw [if_pos hj] at e; injection e with e; subst hj e; exact hm
                    · rw [if_neg hj] at e; exact e
              · obtain ⟨_, hO⟩ := H.obj id' _ hm
                obtain ⟨b', cells, sz, k1, k2, k3, k4, k4', k5, k6, k7⟩ := hO.resolve_left (by
                  rintro ⟨rfl, _⟩
                  simp only [List.length_nil] at h1
                  omega)
                rw [hb] at k1; injection k1 with k1; injection k1 with k1; subst k1
                generalize hN : Nat.min p5 p2 = N at *
                have hel0 : 0 < els.length := by omega
                have hsz : sz = 1 := by
                  have e0 := List.getElem?_eq_getElem hel0
                  rw [← k5 0 _ e0]; exact hone _ (List.mem_of_getElem? e0)
                subst hsz
                have hcl : els.length ≤ cells.length := by rw [k4]; omega
                have hlen : ((cells.drop p4).take N).length = N := by rw [List.length_take, List.length_drop]; omega
                have hg1 : ∀ (j : Nat) (u : Value), ((cells.drop p4).take N)[j]? = some u → cells[p4 + j]? = some u := fun j u e => by
                  have hj : j < N := by have := (List.getElem?_eq_some_iff.1 e).1; omega
                  rw [List.getElem?_take_of_lt hj, List.getElem?_drop] at e
                  exact e
                have hcells : ∀ (k : Nat) (cs : List C), els[k]? = some cs → ∃ c u, cs = [c] ∧ cells[k]? = some u ∧ RdC Z c u := fun k cs e => by
                  have hl1 := hone cs (List.mem_of_getElem? e)
                  match cs, hl1 with
                  | [c], _ =>
                    obtain ⟨u, u1, u2⟩ := k6 k [c] 0 c e rfl
                    exact ⟨c, u, rfl, by simpa using u1, u2⟩
                refine ⟨w.setCells b p1 ((cells.drop p4).take N), ?_, ?_⟩
                · have := run_copy_cells (P := X.P) w t s o.type ty.elem b p1 p2 p3 ⟨b, p4, none⟩ p5 p6 ((cells.drop p4).take N) hu hs (by rw [hlen, hN]) (fun j u e => ?_) (fun j hj => ?_) (fun j hj => ?_) (fun u hu => ?_)
                  · rw [hlen] at this; exact this
                  · rw [Addr.add_mid, k3.cell]; exact hg1 j u e
                  · rw [hlen] at hj
                    rw [k3.cell, List.getElem?_eq_getElem (by omega)]; rfl
                  · rw [hlen] at hj
                    exact k3.frozen _ (by omega)
                  · obtain ⟨j, hj, rfl⟩ := List.getElem_of_mem hu
                    have e := hg1 j _ (List.getElem?_eq_getElem hj)
                    rw [hlen] at hj
                    obtain ⟨c, u', _, e2, e3⟩ := hcells (p4 + j) _ (List.getElem?_eq_getElem (by omega))
                    rw [e] at e2; injection e2 with e2
                    rw [e2]; exact e3.one
                · refine Rel.rowSets hb _ _ p1 els m w H hm hone (by rw [hlen]; exact h1) (by simp only [List.length_map, List.length_take, List.length_drop]; omega) (fun j c u e1 e2 => ?_) (fun e => by rw [e] at hlen; simp at hlen; omega)
                  have hj : j < N := by have := (List.getElem?_eq_some_iff.1 e2).1; omega
                  have e2' := hg1 j u e2
                  rw [List.getElem?_map, List.getElem?_take_of_lt hj, List.getElem?_drop, List.getElem?_eq_getElem (by omega)] at e1
                  obtain ⟨c', u', q1, q2, q3⟩ := hcells (p4 + j) _ (List.getElem?_eq_getElem (by omega))
                  rw [e2'] at q2; injection q2 with q2; subst q2
                  rw [q1] at e1
                  injection e1 with e1
                  subst e1
                  exact q3
            obtain ⟨w', hrun, hR⟩ := key
            refine dynL_last ho' ((memB_eq i esc).1 he) hwant fun K hK => OpRes.wp (v := goInt (Nat.min p5 p2)) (.inl ?_) (hK.out _ _ (dynL_done (hw Z ρ _ w' hR p1' p2' (p3'.trans hdf))))
            obtain ⟨dst, op, ty', pos, after, guard⟩ := o
            simp only at hop hrun
            subst hop
            simp only [execOp, resolve, invoke, builtin, List.map_toArray, List.map_cons, List.map_nil, Sem.run_bind, Sem.run_pure, Result.andThen_ok]
            simp [hrun]
          · cases hq
        · cases hq
      · cases hq
    · cases hq
  · cases hq
end
end Go.Proofs.Ytconhpilbndpkaa.Vm
namespace Go.Proofs.Ytconhpilbndpkaa.Vm
open Go.RowKit
set_option linter.unusedVariables false

/-- a decided bool is a bool -/
theorem W_unb {X : Ctx} {ks : List K} {a : Slots} {m : Mem} {nx : Nat} (d : Nat) {b : Bool} (hc : get a d = .c (.b b)) (h : W X ⟨ks, set a d (.q b), m, nx⟩) : W X ⟨ks, a, m, nx⟩ := by
  intro Z ρ act w H hS hn hd
  refine h Z ρ act w H (fun k => ?_) hn hd
  rw [get_set]
  by_cases hk : d = k
  · subst hk
    rw [if_pos rfl]
    have := hS d
    rw [hc] at this
    rw [this.cI.boolI]
    exact .q b
  · rw [if_neg hk]; exact hS k
section
variable {ti : TI} {X : Ctx} {z : ZO}
/-! ### functions that give a row of one's own -/
/-- the result is a new row, which the caller may write -/
def OwnR (w w' : World) (Z : Kn) (R : List (List C) → Prop) (v : Value) : Prop := ∃ Z' ρ els cap, R els ∧ Below w.heap.size w w' ∧ KnOk Z' w' ∧ (∀ b o, b < w.heap.size → Z' b o = Z b o) ∧ RdT Z' ρ (.rw 0 els.length cap) v ∧ ObjR Z' ρ (fun b => w.heap.size ≤ b) w' 0 (.row els cap)
def CtO (P : Program) (f : FuncId) (args : List T) (R : List (List C) → Prop) : Prop := ∀ (w : World) (Z : Kn) (vs : List Value), KnOk Z w → RdTs Z rho0 args vs →
  Calls P f vs.toArray w fun e w' => ∃ v, e = .returned v ∧ OwnR w w' Z R v
def finO (P : Program) (fn : Func) (w0 : World) (Z0 : Kn) (R : List (List C) → Prop) : Exit → Act → World → Prop :=
  bodyPost P fn fun e w' => ∃ v, e = .returned v ∧ OwnR w0 w' Z0 R v
def ctxO (P : Program) (fn : Func) (w0 : World) (Z0 : Kn) (R : List (List C) → Prop) : Ctx := ⟨P, w0, Z0, fn.ntmps, finO P fn w0 Z0 R, fun b => w0.heap.size ≤ b, fun _ h => h, 0, rho0⟩
theorem CtO_of_W {P : Program} {f : FuncId} {fn : Func} {c : Code} {args : List T} {R : List (List C) → Prop} (hf : P.funcs[f]? = some fn) (hb : fn.body = some c) (hl : args.length ≤ fn.ntmps)
    (h : ∀ w0 Z0, W (ctxO P fn w0 Z0 R) ⟨[.code c], argS 0 args, [], 0⟩) : CtO P f args R := by
  intro w Z vs hk hv
  refine calls_of_wp hf hb ?_
  have hsz : (vs.toArray ++ Array.replicate (fn.ntmps - vs.toArray.size) undef).size = fn.ntmps := by
    have := hv.1
    simp; omega
  have := h w Z Z rho0 { tmps := vs.toArray ++ Array.replicate (fn.ntmps - vs.toArray.size) undef, defers := [] } w
    ⟨Bel.refl _ _, hk, fun _ _ _ => rfl, KLe.refl _, (fun id o e => by cases e), (fun i j oi oj b e => by cases e), fun _ _ => rfl, Nat.le_refl _, fun _ h => absurd h (Nat.not_lt_zero _)⟩ (fun k => ?_) hsz rfl
  · exact this
  · rw [get_argS]
    by_cases hc : 0 ≤ k ∧ k < 0 + args.length
    · rw [if_pos hc]
      have hlt : k < args.length := by omega
      have hlv : k < vs.length := by rw [← hv.1]; exact hlt
      have e1 : args[k]? = some (args.getD (k - 0) .any) := by simp [hlt]
      have e2 : (vs.toArray ++ Array.replicate (fn.ntmps - vs.toArray.size) undef).getD k undef = vs[k] := by
        rw [Array.getD_eq_getD_getElem?, Array.getElem?_append_left (by simpa using hlv)]
        simp [hlv]
      rw [e2]
      exact hv.2 k _ _ e1 (List.getElem?_eq_getElem hlv)
    · rw [if_neg hc]; exact .any _
theorem ObjR.rowAt {Z : Kn} {ρ ρ' : Rho} {B : Nat → Prop} {w : World} {id id' : Nat} {els : List (List C)} {cap : Nat} (h : ObjR Z ρ B w id (.row els cap)) (e : ρ' id' = ρ id) : ObjR Z ρ' B w id' (.row els cap) := by
  rcases h with ⟨e1, e2, k1⟩ | ⟨b, cells, sz, k1, k2⟩
  · exact .inl ⟨e1, e2, e.trans k1⟩
  · exact .inr ⟨b, cells, sz, e.trans k1, k2⟩
theorem RdT.rwAt {Z : Kn} {ρ ρ' : Rho} {id id' n cap : Nat} {v : Value} (h : RdT Z ρ (.rw id n cap) v) (e : ρ' id' = ρ id) : RdT Z ρ' (.rw id' n cap) v := by
  cases h with
  | rw _ _ b _ hi hc hm => exact .rw id' n b cap (e.trans hi) hc hm
  | rn => exact .rn id'
theorem W_retO {P : Program} {fn : Func} {w0 : World} {Z0 : Kn} {R : List (List C) → Prop} {ks : List K} {a : Slots} {m : Mem} {nx d id n cap : Nat} {els : List (List C)} (hr : fn.results.toList = [.tmp d]) (hc : get a d = .rw id n cap) (hm : mget m id = some (.row els cap)) (hn : n = els.length) (hR : R els) : W (ctxO P fn w0 Z0 R) ⟨.code .ret :: ks, a, m, nx⟩ := by
  intro Z ρ act w H hS hsz hd
  refine wp_ret (SK_ret (X := ctxO P fn w0 Z0 R) ks act w ?_)
  have hdv := hS d
  rw [hc, hn] at hdv
  refine ⟨hd, act.tmps.getD d undef, ?_, _, rfl, Z, fun _ => ρ id, els, cap, hR, H.below.below, H.kn, fun b o h => H.z0 b o (Nat.not_le_of_lt h), hdv.rwAt rfl, (H.obj id _ hm).2.rowAt rfl⟩
  have hra : fn.results = #[.tmp d] := by apply Array.ext'; simpa using hr
  rw [results_eq, hra]
  simp [resS]
theorem W_callO {o : Oper} {r all : List Oper} {ks : List K} {a : Slots} {m : Mem} {nx : Nat} {f : FuncId} {args : List T} {R : List (List C) → Prop} (hq : callQ X.n a all o = some (f, args)) (hb : fnB X.P f = true) (hc : CtO X.P f args R)
    (hw : ∀ els cap, R els → W X ⟨.ops r all :: ks, put a o.dst (.rw nx els.length cap), (nx, .row els cap) :: m, nx + 1⟩) : W X ⟨.ops (o :: r) all :: ks, a, m, nx⟩ := by
  unfold callQ at hq
  split at hq
  · rename_i hd hg
    split at hq
    · rename_i fo xs tys ho
      split at hq
      · rename_i g us vs hfe
        split at hq
        · rename_i l1 l2 l3 e1 e2 e3
          injection hq with hq
          injection hq with q1 q2
          subst q1 q2
          refine W_op hg fun Z ρ act w H hS hn hdf K hK => ?_
          have hfv := evT_rel hS fo
          rw [hfe] at hfv
          obtain ⟨u, v, hv, k1, k2⟩ := hfv.fnI
          have k3 := pureTs_rel k1 e1
          have k4 := pureTs_rel (evTs_rel hS xs.toList) e2
          have k5 := pureTs_rel k2 e3
          unfold fnB at hb
          split at hb
          · rename_i fn hfn
            rw [Bool.and_eq_true] at hb
            have hnm : fn.name ≠ "runtime.NumGoroutine" := by simpa using hb.2
            unfold Oper.wp
            rw [fn_call hfn hb.1 hnm ho hv w]
            refine Calls.mono (hc w Z _ H.kn (k3.append (k4.append k5))) ?_
            rintro e w' ⟨v', rfl, Z', ρ1, els, cap, hR, hbe, hk, hz, ht, hob⟩
            have hsz := H.size
            obtain ⟨l, hl1, hl2⟩ : ∃ l, ρ1 0 = some l ∧ ∀ b, l.B = some b → w.heap.size ≤ b := by
              rcases hob with ⟨_, _, k1⟩ | ⟨b, cells, sz, k1, k2, _⟩
              · exact ⟨_, k1, fun b e => by cases e⟩
              · exact ⟨_, k1, fun b' e => by injection e with e; subst e; exact k2⟩
            have hob' : ObjR Z' (updR ρ nx l) X.own w' nx (.row els cap) := by
              rcases hob with ⟨e1, e2, k1⟩ | ⟨b, cells, sz, k1, k2, k3⟩
              · exact .inl ⟨e1, e2, by rw [updR_same, ← hl1]; exact k1⟩
              · exact .inr ⟨b, cells, sz, by rw [updR_same, ← hl1]; exact k1, X.hown _ (Nat.le_trans hsz k2), k3⟩
            obtain ⟨hle, hr, H'⟩ := H.new hbe hk hz l _ hl2 hob'
            obtain ⟨p1, p2, p3⟩ := put_rel hle hr hS hn hd (ht.rwAt (ρ' := updR ρ nx l) (id' := nx) (by rw [updR_same, hl1]))
            exact hK _ _ (hw els cap hR Z' _ _ w' H' p1 p2 (p3.trans hdf))
          · cases hb
        · cases hq
      · cases hq
    · cases hq
  · cases hq
end
end Go.Proofs.Ytconhpilbndpkaa.Vm
namespace Go.Proofs.Ytconhpilbndpkaa.Vm
open Go.RowKit
set_option linter.unusedVariables false

section
variable {ti : TI} {X : Ctx} {z : ZO}
/-! ### a box is made under a name of one's own choice -/
def mentS (id : Nat) : Slots → Bool
  | [] => false
  | (_, t) :: a => mentB id t || mentS id a
theorem mentS_get {id : Nat} : ∀ (a : Slots) (k : Nat), mentS id a = false → mentB id (get a k) = false
  | [], k, _ => rfl
  | (p, t) :: a, k, h => by
    simp only [mentS, Bool.or_eq_false_iff] at h
    simp only [get]
    cases hb : Nat.beq p k with
    | true => exact h.1
    | false => exact mentS_get a k h.2
def alQ (ti : TI) (o : Oper) : Option (List T × Tmp) := match o.op, o.dst with
  | .alloc t, some d => (match tget ti t with | some i => (match allOne i.zero with | true => some (i.zero, d) | false => none) | none => none)
  | _, _ => none
theorem D_allocAt (hti : TIok X.P ti) {ks : List K} {ops : List Oper} {esc : List Nat} {m0 : Mem} {i : Nat} {r : PT} {a : Slots} {m : Mem} {nx : Nat} {st : Bool} {o : Oper} {ts : List T} (id d : Nat) (ho : nth ops i = some o) (hq : alQ ti o = some (ts, d)) (hd : dstOk X.n o.dst = true) (hg : gd a ops o.guard = .yes)
    (hid : Nat.blt id nx = true) (h1 : mget m id = none) (h2 : mentS id a = false) (h3 : freeM id id m = true)
    (hw : D X ks ops esc m0 ⟨r, put a o.dst (.pt id 0), (id, .box ts) :: m, nx, false⟩) (hkid : X.k ≤ id := by first | exact Nat.zero_le _ | exact Nat.le_of_ble_eq_true rfl) : D X ks ops esc m0 ⟨.cons (0, i) r, a, m, nx, st⟩ := by
  rw [nth_eq] at ho
  have ho' : ops.toArray[i]? = some o := by simpa using ho
  have hid := Nat.le_of_ble_eq_true hid
  unfold alQ at hq
  split at hq
  · rename_i t d' hop hdst
    split at hq
    · rename_i ty hty
      split at hq
      · rename_i hone
        injection hq with hq
        injection hq with q1 q2
        subst q1 q2
        intro Z0 ρ0 w0 Z ρ act w H hS hn hdf hZ hT hB hst
        have hwant : Region.wanted o (yielded ops.toArray act.tmps) = true := (gd_wanted hS).1 hg
        obtain ⟨zv, z1, z2, z3, z4⟩ := (hti t ty hty).zero
        let b := w.heap.size
        let ρ' : Rho := fun j => if j = id then some (.blk b) else ρ j
        have ne : ∀ j, j ≠ id → ρ' j = ρ j := fun j h => if_neg h
        have same : ρ' id = some (.blk b) := if_pos rfl
        have hbe : Below w.heap.size w (w.alloc (.cells zv.cells t)) := (Below.refl _ _).alloc (Nat.le_refl _) _
        have hk : KnOk Z (w.alloc (.cells zv.cells t)) := fun b o u e => (hbe.cell (p := ⟨b, o, none⟩) (H.kn.lt e)).trans (H.kn b o u e)
        obtain ⟨_, H'⟩ := H.step hbe hk (fun _ _ _ => rfl)
        have lift : ∀ (t : T) (v : Value), mentB id t = false → RdT Z ρ t v → RdT Z ρ' t v := fun t v hm h => free_rel h fun j hj => ne j fun e => by subst e; rw [hm] at hj; cases hj
        have hzr : RdTs Z ρ' ty.zero zv.cells.toList := by
          rw [z3]
          refine ⟨by simp, fun k t v e1 e2 => ?_⟩
          rw [List.getElem?_map, e2] at e1
          injection e1 with e1
          rw [← e1]
          exact constT_rel Z ρ' v
        have mne : ∀ j oj, mget m j = some oj → j ≠ id := fun j oj e h => by subst h; rw [h1] at e; cases e
        have hrel : Rel X Z ρ' ((id, .box ty.zero) :: m) nx (w.alloc (.cells zv.cells t)) := by
          refine ⟨H'.below, H'.kn, H'.z0, H'.kle, fun j oj e => ?_, fun i j oi oj b' ei ej bi bj => ?_, fun j hj => ?_, H'.kb, fun j hj => (by rw [ne j (by omega)]; exact H'.anch j hj)⟩
          · rw [mget_cons] at e
            by_cases hj : id = j
            · rw [if_pos hj] at e
              injection e with e; subst hj e
              refine ⟨hid, b, zv.cells.toList, same, X.hown _ H.size, ?_, hzr, allOne_eq _ hone, fun o => ?_⟩
              · exact CellsAt.new w zv.cells.toList t
              · cases e : Z b o with
                | none => rfl
                | some u => exact absurd (H.kn.lt e) (Nat.lt_irrefl _)
            · rw [if_neg hj] at e
              have hne : j ≠ id := fun e => hj e.symm
              obtain ⟨q1, q2⟩ := H'.obj j oj e
              refine ⟨q1, ?_⟩
              cases oj with
              | box us =>
                obtain ⟨b2, vs, k1, k2, k3, k4, k5, k6⟩ := q2
                obtain ⟨f1, _⟩ := freeM_get m h3 e
                refine ⟨b2, vs, (ne j hne).trans k1, k2, k3, ⟨k4.1, fun i t v e1 e2 => lift t v ?_ (k4.2 i t v e1 e2)⟩, k5, k6⟩
                cases hm : mentB id t
                · rfl
                · have := mentBs_mem (List.mem_of_getElem? e1) hm
                  rw [f1] at this; cases this
              | tok sz els =>
                obtain ⟨v, k1, k2⟩ := q2
                exact ⟨v, (ne j hne).trans k1, k2⟩
              | row els cap =>
                rcases q2 with ⟨e1, e2, k1⟩ | ⟨b2, cells, sz, k1, k2⟩
                · exact .inl ⟨e1, e2, (ne j hne).trans k1⟩
                · exact .inr ⟨b2, cells, sz, (ne j hne).trans k1, k2⟩
          · have old : ∀ i oi, mget m i = some oi → BlkOf ρ' i b' → BlkOf ρ i b' ∧ b' < w.heap.size := fun i oi e ⟨l, k1, k2⟩ => by
              rw [ne i (mne i oi e)] at k1
              exact ⟨⟨l, k1, k2⟩, ((H.obj i oi e).2.blk ⟨l, k1, k2⟩).2⟩
            have new : BlkOf ρ' id b' → b' = w.heap.size := fun ⟨l, k1, k2⟩ => by
              rw [same] at k1
              injection k1 with k1; subst k1
              injection k2 with k2
              exact k2.symm
            rw [mget_cons] at ei ej
            by_cases hi : id = i <;> by_cases hj : id = j
            · omega
            · subst hi
              rw [if_neg hj] at ej
              have g1 := new bi
              have g2 := (old j oj ej bj).2
              omega
            · subst hj
              rw [if_neg hi] at ei
              have g1 := new bj
              have g2 := (old i oi ei bi).2
              omega
            · rw [if_neg hi] at ei
              rw [if_neg hj] at ej
              exact H.apart i j oi oj b' ei ej (old i oi ei bi).1 (old j oj ej bj).1
          · rw [ne j (by omega)]; exact H.fresh j hj
        have hS' : RdS Z ρ' a act.tmps := fun k => lift _ _ (mentS_get a k h2) (hS k)
        obtain ⟨p1, p2, p3⟩ := put_rel (KLe.refl Z) (RLe.refl ρ') hS' hn hd (RdT.pt (Z := Z) id 0 b same)
        have hT' := tw_keep H hT hB hZ (KLe.refl Z) hk fun id o b e1 es e2 => hbe.block b (box_lt H e1 e2).2
        refine dynL_act ho' hwant fun K hK => OpRes.wp (w' := w.alloc (.cells zv.cells t)) (.inl ?_) (hK.out _ _ hT' (hw Z0 ρ0 w0 Z ρ' _ _ hrel p1 p2 (p3.trans hdf) hZ hT' (fun id' o' b' e1 es e2 => ?_) (fun h => by cases h)))
        · obtain ⟨dst, op, ty', pos, after, guard⟩ := o
          simp only at hop
          subst hop
          simp [execOp, Instr.alloc, z1, newVar, newRow, newObj, Sem.run, b]
        · obtain ⟨⟨o3, q1, qs⟩, q2⟩ := hB id' o' b' e1 es e2
          refine ⟨⟨o3, ?_, qs⟩, (ne id' (mne id' o3 q1)).trans q2⟩
          rw [mget_cons, if_neg (fun e => mne id' o3 q1 e.symm)]
          exact q1
      · cases hq
    · cases hq
  · cases hq
/-- a store in a box that is new in this region -/
theorem D_store (hti : TIok X.P ti) {ks : List K} {ops : List Oper} {esc : List Nat} {m0 : Mem} {i : Nat} {r : PT} {a : Slots} {m : Mem} {nx : Nat} {st : Bool} {o : Oper} {id off : Nat} {ts us : List T} (ho : nth ops i = some o) (hd : dstOk X.n o.dst = true) (hg : gd a ops o.guard = .yes) (hq : stQ ti a m o = some (id, off, ts, us)) (h0 : mget m0 id = none)
    (hw : D X ks ops esc m0 ⟨r, put a o.dst .any, mset m id (.box (putAt off us ts)), nx, false⟩) : D X ks ops esc m0 ⟨.cons (0, i) r, a, m, nx, st⟩ := by
  rw [nth_eq] at ho
  have ho' : ops.toArray[i]? = some o := by simpa using ho
  unfold stQ at hq
  split at hq
  · rename_i t x y hop
    split at hq
    · rename_i ty id' off' hty hx
      split at hq
      · rename_i cs hm
        split at hq
        · rename_i b1 b2 b3
          injection hq with hq
          injection hq with q1 q2
          injection q2 with q2 q3
          injection q3 with q3 q4
          subst q1 q2 q3 q4
          intro Z0 ρ0 w0 Z ρ act w H hS hn hdf hZ hT hB hst
          have hwant : Region.wanted o (yielded ops.toArray act.tmps) = true := (gd_wanted hS).1 hg
          have hxr := evT_rel hS x
          rw [hx] at hxr
          obtain ⟨b, hb, hxv⟩ := hxr.ptI
          have hy := evT_rel hS y
          have a2 := Nat.eq_of_beq_eq_true b2
          have a3 := Nat.le_of_ble_eq_true b3
          rw [len_eq] at a2 a3
          rw [len_eq] at a3
          have hc := cellsT_rel hy b1
          have ho1 := allOne_eq _ b1
          obtain ⟨k1, k2⟩ := H.put hm hb hc ho1 a3
          have hone : ∀ u ∈ (act.eval y).cells.toList, u.oneCell' = true := fun u hu => by
            obtain ⟨j, hj, rfl⟩ := List.getElem_of_mem hu
            have hlt : j < (cellsT (evT a y)).length := by rw [hc.1]; exact hj
            exact (hc.2 j _ _ (List.getElem?_eq_getElem hlt) (List.getElem?_eq_getElem hj)).oneV (ho1 _ (List.getElem_mem hlt))
          have hst := run_storeCells_cells (P := X.P) b off' (act.eval y).cells.toList 0 w (by simpa using fun j hj => (k1 j (by simpa using hj)).1) (by simpa using fun j hj => (k1 j (by simpa using hj)).2) hone
          simp only [Nat.add_zero] at hst
          have hsz : (sizeOf t).run X.P w = .ok (act.eval y).cells.size w := by
            rw [(hti t ty hty).sz w, ← a2, hc.1]; simp
          have hT' : TW Z0 ρ0 m0 w0 (w.setCells b off' (act.eval y).cells.toList) := ⟨fun b' o' u e => k2.kn b' o' u (hZ _ _ _ e), fun id2 o2 b' e1 es e2 => by
            obtain ⟨⟨o3, q1, qs⟩, q2⟩ := hB id2 o2 b' e1 es e2
            refine (heap_setCells_far (fun e => ?_) _ _ _).trans (hT.2 id2 o2 b' e1 es e2)
            subst e
            have := H.apart id2 id' _ _ b' q1 hm ⟨_, q2, rfl⟩ ⟨_, hb, rfl⟩
            subst this
            rw [e1] at h0; cases h0⟩
          have hB' : KB m0 ρ0 (mset m id' (.box (putAt off' (cellsT (evT a y)) cs))) ρ := fun id2 o2 b' e1 es e2 => by
            obtain ⟨⟨o3, q1, qs⟩, q2⟩ := hB id2 o2 b' e1 es e2
            refine ⟨⟨o3, ?_, qs⟩, q2⟩
            rw [mget_set, if_neg (fun e' => by subst e'; rw [e1] at h0; cases h0)]
            exact q1
          obtain ⟨p1, p2, p3⟩ := put_rel (KLe.refl Z) (RLe.refl ρ) hS hn hd (RdT.any undef)
          refine dynL_act ho' hwant fun K hK => OpRes.wp (.inr ⟨?_, rfl⟩) (hK.out _ _ hT' (hw Z0 ρ0 w0 Z ρ _ _ k2 p1 p2 (p3.trans hdf) hZ hT' hB' (fun h => by cases h)))
          obtain ⟨dst, op, ty', pos, after, guard⟩ := o
          simp only at hop
          subst hop
          simp [execOp, Instr.storeAt, Instr.sureAddr, storeVar, hsz, hxv, hst]
        · cases hq
      · cases hq
    · cases hq
  · cases hq
/-- an empty slice of one's own is a row -/
theorem W_tokRow {ks : List K} {a : Slots} {m : Mem} {nx : Nat} (d : Nat) {id sz : Nat} (hc : get a d = .sk id []) (hm : mget m id = some (.tok sz [])) (h : W X ⟨ks, set a d (.rw nx 0 0), (nx, .row [] 0) :: mdel m id, nx + 1⟩) : W X ⟨ks, a, m, nx⟩ := by
  intro Z ρ act w H hS hn hd
  have hdv := hS d
  rw [hc] at hdv
  obtain ⟨_, u, n, hρ, hle, heq⟩ := hdv.skI
  obtain ⟨hid, v0, k1, k2, k3⟩ := H.obj id _ hm
  rw [hρ] at k1
  injection k1 with k1
  injection k1 with e1 e2
  subst e1
  have hv : act.tmps.getD d undef = u := heq (by rw [e2])
  have main : ∀ l' : Loc, (∀ b, l'.B = some b → (Loc.tok u n).B = some b) → ObjR Z (updR ρ nx l') X.own w nx (.row [] 0) → (∀ ρ' : Rho, ρ' nx = some l' → RdT Z ρ' (.rw nx 0 0) u) → SK X ks .normal act w := fun l' hb ho hr => by
    obtain ⟨r1, H1⟩ := H.move (w' := w) (l := .tok u n) (l' := l') (o' := .row [] 0) hm hρ H.kn (Bel.refl _ _) (fun b e => .inl (hb b e)) (fun _ _ _ => rfl) ho
    refine h Z _ act w H1 (fun k => ?_) hn hd
    rw [get_set]
    by_cases hk : d = k
    · subst hk; rw [if_pos rfl, hv]; exact hr _ (updR_same _ _ _)
    · rw [if_neg hk]; exact (hS k).mono (KLe.refl _) r1
  rcases k3 with rfl | ⟨b, cap, cells, rfl, q1, q2, q3, q4, q5, q6⟩
  · exact main (.tok (.slice none 0 0) 0) (fun b e => by cases e) (.inl ⟨rfl, rfl, updR_same _ _ _⟩) fun ρ' _ => .rn nx
  · have hcap := q5 rfl
    subst hcap
    exact main (.blk b) (fun b' e => e) (.inr ⟨b, cells, sz, updR_same _ _ _, q1, q2, q3, ⟨Nat.le_refl _, Nat.zero_le _, fun _ => rfl⟩, q4, fun k cs j c e => by simp at e, fun o => q6 o (by simp)⟩) fun ρ' e => .rw nx 0 b 0 e (Nat.le_refl _) (Nat.zero_le _)
end
end Go.Proofs.Ytconhpilbndpkaa.Vm
