/-
  Contract: spec.l32Flow: the flow of a segment, with lists of what an instruction leads to.
-/
import Derived.Test.YtjdfancbmjnjfaaGreatChk7
import Derived.Test.YtjdfancbmjnjfaaGreatChk6
import Derived.Test.YtjdfancbmjnjfaaGreatKChkP
import Derived.Deep.CutRange
namespace Go.Proofs.YtjdfancbmjnjfaaGreat
set_option maxRecDepth 100000
open Go.ChangeShapes Go.WideShapes Go.ChangeAt Go.RowKit Go.Deep
set_option linter.unusedVariables false
set_option linter.unusedSimpArgs false

/-! ### The plain law: one place after the other -/
def mt (pc : Nat) (st : St) (a : Nat) (s : List UInt8) : Option St :=
  match st[a]?.getD none with
  | some u => if u = s then some (st.set a (some s)) else none
  | none => if a ≤ pc then none else some (st.set a (some s))
def runT (pc : Nat) : St → List (Nat × List UInt8) → Option St
  | st, [] => some st
  | st, p :: l => (mt pc st p.1 p.2).bind fun st => runT pc st l
def tg1 (pc : Nat) (x : InstrD) (t : List UInt8) : List (Nat × List UInt8) := if endOp x.op then [] else [(pc + 1, t)]
def tg2 (x : InstrD) (t : List UInt8) : List (Nat × List UInt8) := if jmpOp x.op then [(x.arg.toNat, jmpS x.op t)] else []
theorem set_same (st : St) (a : Nat) (s : List UInt8) (h : st[a]?.getD none = some s) : st.set a (some s) = st := by
  by_cases hl : a < st.length
  · rw [List.getElem?_eq_getElem hl] at h
    apply List.ext_getElem (by simp)
    intro i h1 h2
    rw [List.getElem_set]
    split
    · rename_i e; subst e; exact h.symm
    · rfl
  · rw [List.getElem?_eq_none (Nat.le_of_not_lt hl)] at h
    cases h
theorem mt_meet (pc : Nat) (st : St) (a : Nat) (s : List UInt8) (h : (decide (pc < a) || (st[a]?.getD none).isSome) = true) : mt pc st a s = meet st a s := by
  unfold mt meet
  rcases hc : st[a]? with _ | o
  · rw [hc] at h
    simp at h
    simp
    omega
  · cases o with
    | none =>
      rw [hc] at h
      simp at h
      simp
      omega
    | some u =>
      simp only [Option.getD_some]
      split
      · rename_i e
        subst e
        rw [set_same st a u (by rw [hc]; rfl)]
      · rfl
theorem stepS_tg {pc : Nat} {x : InstrD} {st : St} {s t : List UInt8} (hs : st[pc]?.getD none = some s) (ht : aft x s = some t) (ha : jmpOp x.op = true → 0 ≤ x.arg) :
    stepS pc x st = runT pc st (tg1 pc x t ++ tg2 x t) := by
  unfold stepS
  rw [hs]
  simp only [ht]
  have key : ∀ st1 : St, (if jmpOp x.op then (if backOk st1 pc x.arg then meet st1 x.arg.toNat (jmpS x.op t) else none) else some st1) = runT pc st1 (tg2 x t) := by
    intro st1
    unfold tg2
    by_cases hj : jmpOp x.op = true
    · rw [if_pos hj, if_pos hj, runT]
      have h0 := ha hj
      by_cases hb : backOk st1 pc x.arg = true
      · rw [if_pos hb, mt_meet]
        · cases meet st1 x.arg.toNat (jmpS x.op t) <;> rfl
        · unfold backOk at hb
          rw [← hb]
          congr 1
          rw [decide_eq_decide]
          omega
      · rw [if_neg hb]
        unfold backOk at hb
        have h2 : (st1[x.arg.toNat]?.getD none) = none := by
          cases hq : st1[x.arg.toNat]?.getD none with
          | none => rfl
          | some u => rw [hq] at hb; simp at hb
        have h3 : ¬ ((pc : Int) < x.arg) := by
          intro h; apply hb; simp [h]
        unfold mt
        rw [h2]
        simp only
        rw [if_pos (by omega)]
        rfl
    · rw [if_neg hj, if_neg hj]
      rfl
  unfold tg1
  by_cases he : endOp x.op = true
  · rw [if_pos he, if_pos he]
    exact key st
  · rw [if_neg he, if_neg he, List.singleton_append, runT, mt_meet pc st (pc + 1) t (by simp)]
    cases meet st (pc + 1) t with
    | none => rfl
    | some st1 => exact key st1

/-! ### Memory -/
/-- the memory of the reference's flow under way -/
structure F2 (w : World) (c0 : List Value) (K S : Nat) (st su : St) (W : World) : Prop where
  gb : Blk W w.heap.size 49 c0
  kn : Blk W K 4 (knL st)
  sk : Blk W S 9 (skL su)
  below : Below w.heap.size w W
  size : w.heap.size ≤ W.heap.size
  ne : w.heap.size < K ∧ K < S
theorem F2.stepB {w W W' : World} {c0 : List Value} {K S : Nat} {st su : St} {B : Nat} (h : F2 w c0 K S st su W) (hb : Below B W W') (hB : S < B) : F2 w c0 K S st su W' :=
  ⟨(hb.block _ (by have := h.ne; omega)).trans h.gb, (hb.block _ (by have := h.ne; omega)).trans h.kn, (hb.block _ hB).trans h.sk, h.below.trans (hb.mono (by have := h.ne; omega)), Nat.le_trans h.size hb.size, h.ne⟩
theorem F2.step {w W W' : World} {c0 : List Value} {K S : Nat} {st su : St} (h : F2 w c0 K S st su W) (hb : Below W.heap.size W W') : F2 w c0 K S st su W' := h.stepB hb h.sk.lt
theorem F2.gw {w : World} {c0 : List Value} {K S : Nat} {st su : St} : GW w (F2 w c0 K S st su) :=
  ⟨fun h => h.below, fun h hb => F2.step h hb, fun h => ⟨h.gb, h.kn, h.sk, h.below.drew, h.size, h.ne⟩, fun n h => ⟨h.gb, h.kn, h.sk, below_drewN h.below n, h.size, h.ne⟩⟩
theorem F2.setK {w W : World} {c0 : List Value} {K S : Nat} {st su : St} (h : F2 w c0 K S st su W) (a : Nat) (s : List UInt8) : F2 w c0 K S (st.set a (some s)) su (W.setCell ⟨K, a, none⟩ (.bool true)) := by
  have hne := h.ne
  refine ⟨h.gb.far _ (by simp; omega) _, ?_, h.sk.far _ (by simp; omega) _, below_sc h.below (by omega) _, by simp only [size_sc]; exact h.size, hne⟩
  have := h.kn.set_ a (.bool true)
  simpa [knL, List.map_set] using this
theorem F2.setS {w W : World} {c0 : List Value} {K S : Nat} {st su : St} (h : F2 w c0 K S st su W) (a : Nat) (s : List UInt8) : F2 w c0 K S st (su.set a (some s)) (W.setCell ⟨S, a, none⟩ (.string (str s))) := by
  have hne := h.ne
  refine ⟨h.gb.far _ (by simp; omega) _, h.kn.far _ (by simp; omega) _, ?_, below_sc h.below (by omega) _, by simp only [size_sc]; exact h.size, hne⟩
  have := h.sk.set_ a (.string (str s))
  simpa [skL, List.map_set] using this
theorem F2.first {w W : World} {c0 : List Value} {K S n : Nat} (h : F2 w c0 K S (List.replicate (n + 1) none) (List.replicate (n + 1) none) W) : F2 w c0 K S (init n) (init n) (W.setCell ⟨K, 0, none⟩ (.bool true)) := by
  have hne := h.ne
  refine ⟨h.gb.far _ (by simp; omega) _, ?_, ?_, below_sc h.below (by omega) _, by rw [size_sc]; exact h.size, hne⟩
  · have := h.kn.set_ 0 (.bool true)
    simpa [knL, init, List.replicate_succ] using this
  · have := h.sk.far ⟨K, 0, none⟩ (by simp; omega) (.bool true)
    simpa [skL, init, List.replicate_succ] using this

def intsV (l : List Int) : List Value := l.map fun n => Value.int .i64 n
def strsV (l : List (List UInt8)) : List Value := l.map fun s => Value.string (str s)
/-- and two lists of its own, from block B on -/
structure TW (w : World) (c0 : List Value) (K S : Nat) (st su : St) (B : Nat) (v u : Value) (T : List Int) (X : List (List UInt8)) (W : World) : Prop where
  f : F2 w c0 K S st su W
  lt : S < B
  size : B ≤ W.heap.size
  o1 : W.ownsRow B 3 1 v T.length (intsV T)
  o2 : W.ownsRow B 9 1 u X.length (strsV X)
  ap : ∀ k, v.ownBlock = some k → u.ownBlock ≠ some k
  bd : ∀ s ∈ X, s.length ≤ maxLen
  ib : ∀ n ∈ T, I64 n
theorem own_keep {w w' : World} {base : Nat} {e : TypeId} {size n : Nat} {v : Value} {xs : List Value} {r : Option Nat} (h : w.ownsRow base e size v n xs) (hg : w.grownBy w' r) (hr : ∀ k, v.ownBlock = some k → r ≠ some k) : w'.ownsRow base e size v n xs := by
  refine h.kept hg ?_
  cases hv : v.ownBlock with
  | none => exact .inl rfl
  | some k => exact .inr (fun e => hr k hv e.symm)
theorem TW.push1 {w W W' : World} {c0 : List Value} {K S B : Nat} {st su : St} {v u v' : Value} {T : List Int} {X : List (List UInt8)} {a : Int} (h : TW w c0 K S st su B v u T X W) (ho : W'.ownsRow B 3 1 v' (T.length + 1) (intsV T ++ [.int .i64 a])) (hg : W.grownBy W' v.ownBlock) (hb : v'.ownBlock = v.ownBlock ∨ v'.ownBlock = some (W.heap.size + 1)) (hB : Below B W W') (ha : I64 a) : TW w c0 K S st su B v' u (T ++ [a]) X W' := by
  refine ⟨h.f.stepB hB h.lt, h.lt, Nat.le_trans h.size hB.size, by simpa [intsV] using ho, own_keep h.o2 hg (fun k hk e => h.ap k e hk), fun k hk => ?_, h.bd, fun n hn => ?_⟩
  · rcases hb with hb | hb
    · exact h.ap k (by rw [← hb]; exact hk)
    · intro hu
      have h1 := (h.o2.lt k hu).2
      rw [hb] at hk
      injection hk with hk
      omega
  · rcases List.mem_append.1 hn with hn | hn
    · exact h.ib n hn
    · simp at hn; subst hn; exact ha
theorem TW.push2 {w W W' : World} {c0 : List Value} {K S B : Nat} {st su : St} {v u u' : Value} {T : List Int} {X : List (List UInt8)} {s : List UInt8} (h : TW w c0 K S st su B v u T X W) (ho : W'.ownsRow B 9 1 u' (X.length + 1) (strsV X ++ [.string (str s)])) (hg : W.grownBy W' u.ownBlock) (hb : u'.ownBlock = u.ownBlock ∨ u'.ownBlock = some (W.heap.size + 1)) (hB : Below B W W') (hs : s.length ≤ maxLen) : TW w c0 K S st su B v u' T (X ++ [s]) W' := by
  refine ⟨h.f.stepB hB h.lt, h.lt, Nat.le_trans h.size hB.size, own_keep h.o1 hg (fun k hk => fun e => h.ap k hk e), by simpa [strsV] using ho, fun k hk => ?_, fun n hn => ?_, h.ib⟩
  · rcases hb with hb | hb
    · rw [hb]; exact h.ap k hk
    · intro hu
      have h1 := (h.o1.lt k hk).2
      rw [hb] at hu
      injection hu with hu
      omega
  · rcases List.mem_append.1 hn with hn | hn
    · exact h.bd n hn
    · simp at hn; subst hn; exact hs
theorem TW.setK {w W : World} {c0 : List Value} {K S B : Nat} {st su : St} {v u : Value} {T : List Int} {X : List (List UInt8)} (h : TW w c0 K S st su B v u T X W) (a : Nat) (s : List UInt8) : TW w c0 K S (st.set a (some s)) su B v u T X (W.setCell ⟨K, a, none⟩ (.bool true)) := by
  have hne := h.f.ne
  have hlt := h.lt
  exact ⟨h.f.setK a s, h.lt, by simp only [size_sc]; exact h.size, own_setCell h.o1 _ _ (by show K < B; omega), own_setCell h.o2 _ _ (by show K < B; omega), h.ap, h.bd, h.ib⟩
theorem TW.setS {w W : World} {c0 : List Value} {K S B : Nat} {st su : St} {v u : Value} {T : List Int} {X : List (List UInt8)} (h : TW w c0 K S st su B v u T X W) (a : Nat) (s : List UInt8) : TW w c0 K S st (su.set a (some s)) B v u T X (W.setCell ⟨S, a, none⟩ (.string (str s))) := by
  have hlt := h.lt
  exact ⟨h.f.setS a s, h.lt, by simp only [size_sc]; exact h.size, own_setCell h.o1 _ _ (by show S < B; omega), own_setCell h.o2 _ _ (by show S < B; omega), h.ap, h.bd, h.ib⟩
/-- the cells of the two lists at one place -/
theorem TW.at1 {w W : World} {c0 : List Value} {K S B : Nat} {st su : St} {v u : Value} {T : List Int} {X : List (List UInt8)} (h : TW w c0 K S st su B v u T X W) (k : Nat) (hk : k < T.length) : ∃ b off c, v = .slice (some ⟨b, off, none⟩) T.length c ∧ B ≤ b ∧ W.cell? ⟨b, off + k, none⟩ = some (.int .i64 T[k]) := by
  obtain ⟨A, c, rfl, _, _, HC⟩ := Ints.open_ (Ints.of_own (own_base h.o1 (Nat.zero_le _)) h.ib)
  obtain ⟨b, off, rfl, _, hc, _⟩ := HC.out k hk
  exact ⟨b, off, c, rfl, (h.o1.lt b rfl).1, hc⟩
theorem TW.at2 {w W : World} {c0 : List Value} {K S B : Nat} {st su : St} {v u : Value} {T : List Int} {X : List (List UInt8)} (h : TW w c0 K S st su B v u T X W) (k : Nat) (hk : k < X.length) : ∃ b off c, u = .slice (some ⟨b, off, none⟩) X.length c ∧ B ≤ b ∧ W.cell? ⟨b, off + k, none⟩ = some (.string (str X[k])) := by
  obtain ⟨A, c, rfl, _, _, HC⟩ := Txts.open_ (Txts.of_own (own_base h.o2 (Nat.zero_le _)) h.bd)
  obtain ⟨b, off, rfl, _, hc, _⟩ := HC.out k hk
  exact ⟨b, off, c, rfl, (h.o2.lt b rfl).1, hc⟩
theorem TW.drew {w W : World} {c0 : List Value} {K S B : Nat} {st su : St} {v u : Value} {T : List Int} {X : List (List UInt8)} (h : TW w c0 K S st su B v u T X W) : TW w c0 K S st su B v u T X W.drew :=
  ⟨F2.gw.drew h.f, h.lt, h.size, h.o1, h.o2, h.ap, h.bd, h.ib⟩
/-! ### The walk -/
def tgT (L : List (Nat × List UInt8)) : List Int := L.map fun p => (p.1 : Int)
def tgX (L : List (Nat × List UInt8)) : List (List UInt8) := L.map Prod.snd
theorem own_shp {w : World} {base n : Nat} {e : TypeId} {size : Nat} {v : Value} {xs : List Value} (h : w.ownsRow base e size v n xs) : ∃ A c, v = .slice A n c := by
  rcases h.2 with ⟨rfl, h0⟩ | ⟨g, cap, cur, rfl, _⟩
  · exact ⟨none, 0, by rw [h0]⟩
  · exact ⟨_, cap, rfl⟩
theorem info_string : (Tryz.prog.info? 9).map (fun i => (i.zero, i.size, i.bytes)) = some (some (.string ByteArray.empty), 1, 16) := by kernel_rfl
theorem aft_for {x : InstrD} {s t : List UInt8} (h : aft x s = some t) (h19 : x.op = 19) : 2 ≤ t.length := by
  have h2 : repB s [118, 99] [118, 99] = some t := by simpa [aft, ndI, h19] using h
  have := repB_len h2
  unfold repB at h2
  split at h2
  · rename_i hh; simp at hh; simp at this; omega
  · cases h2
theorem flow_nextS (l : List InstrD) (j : Nat) (st : St) (h : j < l.length) : runF stepS (l.drop j) j st = (stepS j l[j] st).bind (runF stepS (l.drop (j + 1)) (j + 1)) := by
  rw [List.drop_eq_getElem_cons h, runF]
  cases stepS j l[j] st <;> rfl
set_option maxHeartbeats 16000000 in
theorem spec_l32Flow (d : SegD) (cs : List Value) (w : World) (h : SegmentR w cs d) (hx : ∀ x ∈ d.instrs, 0 ≤ x.op ∧ x.op ≤ 33 ∧ (jmpOp x.op = true → 0 ≤ x.arg ∧ x.arg ≤ d.instrs.length) ∧ (0 ≤ x.count ∧ x.count ≤ 200) ∧ x.labels.length ≤ 200) (hn : d.instrs.length ≤ 1000) :
    Calls Tryz.prog 52 #[.agg cs.toArray] w (RetB (flowS d.instrs) w) := by
  have HX := Lib.hid hx
  clear hx
  obtain ⟨v0, v1, v2, rfl, q0, q1, q2⟩ := h
  obtain ⟨A, c, rfl, hlc, hm, HC⟩ := SlR.open_ q2
  clear q0 q1 q2
  unfold maxLen at hm
  have hmk1 := fun (W : World) => run_mk (P := Tryz.prog) W 46 9 (.string ByteArray.empty) 1 16 Tryz.underlying46 (by kernel_rfl) (d.instrs.length + 1) (by omega) (by omega)
  have hmk2 := fun (W : World) => run_mk (P := Tryz.prog) W 24 4 (.bool false) 1 1 Tryz.underlying24 (by kernel_rfl) (d.instrs.length + 1) (by omega) (by omega)
  rw [Nat.mul_one, show ((d.instrs.length + 1 : Nat) : Int) = (d.instrs.length : Int) + 1 from by omega] at hmk1 hmk2
  go_enter Tryz.func52, Tryz.ntmps52
  go_upto_region 4 with fail
  refine gen_w (G := F2 w [v0, v1, .slice A d.instrs.length c] (w.heap.size + 1) (w.heap.size + 1 + 1) (List.replicate (d.instrs.length + 1) none) (List.replicate (d.instrs.length + 1) none)) ⟨?_, ?_, ?_, ?_, ?_, ?_⟩ ?_
  · exact ((Blk.new w _ _).alloc _).alloc _
  · rw [knL_none]
    exact (Blk.new_at _ _ _ _ (by simp)).alloc _
  · rw [skL_none]
    exact Blk.new_at _ _ _ _ (by simp)
  · exact (((Below.refl _ _).alloc (Nat.le_refl _) _).alloc (by simp) _).alloc (by simp; omega) _
  · simp; omega
  · omega
  clear hmk1 hmk2
  intro W0 F0
  have k0 := F0.kn.cell 0 (.bool false) (by simp [knL])
  have k1 := F0.kn.frozen 0
  have F1 := Lib.hid (F2.first F0)
  clear F0
  go_upto_region 5 with fail
  refine gen_w F1.out ?_
  clear F1 k0 k1
  intro W1 F1
  go_wp2_with fail
  generalize hK : w.heap.size + 1 = K at F1 ⊢
  generalize hS : K + 1 = S at F1 ⊢
  clear hS hK
  go_loopw [6] (fun i wr => ∃ (j : Nat) (st : St), j ≤ d.instrs.length ∧ i = .int .i64 j ∧ Hid (st.length = d.instrs.length + 1) ∧ Hid (∀ s, some s ∈ st → s.length ≤ j) ∧ Hid (flowS d.instrs = endOk d.instrs.length (runF stepS (d.instrs.drop j) j st)) ∧ Ok (F2 w [v0, v1, .slice A d.instrs.length c] K S st st) wr) (fun i _ => d.instrs.length - (intOf i).toNat)
  case atStart =>
    refine ⟨0, init d.instrs.length, Nat.zero_le _, rfl, by simp [Hid, init], fun s hs => ?_, rfl, F1⟩
    simp only [init, List.mem_cons, List.mem_replicate] at hs
    rcases hs with hs | ⟨_, hs⟩
    · injection hs with hs; subst hs; exact Nat.zero_le _
    · cases hs
  case round =>
    clear F1
    obtain ⟨j, st, hj, rfl, hlen, hbd, hE, F⟩ := hrel
    by_cases hlt : j < d.instrs.length
    rotate_left
    · obtain rfl : j = d.instrs.length := by omega
      have hlt0 : d.instrs.length < st.length := by have := hlen.out; omega
      have k0 := F.kn.cell d.instrs.length (.bool st[d.instrs.length].isSome) (by simp [knL, hlt0])
      have t0 := F.sk.cell d.instrs.length (.string (str (st[d.instrs.length].getD []))) (by simp [skL, hlt0])
      have HF := Lib.hid F
      have HO := Lib.hid (show flowS d.instrs = match st[d.instrs.length] with | none => true | some s => s == [118] by
        rw [hE.out, List.drop_length, runF, endOk, List.getElem?_eq_getElem hlt0]; rfl)
      clear F hlen hbd hE
      cases hst : st[d.instrs.length] with
      | none =>
        rw [hst] at k0 t0 HO
        go_wp2_with fail
        go_ret
        exact ⟨ret_bool HO.out.symm, HF.out.below⟩
      | some s =>
        rw [hst] at k0 t0 HO
        go_wp2_with fail
        go_ret
        exact ⟨ret_bool HO.out.symm, HF.out.below⟩
    · obtain ⟨b, off, cs, rfl, hbl, _, hat, hr⟩ := HC.out j hlt
      have hxj := HX.out _ (List.getElem_mem hlt)
      have HS := Lib.hid (show flowS d.instrs = endOk d.instrs.length ((stepS j d.instrs[j] st).bind (runF stepS (d.instrs.drop (j + 1)) (j + 1))) by
        rw [hE.out, flow_nextS d.instrs j st hlt])
      have HIR := Lib.hid hr
      obtain ⟨A4, c4, A1, c1, A2, c2, A3, c3, A5, c5, A6, c6, rfl⟩ := hr.slices
      clear hr hE
      generalize d.instrs[j] = x at hat HIR hxj HS
      obtain ⟨hx0, hx1, hxa, hxc, hxl⟩ := hxj
      have HXA := Lib.hid hxa
      clear hxa
      have hlj : j < st.length := by have := hlen.out; omega
      obtain ⟨o, ho⟩ : ∃ o, st[j] = o := ⟨_, rfl⟩
      have HO := Lib.hid (show st[j]?.getD none = o by rw [List.getElem?_eq_getElem hlj, ho]; rfl)
      obtain ⟨G, hG⟩ : ∃ G, G = F2 w [v0, v1, .slice (some ⟨b, off, none⟩) d.instrs.length c] K S st st := ⟨_, rfl⟩
      have HG : Hid (GW w G) := by rw [hG]; exact F2.gw
      have HGF := Lib.hid (fun W (h : Ok G W) => show F2 w [v0, v1, .slice (some ⟨b, off, none⟩) d.instrs.length c] K S st st W by rw [hG] at h; exact h)
      rw [← hG] at F
      clear hG
      have x2 := fun W (h : Ok G W) => (HGF.out W h).gb.cell 2 _ rfl
      obtain ⟨G', g', HG', B'⟩ := good1 wr 63 [.int .i64 x.op, .int .i64 x.arg, .int .i64 x.count, .string (str x.text), .slice A4 x.labels.length c4, .int .i64 x.value.kind, .slice A1 x.value.items.length c1, .slice A2 x.value.parts.length c2, .slice A3 x.value.names.length c3, .slice A5 x.value.cls.length c5, .slice A6 x.value.levels.length c6, .int .i64 x.value.code, .int .i64 x.value.env]
      have hGG := fun W (h : Ok G' W) => HG.out.step F (HG'.out.below h)
      obtain ⟨y0, y1, y2, y3, y4, y5, y6, y7, y8, y9, y10, y11, y12⟩ := pk_f13 B'
      obtain ⟨z0, z1, z2, z3, z4, z5, z6, z7, z8, z9, z10, z11, z12⟩ := pk_e13 HG hbl hat
      clear hat
      have k0 := fun W (h : Ok G' W) => (HGF.out W (hGG W h)).kn.cell j (.bool o.isSome) (by simp [knL, hlj, ho])
      have t0 := fun W (h : Ok G' W) => (HGF.out W (hGG W h)).sk.cell j (.string (str (o.getD []))) (by simp [skL, hlj, ho])
      have HBD := Lib.hid (show ∀ s, o = some s → s.length ≤ j from fun s hs => hbd.out s (by rw [← hs, ← ho]; exact List.getElem_mem hlj))
      clear ho
      go_upto_region 9 with fail
      refine gen_w g' ?_
      clear g' x2 z0 z1 z2 z3 z4 z5 z6 z7 z8 z9 z10 z11 z12
      intro W2 g2
      cases o with
      | none =>
        have HN := Lib.hid (show flowS d.instrs = endOk d.instrs.length (runF stepS (d.instrs.drop (j + 1)) (j + 1) st) by
          rw [HS.out]
          unfold stepS
          rw [HO.out]
          rfl)
        go_wp2_with fail
        go_roundw
        case rel => exact ⟨j + 1, st, by omega, by go_num, hlen, Lib.hid (fun s hs => Nat.le_succ_of_le (hbd.out s hs)), HN, HGF.out _ (hGG _ g2)⟩
        case measure => simp [intOf]; omega
      | some s =>
      have hsl := HBD.out s rfl
      clear HBD
      have hj1 : (j : Int) < (d.instrs.length : Int) + 1 := by omega
      have hj2 : j < d.instrs.length + 1 := by omega
      go_upto_region 10 with fail
      refine wp_region_plan (S := Ok G') (by kernel_rfl) [(true, 0), (true, 1), (true, 2), (true, 3), (true, 4), (false, 5), (true, 6), (true, 7), (true, 8), (true, 9), (true, 10)] (by kernel_rfl) (HG'.out.drew g2) ?_
      have g3 := HG'.out.drew g2
      clear g2
      repeat (refine dyn_take rfl rfl (fun W g => by go_simp; rfl) ?_; go_simp)
      refine dyn_act rfl rfl (fun K9 hK => ?_)
      go_wp2_with fail
      refine Calls.mono (spec_l32After x.op hx0 hx1 x _ s _ rfl (HIR.out.below (HG.out.below (hGG _ g3))) hxc hxl (by omega)) ?_
      rintro e w4 ⟨rfl, hb⟩
      have g4 := HG'.out.step g3 hb
      clear hb g3
      simp only []
      refine hK.out _ _ g4 ?_
      clear hK
      cases het : aft x s with
      | none =>
        have HN := Lib.hid (show flowS d.instrs = false by
          rw [HS.out]
          unfold stepS
          rw [HO.out]
          simp only [het]
          rfl)
        repeat (refine dyn_take rfl rfl (fun W g => by go_simp; rfl) ?_; go_simp)
        refine dyn_done ?_
        go_wp2_with fail
        go_ret
        exact ⟨ret_bool HN.out.symm, HG.out.below (hGG _ g4)⟩
      | some t =>
      have HET := Lib.hid het
      have hT := aft_len het
      clear het
      have HS1 := Lib.hid (show flowS d.instrs = endOk d.instrs.length ((runT j st (tg1 j x t ++ tg2 x t)).bind (runF stepS (d.instrs.drop (j + 1)) (j + 1))) by
        rw [HS.out, stepS_tg HO.out HET.out (fun h => (HXA.out h).1)])
      clear HS
      repeat (refine dyn_take rfl rfl (fun W g => by go_simp; rfl) ?_; go_simp)
      refine dyn_done ?_
      go_upto_region 15 with fail
      refine gen_w (G := fun W => Ok G' W ∧ TW w [v0, v1, .slice (some ⟨b, off, none⟩) d.instrs.length c] K S st st w4.heap.size (.slice (some ⟨w4.heap.size, 0, none⟩) 0 0) (.slice (some ⟨w4.heap.size + 1, 0, none⟩) 0 0) [] [] W) ⟨?_, ?_⟩ ?_
      · exact HG'.out.step g4 (((Below.refl _ _).alloc (Nat.le_refl _) _).alloc (by simp) _)
      · refine ⟨(HGF.out _ (hGG _ g4)).step (((Below.refl _ _).alloc (Nat.le_refl _) _).alloc (by simp) _), (HGF.out _ (hGG _ g4)).sk.lt, by simp; omega, ?_, ?_, ?_, (fun s h => by cases h), (fun n h => by cases h)⟩
        · exact own_below (owns_new w4 _ 1 0 #[] 0 [] rfl (Nat.le_refl _) (by unfold maxLen; omega) rfl rfl) ((Below.refl _ _).alloc (Nat.le_refl _) _)
        · have h9 := owns_new (w4.alloc (.cells #[] 3)) 9 1 0 #[] 0 [] rfl (Nat.le_refl _) (by unfold maxLen; omega) rfl rfl
          have h8 : (w4.alloc (.cells #[] 3)).heap.size = w4.heap.size + 1 := by simp
          rw [h8] at h9
          exact own_base h9 (Nat.le_succ _)
        · intro k hk h2
          simp only [Value.ownBlock, Option.some.injEq] at hk h2
          omega
      intro W5 hW5
      obtain ⟨g5, T5⟩ := hW5
      have hB0 : w4.heap.size ≤ W5.heap.size := T5.size
      have hbx : wr.heap.size < w4.heap.size := (B'.out _ g4).lt
      clear g4
      have X5 := Lib.hid (show Blk W5 wr.heap.size 63 [.int .i64 x.op, .int .i64 x.arg, .int .i64 x.count, .string (str x.text), .slice A4 x.labels.length c4, .int .i64 x.value.kind, .slice A1 x.value.items.length c1, .slice A2 x.value.parts.length c2, .slice A3 x.value.names.length c3, .slice A5 x.value.cls.length c5, .slice A6 x.value.levels.length c6, .int .i64 x.value.code, .int .i64 x.value.env] from B'.out _ g5)
      generalize (Value.agg #[.int .i64 x.op, .int .i64 x.arg, .int .i64 x.count, .string (str x.text), .slice A4 x.labels.length c4, .int .i64 x.value.kind, .slice A1 x.value.items.length c1, .slice A2 x.value.parts.length c2, .slice A3 x.value.names.length c3, .slice A5 x.value.cls.length c5, .slice A6 x.value.levels.length c6, .int .i64 x.value.code, .int .i64 x.value.env]) = V0
      generalize hB : w4.heap.size = B0 at T5 hB0 hbx ⊢
      clear hB
      have z0 := X5.out.cell 0 _ rfl
      clear k0 t0 y0 y1 y2 y3 y4 y5 y6 y7 y8 y9 y10 y11 y12 g5
      go_upto_if 55 with (go_at_call 86; refine (spec_l32Ends x.op hx0 hx1 _).mono ?_; rintro e w' ⟨rfl, rfl⟩)
      clear z0
      have HJ64 := Lib.hid (show I64 ((j : Int) + 1) by unfold I64; omega)
      go_cut [10, 11] from 54 to 64 (fun p1 q1 wx => TW w [v0, v1, .slice (some ⟨b, off, none⟩) d.instrs.length c] K S st st B0 p1 q1 (tgT (tg1 j x t)) (tgX (tg1 j x t)) wx ∧ Blk wx wr.heap.size 63 [.int .i64 x.op, .int .i64 x.arg, .int .i64 x.count, .string (str x.text), .slice A4 x.labels.length c4, .int .i64 x.value.kind, .slice A1 x.value.items.length c1, .slice A2 x.value.parts.length c2, .slice A3 x.value.names.length c3, .slice A5 x.value.cls.length c5, .slice A6 x.value.levels.length c6, .int .i64 x.value.code, .int .i64 x.value.env])
      case first =>
        cases hE : endOp x.op
        · have HE := Lib.hid (show tgT (tg1 j x t) = [(j : Int) + 1] ∧ tgX (tg1 j x t) = [t] by simp [tg1, hE, tgT, tgX])
          clear hE
          go_upto_region 17 with (at_builtin; go_must (refine wpList_push rfl _ _ 23 rfl B0 3 (.int .i64 0) 1 8 Tryz.underlying23 info_int rfl (by decide) _ _ 0 [] _ rfl rfl (by exact T5.o1) rfl (by simp [Value.oneCell']) (by omega) (by omega) hB0 ?_); intro v9 w9 ho9 hg9 hbk9 hb9)
          have T9 := Lib.hid (T5.push1 ho9 hg9 hbk9 hb9 HJ64.out)
          have X9 := Lib.hid ((hb9.block _ hbx).trans X5.out)
          have hB9 : B0 ≤ w9.heap.size := T9.out.size
          clear ho9 hg9 hbk9 hb9
          go_wp2_with (at_builtin; go_must (refine wpList_push rfl _ _ 46 rfl B0 9 (.string ByteArray.empty) 1 16 Tryz.underlying46 info_string rfl (by decide) _ _ 0 [] _ rfl rfl (by exact T9.out.o2) rfl (by simp [Value.oneCell']) (by omega) (by omega) hB9 ?_); intro v8 w8 ho8 hg8 hbk8 hb8)
          have T8 := Lib.hid (T9.out.push2 ho8 hg8 hbk8 hb8 (by unfold maxLen; omega))
          have X8 := Lib.hid ((hb8.block _ hbx).trans X9.out)
          clear ho8 hg8 hbk8 hb8
          go_meet
          case rel =>
            refine ⟨?_, X8.out⟩
            rw [HE.out.1, HE.out.2]
            exact T8.out
        · have HE := Lib.hid (show tgT (tg1 j x t) = [] ∧ tgX (tg1 j x t) = [] by simp [tg1, hE, tgT, tgX])
          clear hE
          go_wp2_with fail
          go_meet
          case rel =>
            refine ⟨?_, X5.out⟩
            rw [HE.out.1, HE.out.2]
            exact T5
      case rest =>
      obtain ⟨T6, X6⟩ := hcut
      have hB6 : B0 ≤ wc.heap.size := T6.size
      have z0 := X6.cell 0 _ rfl
      have z1 := X6.cell 1 _ rfl
      have HTG := Lib.hid (show (tgT (tg1 j x t)).length ≤ 1 ∧ (tgX (tg1 j x t)).length ≤ 1 ∧ (tgT (tg1 j x t)).length = (tgX (tg1 j x t)).length by unfold tg1; split <;> simp [tgT, tgX])
      have hl1 := HTG.out.1
      have hl2 := HTG.out.2.1
      obtain ⟨A10, c10, rfl⟩ := own_shp T6.o1
      obtain ⟨A11, c11, rfl⟩ := own_shp T6.o2
      go_upto_if 67 with (go_at_call 84; refine (spec_l32Jumps x.op _).mono ?_; rintro e w' ⟨rfl, rfl⟩)
      go_cut [8, 10, 11] from 65 to 85 (fun p0 p1 q1 wx => TW w [v0, v1, .slice (some ⟨b, off, none⟩) d.instrs.length c] K S st st B0 p1 q1 (tgT (tg1 j x t ++ tg2 x t)) (tgX (tg1 j x t ++ tg2 x t)) wx)
      case first =>
        cases hJ : isJ x.op
        · have HE := Lib.hid (show tg1 j x t ++ tg2 x t = tg1 j x t by simp [tg2, show jmpOp x.op = false from hJ])
          clear hJ
          go_wp2_with fail
          go_meet
          case rel =>
            rw [HE.out]
            exact T6
        · have hj0 := HXA.out (show jmpOp x.op = true from hJ)
          have HE := Lib.hid (show tgT (tg1 j x t ++ tg2 x t) = tgT (tg1 j x t) ++ [x.arg] ∧ tgX (tg1 j x t ++ tg2 x t) = tgX (tg1 j x t) ++ [jmpS x.op t] by simp [tg2, show jmpOp x.op = true from hJ, tgT, tgX, Int.toNat_of_nonneg hj0.1])
          have HA64 := Lib.hid (show I64 x.arg by unfold I64; omega)
          clear hJ hj0
          go_upto_region 20 with (at_builtin; go_must (refine wpList_push rfl _ _ 23 rfl B0 3 (.int .i64 0) 1 8 Tryz.underlying23 info_int rfl (by decide) _ _ _ _ _ rfl rfl (by exact T6.o1) rfl (by simp [Value.oneCell']) (by omega) (by omega) hB6 ?_); intro v9 w9 ho9 hg9 hbk9 hb9)
          have T9 := Lib.hid (T6.push1 ho9 hg9 hbk9 hb9 HA64.out)
          have X9 := Lib.hid (show Blk w9 wr.heap.size 63 [.int .i64 x.op, .int .i64 x.arg, .int .i64 x.count, .string (str x.text), .slice A4 x.labels.length c4, .int .i64 x.value.kind, .slice A1 x.value.items.length c1, .slice A2 x.value.parts.length c2, .slice A3 x.value.names.length c3, .slice A5 x.value.cls.length c5, .slice A6 x.value.levels.length c6, .int .i64 x.value.code, .int .i64 x.value.env] from (hb9.block _ hbx).trans X6)
          have hB9 : B0 ≤ w9.heap.size := T9.out.size
          clear ho9 hg9 hbk9 hb9 z0 z1
          have z0 := X9.out.cell 0 _ rfl
          by_cases h19 : x.op = 19
          · have ht2 := aft_for HET.out h19
            have q19 : (x.op == 19) = true := by simp [h19]
            have hex : (str t).extract 0 (t.length - 2) = str (t.take (t.length - 2)) := by rw [str_ext, List.drop_zero, Nat.sub_zero]
            have HJS := Lib.hid (show jmpS x.op t = t.take (t.length - 2) ++ [118] by simp [jmpS, h19])
            clear h19
            go_wp2_with (at_builtin; go_must (refine wpList_push rfl _ _ 46 rfl B0 9 (.string ByteArray.empty) 1 16 Tryz.underlying46 info_string rfl (by decide) _ _ _ _ _ rfl rfl (by exact T9.out.o2) rfl (by simp [Value.oneCell']) (by omega) (by omega) hB9 ?_); intro v8 w8 ho8 hg8 hbk8 hb8)
            have T8 := Lib.hid (T9.out.push2 ho8 hg8 hbk8 hb8 (by unfold maxLen; simp; omega))
            clear ho8 hg8 hbk8 hb8
            go_meet
            case rel =>
              rw [HE.out.1, HE.out.2, HJS.out]
              exact T8.out
          · have q19 : (x.op == 19) = false := by simp [h19]
            have HJS := Lib.hid (show jmpS x.op t = t by simp [jmpS, h19])
            clear h19
            go_wp2_with (at_builtin; go_must (refine wpList_push rfl _ _ 46 rfl B0 9 (.string ByteArray.empty) 1 16 Tryz.underlying46 info_string rfl (by decide) _ _ _ _ _ rfl rfl (by exact T9.out.o2) rfl (by simp [Value.oneCell']) (by omega) (by omega) hB9 ?_); intro v8 w8 ho8 hg8 hbk8 hb8)
            have T8 := Lib.hid (T9.out.push2 ho8 hg8 hbk8 hb8 (by unfold maxLen; omega))
            clear ho8 hg8 hbk8 hb8
            go_meet
            case rel =>
              rw [HE.out.1, HE.out.2, HJS.out]
              exact T8.out
      case rest =>
      clear T6 X6 hB6 z0 z1 HTG hl1 hl2 X5 T5 hB0
      have T7 := hcut
      clear hcut
      have HLF := Lib.hid (show (tg1 j x t ++ tg2 x t).length ≤ 2 ∧ (∀ p ∈ tg1 j x t ++ tg2 x t, p.1 < d.instrs.length + 1 ∧ p.2.length ≤ j + 1) by
        refine ⟨by unfold tg1 tg2; split <;> split <;> simp, fun p hp => ?_⟩
        rcases List.mem_append.1 hp with hp | hp
        · unfold tg1 at hp
          split at hp
          · cases hp
          · simp at hp; subst hp; exact ⟨by omega, by simp; omega⟩
        · unfold tg2 at hp
          split at hp
          · rename_i hjx
            have h3 := HXA.out hjx
            simp at hp
            subst hp
            refine ⟨by simp; omega, ?_⟩
            simp only [jmpS]
            split
            · have := aft_for HET.out ‹_›
              simp
              omega
            · omega
          · cases hp)
      generalize hLL : tg1 j x t ++ tg2 x t = L at T7 HS1 HLF
      clear hLL HIR HXA HET hxc hxl hsl hT hx0 hx1
      obtain ⟨A10, c10, rfl⟩ := own_shp T7.o1
      obtain ⟨A11, c11, rfl⟩ := own_shp T7.o2
      rw [show (tgT L).length = L.length by simp [tgT], show (tgX L).length = L.length by simp [tgX]]
      rw [show (tgT L).length = L.length by simp [tgT], show (tgX L).length = L.length by simp [tgX]] at T7
      have hL2 := HLF.out.1
      go_wp2_with fail
      go_loopw [12] (fun i wr => ∃ (k : Nat) (sy : St), k ≤ L.length ∧ i = .int .i64 k ∧ Hid (sy.length = d.instrs.length + 1) ∧ Hid (∀ s, some s ∈ sy → s.length ≤ j + 1) ∧ Hid (flowS d.instrs = endOk d.instrs.length ((runT j sy (L.drop k)).bind (runF stepS (d.instrs.drop (j + 1)) (j + 1)))) ∧ Hid (TW w [v0, v1, .slice (some ⟨b, off, none⟩) d.instrs.length c] K S sy sy B0 (.slice A10 L.length c10) (.slice A11 L.length c11) (tgT L) (tgX L) wr)) (fun i _ => L.length - (intOf i).toNat)
      case atStart => exact ⟨0, st, Nat.zero_le _, rfl, hlen, Lib.hid (fun s hs => Nat.le_succ_of_le (hbd.out s hs)), HS1, T7⟩
      case round =>
        clear T7 HS1
        obtain ⟨k, sy, hk, rfl, hly, hby, HE, TH⟩ := hrel
        by_cases hkl : k < L.length
        rotate_left
        · obtain rfl : k = L.length := by omega
          have HN := Lib.hid (show flowS d.instrs = endOk d.instrs.length (runF stepS (d.instrs.drop (j + 1)) (j + 1) sy) by
            rw [HE.out, List.drop_length]; rfl)
          go_wp2_with fail
          go_roundw
          case rel => first | exact ⟨j + 1, sy, by omega, by go_num, hly, hby, HN, TH.out.f⟩ | ((repeat apply Exists.intro); exact ⟨⟨j + 1, sy, by omega, by go_num, hly, hby, HN, TH.out.f⟩, rfl⟩)
          case measure => simp [intOf]; omega
        · have hTl : k < (tgT L).length := by simpa [tgT] using hkl
          have hXl : k < (tgX L).length := by simpa [tgX] using hkl
          obtain ⟨b1, o1, n1, e1, hb1, r1⟩ := TH.out.at1 k hTl
          obtain ⟨b2, o2, n2, e2, hb2, r2⟩ := TH.out.at2 k hXl
          simp only [Value.slice.injEq] at e1 e2
          obtain ⟨rfl, e3, rfl⟩ := e1
          obtain ⟨rfl, e4, rfl⟩ := e2
          clear e3 e4
          have hpm := HLF.out.2 _ (List.getElem_mem hkl)
          rw [show (tgT L)[k] = (L[k].1 : Int) by simp [tgT]] at r1
          rw [show (tgX L)[k] = L[k].2 by simp [tgX]] at r2
          have HD := Lib.hid (show flowS d.instrs = endOk d.instrs.length (((mt j sy L[k].1 L[k].2).bind fun st => runT j st (L.drop (k + 1))).bind (runF stepS (d.instrs.drop (j + 1)) (j + 1))) by
            rw [HE.out, List.drop_eq_getElem_cons hkl, runT])
          clear HE
          generalize L[k].1 = a at r1 HD hpm
          generalize L[k].2 = u at r2 HD hpm
          obtain ⟨han, hul⟩ := hpm
          have hal : a < sy.length := by have := hly.out; omega
          have hne := TH.out.f.ne
          have hSB := TH.out.lt
          obtain ⟨oa, hoa⟩ : ∃ oa, sy[a] = oa := ⟨_, rfl⟩
          have HOA := Lib.hid (show sy[a]?.getD none = oa by rw [List.getElem?_eq_getElem hal, hoa]; rfl)
          have q1 := TH.out.f.kn.cell a (.bool oa.isSome) (by simp [knL, hal, hoa])
          have q2 := TH.out.f.sk.cell a (.string (str (oa.getD []))) (by simp [skL, hal, hoa])
          have f1 := TH.out.f.kn.frozen a
          have f2 := TH.out.f.sk.frozen a
          have QA := Lib.hid hoa
          clear hoa
          have hk1 : (k : Int) < (L.length : Int) := by omega
          have ha1 : (a : Int) < (d.instrs.length : Int) + 1 := by omega
          have GYr : Ok (fun W => W.cell? ⟨b1, o1 + k, none⟩ = some (.int .i64 a) ∧ W.cell? ⟨b2, o2 + k, none⟩ = some (.string (str u)) ∧ W.cell? ⟨K, a, none⟩ = some (.bool oa.isSome) ∧ W.cell? ⟨S, a, none⟩ = some (.string (str (oa.getD [])))) wr.drew := ⟨r1, r2, q1, q2⟩
          obtain ⟨GY, hGY⟩ : ∃ GY : World → Prop, GY = fun W => W.cell? ⟨b1, o1 + k, none⟩ = some (.int .i64 a) ∧ W.cell? ⟨b2, o2 + k, none⟩ = some (.string (str u)) ∧ W.cell? ⟨K, a, none⟩ = some (.bool oa.isSome) ∧ W.cell? ⟨S, a, none⟩ = some (.string (str (oa.getD []))) := ⟨_, rfl⟩
          have p1 := fun W (h : Ok GY W) => (show W.cell? ⟨b1, o1 + k, none⟩ = some (.int .i64 a) by rw [hGY] at h; exact h.1)
          have p2 := fun W (h : Ok GY W) => (show W.cell? ⟨b2, o2 + k, none⟩ = some (.string (str u)) by rw [hGY] at h; exact h.2.1)
          have p3 := fun W (h : Ok GY W) => (show W.cell? ⟨K, a, none⟩ = some (.bool oa.isSome) by rw [hGY] at h; exact h.2.2.1)
          have p4 := fun W (h : Ok GY W) => (show W.cell? ⟨S, a, none⟩ = some (.string (str (oa.getD []))) by rw [hGY] at h; exact h.2.2.2)
          rw [← hGY] at GYr
          clear hGY
          cases oa with
          | none =>
            by_cases haj : a ≤ j
            · have HN := Lib.hid (show flowS d.instrs = false by
                rw [HD.out]
                unfold mt
                rw [HOA.out]
                simp only
                rw [if_pos haj]
                rfl)
              have hd1 : decide ((a : Int) ≤ (j : Int)) = true := by simp; omega
              go_upto_region 26 with fail
              refine wp_region_plan (S := Ok GY) (by kernel_rfl) [(true, 0), (true, 1), (true, 2), (true, 3), (true, 4), (true, 5), (true, 6), (true, 7), (true, 8), (true, 9), (true, 10), (true, 11), (true, 12), (true, 13), (true, 14), (true, 15), (true, 16), (true, 17), (true, 18), (true, 19), (true, 20), (true, 21), (true, 22), (true, 23), (true, 24), (true, 25), (true, 26), (true, 27), (true, 28), (true, 29), (true, 30), (true, 31), (true, 32), (true, 33), (true, 34), (true, 35), (true, 36), (true, 37), (true, 38)] (by kernel_rfl) GYr ?_
              repeat ((first | (refine dyn_take rfl rfl (fun W g => by go_simp; rfl) ?_) | (refine dyn_skip rfl rfl ?_)); go_simp)
              refine dyn_done ?_
              go_wp2_with fail
              go_ret
              exact ⟨ret_bool HN.out.symm, TH.out.f.below.drew⟩
            · have hd1 : decide ((a : Int) ≤ (j : Int)) = false := by simp; omega
              have HM := Lib.hid (show mt j sy a u = some (sy.set a (some u)) by
                unfold mt
                rw [HOA.out]
                simp only
                rw [if_neg haj])
              go_upto_region 26 with fail
              refine wp_region_plan (S := Ok GY) (by kernel_rfl) [(true, 0), (true, 1), (true, 2), (true, 3), (true, 4), (true, 5), (true, 6), (true, 7), (true, 8), (true, 9), (true, 10), (true, 11), (true, 12), (true, 13), (true, 14), (true, 15), (true, 16), (true, 17), (true, 18), (true, 19), (true, 20), (true, 21), (true, 22), (true, 23), (true, 24), (true, 25), (true, 26), (true, 27), (true, 28), (true, 29), (true, 30), (true, 31), (true, 32), (true, 33), (true, 34), (true, 35), (true, 36), (true, 37), (true, 38)] (by kernel_rfl) GYr ?_
              repeat ((first | (refine dyn_take rfl rfl (fun W g => by go_simp; rfl) ?_) | (refine dyn_skip rfl rfl ?_)); go_simp)
              refine dyn_done ?_
              go_upto_region 29 with fail
              have HE2 := Lib.hid (show flowS d.instrs = endOk d.instrs.length ((runT j (sy.set a (some u)) (L.drop (k + 1))).bind (runF stepS (d.instrs.drop (j + 1)) (j + 1))) by
                rw [HD.out, HM.out]
                rfl)
              have cc := fun (W : World) (b0 o0 g0 : Nat) (v0 v1 : Value) (hne : b0 ≠ g0) (h : W.cell? ⟨b0, o0, none⟩ = some v0) => (World.cell?_of_block (a := ⟨b0, o0, none⟩) (Below.heap_setCell W ⟨g0, a, none⟩ v1 b0 hne)).trans h
              have CC := Lib.hid cc
              clear cc
              refine gen_w (G := fun W => TW w [v0, v1, .slice (some ⟨b, off, none⟩) d.instrs.length c] K S (sy.set a (some u)) sy B0 (.slice (some ⟨b1, o1, none⟩) L.length c10) (.slice (some ⟨b2, o2, none⟩) L.length c11) (tgT L) (tgX L) W ∧ W.cell? ⟨b1, o1 + k, none⟩ = some (.int .i64 a) ∧ W.cell? ⟨b2, o2 + k, none⟩ = some (.string (str u))) (show Ok _ _ from ⟨(TH.out.setK a u).drew, CC.out wr _ _ K _ (.bool true) (by omega) r1, CC.out wr _ _ K _ (.bool true) (by omega) r2⟩) ?_
              clear q1 q2 f1 f2 r1 r2 p1 p2 p3 p4 GYr
              rintro wk ⟨hT9, r1, r2⟩
              have q2 := hT9.f.sk.cell a (.string (str ((none : Option (List UInt8)).getD []))) (by have h9 := QA.out; simp [skL, hal, h9])
              have f2 := hT9.f.sk.frozen a
              have T9 := Lib.hid hT9
              clear hT9
              obtain ⟨GZ, hGZ⟩ : ∃ GZ : World → Prop, GZ = fun W => W.cell? ⟨b1, o1 + k, none⟩ = some (.int .i64 a) ∧ W.cell? ⟨b2, o2 + k, none⟩ = some (.string (str u)) := ⟨_, rfl⟩
              have p1 := fun W (h : Ok GZ W) => (show W.cell? ⟨b1, o1 + k, none⟩ = some (.int .i64 a) by rw [hGZ] at h; exact h.1)
              have p2 := fun W (h : Ok GZ W) => (show W.cell? ⟨b2, o2 + k, none⟩ = some (.string (str u)) by rw [hGZ] at h; exact h.2)
              have GZ9 := Lib.hid (show Ok GZ (wk.drew.setCell ⟨S, a, none⟩ (.string (str u))) by rw [hGZ]; exact ⟨CC.out wk.drew _ _ S _ _ (by omega) r1, CC.out wk.drew _ _ S _ _ (by omega) r2⟩)
              have GZr : Ok GZ wk.drew := by rw [hGZ]; exact ⟨r1, r2⟩
              clear hGZ r1 r2
              refine wp_region_plan (S := Ok GZ) (by kernel_rfl) [(true, 0), (true, 1), (true, 2), (true, 3), (true, 4), (true, 5), (true, 6), (true, 7), (true, 8), (true, 9), (false, 10)] (by kernel_rfl) GZr ?_
              repeat ((first | (refine dyn_take rfl rfl (fun W g => by go_simp; rfl) ?_) | (refine dyn_skip rfl rfl ?_)); go_simp)
              refine dyn_act rfl rfl (fun K9 hK => ?_)
              go_wp2_with fail
              refine hK.out _ _ GZ9.out ?_
              clear hK GZ9
              refine dyn_done ?_
              have T0 := Lib.hid (T9.out.drew.setS a u)
              clear T9 q2 f2 p1 p2 GZr
              have hly2 := Lib.hid (show (sy.set a (some u)).length = d.instrs.length + 1 by rw [List.length_set]; exact hly.out)
              have hby2 := Lib.hid (show ∀ s, some s ∈ sy.set a (some u) → s.length ≤ j + 1 from fun s hs => by
                rcases List.mem_or_eq_of_mem_set hs with h | h
                · exact hby.out s h
                · injection h with h; subst h; exact hul)
              go_wp2_with fail
              go_roundw
              case rel => first | exact ⟨k + 1, sy.set a (some u), by omega, by go_num, hly2, hby2, HE2, T0⟩ | ((repeat apply Exists.intro); exact ⟨⟨k + 1, sy.set a (some u), by omega, by go_num, hly2, hby2, HE2, T0⟩, rfl⟩)
              case measure => simp [intOf]; omega
          | some v =>
            cases hq : (v == u)
            · have HN := Lib.hid (show flowS d.instrs = false by
                rw [HD.out]
                unfold mt
                rw [HOA.out]
                simp only
                rw [if_neg (by simpa using hq)]
                rfl)
              have hq2 : (v != u) = true := by rw [bne, hq]; rfl
              go_upto_region 26 with fail
              refine wp_region_plan (S := Ok GY) (by kernel_rfl) [(true, 0), (true, 1), (true, 2), (true, 3), (true, 4), (true, 5), (true, 6), (true, 7), (true, 8), (true, 9), (true, 10), (true, 11), (true, 12), (true, 13), (true, 14), (true, 15), (true, 16), (true, 17), (true, 18), (true, 19), (true, 20), (true, 21), (true, 22), (true, 23), (true, 24), (true, 25), (true, 26), (true, 27), (true, 28), (true, 29), (true, 30), (true, 31), (true, 32), (true, 33), (true, 34), (true, 35), (true, 36), (true, 37), (true, 38)] (by kernel_rfl) GYr ?_
              repeat ((first | (refine dyn_take rfl rfl (fun W g => by go_simp; rfl) ?_) | (refine dyn_skip rfl rfl ?_)); go_simp)
              refine dyn_done ?_
              go_wp2_with fail
              go_ret
              exact ⟨ret_bool HN.out.symm, TH.out.f.below.drew⟩
            · have HM := Lib.hid (show mt j sy a u = some (sy.set a (some u)) by
                unfold mt
                rw [HOA.out]
                simp only
                rw [if_pos (by simpa using hq)])
              have hq2 : (v != u) = false := by rw [bne, hq]; rfl
              go_upto_region 26 with fail
              refine wp_region_plan (S := Ok GY) (by kernel_rfl) [(true, 0), (true, 1), (true, 2), (true, 3), (true, 4), (true, 5), (true, 6), (true, 7), (true, 8), (true, 9), (true, 10), (true, 11), (true, 12), (true, 13), (true, 14), (true, 15), (true, 16), (true, 17), (true, 18), (true, 19), (true, 20), (true, 21), (true, 22), (true, 23), (true, 24), (true, 25), (true, 26), (true, 27), (true, 28), (true, 29), (true, 30), (true, 31), (true, 32), (true, 33), (true, 34), (true, 35), (true, 36), (true, 37), (true, 38)] (by kernel_rfl) GYr ?_
              repeat ((first | (refine dyn_take rfl rfl (fun W g => by go_simp; rfl) ?_) | (refine dyn_skip rfl rfl ?_)); go_simp)
              refine dyn_done ?_
              go_upto_region 29 with fail
              have HE2 := Lib.hid (show flowS d.instrs = endOk d.instrs.length ((runT j (sy.set a (some u)) (L.drop (k + 1))).bind (runF stepS (d.instrs.drop (j + 1)) (j + 1))) by
                rw [HD.out, HM.out]
                rfl)
              have cc := fun (W : World) (b0 o0 g0 : Nat) (v0 v1 : Value) (hne : b0 ≠ g0) (h : W.cell? ⟨b0, o0, none⟩ = some v0) => (World.cell?_of_block (a := ⟨b0, o0, none⟩) (Below.heap_setCell W ⟨g0, a, none⟩ v1 b0 hne)).trans h
              have CC := Lib.hid cc
              clear cc
              refine gen_w (G := fun W => TW w [v0, v1, .slice (some ⟨b, off, none⟩) d.instrs.length c] K S (sy.set a (some u)) sy B0 (.slice (some ⟨b1, o1, none⟩) L.length c10) (.slice (some ⟨b2, o2, none⟩) L.length c11) (tgT L) (tgX L) W ∧ W.cell? ⟨b1, o1 + k, none⟩ = some (.int .i64 a) ∧ W.cell? ⟨b2, o2 + k, none⟩ = some (.string (str u))) (show Ok _ _ from ⟨(TH.out.setK a u).drew, CC.out wr _ _ K _ (.bool true) (by omega) r1, CC.out wr _ _ K _ (.bool true) (by omega) r2⟩) ?_
              clear q1 q2 f1 f2 r1 r2 p1 p2 p3 p4 GYr
              rintro wk ⟨hT9, r1, r2⟩
              have q2 := hT9.f.sk.cell a (.string (str ((some v).getD []))) (by have h9 := QA.out; simp [skL, hal, h9])
              have f2 := hT9.f.sk.frozen a
              have T9 := Lib.hid hT9
              clear hT9
              obtain ⟨GZ, hGZ⟩ : ∃ GZ : World → Prop, GZ = fun W => W.cell? ⟨b1, o1 + k, none⟩ = some (.int .i64 a) ∧ W.cell? ⟨b2, o2 + k, none⟩ = some (.string (str u)) := ⟨_, rfl⟩
              have p1 := fun W (h : Ok GZ W) => (show W.cell? ⟨b1, o1 + k, none⟩ = some (.int .i64 a) by rw [hGZ] at h; exact h.1)
              have p2 := fun W (h : Ok GZ W) => (show W.cell? ⟨b2, o2 + k, none⟩ = some (.string (str u)) by rw [hGZ] at h; exact h.2)
              have GZ9 := Lib.hid (show Ok GZ (wk.drew.setCell ⟨S, a, none⟩ (.string (str u))) by rw [hGZ]; exact ⟨CC.out wk.drew _ _ S _ _ (by omega) r1, CC.out wk.drew _ _ S _ _ (by omega) r2⟩)
              have GZr : Ok GZ wk.drew := by rw [hGZ]; exact ⟨r1, r2⟩
              clear hGZ r1 r2
              refine wp_region_plan (S := Ok GZ) (by kernel_rfl) [(true, 0), (true, 1), (true, 2), (true, 3), (true, 4), (true, 5), (true, 6), (true, 7), (true, 8), (true, 9), (false, 10)] (by kernel_rfl) GZr ?_
              repeat ((first | (refine dyn_take rfl rfl (fun W g => by go_simp; rfl) ?_) | (refine dyn_skip rfl rfl ?_)); go_simp)
              refine dyn_act rfl rfl (fun K9 hK => ?_)
              go_wp2_with fail
              refine hK.out _ _ GZ9.out ?_
              clear hK GZ9
              refine dyn_done ?_
              have T0 := Lib.hid (T9.out.drew.setS a u)
              clear T9 q2 f2 p1 p2 GZr
              have hly2 := Lib.hid (show (sy.set a (some u)).length = d.instrs.length + 1 by rw [List.length_set]; exact hly.out)
              have hby2 := Lib.hid (show ∀ s, some s ∈ sy.set a (some u) → s.length ≤ j + 1 from fun s hs => by
                rcases List.mem_or_eq_of_mem_set hs with h | h
                · exact hby.out s h
                · injection h with h; subst h; exact hul)
              go_wp2_with fail
              go_roundw
              case rel => first | exact ⟨k + 1, sy.set a (some u), by omega, by go_num, hly2, hby2, HE2, T0⟩ | ((repeat apply Exists.intro); exact ⟨⟨k + 1, sy.set a (some u), by omega, by go_num, hly2, hby2, HE2, T0⟩, rfl⟩)
              case measure => simp [intOf]; omega
end Go.Proofs.YtjdfancbmjnjfaaGreat
