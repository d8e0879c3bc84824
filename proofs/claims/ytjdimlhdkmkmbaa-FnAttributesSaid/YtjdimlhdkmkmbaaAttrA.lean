/-
  Contracts: names that are tidied; the texts of a vector.
-/
import Derived.Test.YtjdimlhdkmkmbaaDrawFac
import Derived.Test.YtjdimlhdkmkmbaaKInh
namespace Go.Proofs.Ytjdimlhdkmkmbaa
set_option maxRecDepth 100000
open Go.ChangeShapes Go.WideShapes Go.ChangeAt Go.RowKit Go.Deep
set_option linter.unusedVariables false

def RetTidy (cs : List Value) (d : VecD) (w : World) (e : Ending) (w' : World) : Prop :=
  ∃ cs' : List Value, e = .returned (.agg cs'.toArray) ∧ Below w.heap.size w w' ∧ ((allE d.names = false ∧ cs' = cs) ∨ (allE d.names = true ∧ cs' = cs.set 3 (.slice none 0 0)))
theorem tidy_own {S : Nat → Prop} {w w' : World} {cs : List Value} {d : VecD} {e : Ending} (h : VecO S w cs d) (hS : ∀ x, S x → x < w.heap.size) (hr : RetTidy cs d w e w') :
    ∃ cs', e = .returned (.agg cs'.toArray) ∧ Below w.heap.size w w' ∧ VecO S w' cs' (setN d (tidyN d.names)) := by
  obtain ⟨cs', he, hb, hc⟩ := hr
  have hk : Keeps S w w' := ⟨hb.size, fun x _ hx => hb.block x (hS x hx)⟩
  refine ⟨cs', he, hb, ?_⟩
  rcases hc with ⟨h1, rfl⟩ | ⟨h1, rfl⟩
  · rw [tidyN_no h1, setN_same]
    exact h.keeps hk
  · rw [tidyN_yes h1]
    obtain ⟨A1, c1, A2, c2, A3, c3, A4, c4, A5, c5, rfl⟩ := h.shape
    obtain ⟨S3, h3, hn, hS3, hcl⟩ := h.ed3
    exact hcl w' S (fun _ => False) none 0 [] (hk.mono fun x hx => hx.1) (TxtO.nil_ _ _) (fun x hx => hx.elim) (fun x hx _ => hx)

set_option maxHeartbeats 2000000 in
theorem impl_tidyNames (d : VecD) (cs : List Value) (w : World) (h : VecR w cs d) :
    Calls Try.prog 43 #[.agg cs.toArray] w (RetTidy cs d w) := by
  obtain ⟨n, A1, c1, A2, c2, A3, c3, A4, c4, A5, c5, rfl, k0, k1, k2, l1, l2, l3, l4, l5, HV⟩ := h.open_
  clear h
  have HN := Lib.hid HV.out.2.2.1
  go_enter Try.func43, Try.ntmps43
  go_upto_region 1 with fail
  refine gen_w (G := fun W => Blk W w.heap.size 28 [.int .i64 d.kind, .slice A1 d.items.length c1, .slice A2 d.parts.length c2, .slice A3 d.names.length c3, .slice A4 d.cls.length c4, .slice A5 d.levels.length c5, .int .i64 d.code, .int .i64 d.env] ∧ Blk W (w.heap.size + 1) 28 nvZ ∧ Below w.heap.size w W) (show Ok _ _ from ⟨(Blk.new w 28 [.int .i64 d.kind, .slice A1 d.items.length c1, .slice A2 d.parts.length c2, .slice A3 d.names.length c3, .slice A4 d.cls.length c4, .slice A5 d.levels.length c5, .int .i64 d.code, .int .i64 d.env]).alloc _, Blk.new_at _ 28 nvZ _ (by simp), ((Below.refl _ _).alloc (Nat.le_refl _) _).alloc (by simp) _⟩) ?_
  rintro W0 ⟨hP, hR, hB⟩
  have HB := Lib.hid hB
  have HT := Lib.hid (HN.out.below hB)
  have HR := Lib.hid hR
  have HP := Lib.hid hP
  have hlt := hR.lt
  have hlt0 := hP.lt
  have y0 := hP.cell 0 _ rfl
  have y1 := hP.cell 1 _ rfl
  have y2 := hP.cell 2 _ rfl
  have y3 := hP.cell 3 _ rfl
  have y4 := hP.cell 4 _ rfl
  have y5 := hP.cell 5 _ rfl
  have y6 := hP.cell 6 _ rfl
  have y7 := hP.cell 7 _ rfl
  have f0 := hP.frozen 0
  have f1 := hP.frozen 1
  have f2 := hP.frozen 2
  have f3 := hP.frozen 3
  have f4 := hP.frozen 4
  have f5 := hP.frozen 5
  have f6 := hP.frozen 6
  have f7 := hP.frozen 7
  have r0 := hR.cell 0 _ rfl
  have r1 := hR.cell 1 _ rfl
  have r2 := hR.cell 2 _ rfl
  have r3 := hR.cell 3 _ rfl
  have r4 := hR.cell 4 _ rfl
  have r5 := hR.cell 5 _ rfl
  have r6 := hR.cell 6 _ rfl
  have r7 := hR.cell 7 _ rfl
  have z0 := hR.frozen 0
  have z1 := hR.frozen 1
  have z2 := hR.frozen 2
  have z3 := hR.frozen 3
  have z4 := hR.frozen 4
  have z5 := hR.frozen 5
  have z6 := hR.frozen 6
  have z7 := hR.frozen 7
  clear hP hR hB
  cases he : allE d.names
  · have HE := Lib.hid he
    go_wp2_with (go_at_call 96; refine (impl_allEmpty d.names _ _ (by exact HT.out)).mono ?_; rintro e w' ⟨rfl, rfl⟩; rw [HE.out])
    have HBX := HB
    exact bodyPost_ret (v := .agg #[.int .i64 d.kind, .slice A1 d.items.length c1, .slice A2 d.parts.length c2, .slice A3 d.names.length c3, .slice A4 d.cls.length c4, .slice A5 d.levels.length c5, .int .i64 d.code, .int .i64 d.env]) (by simp [results, Try.results43, go_sem, r0, r1, r2, r3, r4, r5, r6, r7]; try rfl) rfl ⟨_, rfl, below_sc (b := w.heap.size + 1) (o := 7) (below_sc (b := w.heap.size + 1) (o := 6) (below_sc (b := w.heap.size + 1) (o := 5) (below_sc (b := w.heap.size + 1) (o := 4) (below_sc (b := w.heap.size + 1) (o := 3) (below_sc (b := w.heap.size + 1) (o := 2) (below_sc (b := w.heap.size + 1) (o := 1) (below_sc (b := w.heap.size + 1) (o := 0) (HBX.out) (by omega) (.int .i64 d.kind)) (by omega) (.slice A1 d.items.length c1)) (by omega) (.slice A2 d.parts.length c2)) (by omega) (.slice A3 d.names.length c3)) (by omega) (.slice A4 d.cls.length c4)) (by omega) (.slice A5 d.levels.length c5)) (by omega) (.int .i64 d.code)) (by omega) (.int .i64 d.env), .inl ⟨HE.out, rfl⟩⟩
  · have HE := Lib.hid he
    have HBX := Lib.hid (below_sc (b := w.heap.size) (o := 3) HB.out (Nat.le_refl _) (.slice none 0 0))
    have HPN := Lib.hid (HP.out.set_ 3 (.slice none 0 0))
    have HRN := Lib.hid (HR.out.far ⟨w.heap.size, 3, none⟩ (by show w.heap.size + 1 ≠ w.heap.size; omega) (.slice none 0 0))
    go_wp2_with (go_at_call 96; refine (impl_allEmpty d.names _ _ (by exact HT.out)).mono ?_; rintro e w' ⟨rfl, rfl⟩; rw [HE.out])
    exact bodyPost_ret (v := .agg #[.int .i64 d.kind, .slice A1 d.items.length c1, .slice A2 d.parts.length c2, .slice none 0 0, .slice A4 d.cls.length c4, .slice A5 d.levels.length c5, .int .i64 d.code, .int .i64 d.env]) (by simp [results, Try.results43, go_sem, r0, r1, r2, r3, r4, r5, r6, r7]; try rfl) rfl ⟨_, rfl, below_sc (b := w.heap.size + 1) (o := 7) (below_sc (b := w.heap.size + 1) (o := 6) (below_sc (b := w.heap.size + 1) (o := 5) (below_sc (b := w.heap.size + 1) (o := 4) (below_sc (b := w.heap.size + 1) (o := 3) (below_sc (b := w.heap.size + 1) (o := 2) (below_sc (b := w.heap.size + 1) (o := 1) (below_sc (b := w.heap.size + 1) (o := 0) (HBX.out) (by omega) (.int .i64 d.kind)) (by omega) (.slice A1 d.items.length c1)) (by omega) (.slice A2 d.parts.length c2)) (by omega) (.slice none 0 0)) (by omega) (.slice A4 d.cls.length c4)) (by omega) (.slice A5 d.levels.length c5)) (by omega) (.int .i64 d.code)) (by omega) (.int .i64 d.env), .inr ⟨HE.out, rfl⟩⟩

/-! ### is an element missing? -/
set_option maxHeartbeats 2000000 in
theorem spec_l7First_z (l : List ItemD) (v : Value) (w : World) (h : Items w v l) :
    Calls Try.prog 100 #[v, .agg #[.int .i64 0, .int .i64 0, .string ByteArray.empty]] w fun e w' => ∃ r : Int, e = .returned (.int .i64 r) ∧ I64 r ∧ decide (r < 0) = l.all (fun x => !missing x) ∧ Below w.heap.size w w' := by
  obtain ⟨A, c, rfl, hlc, hm, HC⟩ := SlR.open_ h
  clear h
  unfold maxLen at hm
  go_enter Try.func100, Try.ntmps100
  go_upto_region 1 with fail
  obtain ⟨G, g0, HG⟩ : ∃ G : World → Prop, Ok G (w.alloc (.cells #[.int .i64 0, .int .i64 0, .string ByteArray.empty] 36)) ∧ Hid (∀ W, Ok G W → Blk W w.heap.size 36 [.int .i64 0, .int .i64 0, .string ByteArray.empty] ∧ Below w.heap.size w W) :=
    ⟨fun W => Blk W w.heap.size 36 [.int .i64 0, .int .i64 0, .string ByteArray.empty] ∧ Below w.heap.size w W, ⟨Blk.new w 36 [.int .i64 0, .int .i64 0, .string ByteArray.empty], (Below.refl _ _).alloc (Nat.le_refl _) _⟩, fun W h => h⟩
  have HS := Lib.hid (show ∀ W W', Ok G W → Below W.heap.size W W' → (Blk W' w.heap.size 36 [.int .i64 0, .int .i64 0, .string ByteArray.empty] ∧ Below w.heap.size w W') from fun W W' h hb => ⟨(HG.out W h).1.below hb, (HG.out W h).2.trans (hb.mono (HG.out W h).2.size)⟩)
  refine gen_w (G := fun W => Blk W w.heap.size 36 [.int .i64 0, .int .i64 0, .string ByteArray.empty] ∧ Below w.heap.size w W) (show Ok _ _ from HG.out _ g0) ?_
  clear g0 HG HS G
  intro W0 g0
  go_wp2_with fail
  go_loopw [5] (fun i wr => ∃ k : Nat, k ≤ l.length ∧ i = .int .i64 k ∧ Hid (∀ j (h : j < l.length), j < k → missing l[j] = false) ∧ Hid (Blk wr w.heap.size 36 [.int .i64 0, .int .i64 0, .string ByteArray.empty] ∧ Below w.heap.size w wr)) (fun i _ => l.length - (intOf i).toNat)
  case atStart => exact ⟨0, Nat.zero_le _, rfl, fun j _ h => absurd h (by omega), g0⟩
  case round =>
    clear g0
    obtain ⟨k, hk, rfl, HN, HB⟩ := hrel
    by_cases hlt : k < l.length
    · obtain ⟨b, off, cs, rfl, hbl, _, hat, hr⟩ := HC.out k hlt
      obtain ⟨rfl, hi0, hi1, hi2⟩ := hr
      have p0 : wr.cell? ⟨b, off + k * 3, none⟩ = some (.int .i64 l[k].num) := (HB.out.2.cell (p := ⟨b, off + k * 3, none⟩) hbl).trans (by simpa using hat 0 _ rfl)
      have p1 : wr.cell? ⟨b, off + k * 3 + 1, none⟩ = some (.int .i64 l[k].den) := (HB.out.2.cell (p := ⟨b, off + k * 3 + 1, none⟩) hbl).trans (hat 1 _ rfl)
      have p2 : wr.cell? ⟨b, off + k * 3 + 2, none⟩ = some (.string (str l[k].text)) := (HB.out.2.cell (p := ⟨b, off + k * 3 + 2, none⟩) hbl).trans (hat 2 _ rfl)
      have x0 := HB.out.1.cell 0 _ rfl
      have x1 := HB.out.1.cell 1 _ rfl
      have x2 := HB.out.1.cell 2 _ rfl
      clear hat
      cases hmi : missing l[k]
      · have HM := Lib.hid hmi
        have HX : Hid (¬ (l[k].num = 0 ∧ l[k].den = 0 ∧ l[k].text = [])) := fun hx => by
          have := HM.out
          simp [missing, hx.1, hx.2.1, hx.2.2] at this
        clear hmi
        by_cases g0 : l[k].num = 0 <;> by_cases g1 : l[k].den = 0 <;> by_cases g2 : l[k].text = []
        · exact absurd ⟨g0, g1, g2⟩ HX.out
        all_goals
          go_wp2_with fail
          go_quiet (fail)
          have HB2 := Lib.hid (show Blk (wr.drewN nq) w.heap.size 36 [.int .i64 0, .int .i64 0, .string ByteArray.empty] ∧ Below w.heap.size w (wr.drewN nq) from ⟨HB.out.1.below (below_drewN (Below.refl _ _) nq), HB.out.2.trans (below_drewN (Below.refl _ _) nq)⟩)
          go_wp2_with fail
          go_roundw
          case rel => exact ⟨k + 1, by omega, by go_num, fun j h1 hj => by rcases Nat.lt_succ_iff_lt_or_eq.1 hj with h3 | rfl; exact HN.out j h1 h3; exact HM.out, HB2⟩
          case measure => simp [intOf]; omega
      · have HM := Lib.hid hmi
        have hx : l[k].num = 0 ∧ l[k].den = 0 ∧ l[k].text = [] := by
          have := HM.out
          simpa [missing, Bool.and_eq_true, and_assoc] using this
        obtain ⟨g0, g1, g2⟩ := hx
        clear hmi
        go_wp2_with fail
        go_quiet (fail)
        have HB2 := Lib.hid (HB.out.2.trans (below_drewN (Below.refl _ _) nq))
        go_wp2_with fail
        go_ret
        refine ⟨_, rfl, ⟨by omega, by omega⟩, ?_, HB2.out⟩
        rw [show decide ((k : Int) < 0) = false from decide_eq_false (by omega)]
        exact (List.all_eq_false.2 ⟨_, List.getElem_mem hlt, by rw [HM.out]; decide⟩).symm
    · have HAL := Lib.hid (show l.all (fun x => !missing x) = true from List.all_eq_true.2 fun x hx => by obtain ⟨j, hj, rfl⟩ := List.getElem_of_mem hx; rw [HN.out j hj (by omega)]; rfl)
      go_wp2_with fail
      go_ret
      exact ⟨_, rfl, ⟨by decide, by decide⟩, by rw [HAL.out]; rfl, HB.out.2⟩

/-! ### the texts of a vector -/
def RetLab (u : VecD) (w : World) (e : Ending) (w' : World) : Prop :=
  ∃ (A : Option Addr) (n c : Nat), e = .returned (.tuple #[.slice A n c, .bool (txtsOk u)]) ∧ (txtsOk u = true → TxtO (Rng w.heap.size w'.heap.size) w' (.slice A n c) (txtsOf u) ∧ n = (txtsOf u).length) ∧ (txtsOk u = false → A = none ∧ n = 0 ∧ c = 0) ∧ Below w.heap.size w w'
theorem Items.text_le {w : World} {v : Value} {l : List ItemD} (h : Items w v l) : ∀ x ∈ l, x.text.length ≤ maxLen := by
  obtain ⟨A, c, rfl, hlc, hm, HC⟩ := SlR.open_ h
  intro x hx
  obtain ⟨j, hj, rfl⟩ := List.getElem_of_mem hx
  obtain ⟨b, off, cs, _, _, _, _, hr⟩ := HC.out j hj
  exact hr.2.2.2
theorem txts_flo {S : Nat → Prop} {w : World} {U : Option Addr} {k q lo : Nat} {u : VecD} (h : w.ownsRow lo 9 1 (.slice U k q) k ((txtsOf u).map fun s => Value.string (str s))) (hk : u.items.length = k) (hs : ∀ x ∈ u.items, x.text.length ≤ maxLen) (hS : ∀ b, Rng lo w.heap.size b → S b) : TxtO S w (.slice U k q) (txtsOf u) := by
  have hl : (txtsOf u).length = k := by rw [txtsOf, List.length_map]; exact hk
  refine ⟨?_, fun s hs' => ?_⟩
  · rw [hl]
    exact (FlO.of_own h).mono hS
  · obtain ⟨x, hx, rfl⟩ := List.mem_map.1 hs'
    exact hs x hx

set_option maxHeartbeats 4000000 in
theorem impl_labelsOf (d : VecD) (cs : List Value) (w : World) (h : VecR w cs d) (hz : szVector d ≤ 1000000000000) :
    Calls Try.prog 49 #[.agg cs.toArray] w (RetLab d w) := by
  obtain ⟨n, A1, c1, A2, c2, A3, c3, A4, c4, A5, c5, rfl, k0, k1, k2, l1, l2, l3, l4, l5, HV⟩ := h.open_
  clear h
  have HIT := Lib.hid HV.out.1
  have HTL := Lib.hid (Items.text_le HV.out.1)
  obtain ⟨A, c, hv, hlc, hm, HC⟩ := SlR.open_ HIT.out
  injection hv with e1 e2 e3
  subst e1 e3
  unfold maxLen at hm
  have hil : d.items.length ≤ 1000000000000 := by have := sz_len d; omega
  clear HV HIT e2
  go_enter Try.func49, Try.ntmps49
  go_upto_region 1 with fail
  refine gen_w (G := fun W => Blk W w.heap.size 28 [.int .i64 d.kind, .slice A1 d.items.length c1, .slice A2 d.parts.length c2, .slice A3 d.names.length c3, .slice A4 d.cls.length c4, .slice A5 d.levels.length c5, .int .i64 d.code, .int .i64 d.env] ∧ Below w.heap.size w W) (show Ok _ _ from ⟨Blk.new w 28 [.int .i64 d.kind, .slice A1 d.items.length c1, .slice A2 d.parts.length c2, .slice A3 d.names.length c3, .slice A4 d.cls.length c4, .slice A5 d.levels.length c5, .int .i64 d.code, .int .i64 d.env], (Below.refl _ _).alloc (Nat.le_refl _) _⟩) ?_
  rintro W0 ⟨hP, hB⟩
  have HP := Lib.hid hP
  have HB := Lib.hid hB
  clear hP hB
  by_cases hk : d.kind = 0 ∨ d.kind = 3
  rotate_left
  · have x0 := HP.out.cell 0 _ rfl
    have h0 : ¬ d.kind = 0 := fun h => hk (.inl h)
    have h3 : ¬ d.kind = 3 := fun h => hk (.inr h)
    have HF := Lib.hid (show txtsOk d = false by simp [txtsOk, h0, h3])
    have b0 : (d.kind != 0) = true := by simpa using h0
    have b3 : (d.kind != 3) = true := by simpa using h3
    clear hk
    go_wp2_with fail
    exact bodyPost_ret (v := .tuple #[.slice none 0 0, .bool false]) (by simp [results, Try.results49, go_sem]) rfl ⟨none, 0, 0, by rw [HF.out], fun h => (by rw [HF.out] at h; cases h), fun _ => ⟨rfl, rfl, rfl⟩, HB.out⟩
  have HK := Lib.hid (show (d.kind == 0 || d.kind == 3) = true by simpa using hk)
  have x0 := HP.out.cell 0 _ rfl
  have x1 := HP.out.cell 1 _ rfl
  have hlt0 := HP.out.lt
  go_cut [14] from 7 to 15 (fun s wx => s = .bool false ∧ W0 = wx)
  case first =>
    rcases hk with h | h
    all_goals
      go_wp2_with fail
      go_meet
      case rel => exact ⟨rfl, rfl⟩
  obtain ⟨rfl, rfl⟩ := hcut
  clear hk x0
  go_wp2_with fail
  go_loopw [4, 18] (fun o i wr => ∃ (k : Nat) (U : Option Addr) (q : Nat), k ≤ d.items.length ∧ i = .int .i64 k ∧ o = .slice U k q ∧ Hid (∀ j (h : j < d.items.length), j < k → missing d.items[j] = false) ∧ Hid (wr.ownsRow (w.heap.size + 1) 9 1 (.slice U k q) k (((d.items.take k).map ItemD.text).map fun s => Value.string (str s))) ∧ Hid (Below w.heap.size w wr ∧ w.heap.size + 1 ≤ wr.heap.size)) (fun _ i _ => d.items.length - (intOf i).toNat)
  case atStart => exact ⟨0, none, 0, Nat.zero_le _, rfl, rfl, fun j _ h => absurd h (by omega), World.ownsRow_nil _ _ _ _, HB.out, hlt0⟩
  case round =>
    obtain ⟨k, U, q, hk, rfl, rfl, HN, HO, HBL⟩ := hrel
    by_cases hlt : k < d.items.length
    · obtain ⟨b, off, cs, rfl, hbl, _, hat, hr⟩ := HC.out k hlt
      have HR := Lib.hid hr
      obtain ⟨rfl, hi0, hi1, hi2⟩ := hr
      have p0 : wr.cell? ⟨b, off + k * 3, none⟩ = some (.int .i64 d.items[k].num) := (HBL.out.1.cell (p := ⟨b, off + k * 3, none⟩) hbl).trans (by simpa using hat 0 _ rfl)
      have p1 : wr.cell? ⟨b, off + k * 3 + 1, none⟩ = some (.int .i64 d.items[k].den) := (HBL.out.1.cell (p := ⟨b, off + k * 3 + 1, none⟩) hbl).trans (hat 1 _ rfl)
      have p2 : wr.cell? ⟨b, off + k * 3 + 2, none⟩ = some (.string (str d.items[k].text)) := (HBL.out.1.cell (p := ⟨b, off + k * 3 + 2, none⟩) hbl).trans (hat 2 _ rfl)
      have HX := Lib.hid (show Blk (wr.alloc (.cells #[.int .i64 d.items[k].num, .int .i64 d.items[k].den, .string (str d.items[k].text)] 36)) wr.heap.size 36 [.int .i64 d.items[k].num, .int .i64 d.items[k].den, .string (str d.items[k].text)] ∧ Below wr.heap.size wr (wr.alloc (.cells #[.int .i64 d.items[k].num, .int .i64 d.items[k].den, .string (str d.items[k].text)] 36)) from ⟨Blk.new wr _ [.int .i64 d.items[k].num, .int .i64 d.items[k].den, .string (str d.items[k].text)], (Below.refl _ _).alloc (Nat.le_refl _) _⟩)
      clear hat
      go_upto_region 7 with fail
      generalize hbx : wr.heap.size = bx at HX ⊢
      have hbx2 : w.heap.size + 1 ≤ bx := by have := HBL.out.2; omega
      have HO7 := Lib.hid (fun W' (hb : Below bx wr W') => own_below HO.out (hbx ▸ hb))
      have HB7 := Lib.hid (fun W' (hb : Below bx wr W') => (show Below w.heap.size w W' from HBL.out.1.trans (hb.mono (by omega))))
      clear hbx HO HBL p0 p1 p2
      refine gen_w (G := fun W => Blk W bx 36 [.int .i64 d.items[k].num, .int .i64 d.items[k].den, .string (str d.items[k].text)] ∧ Below bx wr W) HX.out ?_
      rintro w7 ⟨hX7, hB7⟩
      have HX7 := Lib.hid hX7
      have HB8 := Lib.hid hB7
      have x0 := hX7.cell 0 _ rfl
      have x1 := hX7.cell 1 _ rfl
      have x2 := hX7.cell 2 _ rfl
      clear hX7 hB7 HX
      go_wp2_with fail
      refine Calls.mono (impl_isMissing d.items[k] _ _ (by exact HR.out)) ?_
      rintro e w8 ⟨rfl, hb⟩
      have HX8 := Lib.hid (HX7.out.below hb)
      have HB9 := Lib.hid (HB8.out.trans (hb.mono (Nat.le_of_lt HX7.out.lt)))
      clear hb x0 x1 x2 HX7 HB8
      cases hmi : missing d.items[k]
      · have HM := Lib.hid hmi
        have HOW := Lib.hid (HO7.out _ HB9.out)
        have x2 := HX8.out.cell 2 _ rfl
        have hwl : w.heap.size + 1 ≤ w8.heap.size := by have := HX8.out.lt; omega
        clear hmi
        go_wp2_with (at_builtin; go_must (refine wpList_push rfl _ _ 26 rfl (w.heap.size + 1) 9 (.string ByteArray.empty) 1 16 Try.underlying26 info_str rfl (by decide) _ _ _ _ _ rfl rfl (by exact HOW.out) rfl (by simp [Value.oneCell']) (by omega) (by omega) hwl ?_); intro v1 w9 ho1 hg1 hk1 hb1; obtain ⟨A9, c9, rfl⟩ := own_shapeN ho1)
        go_roundw
        case rel =>
          refine ⟨k + 1, A9, c9, hlt, by go_num, rfl, fun j h1 hj => ?_, ?_, (HB7.out _ HB9.out).trans (hb1.mono (by omega)), Nat.le_trans hwl hb1.size⟩
          · rcases Nat.lt_succ_iff_lt_or_eq.1 hj with h3 | rfl
            · exact HN.out j h1 h3
            · exact HM.out
          · show World.ownsRow _ _ _ _ _ _ _
            rw [take_map_succ _ _ _ hlt, List.map_append]
            exact ho1
        case measure => simp [intOf]; omega
      · have HM := Lib.hid hmi
        have HF := Lib.hid (show txtsOk d = false by
          unfold txtsOk
          rw [HK.out, Bool.true_and]
          exact List.all_eq_false.2 ⟨_, List.getElem_mem hlt, by rw [HM.out]; decide⟩)
        clear hmi
        go_wp2_with fail
        exact bodyPost_ret (v := .tuple #[.slice none 0 0, .bool false]) (by simp [results, Try.results49, go_sem]) rfl ⟨none, 0, 0, by rw [HF.out], fun h => (by rw [HF.out] at h; cases h), fun _ => ⟨rfl, rfl, rfl⟩, HB7.out _ HB9.out⟩
    · obtain rfl : k = d.items.length := by omega
      have HT := Lib.hid (show txtsOk d = true by
        unfold txtsOk
        rw [HK.out, Bool.true_and]
        exact List.all_eq_true.2 fun x hx => by obtain ⟨j, hj, rfl⟩ := List.getElem_of_mem hx; rw [HN.out j hj (by omega)]; rfl)
      go_wp2_with fail
      refine bodyPost_ret (v := .tuple #[.slice U d.items.length q, .bool true]) (by simp [results, Try.results49, go_sem]) rfl ⟨U, d.items.length, q, by rw [HT.out], fun _ => ⟨txts_flo (by have := HO.out; rw [List.take_length] at this; exact this) rfl HTL.out (fun b hb => ⟨by have := hb.1; omega, hb.2⟩), by rw [txtsOf, List.length_map]⟩, fun h => (by rw [HT.out] at h; cases h), HBL.out.1⟩

def RetStr (u : VecD) (w : World) (e : Ending) (w' : World) : Prop :=
  ∃ (A : Option Addr) (n c : Nat), e = .returned (.tuple #[.slice A n c, .bool (txtsOk u)]) ∧ TxtO (Rng w.heap.size w'.heap.size) w' (.slice A n c) (txtsOf u) ∧ n = (txtsOf u).length ∧ Below w.heap.size w w'
set_option maxHeartbeats 4000000 in
theorem spec_l10Strings (d : VecD) (cs : List Value) (w : World) (h : VecR w cs d) (hz : szVector d ≤ 1000000000000) (h0 : d.kind = 0 → d.items = []) :
    Calls Try.prog 50 #[.agg cs.toArray] w (RetStr d w) := by
  obtain ⟨n, A1, c1, A2, c2, A3, c3, A4, c4, A5, c5, rfl, k0, k1, k2, l1, l2, l3, l4, l5, HV⟩ := h.open_
  clear h
  have H0 := Lib.hid h0
  have HIT := Lib.hid HV.out.1
  have HTL := Lib.hid (Items.text_le HV.out.1)
  obtain ⟨A, c, hv, hlc, hm, HC⟩ := SlR.open_ HIT.out
  injection hv with e1 e2 e3
  subst e1 e3
  unfold maxLen at hm
  have hil : d.items.length ≤ 1000000000000 := by have := sz_len d; omega
  clear HV e2 h0
  have HE := Lib.hid (owns_new (w.alloc (.cells ([.int .i64 d.kind, .slice A1 d.items.length c1, .slice A2 d.parts.length c2, .slice A3 d.names.length c3, .slice A4 d.cls.length c4, .slice A5 d.levels.length c5, .int .i64 d.code, .int .i64 d.env] : List Value).toArray 28)) 9 1 0 #[] 0 [] (by simp) (Nat.le_refl _) (by unfold maxLen; omega) (by simp) (by simp))
  go_enter Try.func50, Try.ntmps50
  go_upto_region 2 with fail
  refine gen_w (G := fun W => Blk W w.heap.size 28 [.int .i64 d.kind, .slice A1 d.items.length c1, .slice A2 d.parts.length c2, .slice A3 d.names.length c3, .slice A4 d.cls.length c4, .slice A5 d.levels.length c5, .int .i64 d.code, .int .i64 d.env] ∧ Below w.heap.size w W ∧ W.ownsRow (w.heap.size + 1) 9 1 (.slice (some ⟨w.heap.size + 1, 0, none⟩) 0 0) 0 []) (show Ok _ _ from ⟨(Blk.new w 28 [.int .i64 d.kind, .slice A1 d.items.length c1, .slice A2 d.parts.length c2, .slice A3 d.names.length c3, .slice A4 d.cls.length c4, .slice A5 d.levels.length c5, .int .i64 d.code, .int .i64 d.env]).alloc _, ((Below.refl _ _).alloc (Nat.le_refl _) _).alloc (by simp) _, by simpa using HE.out⟩) ?_
  rintro W0 ⟨hP, hB, hO⟩
  have HP := Lib.hid hP
  have HB := Lib.hid hB
  have HO0 := Lib.hid hO
  clear hP hB hO HE
  have hlt0 := HP.out.lt
  go_wp2_with fail
  go_loopw [4, 5] (fun o i wr => ∃ (k : Nat) (U : Option Addr) (q : Nat), k ≤ d.items.length ∧ i = .int .i64 k ∧ o = .slice U k q ∧ Hid (wr.ownsRow (w.heap.size + 1) 9 1 (.slice U k q) k (((d.items.take k).map ItemD.text).map fun s => Value.string (str s))) ∧ Hid (Blk wr w.heap.size 28 [.int .i64 d.kind, .slice A1 d.items.length c1, .slice A2 d.parts.length c2, .slice A3 d.names.length c3, .slice A4 d.cls.length c4, .slice A5 d.levels.length c5, .int .i64 d.code, .int .i64 d.env] ∧ Below w.heap.size w wr)) (fun _ i _ => d.items.length - (intOf i).toNat)
  case atStart => exact ⟨0, _, _, Nat.zero_le _, rfl, rfl, HO0.out, HP.out, HB.out⟩
  case round =>
    obtain ⟨k, U, q, hk, rfl, rfl, HO, HBL⟩ := hrel
    have x1 := HBL.out.1.cell 1 _ rfl
    have hltp := HBL.out.1.lt
    by_cases hlt : k < d.items.length
    · obtain ⟨b, off, cs, rfl, hbl, _, hat, hr⟩ := HC.out k hlt
      obtain ⟨rfl, hi0, hi1, hi2⟩ := hr
      have p2 : wr.cell? ⟨b, off + k * 3 + 2, none⟩ = some (.string (str d.items[k].text)) := (HBL.out.2.cell (p := ⟨b, off + k * 3 + 2, none⟩) hbl).trans (hat 2 _ rfl)
      have hwl : w.heap.size + 1 ≤ wr.heap.size := hltp
      clear hat
      go_wp2_with (at_builtin; go_must (refine wpList_push rfl _ _ 26 rfl (w.heap.size + 1) 9 (.string ByteArray.empty) 1 16 Try.underlying26 info_str rfl (by decide) _ _ _ _ _ rfl rfl (by exact HO.out) rfl (by simp [Value.oneCell']) (by omega) (by omega) hwl ?_); intro v1 w9 ho1 hg1 hk1 hb1; obtain ⟨A9, c9, rfl⟩ := own_shapeN ho1)
      go_roundw
      case rel =>
        refine ⟨k + 1, A9, c9, hlt, by go_num, rfl, ?_, (hb1.block _ (by omega)).trans HBL.out.1, HBL.out.2.trans (hb1.mono (by omega))⟩
        show World.ownsRow _ _ _ _ _ _ _
        rw [take_map_succ _ _ _ hlt, List.map_append]
        exact ho1
      case measure => simp [intOf]; omega
    · obtain rfl : k = d.items.length := by omega
      have x0 := HBL.out.1.cell 0 _ rfl
      have HO2 := Lib.hid (show wr.ownsRow (w.heap.size + 1) 9 1 (.slice U d.items.length q) d.items.length ((txtsOf d).map fun s => Value.string (str s)) by have := HO.out; rw [List.take_length] at this; exact this)
      clear HO
      have HFIN := Lib.hid (fun W' (hb : Below wr.heap.size wr W') => (show TxtO (Rng w.heap.size W'.heap.size) W' (.slice U d.items.length q) (txtsOf d) ∧ d.items.length = (txtsOf d).length ∧ Below w.heap.size w W' from ⟨txts_flo (own_below HO2.out hb) rfl HTL.out (fun b hb => ⟨by have := hb.1; omega, hb.2⟩), by rw [txtsOf, List.length_map], HBL.out.2.trans (hb.mono HBL.out.2.size)⟩))
      by_cases hk0 : d.kind = 0
      · have HT := Lib.hid (show txtsOk d = true by simp [txtsOk, hk0, H0.out hk0])
        have b0 : (d.kind == 0) = true := by simpa using hk0
        go_wp2_with fail
        exact bodyPost_ret (v := .tuple #[.slice U d.items.length q, .bool true]) (by simp [results, Try.results50, go_sem]) rfl ⟨U, d.items.length, q, by rw [HT.out], HFIN.out _ (Below.refl _ _)⟩
      by_cases hk3 : d.kind = 3
      · have b0 : (d.kind == 0) = false := by simpa using hk0
        have b3 : (d.kind == 3) = true := by simpa using hk3
        have HT := Lib.hid (show txtsOk d = d.items.all (fun x => !missing x) by unfold txtsOk; rw [b0, b3]; rfl)
        go_wp2_with fail
        refine Calls.mono (spec_l7First_z d.items _ _ (by exact HIT.out.below HBL.out.2)) ?_
        rintro e w9 ⟨r, rfl, hr, hrl, hb⟩
        have HF := Lib.hid (HFIN.out _ hb)
        have HRL := Lib.hid hrl
        clear hb hrl
        go_wp2_with fail
        exact bodyPost_ret (v := .tuple #[.slice U d.items.length q, .bool (decide (r < 0))]) (by simp [results, Try.results50, go_sem]) rfl ⟨U, d.items.length, q, by rw [HT.out, HRL.out], HF.out⟩
      · have b0 : (d.kind == 0) = false := by simpa using hk0
        have b3 : (d.kind == 3) = false := by simpa using hk3
        have HT := Lib.hid (show txtsOk d = false by unfold txtsOk; rw [b0, b3]; rfl)
        go_wp2_with fail
        exact bodyPost_ret (v := .tuple #[.slice U d.items.length q, .bool false]) (by simp [results, Try.results50, go_sem]) rfl ⟨U, d.items.length, q, by rw [HT.out], HFIN.out _ (Below.refl _ _)⟩
end Go.Proofs.Ytjdimlhdkmkmbaa
