/-
  Contract: envRight, of the program.
-/
import Derived.Test.YtejieacdfjpfnaaGreatStoreOk3
import Derived.Test.YtejieacdfjpfnaaGreatNames
import Derived.Deep.RegionHeld3
namespace Go.Proofs.YtejieacdfjpfnaaGreat
set_option maxRecDepth 100000
open Go.ChangeShapes Go.WideShapes Go.ChangeAt Go.RowKit Go.Deep

theorem EnvR.open_ {w : World} {cs : List Value} {x : EnvD} (h : EnvR w cs x) : ∃ (N : Option Addr) (n : Nat) (M : Option Addr) (m : Nat),
    cs = [.bool x.used, .int .i64 x.parent, .slice N x.names.length n, .slice M x.slots.length m] ∧ I64 x.parent ∧ x.names.length ≤ 9223372036854775807 ∧ x.slots.length ≤ 9223372036854775807 ∧
    Hid (Txts w (.slice N x.names.length n) x.names) ∧ Hid (Slots w (.slice M x.slots.length m) x.slots) := by
  obtain ⟨v2, v3, rfl, _, h1, h2, h3⟩ := h
  obtain ⟨N, n, rfl⟩ := SlR.shape h2
  obtain ⟨M, m, rfl⟩ := SlR.shape h3
  exact ⟨N, n, M, m, rfl, h1, SlR.length_le h2, SlR.length_le h3, h2, h3⟩

def enU (x : EnvD) : Bool := x.parent == 0 && decide (x.names.length = 0) && decide (x.slots.length = 0)
def enA (s : StoreD) (k : Nat) (x : EnvD) : Bool := (!((k : Int) == 0) || x.parent == -1) && (!decide (0 < (k : Int)) || (decide (x.parent < k) && envU s x.parent)) && decide (x.names.length = x.slots.length)
def enT (s : StoreD) (x : EnvD) (j : Nat) (h : j < x.names.length) (h' : j < x.slots.length) : Bool := isNameB x.names[j] && !hasB (x.names.take j) x.names[j] && slotOk s x.slots[j]
def enB (s : StoreD) (x : EnvD) : Bool := decide (∀ j (h : j < x.names.length) (h' : j < x.slots.length), enT s x j h h' = true)
def envOk (s : StoreD) (k : Nat) (x : EnvD) : Bool := if x.used = true then enA s k x && enB s x else enU x
theorem enB_no {s : StoreD} {x : EnvD} (j : Nat) (h : j < x.names.length) (h' : j < x.slots.length) (hf : enT s x j h h' = false) : enB s x = false := by
  unfold enB
  exact decide_eq_false (fun h9 => by rw [h9 j h h'] at hf; cases hf)
theorem ExL.drewN {w W : World} {B : Nat} {bs : List (Nat × Nat × List Value)} (h : ExL w B bs W) (n : Nat) : ExL w B bs (W.drewN n) := ⟨h.1, below_drewN h.2.1 _, h.2.2⟩
theorem sz_slot {x : EnvD} (j : Nat) (h : j < x.slots.length) : szVector x.slots[j].value ≤ szEnv x := by
  have h1 := szS_at szSlot x.slots j h
  have h2 : szVector x.slots[j].value ≤ szSlot x.slots[j] := by unfold szSlot; omega
  unfold szEnv
  omega

set_option maxHeartbeats 4000000 in
theorem impl_envRight (s : StoreD) (k : Nat) (hlt : k < s.envs.length) (ss : List Value) (w : World) (hs : StoreR w ss s) (hz : szEnv s.envs[k] ≤ 1000000000000) :
    Calls Tryz.prog 90 #[.agg ss.toArray, .int .i64 k] w (RetB (envOk s k s.envs[k]) w) := by
  have HS := Lib.hid hs
  obtain ⟨E0, e0, E1, e1, rfl, l0, l1, HE, HP⟩ := hs.open_
  clear hs
  obtain ⟨b, off, cs, rfl, hbl, _, hat, hr⟩ := HE.out k hlt
  obtain ⟨N, n, M, m, rfl, k0, m1, m2, HN, HM⟩ := hr.open_
  clear hr
  have hb1 := below_alloc1 w (.cells #[.slice (some ⟨b, off, none⟩) s.envs.length e0, .slice E1 s.promises.length e1] 33)
  have y0 := (hb1.cell (p := ⟨b, off + k * 4, none⟩) hbl).trans (by simpa using hat 0 _ rfl)
  have y1 := (hb1.cell (p := ⟨b, off + k * 4 + 1, none⟩) hbl).trans (hat 1 _ rfl)
  have y2 := (hb1.cell (p := ⟨b, off + k * 4 + 2, none⟩) hbl).trans (hat 2 _ rfl)
  have y3 := (hb1.cell (p := ⟨b, off + k * 4 + 3, none⟩) hbl).trans (hat 3 _ rfl)
  clear hat hb1
  have HX0 := Lib.hid (show ExL w w.heap.size [(w.heap.size + 1, 71, [.bool s.envs[k].used, .int .i64 s.envs[k].parent, .slice N s.envs[k].names.length n, .slice M s.envs[k].slots.length m]), (w.heap.size, 33, [.slice (some ⟨b, off, none⟩) s.envs.length e0, .slice E1 s.promises.length e1])] ((w.alloc (.cells #[.slice (some ⟨b, off, none⟩) s.envs.length e0, .slice E1 s.promises.length e1] 33)).alloc (.cells #[.bool s.envs[k].used, .int .i64 s.envs[k].parent, .slice N s.envs[k].names.length n, .slice M s.envs[k].slots.length m] 71)) from by simpa using ((ExL.start w).push 33 [.slice (some ⟨b, off, none⟩) s.envs.length e0, .slice E1 s.promises.length e1]).push 71 [.bool s.envs[k].used, .int .i64 s.envs[k].parent, .slice N s.envs[k].names.length n, .slice M s.envs[k].slots.length m])
  go_enter Tryz.func90, Tryz.ntmps90
  go_upto_region 2 with fail
  generalize ((w.alloc (.cells #[.slice (some ⟨b, off, none⟩) s.envs.length e0, .slice E1 s.promises.length e1] 33)).alloc (.cells #[.bool s.envs[k].used, .int .i64 s.envs[k].parent, .slice N s.envs[k].names.length n, .slice M s.envs[k].slots.length m] 71)) = W0 at HX0 ⊢
  generalize (Value.agg #[.bool s.envs[k].used, .int .i64 s.envs[k].parent, .slice N s.envs[k].names.length n, .slice M s.envs[k].slots.length m]) = V1
  generalize (Value.agg #[.slice (some ⟨b, off, none⟩) s.envs.length e0, .slice E1 s.promises.length e1]) = V0
  clear y0 y1 y2 y3
  have x0 := HX0.out.b0.cell 0 _ rfl
  have x1 := HX0.out.b0.cell 1 _ rfl
  have x2 := HX0.out.b0.cell 2 _ rfl
  have x3 := HX0.out.b0.cell 3 _ rfl
  have xs0 := HX0.out.tail.b0.cell 0 _ rfl
  have xs1 := HX0.out.tail.b0.cell 1 _ rfl
  cases hu : s.envs[k].used
  · have HQ := Lib.hid (show envOk s k s.envs[k] = enU s.envs[k] by simp [envOk, hu])
    rw [hu] at x0
    clear hu
    go_wp2_with fail
    all_goals
      go_ret
      exact ⟨ret_bool (by rw [HQ.out]; go_light; grind [enU]), HX0.out.2.1⟩
  have HQ := Lib.hid (show envOk s k s.envs[k] = (enA s k s.envs[k] && enB s s.envs[k]) by simp [envOk, hu])
  rw [hu] at x0
  clear hu
  go_upto_region 4 with fail
  go_cut [63] from 31 to 63 (fun v wx => v = .bool (!enA s k s.envs[k]) ∧ Hid (ExL w w.heap.size [(w.heap.size + 1, 71, [.bool s.envs[k].used, .int .i64 s.envs[k].parent, .slice N s.envs[k].names.length n, .slice M s.envs[k].slots.length m]), (w.heap.size, 33, [.slice (some ⟨b, off, none⟩) s.envs.length e0, .slice E1 s.promises.length e1])] wx))
  case first =>
    have hkk : (((k : Int) == 0) = true ∧ decide (0 < (k : Int)) = false ∧ decide (0 < k) = false ∧ decide (k = 0) = true) ∨ (((k : Int) == 0) = false ∧ decide (0 < (k : Int)) = true ∧ decide (0 < k) = true ∧ decide (k = 0) = false) := by
      rcases Nat.eq_zero_or_pos k with h | h
      · left; subst h; simp
      · right; simp; omega
    rcases hkk with ⟨q1, q2, q4, q5⟩ | ⟨q1, q2, q4, q5⟩ <;> cases hev : envU s s.envs[k].parent <;> cases q3 : (s.envs[k].parent != -1)
    all_goals
      have HEV := Lib.hid hev
      clear hev
      go_wp2_with (go_at_call 71; refine (impl_envUsed s s.envs[k].parent _ _ (HS.out.below HX0.out.2.1)).mono ?_; rintro e w2 ⟨rfl, hb⟩; rw [HEV.out]; have HX2 := Lib.hid (HX0.out.below hb); clear hb; have y0 := HX2.out.b0.cell 0 _ rfl; have y1 := HX2.out.b0.cell 1 _ rfl; have y2 := HX2.out.b0.cell 2 _ rfl; have y3 := HX2.out.b0.cell 3 _ rfl; have ys0 := HX2.out.tail.b0.cell 0 _ rfl; have ys1 := HX2.out.tail.b0.cell 1 _ rfl)
      all_goals
        go_meet
        case rel => exact ⟨by congr 1; go_light; have := HEV.out; grind [enA], by first | exact HX2.out | exact HX0.out⟩
  obtain ⟨rfl, HX1⟩ := hcut
  clear HX0 x0 x1 x2 x3 xs0 xs1
  cases hA : enA s k s.envs[k]
  · go_wp2_with fail
    go_ret
    exact ⟨ret_bool (by rw [HQ.out, hA]; rfl), HX1.out.2.1⟩
  have HLE := Lib.hid (show s.envs[k].names.length = s.envs[k].slots.length by grind [enA])
  have HA := Lib.hid hA
  clear hA
  have x0 := HX1.out.b0.cell 0 _ rfl
  have x1 := HX1.out.b0.cell 1 _ rfl
  have x2 := HX1.out.b0.cell 2 _ rfl
  have x3 := HX1.out.b0.cell 3 _ rfl
  have xs0 := HX1.out.tail.b0.cell 0 _ rfl
  have xs1 := HX1.out.tail.b0.cell 1 _ rfl
  obtain ⟨_, _, g1, hl1, hm1, HC1⟩ := Txts.open_ HN.out
  injection g1 with g11 g12 g13
  subst g11 g13
  clear g12
  unfold maxLen at hm1
  obtain ⟨_, _, g1, hl2, hm2, HC2⟩ := SlR.open_ HM.out
  injection g1 with g11 g12 g13
  subst g11 g13
  clear g12
  unfold maxLen at hm2
  go_wp2_with fail
  go_loopw [67] (fun i wr => ∃ j : Nat, j ≤ s.envs[k].names.length ∧ i = .int .i64 j ∧ Hid (∀ j' (h : j' < s.envs[k].names.length) (h' : j' < s.envs[k].slots.length), j' < j → enT s s.envs[k] j' h h' = true) ∧ Hid (ExL w w.heap.size [(w.heap.size + 1, 71, [.bool s.envs[k].used, .int .i64 s.envs[k].parent, .slice N s.envs[k].names.length n, .slice M s.envs[k].slots.length m]), (w.heap.size, 33, [.slice (some ⟨b, off, none⟩) s.envs.length e0, .slice E1 s.promises.length e1])] wr)) (fun i _ => s.envs[k].names.length - (intOf i).toNat)
  case atStart => exact ⟨0, Nat.zero_le _, rfl, fun j _ _ h => absurd h (by omega), HX1.out⟩
  case round =>
    clear HX1 x0 x1 x2 x3 xs0 xs1
    obtain ⟨j, hj, rfl, hn, HX⟩ := hrel
    by_cases hjl : j < s.envs[k].names.length
    · have hjl' : j < s.envs[k].slots.length := by have := HLE.out; omega
      have hzj := sz_slot j hjl'
      have HTK := Lib.hid (SlR.take HN.out j (by omega))
      obtain ⟨b', off', rfl, hbl', hcell, hsz⟩ := HC1.out j hjl
      obtain ⟨g, go, cs, rfl, hgl, _, hat, hr⟩ := HC2.out j hjl'
      have HSL := Lib.hid hr
      obtain ⟨A1, c1, A2, c2, A3, c3, A4, c4, A5, c5, P, p, L, l, rfl, i0, i1, i2, i3, _⟩ := hr.open_
      clear hr
      have HZ := Lib.hid hsz
      unfold maxLen at hsz
      have y0 := (HX.out.2.1.cell (p := ⟨b', off' + j, none⟩) hbl').trans hcell
      clear hcell
      go_upto_region 9 with fail
      have ib0 : (0 : Int) ≤ (j : Int) := by omega
      have ib1 : (j : Int) ≤ (n : Int) := by omega
      have ib2 : (j : Int) ≤ (s.envs[k].names.length : Int) := by omega
      have x2 := HX.out.b0.cell 2 _ rfl
      have x3 := HX.out.b0.cell 3 _ rfl
      have xs0 := HX.out.tail.b0.cell 0 _ rfl
      have xs1 := HX.out.tail.b0.cell 1 _ rfl
      have z0 := (HX.out.2.1.cell (p := ⟨g, go + j * 12, none⟩) hgl).trans (by simpa using hat 0 _ rfl)
      have z1 := (HX.out.2.1.cell (p := ⟨g, go + j * 12 + 1, none⟩) hgl).trans (hat 1 _ rfl)
      have z2 := (HX.out.2.1.cell (p := ⟨g, go + j * 12 + 2, none⟩) hgl).trans (hat 2 _ rfl)
      have z3 := (HX.out.2.1.cell (p := ⟨g, go + j * 12 + 3, none⟩) hgl).trans (hat 3 _ rfl)
      have z4 := (HX.out.2.1.cell (p := ⟨g, go + j * 12 + 4, none⟩) hgl).trans (hat 4 _ rfl)
      have z5 := (HX.out.2.1.cell (p := ⟨g, go + j * 12 + 5, none⟩) hgl).trans (hat 5 _ rfl)
      have z6 := (HX.out.2.1.cell (p := ⟨g, go + j * 12 + 6, none⟩) hgl).trans (hat 6 _ rfl)
      have z7 := (HX.out.2.1.cell (p := ⟨g, go + j * 12 + 7, none⟩) hgl).trans (hat 7 _ rfl)
      have z8 := (HX.out.2.1.cell (p := ⟨g, go + j * 12 + 8, none⟩) hgl).trans (hat 8 _ rfl)
      have z9 := (HX.out.2.1.cell (p := ⟨g, go + j * 12 + 9, none⟩) hgl).trans (hat 9 _ rfl)
      have z10 := (HX.out.2.1.cell (p := ⟨g, go + j * 12 + 10, none⟩) hgl).trans (hat 10 _ rfl)
      have z11 := (HX.out.2.1.cell (p := ⟨g, go + j * 12 + 11, none⟩) hgl).trans (hat 11 _ rfl)
      clear hat
      go_cut [92] from 72 to 92 (fun v wx => v = .bool (!enT s s.envs[k] j hjl hjl') ∧ Hid (ExL w w.heap.size [(w.heap.size + 1, 71, [.bool s.envs[k].used, .int .i64 s.envs[k].parent, .slice (some ⟨b', off', none⟩) s.envs[k].names.length n, .slice (some ⟨g, go, none⟩) s.envs[k].slots.length m]), (w.heap.size, 33, [.slice (some ⟨b, off, none⟩) s.envs.length e0, .slice E1 s.promises.length e1])] wx))
      case first =>
        cases hn1 : isNameB s.envs[k].names[j] <;> cases hn2 : hasB (s.envs[k].names.take j) s.envs[k].names[j] <;> cases hn3 : slotOk s s.envs[k].slots[j]
        all_goals
          have HT := Lib.hid (show enT s s.envs[k] j hjl hjl' = (isNameB s.envs[k].names[j] && !hasB (s.envs[k].names.take j) s.envs[k].names[j] && slotOk s s.envs[k].slots[j]) from rfl)
          have H1 := Lib.hid hn1
          have H2 := Lib.hid hn2
          have H3 := Lib.hid hn3
          have C1 := fun W => impl_IsName s.envs[k].names[j] W HZ.out
          have C2 := fun (W : World) (h : Txts W (.slice (some ⟨b', off', none⟩) j n) (s.envs[k].names.take j)) => impl_hasText (s.envs[k].names.take j) s.envs[k].names[j] (.slice (some ⟨b', off', none⟩) j n) W h
          have C3 := fun (ss cs : List Value) (W : World) (h1 : StoreR W ss s) (h2 : SlotR W cs s.envs[k].slots[j]) => impl_slotRight s s.envs[k].slots[j] ss cs W h1 h2 (by omega)
          simp only [hn1] at C1
          simp only [hn2] at C2
          simp only [hn3] at C3
          clear hn1 hn2 hn3
          first
            | (go_quiet ((first | (go_at_call 121; exact (C1 _).mono fun _ _ ⟨he, hw⟩ => ⟨he, _, hw.symm⟩) | (go_at_call 128; exact (C2 _ ((Txts.below HTK.out HX.out.2.1).drewN _)).mono fun _ _ ⟨he, hw⟩ => ⟨he, _, hw.symm⟩)))
               go_wp2_with fail
               go_meet
               case rel => exact ⟨by rw [HT.out, H1.out, H2.out, H3.out]; rfl, ExL.drewN HX.out _⟩)
            | (go_region_held3 (fun W => (W.cell? ⟨w.heap.size + 1, 2, none⟩ = some (.slice (some ⟨b', off', none⟩) s.envs[k].names.length n) ∧ W.cell? ⟨w.heap.size + 1, 3, none⟩ = some (.slice (some ⟨g, go, none⟩) s.envs[k].slots.length m) ∧ W.cell? ⟨w.heap.size, 0, none⟩ = some (.slice (some ⟨b, off, none⟩) s.envs.length e0) ∧ W.cell? ⟨w.heap.size, 1, none⟩ = some (.slice E1 s.promises.length e1) ∧ W.cell? ⟨g, go + j * 12, none⟩ = some (.int .i64 s.envs[k].slots[j].kind) ∧ W.cell? ⟨g, go + j * 12 + 1, none⟩ = some (.int .i64 s.envs[k].slots[j].value.kind) ∧ W.cell? ⟨g, go + j * 12 + 2, none⟩ = some (.slice A1 s.envs[k].slots[j].value.items.length c1) ∧ W.cell? ⟨g, go + j * 12 + 3, none⟩ = some (.slice A2 s.envs[k].slots[j].value.parts.length c2) ∧ W.cell? ⟨g, go + j * 12 + 4, none⟩ = some (.slice A3 s.envs[k].slots[j].value.names.length c3) ∧ W.cell? ⟨g, go + j * 12 + 5, none⟩ = some (.slice A4 s.envs[k].slots[j].value.cls.length c4) ∧ W.cell? ⟨g, go + j * 12 + 6, none⟩ = some (.slice A5 s.envs[k].slots[j].value.levels.length c5) ∧ W.cell? ⟨g, go + j * 12 + 7, none⟩ = some (.int .i64 s.envs[k].slots[j].value.code) ∧ W.cell? ⟨g, go + j * 12 + 8, none⟩ = some (.int .i64 s.envs[k].slots[j].value.env) ∧ W.cell? ⟨g, go + j * 12 + 9, none⟩ = some (.int .i64 s.envs[k].slots[j].promise) ∧ W.cell? ⟨g, go + j * 12 + 10, none⟩ = some (.slice P s.envs[k].slots[j].promises.length p) ∧ W.cell? ⟨g, go + j * 12 + 11, none⟩ = some (.slice L s.envs[k].slots[j].labels.length l)))
                 (first | exact ⟨x2, x3, xs0, xs1, z0, z1, z2, z3, z4, z5, z6, z7, z8, z9, z10, z11⟩ | exact ⟨HX9.out.b0.cell 2 _ rfl, HX9.out.b0.cell 3 _ rfl, HX9.out.tail.b0.cell 0 _ rfl, HX9.out.tail.b0.cell 1 _ rfl, (HB9.out.cell (p := ⟨g, go + j * 12, none⟩) (Nat.lt_of_lt_of_le hgl HX.out.2.1.size)).trans z0, (HB9.out.cell (p := ⟨g, go + j * 12 + 1, none⟩) (Nat.lt_of_lt_of_le hgl HX.out.2.1.size)).trans z1, (HB9.out.cell (p := ⟨g, go + j * 12 + 2, none⟩) (Nat.lt_of_lt_of_le hgl HX.out.2.1.size)).trans z2, (HB9.out.cell (p := ⟨g, go + j * 12 + 3, none⟩) (Nat.lt_of_lt_of_le hgl HX.out.2.1.size)).trans z3, (HB9.out.cell (p := ⟨g, go + j * 12 + 4, none⟩) (Nat.lt_of_lt_of_le hgl HX.out.2.1.size)).trans z4, (HB9.out.cell (p := ⟨g, go + j * 12 + 5, none⟩) (Nat.lt_of_lt_of_le hgl HX.out.2.1.size)).trans z5, (HB9.out.cell (p := ⟨g, go + j * 12 + 6, none⟩) (Nat.lt_of_lt_of_le hgl HX.out.2.1.size)).trans z6, (HB9.out.cell (p := ⟨g, go + j * 12 + 7, none⟩) (Nat.lt_of_lt_of_le hgl HX.out.2.1.size)).trans z7, (HB9.out.cell (p := ⟨g, go + j * 12 + 8, none⟩) (Nat.lt_of_lt_of_le hgl HX.out.2.1.size)).trans z8, (HB9.out.cell (p := ⟨g, go + j * 12 + 9, none⟩) (Nat.lt_of_lt_of_le hgl HX.out.2.1.size)).trans z9, (HB9.out.cell (p := ⟨g, go + j * 12 + 10, none⟩) (Nat.lt_of_lt_of_le hgl HX.out.2.1.size)).trans z10, (HB9.out.cell (p := ⟨g, go + j * 12 + 11, none⟩) (Nat.lt_of_lt_of_le hgl HX.out.2.1.size)).trans z11⟩)
                 (first | (go_at_call 121; refine (C1 _).mono ?_; rintro e w' ⟨rfl, rfl⟩) | (go_at_call 128; refine (C2 _ (by exact Txts.below HTK.out HX.out.2.1.drew)).mono ?_; rintro e w' ⟨rfl, rfl⟩) | (go_at_call 129; refine (C3 _ _ _ (by exact HS.out.below HX.out.2.1.drew) (by exact HSL.out.below HX.out.2.1.drew)).mono ?_; rintro e w9 ⟨rfl, hb⟩; have HX9 := Lib.hid (ExL.below HX.out.drew hb); have HB9 := Lib.hid (Below.drew (Below.refl _ _) |>.trans hb); clear hb))
               go_wp2_with fail
               go_meet
               case rel => exact ⟨by rw [HT.out, H1.out, H2.out, H3.out]; rfl, HX9.out⟩)
      obtain ⟨rfl, HX9⟩ := hcut
      clear HX x2 x3 xs0 xs1 y0 z0 z1 z2 z3 z4 z5 z6 z7 z8 z9 z10 z11
      cases hT : enT s s.envs[k] j hjl hjl'
      · have HB := Lib.hid (enB_no j hjl hjl' hT)
        go_wp2_with fail
        go_ret
        exact ⟨ret_bool (by rw [HQ.out, HB.out]; simp), HX9.out.2.1⟩
      · have HT := Lib.hid hT
        clear hT
        go_wp2_with fail
        go_roundw
        case rel => first | exact ⟨j + 1, by omega, by go_num, fun j' h1 h2 hj' => by (rcases Nat.lt_succ_iff_lt_or_eq.1 hj' with h3 | rfl); exact hn.out j' h1 h2 h3; exact HT.out, HX9.out⟩ | ((repeat apply Exists.intro); exact ⟨⟨j + 1, by omega, by go_num, fun j' h1 h2 hj' => by (rcases Nat.lt_succ_iff_lt_or_eq.1 hj' with h3 | rfl); exact hn.out j' h1 h2 h3; exact HT.out, HX9.out⟩, rfl⟩)
        case measure => simp [intOf]; omega
    · have HB := Lib.hid (show enB s s.envs[k] = true by unfold enB; exact decide_eq_true (fun j h h' => hn.out j h h' (by omega)))
      go_wp2_with fail
      go_ret
      exact ⟨ret_bool (by rw [HQ.out, HA.out, HB.out]; rfl), HX.out.2.1⟩

end Go.Proofs.YtejieacdfjpfnaaGreat
