/-
  Contracts: what the laws of stores draw: a store and a place in it; a store and roots.
-/
import Derived.Test.YtejieacdfjpfnaaGreatDrawAny
import Derived.Test.YtejieacdfjpfnaaGreatKFree
namespace Go.Proofs.YtejieacdfjpfnaaGreat
set_option maxRecDepth 100000
open Go.ChangeShapes Go.WideShapes Go.ChangeAt Go.RowKit Go.Deep
set_option linter.unusedVariables false

def names5 : List (List UInt8) := [[120], [102], [110], [110, 101, 119], []]
theorem names5_len : ∀ s ∈ names5, s.length ≤ 100 := by decide
structure QS (g : Nat) (v : Value) (l : List Nat) (w : World) (bs : Nat) (cs : List Value) (s : StoreD) (W : World) : Prop where
  cur : Cur W g v l
  res : Blk W w.heap.size 33 [.slice none 0 0, .slice none 0 0]
  bx : Blk W bs 33 cs
  st : StoreO (fun b => g < b ∧ b < bs) W cs s
  bl : Below w.heap.size w W
  hg : w.heap.size < g ∧ g < bs
section
variable {g : Nat} {v : Value} {l : List Nat} {w : World} {bs : Nat} {cs : List Value} {s : StoreD} {W W' : World}
theorem QS.next (h : QS g v l w bs cs s W) (hc : Cur W' g v l) (ho : Only g W W') : QS g v l w bs cs s W' := by
  have hg := h.hg
  have hl := h.res.lt
  exact ⟨hc, (ho.block _ h.res.lt (fun e => by injection e with e; omega)).trans h.res, (ho.block _ h.bx.lt (fun e => by injection e with e; omega)).trans h.bx, h.st.keeps (Keeps.grown ho fun b hb e => by injection e with e; omega), Only.below h.bl ho (by omega) (by omega), hg⟩
theorem QS.step (h : QS g v l w bs cs s W) (hb : Below W.heap.size W W') : QS g v l w bs cs s W' :=
  ⟨Cur.below_ h.cur hb, h.res.below hb, h.bx.below hb, h.st.keeps (Keeps.of_below _ hb), h.bl.trans (hb.mono h.bl.size), h.hg⟩
end
/-- what the operations yield that give a place -/
def plR (g bs : Nat) (A0 : Option Addr) (E c0 : Nat) (A1 : Option Addr) (P c1 : Nat) : Nat → (Nat → Nat → Prop) → (Nat → Value) → World → Prop
  | 0, _, vs, _ => vs 0 = .agg (csS A0 E c0 A1 P c1).toArray
  | 1, _, vs, _ => vs 1 = .pointer (some ⟨g, 0, none⟩)
  | 2, _, vs, _ => vs 2 = .pointer (some ⟨bs, 0, none⟩)
  | 3, _, vs, _ => vs 3 = .slice A0 E c0
  | 4, _, vs, _ => vs 4 = .int .i64 (E : Int)
  | 5, _, vs, _ => vs 5 = .int .i64 ((E : Int) + 2)
  | 6, _, vs, _ => ∃ x : Int, vs 6 = .int .i64 x ∧ 0 ≤ x ∧ x ≤ E + 1
  | 7, _, vs, _ => ∃ x : Int, vs 7 = .int .i64 x ∧ -1 ≤ x ∧ x ≤ E
  | 8, _, vs, _ => vs 8 = .pointer (some ⟨g, 0, none⟩)
  | 9, _, vs, W => ∃ u, vs 9 = u ∧ Txts W u names5 ∧ Apart 5 g u
  | 10, _, vs, _ => ∃ s, vs 10 = .string (str s) ∧ s ∈ names5
  | _, _, _, _ => True
theorem plK (g bs : Nat) (A0 : Option Addr) (E c0 : Nat) (A1 : Option Addr) (P c1 : Nat) (i : Nat) (T T' : Nat → Nat → Prop) (vs vs' : Nat → Value) (W W' : World) (hv : ∀ j ∈ [i], vs' j = vs j) (hT : ∀ l b, T l b → T' l b) (hb : Only g W W') (h0 : plR g bs A0 E c0 A1 P c1 i T vs W) : plR g bs A0 E c0 A1 P c1 i T' vs' W' :=
  match i, hv, h0 with
  | 0, hv, h => (hv 0 (List.mem_cons_self)).trans h
  | 1, hv, h => (hv 1 (List.mem_cons_self)).trans h
  | 2, hv, h => (hv 2 (List.mem_cons_self)).trans h
  | 3, hv, h => (hv 3 (List.mem_cons_self)).trans h
  | 4, hv, h => (hv 4 (List.mem_cons_self)).trans h
  | 5, hv, h => (hv 5 (List.mem_cons_self)).trans h
  | 6, hv, ⟨x, e, h⟩ => ⟨x, (hv 6 (List.mem_cons_self)).trans e, h⟩
  | 7, hv, ⟨x, e, h⟩ => ⟨x, (hv 7 (List.mem_cons_self)).trans e, h⟩
  | 8, hv, h => (hv 8 (List.mem_cons_self)).trans h
  | 9, hv, ⟨u, e, h1, h2⟩ => ⟨u, (hv 9 (List.mem_cons_self)).trans e, h1.only h2 hb, h2⟩
  | 10, hv, ⟨x, e, h⟩ => ⟨x, (hv 10 (List.mem_cons_self)).trans e, h⟩
  | _ + 11, _, _ => trivial
def RetPlace (w : World) (e : Ending) (w' : World) : Prop :=
  ∃ (cs : List Value) (s : StoreD) (x : Int) (nm : List UInt8), e = .returned (.tuple #[.agg cs.toArray, .int .i64 x, .string (str nm)]) ∧ StoreO (Rng w.heap.size w'.heap.size) w' cs s ∧ szStore s ≤ 60000 ∧ (1 ≤ s.envs.length ∧ s.envs.length ≤ 7) ∧ (-1 ≤ x ∧ x ≤ s.envs.length) ∧ Below w.heap.size w w'

set_option maxHeartbeats 4000000 in
theorem spec_l26Place (v : Value) (l : List Nat) (w : World) (h : Bytes w v l) (hl : l.length ≤ 1048576) :
    Calls Tryz.prog 89 #[v] w (RetPlace w) := by
  obtain ⟨a, c, rfl⟩ := SlR.shape h
  have hb0 := (Below.refl w.heap.size w).alloc (Nat.le_refl _) (.cells #[.slice none 0 0, .slice none 0 0] 33)
  have HY := Lib.hid (show Bytes (w.alloc (.cells #[.slice none 0 0, .slice none 0 0] 33)) (.slice a l.length c) l from SlR.below h hb0 (fun _ _ h => h))
  have HB0 := Lib.hid hb0
  clear h hb0
  go_enter Tryz.func89, Tryz.ntmps89
  go_wp2_with fail
  refine Calls.mono (spec_l1New _ l _ (by exact HY.out) hl) ?_
  rintro e w1 ⟨rfl, hc, ha, hb, hs⟩
  have hs0 : (w.alloc (.cells #[.slice none 0 0, .slice none 0 0] 33)).heap.size = w.heap.size + 1 := by simp
  rw [hs0] at hc ha hb hs ⊢
  have HC := Lib.hid hc
  have HA := Lib.hid ha
  have HB1 := Lib.hid hb
  have HS1 := Lib.hid hs
  clear hc ha hb hs hs0
  go_wp2_with fail
  refine Calls.mono (spec_l26Any (w.heap.size + 1) _ l _ HC.out HA.out) ?_
  rintro e w2 ⟨cs, s, rfl, hO, hsz, hE, hc, ho⟩
  obtain ⟨A0, c0, A1, c1, rfl⟩ := hO.shape2
  have hE1 := hE.1
  have hE7 := hE.2
  have hs2 : w.heap.size + 2 ≤ w2.heap.size := by have := ho.size; have := HS1.out; omega
  have HQ := Lib.hid (show QS (w.heap.size + 1) (.slice a l.length c) l w w2.heap.size (csS A0 s.envs.length c0 A1 s.promises.length c1) s (w2.alloc (.cells (csS A0 s.envs.length c0 A1 s.promises.length c1).toArray 33)) from by
    have hb2 : Below w2.heap.size w2 (w2.alloc (.cells (csS A0 s.envs.length c0 A1 s.promises.length c1).toArray 33)) := (Below.refl _ _).alloc (Nat.le_refl _) _
    have hbw := HB0.out.trans (HB1.out.mono (B' := w.heap.size) (by omega))
    have hs1 := HS1.out
    refine ⟨Cur.below_ hc hb2, ?_, Blk.new w2 _ _, ?_, (Only.below hbw ho (by omega) (by omega)).trans (hb2.mono (by omega)), by omega, by omega⟩
    · exact (hb2.block _ (by omega)).trans ((ho.block _ (by omega) (fun e => by injection e with e; omega)).trans ((HB1.out.block _ (by omega)).trans (Blk.new w 33 [.slice none 0 0, .slice none 0 0])))
    · refine (hO.keeps (Keeps.of_below _ hb2)).mono fun b hb => ⟨by have := hb.1; omega, hb.2⟩)
  have HZ := Lib.hid hsz
  clear hO hsz hc ho HB0 HB1 HC HY
  generalize hg1 : w.heap.size + 1 = g at HQ HA HS1 ⊢
  clear hg1 HS1
  go_upto_region 3 with fail
  generalize hbs : w2.heap.size = bs at HQ ⊢
  refine gen_w (G := QS g (.slice a l.length c) l w bs (csS A0 s.envs.length c0 A1 s.promises.length c1) s) HQ.out ?_
  intro w3 HX3
  have HQ3 := Lib.hid (show QS g (.slice a l.length c) l w bs (csS A0 s.envs.length c0 A1 s.promises.length c1) s w3 from HX3)
  clear HX3 HQ hbs hs2
  have hgq := HQ3.out.hg
  refine wp_region_free3G (Only g) (fun _ _ h => h.size) (by kernel_rfl) 11 7 [(false, 11), (true, 12), (true, 13)] (by kernel_rfl) (QS g (.slice a l.length c) l w bs (csS A0 s.envs.length c0 A1 s.promises.length c1) s) (fun i => i) (fun i => [i]) (plR g bs A0 s.envs.length c0 A1 s.promises.length c1) (fun vs => ⟨#[.slice a l.length c, undef, .pointer (some ⟨w.heap.size, 0, none⟩), vs 12, vs 13, .pointer (some ⟨g, 0, none⟩), .pointer (some ⟨bs, 0, none⟩), .slice a l.length c, .pointer (some ⟨g, 0, none⟩), .pointer (some ⟨g, 0, none⟩), .agg #[.slice A0 s.envs.length c0, .slice A1 s.promises.length c1], vs 0, vs 1, vs 2, vs 3, vs 4, vs 5, vs 6, vs 7, vs 8, vs 9, vs 10], []⟩) (fun vs => by kernel_rfl) (by kernel_rfl) (HQ3.out.step (Below.drew (Below.refl _ _))) (plK g bs A0 s.envs.length c0 A1 s.promises.length c1) ?_ ?_ ?_
  · intro i o ho hi vs T W hS hd'
    have hi' : i = 0 ∨ i = 1 ∨ i = 2 ∨ i = 3 ∨ i = 4 ∨ i = 5 ∨ i = 6 ∨ i = 7 ∨ i = 8 ∨ i = 9 ∨ i = 10 := by omega
    clear hi
    rcases hi' with rfl | rfl | rfl | rfl | rfl | rfl | rfl | rfl | rfl | rfl | rfl
    · obtain rfl := Option.some.inj ho
      have y0 := hS.bx.cell 0 _ rfl
      have y1 := hS.bx.cell 1 _ rfl
      exact oper_ok (by go_simp; rfl) ⟨_, rfl, Only.refl _ _, hS, upd_same _ _ _⟩
    · obtain rfl := Option.some.inj ho
      exact oper_ok (by go_simp) ⟨_, rfl, Only.refl _ _, hS, upd_same _ _ _⟩
    · obtain rfl := Option.some.inj ho
      exact oper_ok (by go_simp; try rfl) ⟨_, rfl, Only.refl _ _, hS, upd_same _ _ _⟩
    · obtain rfl := Option.some.inj ho
      have e0 : vs 2 = _ := hd' ⟨2, .data⟩ (by simp) rfl
      have y0 := hS.bx.cell 0 _ rfl
      exact oper_ok (by go_simp; try rfl) ⟨_, rfl, Only.refl _ _, hS, upd_same _ _ _⟩
    · obtain rfl := Option.some.inj ho
      have e0 : vs 3 = _ := hd' ⟨3, .data⟩ (by simp) rfl
      exact oper_ok (by go_simp; try rfl) ⟨_, rfl, Only.refl _ _, hS, upd_same _ _ _⟩
    · obtain rfl := Option.some.inj ho
      have e0 : vs 4 = _ := hd' ⟨4, .data⟩ (by simp) rfl
      exact oper_ok (by go_simp; exact IntWalk.i64_in _ (by omega)) ⟨_, rfl, Only.refl _ _, hS, upd_same _ _ _⟩
    · obtain rfl := Option.some.inj ho
      have e0 : vs 1 = _ := hd' ⟨1, .data⟩ (by simp) rfl
      have e1 : vs 5 = _ := hd' ⟨5, .data⟩ (by simp) rfl
      refine oper_call (by go_simp) (spec_l1Below g _ l ((s.envs.length : Int) + 2) _ hS.cur HA.out (by omega) (by omega)) ?_
      rintro e W' ⟨x, rfl, h0, h1, hc, ho⟩
      exact ⟨_, rfl, _, rfl, ho, hS.next hc ho, x, upd_same _ _ _, h0, by omega⟩
    · obtain rfl := Option.some.inj ho
      obtain ⟨x, e0, hx⟩ := (show ∃ x : Int, vs 6 = .int .i64 x ∧ 0 ≤ x ∧ x ≤ s.envs.length + 1 from hd' ⟨6, .data⟩ (by simp) rfl)
      exact oper_ok (v := .int .i64 (x - 1)) (by go_simp; first | rfl | exact IntWalk.i64_in _ (by omega)) ⟨_, rfl, Only.refl _ _, hS, x - 1, upd_same _ _ _, by omega, by omega⟩
    · obtain rfl := Option.some.inj ho
      exact oper_ok (by go_simp) ⟨_, rfl, Only.refl _ _, hS, upd_same _ _ _⟩
    · obtain rfl := Option.some.inj ho
      have hb := (Below.refl W.heap.size W).alloc (Nat.le_refl _) (.cells (names5.map fun s => Value.string (str s)).toArray 9)
      exact oper_ok (by go_simp; rfl) ⟨_, rfl, Only.of_below hb, hS.step hb, _, upd_same _ _ _, Txts.lit (W := W) names5 5 rfl (by decide) names5_len, apart_new (Cur.lt_ hS.cur)⟩
    · obtain rfl := Option.some.inj ho
      have e0 : vs 8 = _ := hd' ⟨8, .data⟩ (by simp) rfl
      obtain ⟨u, e1, hu, hau⟩ := (show ∃ u, vs 9 = u ∧ Txts W u names5 ∧ Apart 5 g u from hd' ⟨9, .data⟩ (by simp) rfl)
      refine oper_call (by go_simp) (spec_l1Pick g _ l u names5 _ hS.cur HA.out hu hau (by decide) (by decide)) ?_
      rintro e W' ⟨nm, rfl, hnm, hc, ho⟩
      exact ⟨_, rfl, _, rfl, ho, hS.next hc ho, nm, upd_same _ _ _, hnm⟩
  · intro vs T W hS hsz hT1 hT2 hR
    obtain ⟨x, e7, hx⟩ := (show ∃ x : Int, vs 7 = .int .i64 x ∧ -1 ≤ x ∧ x ≤ s.envs.length from hR 7 (by decide))
    obtain ⟨nm, e10, hnm⟩ := (show ∃ s, vs 10 = .string (str s) ∧ s ∈ names5 from hR 10 (by decide))
    have e0 := (show vs 0 = .agg #[.slice A0 s.envs.length c0, .slice A1 s.promises.length c1] from hR 0 (by decide))
    have HX := Lib.hid hx
    have HSW := Lib.hid hS
    rw [e0, e7, e10]
    clear hR e0 e7 e10 hx hT1 hT2
    refine ⟨fun _ => True, trivial, ?_⟩
    have r0 := HSW.out.res.cell 0 _ rfl
    have r1 := HSW.out.res.cell 1 _ rfl
    have z0 := HSW.out.res.frozen 0
    have z1 := HSW.out.res.frozen 1
    refine dyn_act rfl rfl (fun K hK => ?_)
    go_wp2_with fail
    refine hK.out _ _ trivial ?_
    clear hK
    repeat ((refine dyn_take rfl rfl (fun W g => by go_simp; rfl) ?_); go_simp)
    refine dyn_done ?_
    go_wp2_with fail
    have hkF := Keeps.sc (b := w.heap.size) (o := 1) (Keeps.sc (b := w.heap.size) (o := 0) (Keeps.refl (fun b => b ≠ w.heap.size) W) (by simp) (.slice A0 s.envs.length c0)) (by simp) (.slice A1 s.promises.length c1)
    have hbF := below_sc (b := w.heap.size) (o := 1) (below_sc (b := w.heap.size) (o := 0) HSW.out.bl (Nat.le_refl _) (.slice A0 s.envs.length c0)) (Nat.le_refl _) (.slice A1 s.promises.length c1)
    exact bodyPost_ret (v := .tuple #[.agg #[.slice A0 s.envs.length c0, .slice A1 s.promises.length c1], .int .i64 (x), .string (str nm)]) (by simp [results, Tryz.results89, go_sem, r0, r1]; try rfl) rfl ⟨csS A0 s.envs.length c0 A1 s.promises.length c1, s, x, nm, rfl, (HSW.out.st.keeps (hkF.mono fun b hb => by have := hb.1; omega)).mono fun b hb => ⟨by have := hb.1; omega, Nat.lt_of_lt_of_le hb.2 (Nat.le_of_lt (Nat.lt_of_lt_of_le HSW.out.bx.lt hkF.1))⟩, HZ.out, ⟨hE1, hE7⟩, HX.out, hbF⟩
  · intro vs T W hS hsz hT1 hT2 hR
    obtain ⟨x, e6, hx⟩ := (show ∃ x : Int, vs 6 = .int .i64 x ∧ 0 ≤ x ∧ x ≤ s.envs.length + 1 from hR 6 (by decide) (by decide))
    obtain ⟨nm, e10, hnm⟩ := (show ∃ s, vs 10 = .string (str s) ∧ s ∈ names5 from hR 10 (by decide) (by decide))
    have e0 := (show vs 0 = .agg #[.slice A0 s.envs.length c0, .slice A1 s.promises.length c1] from hR 0 (by decide) (by decide))
    have hx0 := hx.1
    have hx1 := hx.2
    have HX := Lib.hid (show -1 ≤ x - 1 ∧ x - 1 ≤ s.envs.length by omega)
    have HSW := Lib.hid hS
    rw [e0, e6, e10]
    clear hR e0 e6 e10 hx hT1 hT2
    refine ⟨fun _ => True, trivial, ?_⟩
    refine dyn_take rfl rfl (fun W g => by go_simp; first | rfl | exact IntWalk.i64_in _ (by omega)) ?_
    go_simp
    have r0 := HSW.out.res.cell 0 _ rfl
    have r1 := HSW.out.res.cell 1 _ rfl
    have z0 := HSW.out.res.frozen 0
    have z1 := HSW.out.res.frozen 1
    refine dyn_act rfl rfl (fun K hK => ?_)
    go_wp2_with fail
    refine hK.out _ _ trivial ?_
    clear hK
    repeat ((refine dyn_take rfl rfl (fun W g => by go_simp; rfl) ?_); go_simp)
    refine dyn_done ?_
    go_wp2_with fail
    have hkF := Keeps.sc (b := w.heap.size) (o := 1) (Keeps.sc (b := w.heap.size) (o := 0) (Keeps.refl (fun b => b ≠ w.heap.size) W) (by simp) (.slice A0 s.envs.length c0)) (by simp) (.slice A1 s.promises.length c1)
    have hbF := below_sc (b := w.heap.size) (o := 1) (below_sc (b := w.heap.size) (o := 0) HSW.out.bl (Nat.le_refl _) (.slice A0 s.envs.length c0)) (Nat.le_refl _) (.slice A1 s.promises.length c1)
    exact bodyPost_ret (v := .tuple #[.agg #[.slice A0 s.envs.length c0, .slice A1 s.promises.length c1], .int .i64 (x - 1), .string (str nm)]) (by simp [results, Tryz.results89, go_sem, r0, r1]; try rfl) rfl ⟨csS A0 s.envs.length c0 A1 s.promises.length c1, s, x - 1, nm, rfl, (HSW.out.st.keeps (hkF.mono fun b hb => by have := hb.1; omega)).mono fun b hb => ⟨by have := hb.1; omega, Nat.lt_of_lt_of_le hb.2 (Nat.le_of_lt (Nat.lt_of_lt_of_le HSW.out.bx.lt hkF.1))⟩, HZ.out, ⟨hE1, hE7⟩, HX.out, hbF⟩

def RetColl (w : World) (e : Ending) (w' : World) : Prop :=
  ∃ (cs : List Value) (s : StoreD) (rv : Value) (roots : List Int), e = .returned (.tuple #[.agg cs.toArray, rv]) ∧ StoreR w' cs s ∧ szStore s ≤ 60000 ∧ Ints w' rv roots ∧ roots.length ≤ 2 ∧ Below w.heap.size w w'
set_option maxHeartbeats 4000000 in
theorem spec_DrawCollectStore (v : Value) (l : List Nat) (w : World) (h : Bytes w v l) (hl : l.length ≤ 1048576) :
    Calls Tryz.prog 37 #[v] w (RetColl w) := by
  obtain ⟨a, c, rfl⟩ := SlR.shape h
  have hb0 := (Below.refl w.heap.size w).alloc (Nat.le_refl _) (.cells #[.slice none 0 0, .slice none 0 0] 33)
  have HY := Lib.hid (show Bytes (w.alloc (.cells #[.slice none 0 0, .slice none 0 0] 33)) (.slice a l.length c) l from SlR.below h hb0 (fun _ _ h => h))
  have HB0 := Lib.hid hb0
  clear h hb0
  go_enter Tryz.func37, Tryz.ntmps37
  go_wp2_with fail
  refine Calls.mono (spec_l26Place _ l _ (by exact HY.out) hl) ?_
  rintro e w1 ⟨cs, s, x, nm, rfl, hO, hsz, hE, hx, hb⟩
  obtain ⟨A0, c0, A1, c1, rfl⟩ := hO.shape2
  have hs1 : w.heap.size + 1 ≤ w1.heap.size := by have := hb.size; simpa using this
  have HR1 := Lib.hid (hO.mono (S' := Rng (w.heap.size + 1) w1.heap.size) fun b hb => ⟨by have := hb.1; simpa using this, hb.2⟩)
  have HZ := Lib.hid hsz
  have hx0 := hx.1
  have hx1 := hx.2
  have hE7 := hE.2
  have HX := Lib.hid (show I64 x by unfold I64; omega)
  have HB1 := Lib.hid (HB0.out.trans (hb.mono (B' := w.heap.size) (by simp)))
  have HRES := Lib.hid (show Blk w1 w.heap.size 33 [.slice none 0 0, .slice none 0 0] from (hb.block _ (by simp)).trans (Blk.new w 33 [.slice none 0 0, .slice none 0 0]))
  clear hO hsz hE hx hb HB0 HY
  have hbx := (Below.refl w1.heap.size w1).alloc (Nat.le_refl _) (.cells (csS A0 s.envs.length c0 A1 s.promises.length c1).toArray 33)
  have HG := Lib.hid (show Ok (fun W => Blk W w1.heap.size 33 (csS A0 s.envs.length c0 A1 s.promises.length c1) ∧ Blk W w.heap.size 33 [.slice none 0 0, .slice none 0 0] ∧ StoreO (Rng (w.heap.size + 1) w1.heap.size) W (csS A0 s.envs.length c0 A1 s.promises.length c1) s ∧ Below w.heap.size w W) (w1.alloc (.cells (csS A0 s.envs.length c0 A1 s.promises.length c1).toArray 33)) from
    ⟨Blk.new w1 _ _, HRES.out.below hbx, HR1.out.keeps (Keeps.of_below _ hbx), HB1.out.trans (hbx.mono (by omega))⟩)
  clear hbx
  go_upto_region 2 with fail
  refine gen_w (G := fun W => Blk W w1.heap.size 33 (csS A0 s.envs.length c0 A1 s.promises.length c1) ∧ Blk W w.heap.size 33 [.slice none 0 0, .slice none 0 0] ∧ StoreO (Rng (w.heap.size + 1) w1.heap.size) W (csS A0 s.envs.length c0 A1 s.promises.length c1) s ∧ Below w.heap.size w W) HG.out ?_
  rintro w2 ⟨h1, h2, h3, h4⟩
  have y0 := h1.cell 0 _ rfl
  have y1 := h1.cell 1 _ rfl
  have r0 := h2.cell 0 _ rfl
  have r1 := h2.cell 1 _ rfl
  have z0 := h2.frozen 0
  have z1 := h2.frozen 1
  have H3 := Lib.hid h3
  have H4 := Lib.hid h4
  have hlt := h2.lt
  clear h1 h2 h3 h4 HG HB1 HRES HR1
  have hkF := Lib.hid (Keeps.sc (b := w.heap.size) (o := 1) (Keeps.sc (b := w.heap.size) (o := 0) (Keeps.refl (fun b => b ≠ w.heap.size) w2) (by simp) (.slice A0 s.envs.length c0)) (by simp) (.slice A1 s.promises.length c1))
  have hbF := Lib.hid (below_sc (b := w.heap.size) (o := 1) (below_sc (b := w.heap.size) (o := 0) H4.out (Nat.le_refl _) (.slice A0 s.envs.length c0)) (Nat.le_refl _) (.slice A1 s.promises.length c1))
  generalize hW : ((w2.setCell ⟨w.heap.size, 0, none⟩ (.slice A0 s.envs.length c0)).setCell ⟨w.heap.size, 1, none⟩ (.slice A1 s.promises.length c1)) = w3 at hkF hbF
  have HW := Lib.hid hW
  have hsz2 : w3.heap.size = w2.heap.size := by rw [← hW]; simp [World.setCell]
  have HSZ := Lib.hid hsz2
  clear hW hsz2
  have end_ : ∀ (cells : Array Value) (n : Nat) (roots : List Int), cells = (roots.map fun x => Value.int .i64 x).toArray → roots.length = n → n ≤ 2 → (∀ x ∈ roots, I64 x) → ∃ rv, rv = Value.slice (some ⟨w2.heap.size, 0, none⟩) n n ∧ RetColl w (.returned (.tuple #[.agg (csS A0 s.envs.length c0 A1 s.promises.length c1).toArray, rv])) (w3.alloc (.cells cells 3)) := by
    intro cells n roots hc hn hn2 hi
    have hb := (Below.refl w3.heap.size w3).alloc (Nat.le_refl _) (.cells cells 3)
    refine ⟨_, rfl, csS A0 s.envs.length c0 A1 s.promises.length c1, s, _, roots, rfl, ?_, HZ.out, ?_, by omega, hbF.out.trans (hb.mono (by rw [HSZ.out]; omega))⟩
    · exact ((H3.out.keeps (hkF.out.mono fun b hb => by have := hb.1; omega)).keeps (Keeps.of_below _ hb)).read
    · rw [← HSZ.out, hc]
      exact Ints.lit (W := w3) roots n hn (by omega) hi
  have HEND := Lib.hid end_
  clear end_
  go_wp2_with fail
  · refine bodyPost_ret (v := .tuple #[.agg #[.slice A0 s.envs.length c0, .slice A1 s.promises.length c1], .slice (some ⟨w2.heap.size, 0, none⟩) 0 0]) (by simp [results, Tryz.results37, go_sem, r0, r1, hlt]; try rfl) rfl ?_
    rw [HW.out]
    obtain ⟨_, rfl, hr⟩ := HEND.out #[] 0 [] rfl rfl (by omega) (fun _ h => by cases h)
    exact hr
  · refine bodyPost_ret (v := .tuple #[.agg #[.slice A0 s.envs.length c0, .slice A1 s.promises.length c1], .slice (some ⟨w2.heap.size, 0, none⟩) 2 2]) (by simp [results, Tryz.results37, go_sem, r0, r1, hlt]; try rfl) rfl ?_
    rw [HW.out]
    obtain ⟨_, rfl, hr⟩ := HEND.out #[.int .i64 x, .int .i64 0] 2 [x, 0] rfl rfl (by omega) (fun y hy => by
      rcases List.mem_cons.1 hy with rfl | hy
      · exact HX.out
      · rw [List.mem_singleton.1 hy]; exact i64z_)
    exact hr
end Go.Proofs.YtejieacdfjpfnaaGreat
