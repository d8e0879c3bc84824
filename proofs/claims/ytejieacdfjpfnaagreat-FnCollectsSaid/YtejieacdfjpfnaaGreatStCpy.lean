/-
  Copies of slots, environments and stores in memory of their own, of the program and of the reference.
-/
import Derived.Test.YtejieacdfjpfnaaGreatStCopy
import Derived.Test.YtejieacdfjpfnaaGreatKSt
namespace Go.Proofs.YtejieacdfjpfnaaGreat
set_option maxRecDepth 100000
open Go.ChangeShapes Go.WideShapes Go.ChangeAt Go.RowKit Go.Deep
set_option linter.unusedVariables false
set_option maxRecDepth 100000

def zS : List Value := [.int .i64 0, .int .i64 0, .slice none 0 0, .slice none 0 0, .slice none 0 0, .slice none 0 0, .slice none 0 0, .int .i64 0, .int .i64 0, .int .i64 0, .slice none 0 0, .slice none 0 0]

def cpsR (B : Nat) (x : SlotD) (A1 A2 A3 A4 A5 P L : Option Addr) (c1 c2 c3 c4 c5 p l : Nat) : Nat → (Nat → Nat → Prop) → (Nat → Value) → World → Prop
  | 0, T, vs, W => vs 0 = .pointer (some ⟨B, 0, none⟩)
  | 1, T, vs, W => vs 1 = .int .i64 x.kind
  | 2, T, vs, W => vs 2 = .pointer (some ⟨B, 1, none⟩)
  | 3, T, vs, W => vs 3 = .agg #[.int .i64 x.value.kind, .slice A1 x.value.items.length c1, .slice A2 x.value.parts.length c2, .slice A3 x.value.names.length c3, .slice A4 x.value.cls.length c4, .slice A5 x.value.levels.length c5, .int .i64 x.value.code, .int .i64 x.value.env]
  | 4, T, vs, W => ∃ K1 k1 K2 k2 K3 k3 K4 k4 K5 k5, vs 4 = .agg #[.int .i64 x.value.kind, .slice K1 x.value.items.length k1, .slice K2 x.value.parts.length k2, .slice K3 x.value.names.length k3, .slice K4 x.value.cls.length k4, .slice K5 x.value.levels.length k5, .int .i64 x.value.code, .int .i64 x.value.env] ∧ VecO (T 1) W [.int .i64 x.value.kind, .slice K1 x.value.items.length k1, .slice K2 x.value.parts.length k2, .slice K3 x.value.names.length k3, .slice K4 x.value.cls.length k4, .slice K5 x.value.levels.length k5, .int .i64 x.value.code, .int .i64 x.value.env] x.value
  | 5, T, vs, W => vs 5 = .pointer (some ⟨B, 9, none⟩)
  | 6, T, vs, W => vs 6 = .int .i64 x.promise
  | 7, T, vs, W => EmptyO (T 3) W 3 1 (vs 7)
  | 8, T, vs, W => vs 8 = .pointer (some ⟨B, 10, none⟩)
  | 9, T, vs, W => vs 9 = .slice P x.promises.length p
  | 10, T, vs, W => ∃ A c, vs 10 = .slice A x.promises.length c ∧ IntO (T 3) W (.slice A x.promises.length c) x.promises
  | 11, T, vs, W => EmptyO (T 4) W 9 1 (vs 11)
  | 12, T, vs, W => vs 12 = .pointer (some ⟨B, 11, none⟩)
  | 13, T, vs, W => vs 13 = .slice L x.labels.length l
  | 14, T, vs, W => ∃ A c, vs 14 = .slice A x.labels.length c ∧ TxtO (T 4) W (.slice A x.labels.length c) x.labels
  | 15, T, vs, W => ∃ K1 k1 K2 k2 K3 k3 K4 k4 K5 k5 Q q M m, vs 4 = .agg #[.int .i64 x.value.kind, .slice K1 x.value.items.length k1, .slice K2 x.value.parts.length k2, .slice K3 x.value.names.length k3, .slice K4 x.value.cls.length k4, .slice K5 x.value.levels.length k5, .int .i64 x.value.code, .int .i64 x.value.env] ∧ vs 10 = .slice Q x.promises.length q ∧ vs 14 = .slice M x.labels.length m ∧ vs 15 = .agg #[.int .i64 x.kind, .int .i64 x.value.kind, .slice K1 x.value.items.length k1, .slice K2 x.value.parts.length k2, .slice K3 x.value.names.length k3, .slice K4 x.value.cls.length k4, .slice K5 x.value.levels.length k5, .int .i64 x.value.code, .int .i64 x.value.env, .int .i64 x.promise, .slice Q x.promises.length q, .slice M x.labels.length m]
  | _, _, _, _ => True
def cpsD : Nat → List Nat
  | 15 => [15, 4, 10, 14]
  | i => [i]
def cpsL : Nat → Nat
  | 4 => 1
  | 7 => 3
  | 10 => 3
  | 11 => 4
  | 14 => 4
  | _ => 0
theorem cpsK (B : Nat) (x : SlotD) (A1 A2 A3 A4 A5 P L : Option Addr) (c1 c2 c3 c4 c5 p l : Nat) (i : Nat) (T T' : Nat → Nat → Prop) (vs vs' : Nat → Value) (W W' : World) (hv : ∀ j ∈ cpsD i, vs' j = vs j) (hT : ∀ l b, T l b → T' l b) (hb : Below W.heap.size W W') (h : cpsR B x A1 A2 A3 A4 A5 P L c1 c2 c3 c4 c5 p l i T vs W) : cpsR B x A1 A2 A3 A4 A5 P L c1 c2 c3 c4 c5 p l i T' vs' W' :=
  match i, hv, h with
  | 0, hv, h => (hv 0 (List.mem_cons_self)).trans h
  | 1, hv, h => (hv 1 (List.mem_cons_self)).trans h
  | 2, hv, h => (hv 2 (List.mem_cons_self)).trans h
  | 3, hv, h => (hv 3 (List.mem_cons_self)).trans h
  | 4, hv, h => by
    obtain ⟨K1, k1, K2, k2, K3, k3, K4, k4, K5, k5, e, o⟩ := h
    exact ⟨K1, k1, K2, k2, K3, k3, K4, k4, K5, k5, (hv 4 List.mem_cons_self).trans e, (VecO.keeps o (Keeps.of_below _ hb)).mono (hT 1)⟩
  | 5, hv, h => (hv 5 (List.mem_cons_self)).trans h
  | 6, hv, h => (hv 6 (List.mem_cons_self)).trans h
  | 7, hv, h => by
    show EmptyO (T' 3) W' _ _ (vs' 7)
    rw [hv 7 List.mem_cons_self]
    exact EmptyO.keeps h hb (hT 3)
  | 8, hv, h => (hv 8 (List.mem_cons_self)).trans h
  | 9, hv, h => (hv 9 (List.mem_cons_self)).trans h
  | 10, hv, h => by
    obtain ⟨A, c, e, o⟩ := h
    exact ⟨A, c, (hv 10 List.mem_cons_self).trans e, (IntO.keeps o (Keeps.of_below _ hb)).mono (hT 3)⟩
  | 11, hv, h => by
    show EmptyO (T' 4) W' _ _ (vs' 11)
    rw [hv 11 List.mem_cons_self]
    exact EmptyO.keeps h hb (hT 4)
  | 12, hv, h => (hv 12 (List.mem_cons_self)).trans h
  | 13, hv, h => (hv 13 (List.mem_cons_self)).trans h
  | 14, hv, h => by
    obtain ⟨A, c, e, o⟩ := h
    exact ⟨A, c, (hv 14 List.mem_cons_self).trans e, (TxtO.keeps o (Keeps.of_below _ hb)).mono (hT 4)⟩
  | 15, hv, h => by
    obtain ⟨K1, k1, K2, k2, K3, k3, K4, k4, K5, k5, Q, q, M, m, e4, e10, e14, e⟩ := h
    exact ⟨K1, k1, K2, k2, K3, k3, K4, k4, K5, k5, Q, q, M, m, (hv 4 (by decide)).trans e4, (hv 10 (by decide)).trans e10, (hv 14 (by decide)).trans e14, (hv 15 (by decide)).trans e⟩
  | _ + 16, _, _ => trivial

set_option maxHeartbeats 4000000 in
theorem spec_l26CopySlot (x : SlotD) (cs : List Value) (w : World) (h : SlotR w cs x) (hok : okN 3 x.value = true) (hz : szSlot x ≤ 900000000000) :
    Calls Tryz.prog 114 #[.agg cs.toArray] w (RetSlot w x) := by
  have hsz : szVector x.value ≤ 900000000000 ∧ x.promises.length ≤ 900000000000 ∧ x.labels.length ≤ 900000000000 := by have := szL_length x.labels; unfold szSlot at hz; omega
  obtain ⟨hz1, hz2, hz3⟩ := hsz
  obtain ⟨A1, c1, A2, c2, A3, c3, A4, c4, A5, c5, P, p, L, l, rfl, i0, i1, i2, i3, HVX, HPX, HLX⟩ := h.open_
  clear h hz
  obtain ⟨G, g0, HG, BX, BY⟩ := good2 w 96 [.int .i64 x.kind, .int .i64 x.value.kind, .slice A1 x.value.items.length c1, .slice A2 x.value.parts.length c2, .slice A3 x.value.names.length c3, .slice A4 x.value.cls.length c4, .slice A5 x.value.levels.length c5, .int .i64 x.value.code, .int .i64 x.value.env, .int .i64 x.promise, .slice P x.promises.length p, .slice L x.labels.length l] 96 zS
  obtain ⟨y0, y1, y2, y3, y4, y5, y6, y7, y8, y9, y10, y11⟩ := pk_f12 BX
  go_enter Tryz.func114, Tryz.ntmps114
  go_upto_region 1 with fail
  refine gen_w g0 ?_
  clear g0
  intro W0 g0
  have hW0 := (HG.out.below g0).size
  have hlt0 := (BY.out W0 g0).lt
  refine wp_region_free (by kernel_rfl) (by kernel_rfl) (Ok G) cpsL cpsD (cpsR w.heap.size x A1 A2 A3 A4 A5 P L c1 c2 c3 c4 c5 p l) (fun vs => ⟨#[.agg #[.int .i64 x.kind, .int .i64 x.value.kind, .slice A1 x.value.items.length c1, .slice A2 x.value.parts.length c2, .slice A3 x.value.names.length c3, .slice A4 x.value.cls.length c4, .slice A5 x.value.levels.length c5, .int .i64 x.value.code, .int .i64 x.value.env, .int .i64 x.promise, .slice P x.promises.length p, .slice L x.labels.length l], .pointer (some ⟨w.heap.size, 0, none⟩), .pointer (some ⟨w.heap.size + 1, 0, none⟩), vs 0, vs 1, vs 2, vs 3, vs 4, vs 5, vs 6, vs 7, vs 8, vs 9, vs 10, vs 11, vs 12, vs 13, vs 14, vs 15], []⟩) (fun vs => by kernel_rfl) (by kernel_rfl) (HG.out.drew g0) (cpsK w.heap.size x A1 A2 A3 A4 A5 P L c1 c2 c3 c4 c5 p l) ?_ ?_
  · intro i o ho hi vs T W hS hd
    have h9 : i + 1 < 17 := by simpa using hi
    have hi' : i = 0 ∨ i = 1 ∨ i = 2 ∨ i = 3 ∨ i = 4 ∨ i = 5 ∨ i = 6 ∨ i = 7 ∨ i = 8 ∨ i = 9 ∨ i = 10 ∨ i = 11 ∨ i = 12 ∨ i = 13 ∨ i = 14 ∨ i = 15 := by omega
    clear h9 hi
    rcases hi' with rfl | rfl | rfl | rfl | rfl | rfl | rfl | rfl | rfl | rfl | rfl | rfl | rfl | rfl | rfl | rfl
    · obtain rfl := Option.some.inj ho
      exact oper_ok (by go_simp) ⟨_, rfl, Below.refl _ _, hS, upd_same _ _ _⟩
    · obtain rfl := Option.some.inj ho
      have d : vs 0 = _ := hd ⟨0, .data⟩ (by simp) rfl
      exact oper_ok (by go_simp) ⟨_, rfl, Below.refl _ _, hS, upd_same _ _ _⟩
    · obtain rfl := Option.some.inj ho
      exact oper_ok (by go_simp) ⟨_, rfl, Below.refl _ _, hS, upd_same _ _ _⟩
    · obtain rfl := Option.some.inj ho
      have d : vs 2 = _ := hd ⟨2, .data⟩ (by simp) rfl
      exact oper_ok (by go_simp) ⟨_, rfl, Below.refl _ _, hS, upd_same _ _ _⟩
    · obtain rfl := Option.some.inj ho
      have d : vs 3 = _ := hd ⟨3, .data⟩ (by simp) rfl
      refine oper_call (by go_simp) (spec_l4Copy x.value _ W (HVX.out.below (HG.out.below hS)) hok (by omega)) ?_
      rintro e W' ⟨cs, rfl, ho, hb⟩
      obtain ⟨K1, k1, K2, k2, K3, k3, K4, k4, K5, k5, rfl⟩ := ho.shape
      exact ⟨_, rfl, _, rfl, hb, HG.out.step hS hb, K1, k1, K2, k2, K3, k3, K4, k4, K5, k5, upd_same _ _ _, VecO.mono ho fun b hb => .inr ⟨rfl, hb.1, hb.2⟩⟩
    · obtain rfl := Option.some.inj ho
      exact oper_ok (by go_simp) ⟨_, rfl, Below.refl _ _, hS, upd_same _ _ _⟩
    · obtain rfl := Option.some.inj ho
      have d : vs 5 = _ := hd ⟨5, .data⟩ (by simp) rfl
      exact oper_ok (by go_simp) ⟨_, rfl, Below.refl _ _, hS, upd_same _ _ _⟩
    · obtain rfl := Option.some.inj ho
      refine oper_ok (by go_simp; exact ⟨rfl, rfl⟩) ⟨_, rfl, (Below.refl _ _).alloc (Nat.le_refl _) _, HG.out.alloc hS _, ?_⟩
      show EmptyO _ _ _ _ (upd vs 7 _ 7)
      rw [upd_same]
      exact EmptyO.keeps (EmptyO.new _ _ _) (Below.refl _ _) (fun b hb => .inr ⟨rfl, hb.1, hb.2⟩)
    · obtain rfl := Option.some.inj ho
      exact oper_ok (by go_simp) ⟨_, rfl, Below.refl _ _, hS, upd_same _ _ _⟩
    · obtain rfl := Option.some.inj ho
      have d : vs 8 = _ := hd ⟨8, .data⟩ (by simp) rfl
      exact oper_ok (by go_simp) ⟨_, rfl, Below.refl _ _, hS, upd_same _ _ _⟩
    · obtain rfl := Option.some.inj ho
      obtain ⟨g, e, o2⟩ := (show EmptyO (T 3) W _ _ (vs 7) from hd ⟨7, .data⟩ (by simp) rfl)
      have dx : vs 9 = _ := hd ⟨9, .data⟩ (by simp) rfl
      rw [e] at o2
      refine wp_cat0 (.tmp 10) (.tmp 12) 26 rfl 3 (.int .i64 0) 1 8 Tryz.underlying26 info_int rfl (by decide) W g (by exact e) P x.promises.length p _ (by exact dx) (Ints.src (HPX.out.below (HG.out.below hS))).2 (by omega) (by omega) ?_
      intro A' c' W' hb hown
      refine ⟨_, rfl, hb, HG.out.step hS hb, A', c', upd_same _ _ _, ?_⟩
      exact ⟨cat0_own o2 (fun b hb => .inl hb) (fun b h1 h2 => .inr ⟨rfl, h1, h2⟩) hown, Ints.small HPX.out⟩
    · obtain rfl := Option.some.inj ho
      refine oper_ok (by go_simp; exact ⟨rfl, rfl⟩) ⟨_, rfl, (Below.refl _ _).alloc (Nat.le_refl _) _, HG.out.alloc hS _, ?_⟩
      show EmptyO _ _ _ _ (upd vs 11 _ 11)
      rw [upd_same]
      exact EmptyO.keeps (EmptyO.new _ _ _) (Below.refl _ _) (fun b hb => .inr ⟨rfl, hb.1, hb.2⟩)
    · obtain rfl := Option.some.inj ho
      exact oper_ok (by go_simp) ⟨_, rfl, Below.refl _ _, hS, upd_same _ _ _⟩
    · obtain rfl := Option.some.inj ho
      have d : vs 12 = _ := hd ⟨12, .data⟩ (by simp) rfl
      exact oper_ok (by go_simp) ⟨_, rfl, Below.refl _ _, hS, upd_same _ _ _⟩
    · obtain rfl := Option.some.inj ho
      obtain ⟨g, e, o2⟩ := (show EmptyO (T 4) W _ _ (vs 11) from hd ⟨11, .data⟩ (by simp) rfl)
      have dx : vs 13 = _ := hd ⟨13, .data⟩ (by simp) rfl
      rw [e] at o2
      refine wp_cat0 (.tmp 14) (.tmp 16) 43 rfl 9 (.string ByteArray.empty) 1 16 Tryz.underlying43 info_strK rfl (by decide) W g (by exact e) L x.labels.length l _ (by exact dx) (Txts.src (HLX.out.below (HG.out.below hS))).2 (by omega) (by omega) ?_
      intro A' c' W' hb hown
      refine ⟨_, rfl, hb, HG.out.step hS hb, A', c', upd_same _ _ _, ?_⟩
      exact ⟨cat0_own o2 (fun b hb => .inl hb) (fun b h1 h2 => .inr ⟨rfl, h1, h2⟩) hown, Txts.small HLX.out⟩
    · obtain rfl := Option.some.inj ho
      have e1 : vs 1 = _ := hd ⟨1, .data⟩ (by simp) rfl
      have e6 : vs 6 = _ := hd ⟨6, .data⟩ (by simp) rfl
      obtain ⟨K1, k1, K2, k2, K3, k3, K4, k4, K5, k5, e4, _⟩ := (show cpsR w.heap.size x A1 A2 A3 A4 A5 P L c1 c2 c3 c4 c5 p l 4 T vs W from hd ⟨4, .data⟩ (by simp) rfl)
      obtain ⟨Q, q, e10, _⟩ := (show cpsR w.heap.size x A1 A2 A3 A4 A5 P L c1 c2 c3 c4 c5 p l 10 T vs W from hd ⟨10, .data⟩ (by simp) rfl)
      obtain ⟨M, m, e14, _⟩ := (show cpsR w.heap.size x A1 A2 A3 A4 A5 P L c1 c2 c3 c4 c5 p l 14 T vs W from hd ⟨14, .data⟩ (by simp) rfl)
      refine oper_ok (by go_simp) ⟨_, rfl, Below.refl _ _, hS, K1, k1, K2, k2, K3, k3, K4, k4, K5, k5, Q, q, M, m, ?_, ?_, ?_, upd_same _ _ _⟩
      · exact (upd_ne _ _ _ _ (by decide)).trans e4
      · exact (upd_ne _ _ _ _ (by decide)).trans e10
      · exact (upd_ne _ _ _ _ (by decide)).trans e14
  · intro o ho vs T W hS hsz hT1 hT2 hR
    obtain ⟨od, oo, ot, opos, oa, og⟩ := o
    obtain ⟨rfl, rfl⟩ : od = none ∧ oo = .store 96 (.tmp 2) (.tmp 18) := ⟨(congrArg Oper.dst (Option.some.inj ho)).symm, (congrArg Oper.op (Option.some.inj ho)).symm⟩
    clear ho
    obtain ⟨K1, k1, K2, k2, K3, k3, K4, k4, K5, k5, Q, q, M, m, e4, e10, e14, e15⟩ := hR 15 (by decide)
    obtain ⟨_, _, _, _, _, _, _, _, _, _, f4, o1⟩ := hR 4 (by decide)
    obtain ⟨_, _, f10, o3⟩ := hR 10 (by decide)
    obtain ⟨_, _, f14, o4⟩ := hR 14 (by decide)
    rw [e4] at f4
    rw [e10] at f10
    rw [e14] at f14
    simp only [Value.agg.injEq, Value.slice.injEq, Array.mk.injEq, List.cons.injEq, and_true, true_and] at f4 f10 f14
    obtain ⟨⟨rfl, rfl⟩, ⟨rfl, rfl⟩, ⟨rfl, rfl⟩, ⟨rfl, rfl⟩, rfl, rfl⟩ := f4
    obtain ⟨rfl, rfl⟩ := f10
    obtain ⟨rfl, rfl⟩ := f14
    obtain ⟨f, hf⟩ := labels T hT2
    have hTr : ∀ l b, T l b → Rng W0.heap.size W.heap.size b ∧ f b = l := fun l b hb => ⟨hT1 l b hb, hf l b hb⟩
    have O1 := Lib.hid (VecO.mono o1 (hTr 1))
    have O3 := Lib.hid (IntO.mono o3 (hTr 3))
    have O4 := Lib.hid (TxtO.mono o4 (hTr 4))
    have HB := Lib.hid (HG.out.below hS)
    have BYW := Lib.hid (BY.out W hS)
    clear o1 o3 o4 hR hT1 hT2 hTr hf e4 e10 e14
    have HKP := Lib.hid (fun (S : Nat → Prop) (hS : ¬ S (w.heap.size + 1)) => (((((((((((((Keeps.refl S W).sc (b := w.heap.size + 1) (o := 0) hS (.int .i64 x.kind)).sc (b := w.heap.size + 1) (o := 1) hS (.int .i64 x.value.kind)).sc (b := w.heap.size + 1) (o := 2) hS (.slice K1 x.value.items.length k1)).sc (b := w.heap.size + 1) (o := 3) hS (.slice K2 x.value.parts.length k2)).sc (b := w.heap.size + 1) (o := 4) hS (.slice K3 x.value.names.length k3)).sc (b := w.heap.size + 1) (o := 5) hS (.slice K4 x.value.cls.length k4)).sc (b := w.heap.size + 1) (o := 6) hS (.slice K5 x.value.levels.length k5)).sc (b := w.heap.size + 1) (o := 7) hS (.int .i64 x.value.code)).sc (b := w.heap.size + 1) (o := 8) hS (.int .i64 x.value.env)).sc (b := w.heap.size + 1) (o := 9) hS (.int .i64 x.promise)).sc (b := w.heap.size + 1) (o := 10) hS (.slice Q x.promises.length q)).sc (b := w.heap.size + 1) (o := 11) hS (.slice M x.labels.length m)))
    have HBL := Lib.hid (show Blk _ _ _ [.int .i64 x.kind, .int .i64 x.value.kind, .slice K1 x.value.items.length k1, .slice K2 x.value.parts.length k2, .slice K3 x.value.names.length k3, .slice K4 x.value.cls.length k4, .slice K5 x.value.levels.length k5, .int .i64 x.value.code, .int .i64 x.value.env, .int .i64 x.promise, .slice Q x.promises.length q, .slice M x.labels.length m] from ((((((((((((BYW.out.set_ 0 (.int .i64 x.kind)).set_ 1 (.int .i64 x.value.kind)).set_ 2 (.slice K1 x.value.items.length k1)).set_ 3 (.slice K2 x.value.parts.length k2)).set_ 4 (.slice K3 x.value.names.length k3)).set_ 5 (.slice K4 x.value.cls.length k4)).set_ 6 (.slice K5 x.value.levels.length k5)).set_ 7 (.int .i64 x.value.code)).set_ 8 (.int .i64 x.value.env)).set_ 9 (.int .i64 x.promise)).set_ 10 (.slice Q x.promises.length q)).set_ 11 (.slice M x.labels.length m)))
    have HSC := Lib.hid (below_sc (b := w.heap.size + 1) (o := 11) (below_sc (b := w.heap.size + 1) (o := 10) (below_sc (b := w.heap.size + 1) (o := 9) (below_sc (b := w.heap.size + 1) (o := 8) (below_sc (b := w.heap.size + 1) (o := 7) (below_sc (b := w.heap.size + 1) (o := 6) (below_sc (b := w.heap.size + 1) (o := 5) (below_sc (b := w.heap.size + 1) (o := 4) (below_sc (b := w.heap.size + 1) (o := 3) (below_sc (b := w.heap.size + 1) (o := 2) (below_sc (b := w.heap.size + 1) (o := 1) (below_sc (b := w.heap.size + 1) (o := 0) HB.out (by omega) (.int .i64 x.kind)) (by omega) (.int .i64 x.value.kind)) (by omega) (.slice K1 x.value.items.length k1)) (by omega) (.slice K2 x.value.parts.length k2)) (by omega) (.slice K3 x.value.names.length k3)) (by omega) (.slice K4 x.value.cls.length k4)) (by omega) (.slice K5 x.value.levels.length k5)) (by omega) (.int .i64 x.value.code)) (by omega) (.int .i64 x.value.env)) (by omega) (.int .i64 x.promise)) (by omega) (.slice Q x.promises.length q)) (by omega) (.slice M x.labels.length m))
    have r0 := BYW.out.cell 0 _ rfl
    have z0 := BYW.out.frozen 0
    have r1 := BYW.out.cell 1 _ rfl
    have z1 := BYW.out.frozen 1
    have r2 := BYW.out.cell 2 _ rfl
    have z2 := BYW.out.frozen 2
    have r3 := BYW.out.cell 3 _ rfl
    have z3 := BYW.out.frozen 3
    have r4 := BYW.out.cell 4 _ rfl
    have z4 := BYW.out.frozen 4
    have r5 := BYW.out.cell 5 _ rfl
    have z5 := BYW.out.frozen 5
    have r6 := BYW.out.cell 6 _ rfl
    have z6 := BYW.out.frozen 6
    have r7 := BYW.out.cell 7 _ rfl
    have z7 := BYW.out.frozen 7
    have r8 := BYW.out.cell 8 _ rfl
    have z8 := BYW.out.frozen 8
    have r9 := BYW.out.cell 9 _ rfl
    have z9 := BYW.out.frozen 9
    have r10 := BYW.out.cell 10 _ rfl
    have z10 := BYW.out.frozen 10
    have r11 := BYW.out.cell 11 _ rfl
    have z11 := BYW.out.frozen 11
    refine oper_gen (fun K hK => ?_)
    go_wp2_with fail
    refine hK.out _ _ ?_
    clear hK r0 z0 r1 z1 r2 z2 r3 z3 r4 z4 r5 z5 r6 z6 r7 z7 r8 z8 r9 z9 r10 z10 r11 z11
    refine gen_w (G := fun V => Blk V (w.heap.size + 1) 96 [.int .i64 x.kind, .int .i64 x.value.kind, .slice K1 x.value.items.length k1, .slice K2 x.value.parts.length k2, .slice K3 x.value.names.length k3, .slice K4 x.value.cls.length k4, .slice K5 x.value.levels.length k5, .int .i64 x.value.code, .int .i64 x.value.env, .int .i64 x.promise, .slice Q x.promises.length q, .slice M x.labels.length m] ∧ Below w.heap.size w V ∧ W.heap.size ≤ V.heap.size ∧ VecO (fun b => Rng W0.heap.size W.heap.size b ∧ f b = 1) V [.int .i64 x.value.kind, .slice K1 x.value.items.length k1, .slice K2 x.value.parts.length k2, .slice K3 x.value.names.length k3, .slice K4 x.value.cls.length k4, .slice K5 x.value.levels.length k5, .int .i64 x.value.code, .int .i64 x.value.env] x.value ∧ IntO (fun b => Rng W0.heap.size W.heap.size b ∧ f b = 3) V (.slice Q x.promises.length q) x.promises ∧ TxtO (fun b => Rng W0.heap.size W.heap.size b ∧ f b = 4) V (.slice M x.labels.length m) x.labels)
      (show Ok _ _ from ⟨HBL.out, HSC.out, by simp [World.setCell], VecO.keeps O1.out (HKP.out _ (fun h => by have := h.1.1; omega)), IntO.keeps O3.out (HKP.out _ (fun h => by have := h.1.1; omega)), TxtO.keeps O4.out (HKP.out _ (fun h => by have := h.1.1; omega))⟩) ?_
    clear HKP HBL HSC O1 O3 O4 HB BYW
    rintro V ⟨hbl, hbv, hwv, o1, o3, o4⟩
    have hup : ∀ k b, (Rng W0.heap.size W.heap.size b ∧ f b = k) → (Rng w.heap.size V.heap.size b ∧ f b = k) := fun k b h => ⟨⟨by have := h.1.1; omega, by have := h.1.2; omega⟩, h.2⟩
    have HV := Lib.hid (show SlotO (Rng w.heap.size V.heap.size) V [.int .i64 x.kind, .int .i64 x.value.kind, .slice K1 x.value.items.length k1, .slice K2 x.value.parts.length k2, .slice K3 x.value.names.length k3, .slice K4 x.value.cls.length k4, .slice K5 x.value.levels.length k5, .int .i64 x.value.code, .int .i64 x.value.env, .int .i64 x.promise, .slice Q x.promises.length q, .slice M x.labels.length m] x from ⟨K1, k1, K2, k2, K3, k3, K4, k4, K5, k5, Q, q, M, m, f, rfl, i0, VecO.mono o1 (hup 1), i1, IntO.mono o3 (hup 3), TxtO.mono o4 (hup 4)⟩)
    have HBV := Lib.hid hbv
    have g0 := hbl.cell 0 _ rfl
    have g1 := hbl.cell 1 _ rfl
    have g2 := hbl.cell 2 _ rfl
    have g3 := hbl.cell 3 _ rfl
    have g4 := hbl.cell 4 _ rfl
    have g5 := hbl.cell 5 _ rfl
    have g6 := hbl.cell 6 _ rfl
    have g7 := hbl.cell 7 _ rfl
    have g8 := hbl.cell 8 _ rfl
    have g9 := hbl.cell 9 _ rfl
    have g10 := hbl.cell 10 _ rfl
    have g11 := hbl.cell 11 _ rfl
    clear o1 o3 o4 hbv hbl
    go_wp2_with fail
    refine bodyPost_ret (v := .agg #[.int .i64 x.kind, .int .i64 x.value.kind, .slice K1 x.value.items.length k1, .slice K2 x.value.parts.length k2, .slice K3 x.value.names.length k3, .slice K4 x.value.cls.length k4, .slice K5 x.value.levels.length k5, .int .i64 x.value.code, .int .i64 x.value.env, .int .i64 x.promise, .slice Q x.promises.length q, .slice M x.labels.length m]) (by simp [results, Tryz.results114, go_sem, g0, g1, g2, g3, g4, g5, g6, g7, g8, g9, g10, g11]) rfl ?_
    exact ⟨_, rfl, HV.out, HBV.out⟩

set_option maxHeartbeats 4000000 in
theorem impl_copySlot (x : SlotD) (cs : List Value) (w : World) (h : SlotR w cs x) (hz : szSlot x ≤ 900000000000) :
    Calls Tryz.prog 140 #[.agg cs.toArray] w (RetSlot w x) := by
  have hsz : szVector x.value ≤ 900000000000 ∧ x.promises.length ≤ 900000000000 ∧ x.labels.length ≤ 900000000000 := by have := szL_length x.labels; unfold szSlot at hz; omega
  obtain ⟨hz1, hz2, hz3⟩ := hsz
  obtain ⟨A1, c1, A2, c2, A3, c3, A4, c4, A5, c5, P, p, L, l, rfl, i0, i1, i2, i3, HVX, HPX, HLX⟩ := h.open_
  clear h hz
  obtain ⟨G, g0, HG, BX, BY⟩ := good2 w 96 [.int .i64 x.kind, .int .i64 x.value.kind, .slice A1 x.value.items.length c1, .slice A2 x.value.parts.length c2, .slice A3 x.value.names.length c3, .slice A4 x.value.cls.length c4, .slice A5 x.value.levels.length c5, .int .i64 x.value.code, .int .i64 x.value.env, .int .i64 x.promise, .slice P x.promises.length p, .slice L x.labels.length l] 96 zS
  obtain ⟨y0, y1, y2, y3, y4, y5, y6, y7, y8, y9, y10, y11⟩ := pk_f12 BX
  go_enter Tryz.func140, Tryz.ntmps140
  go_upto_region 1 with fail
  refine gen_w g0 ?_
  clear g0
  intro W0 g0
  have hW0 := (HG.out.below g0).size
  have hlt0 := (BY.out W0 g0).lt
  go_wp2_with fail
  refine Calls.mono (impl_copyVec x.value _ _ (HVX.out.below (HG.out.below g0)) hz1) ?_
  rintro e w1 ⟨cs1, rfl, ho, hb⟩
  obtain ⟨K1, k1, K2, k2, K3, k3, K4, k4, K5, k5, rfl⟩ := ho.shape
  have hz01 := hb.size
  have g1 := HG.out.step g0 hb
  have BX1 := Lib.hid (BX.out _ g1)
  have BY1 := Lib.hid (BY.out _ g1)
  have HB := Lib.hid (HG.out.below g1)
  have HO := Lib.hid ho
  clear ho hb y0 y1 y2 y3 y4 y5 y6 y7 y8 y9 y10 y11
  have y1 := BX1.out.cell 1 _ rfl
  have z1 := BX1.out.frozen 1
  have y2 := BX1.out.cell 2 _ rfl
  have z2 := BX1.out.frozen 2
  have y3 := BX1.out.cell 3 _ rfl
  have z3 := BX1.out.frozen 3
  have y4 := BX1.out.cell 4 _ rfl
  have z4 := BX1.out.frozen 4
  have y5 := BX1.out.cell 5 _ rfl
  have z5 := BX1.out.frozen 5
  have y6 := BX1.out.cell 6 _ rfl
  have z6 := BX1.out.frozen 6
  have y7 := BX1.out.cell 7 _ rfl
  have z7 := BX1.out.frozen 7
  have y8 := BX1.out.cell 8 _ rfl
  have z8 := BX1.out.frozen 8
  go_upto_region 2 with fail
  refine gen_w (G := fun V => Blk V w.heap.size 96 [.int .i64 x.kind, .int .i64 x.value.kind, .slice K1 x.value.items.length k1, .slice K2 x.value.parts.length k2, .slice K3 x.value.names.length k3, .slice K4 x.value.cls.length k4, .slice K5 x.value.levels.length k5, .int .i64 x.value.code, .int .i64 x.value.env, .int .i64 x.promise, .slice P x.promises.length p, .slice L x.labels.length l] ∧ Blk V (w.heap.size + 1) 96 zS ∧ Below w.heap.size w V ∧ w1.heap.size ≤ V.heap.size ∧ VecO (Rng W0.heap.size w1.heap.size) V [.int .i64 x.value.kind, .slice K1 x.value.items.length k1, .slice K2 x.value.parts.length k2, .slice K3 x.value.names.length k3, .slice K4 x.value.cls.length k4, .slice K5 x.value.levels.length k5, .int .i64 x.value.code, .int .i64 x.value.env] x.value)
    (show Ok _ _ from ⟨((((((((BX1.out.set_ 1 (.int .i64 x.value.kind)).set_ 2 (.slice K1 x.value.items.length k1)).set_ 3 (.slice K2 x.value.parts.length k2)).set_ 4 (.slice K3 x.value.names.length k3)).set_ 5 (.slice K4 x.value.cls.length k4)).set_ 6 (.slice K5 x.value.levels.length k5)).set_ 7 (.int .i64 x.value.code)).set_ 8 (.int .i64 x.value.env)), ((((((((BY1.out.far ⟨w.heap.size, 1, none⟩ (by simp <;> omega) (.int .i64 x.value.kind)).far ⟨w.heap.size, 2, none⟩ (by simp <;> omega) (.slice K1 x.value.items.length k1)).far ⟨w.heap.size, 3, none⟩ (by simp <;> omega) (.slice K2 x.value.parts.length k2)).far ⟨w.heap.size, 4, none⟩ (by simp <;> omega) (.slice K3 x.value.names.length k3)).far ⟨w.heap.size, 5, none⟩ (by simp <;> omega) (.slice K4 x.value.cls.length k4)).far ⟨w.heap.size, 6, none⟩ (by simp <;> omega) (.slice K5 x.value.levels.length k5)).far ⟨w.heap.size, 7, none⟩ (by simp <;> omega) (.int .i64 x.value.code)).far ⟨w.heap.size, 8, none⟩ (by simp <;> omega) (.int .i64 x.value.env)), (below_sc (b := w.heap.size) (o := 8) (below_sc (b := w.heap.size) (o := 7) (below_sc (b := w.heap.size) (o := 6) (below_sc (b := w.heap.size) (o := 5) (below_sc (b := w.heap.size) (o := 4) (below_sc (b := w.heap.size) (o := 3) (below_sc (b := w.heap.size) (o := 2) (below_sc (b := w.heap.size) (o := 1) HB.out (by omega) (.int .i64 x.value.kind)) (by omega) (.slice K1 x.value.items.length k1)) (by omega) (.slice K2 x.value.parts.length k2)) (by omega) (.slice K3 x.value.names.length k3)) (by omega) (.slice K4 x.value.cls.length k4)) (by omega) (.slice K5 x.value.levels.length k5)) (by omega) (.int .i64 x.value.code)) (by omega) (.int .i64 x.value.env)), by simp [World.setCell], VecO.keeps HO.out (((((((((Keeps.refl _ w1).sc (b := w.heap.size) (o := 1) (fun h => by have := h.1; omega) (.int .i64 x.value.kind)).sc (b := w.heap.size) (o := 2) (fun h => by have := h.1; omega) (.slice K1 x.value.items.length k1)).sc (b := w.heap.size) (o := 3) (fun h => by have := h.1; omega) (.slice K2 x.value.parts.length k2)).sc (b := w.heap.size) (o := 4) (fun h => by have := h.1; omega) (.slice K3 x.value.names.length k3)).sc (b := w.heap.size) (o := 5) (fun h => by have := h.1; omega) (.slice K4 x.value.cls.length k4)).sc (b := w.heap.size) (o := 6) (fun h => by have := h.1; omega) (.slice K5 x.value.levels.length k5)).sc (b := w.heap.size) (o := 7) (fun h => by have := h.1; omega) (.int .i64 x.value.code)).sc (b := w.heap.size) (o := 8) (fun h => by have := h.1; omega) (.int .i64 x.value.env))⟩) ?_
  clear BX1 BY1 HB HO y1 z1 y2 z2 y3 z3 y4 z4 y5 z5 y6 z6 y7 z7 y8 z8 g1 g0
  rintro V ⟨b1, b2, hbv, hvs, o1⟩
  have BX1 := Lib.hid b1
  have BY1 := Lib.hid b2
  have HB := Lib.hid hbv
  have O1 := Lib.hid o1
  clear b1 b2 hbv o1
  have hb0 := (Below.refl V.heap.size V).alloc (Nat.le_refl _) (.cells #[] 3)
  have HB0 := Lib.hid hb0
  have HE := Lib.hid (owns_new V 3 1 0 #[] 0 [] (by simp) (Nat.le_refl _) (by unfold maxLen; omega) (by simp) (by simp))
  have HSR := Lib.hid (Ints.src (SlR.below HPX.out (HB.out.trans (hb0.mono HB.out.size)) (fun _ _ h => h))).2
  have y10 := (BX1.out.below hb0).cell 10 _ rfl
  clear hb0
  go_upto_region 3 with (at_builtin; go_must (refine wpList_cat rfl _ _ 26 rfl V.heap.size 3 (.int .i64 0) 1 8 Tryz.underlying26 info_int rfl (by decide) _ _ 0 [] rfl (by exact HE.out) _ _ _ _ rfl (by exact HSR.out) (by omega) (by omega) (by simp) ?_); intro v1 w3 ho3 hg3 hbk3 hb3; rw [Nat.zero_add, List.nil_append] at ho3; obtain ⟨Q, q, rfl⟩ := own_shapeC ho3; have BX3 := Lib.hid (BX1.out.below (HB0.out.trans hb3)); have q10 := BX3.out.cell 10 _ rfl; have f10 := BX3.out.frozen 10)
  have hbw := HB0.out.trans hb3
  have hz3w := hbw.size
  have BY3 := Lib.hid (BY1.out.below hbw)
  have HB3 := Lib.hid (HB.out.trans (hbw.mono HB.out.size))
  have O13 := Lib.hid (O1.out.keeps (Keeps.of_below _ hbw))
  have OI3 := Lib.hid (show IntO (Rng V.heap.size w3.heap.size) w3 (.slice Q x.promises.length q) x.promises from ⟨FlO.of_own ho3, Ints.small HPX.out⟩)
  refine gen_w (G := fun V2 => Blk V2 w.heap.size 96 [.int .i64 x.kind, .int .i64 x.value.kind, .slice K1 x.value.items.length k1, .slice K2 x.value.parts.length k2, .slice K3 x.value.names.length k3, .slice K4 x.value.cls.length k4, .slice K5 x.value.levels.length k5, .int .i64 x.value.code, .int .i64 x.value.env, .int .i64 x.promise, .slice Q x.promises.length q, .slice L x.labels.length l] ∧ Blk V2 (w.heap.size + 1) 96 zS ∧ Below w.heap.size w V2 ∧ w3.heap.size ≤ V2.heap.size ∧ VecO (Rng W0.heap.size w1.heap.size) V2 [.int .i64 x.value.kind, .slice K1 x.value.items.length k1, .slice K2 x.value.parts.length k2, .slice K3 x.value.names.length k3, .slice K4 x.value.cls.length k4, .slice K5 x.value.levels.length k5, .int .i64 x.value.code, .int .i64 x.value.env] x.value ∧ IntO (Rng V.heap.size w3.heap.size) V2 (.slice Q x.promises.length q) x.promises)
    (show Ok _ _ from ⟨(BX3.out.set_ 10 (.slice Q x.promises.length q)), (BY3.out.far ⟨w.heap.size, 10, none⟩ (by simp <;> omega) (.slice Q x.promises.length q)), (below_sc (b := w.heap.size) (o := 10) HB3.out (by omega) (.slice Q x.promises.length q)), by simp [World.setCell], VecO.keeps O13.out ((Keeps.refl _ w3).sc (b := w.heap.size) (o := 10) (fun h => by have := h.1; omega) (.slice Q x.promises.length q)), IntO.keeps OI3.out ((Keeps.refl _ w3).sc (b := w.heap.size) (o := 10) (fun h => by have := h.1; omega) (.slice Q x.promises.length q))⟩) ?_
  clear BX3 BY3 HB3 O13 OI3 hbw hb3 ho3 hg3 hbk3 q10 f10 y10 HSR HE HB0 BX1 BY1 HB O1
  rintro V2 ⟨b1, b2, hbv, hvs2, o1, o3⟩
  have BX1 := Lib.hid b1
  have BY1 := Lib.hid b2
  have HB := Lib.hid hbv
  have O1 := Lib.hid o1
  have O3 := Lib.hid o3
  clear b1 b2 hbv o1 o3
  have y11 := BX1.out.cell 11 _ rfl
  go_wp2_with fail
  clear y11
  refine Calls.mono (impl_copyTexts x.labels _ _ (SlR.below HLX.out HB.out (fun _ _ h => h)) (by omega)) ?_
  rintro e w4 ⟨M, m, rfl, o4, hb⟩
  have hz4 := hb.size
  have BX4 := Lib.hid (BX1.out.below hb)
  have BY4 := Lib.hid (BY1.out.below hb)
  have HB4 := Lib.hid (HB.out.trans (hb.mono HB.out.size))
  have O14 := Lib.hid (O1.out.keeps (Keeps.of_below _ hb))
  have O34 := Lib.hid (O3.out.keeps (Keeps.of_below _ hb))
  have O44 := Lib.hid o4
  clear BX1 BY1 HB O1 O3 hb o4
  have y11 := BX4.out.cell 11 _ rfl
  have z11 := BX4.out.frozen 11
  go_upto_region 4 with fail
  refine gen_w (G := fun V3 => Blk V3 w.heap.size 96 [.int .i64 x.kind, .int .i64 x.value.kind, .slice K1 x.value.items.length k1, .slice K2 x.value.parts.length k2, .slice K3 x.value.names.length k3, .slice K4 x.value.cls.length k4, .slice K5 x.value.levels.length k5, .int .i64 x.value.code, .int .i64 x.value.env, .int .i64 x.promise, .slice Q x.promises.length q, .slice M x.labels.length m] ∧ Blk V3 (w.heap.size + 1) 96 zS ∧ Below w.heap.size w V3 ∧ w4.heap.size ≤ V3.heap.size ∧ VecO (Rng W0.heap.size w1.heap.size) V3 [.int .i64 x.value.kind, .slice K1 x.value.items.length k1, .slice K2 x.value.parts.length k2, .slice K3 x.value.names.length k3, .slice K4 x.value.cls.length k4, .slice K5 x.value.levels.length k5, .int .i64 x.value.code, .int .i64 x.value.env] x.value ∧ IntO (Rng V.heap.size w3.heap.size) V3 (.slice Q x.promises.length q) x.promises ∧ TxtO (Rng V2.heap.size w4.heap.size) V3 (.slice M x.labels.length m) x.labels)
    (show Ok _ _ from ⟨(BX4.out.set_ 11 (.slice M x.labels.length m)), (BY4.out.far ⟨w.heap.size, 11, none⟩ (by simp <;> omega) (.slice M x.labels.length m)), (below_sc (b := w.heap.size) (o := 11) HB4.out (by omega) (.slice M x.labels.length m)), by simp [World.setCell], VecO.keeps O14.out ((Keeps.refl _ w4).sc (b := w.heap.size) (o := 11) (fun h => by have := h.1; omega) (.slice M x.labels.length m)), IntO.keeps O34.out ((Keeps.refl _ w4).sc (b := w.heap.size) (o := 11) (fun h => by have := h.1; omega) (.slice M x.labels.length m)), TxtO.keeps O44.out ((Keeps.refl _ w4).sc (b := w.heap.size) (o := 11) (fun h => by have := h.1; omega) (.slice M x.labels.length m))⟩) ?_
  clear BX4 BY4 HB4 O14 O34 O44 y11 z11
  rintro V3 ⟨b1, b2, hbv, hvs3, o1, o3, o4⟩
  have BX1 := Lib.hid b1
  have BY1 := Lib.hid b2
  have HB := Lib.hid hbv
  have O1 := Lib.hid o1
  have O3 := Lib.hid o3
  have O4 := Lib.hid o4
  clear b1 b2 hbv o1 o3 o4
  have y0 := BX1.out.cell 0 _ rfl
  have r0 := BY1.out.cell 0 _ rfl
  have z0 := BY1.out.frozen 0
  have y1 := BX1.out.cell 1 _ rfl
  have r1 := BY1.out.cell 1 _ rfl
  have z1 := BY1.out.frozen 1
  have y2 := BX1.out.cell 2 _ rfl
  have r2 := BY1.out.cell 2 _ rfl
  have z2 := BY1.out.frozen 2
  have y3 := BX1.out.cell 3 _ rfl
  have r3 := BY1.out.cell 3 _ rfl
  have z3 := BY1.out.frozen 3
  have y4 := BX1.out.cell 4 _ rfl
  have r4 := BY1.out.cell 4 _ rfl
  have z4 := BY1.out.frozen 4
  have y5 := BX1.out.cell 5 _ rfl
  have r5 := BY1.out.cell 5 _ rfl
  have z5 := BY1.out.frozen 5
  have y6 := BX1.out.cell 6 _ rfl
  have r6 := BY1.out.cell 6 _ rfl
  have z6 := BY1.out.frozen 6
  have y7 := BX1.out.cell 7 _ rfl
  have r7 := BY1.out.cell 7 _ rfl
  have z7 := BY1.out.frozen 7
  have y8 := BX1.out.cell 8 _ rfl
  have r8 := BY1.out.cell 8 _ rfl
  have z8 := BY1.out.frozen 8
  have y9 := BX1.out.cell 9 _ rfl
  have r9 := BY1.out.cell 9 _ rfl
  have z9 := BY1.out.frozen 9
  have y10 := BX1.out.cell 10 _ rfl
  have r10 := BY1.out.cell 10 _ rfl
  have z10 := BY1.out.frozen 10
  have y11 := BX1.out.cell 11 _ rfl
  have r11 := BY1.out.cell 11 _ rfl
  have z11 := BY1.out.frozen 11
  go_wp2_with fail
  refine gen_w (G := fun U => Blk U (w.heap.size + 1) 96 [.int .i64 x.kind, .int .i64 x.value.kind, .slice K1 x.value.items.length k1, .slice K2 x.value.parts.length k2, .slice K3 x.value.names.length k3, .slice K4 x.value.cls.length k4, .slice K5 x.value.levels.length k5, .int .i64 x.value.code, .int .i64 x.value.env, .int .i64 x.promise, .slice Q x.promises.length q, .slice M x.labels.length m] ∧ Below w.heap.size w U ∧ V3.heap.size ≤ U.heap.size ∧ VecO (Rng W0.heap.size w1.heap.size) U [.int .i64 x.value.kind, .slice K1 x.value.items.length k1, .slice K2 x.value.parts.length k2, .slice K3 x.value.names.length k3, .slice K4 x.value.cls.length k4, .slice K5 x.value.levels.length k5, .int .i64 x.value.code, .int .i64 x.value.env] x.value ∧ IntO (Rng V.heap.size w3.heap.size) U (.slice Q x.promises.length q) x.promises ∧ TxtO (Rng V2.heap.size w4.heap.size) U (.slice M x.labels.length m) x.labels)
    (show Ok _ _ from ⟨((((((((((((BY1.out.set_ 0 (.int .i64 x.kind)).set_ 1 (.int .i64 x.value.kind)).set_ 2 (.slice K1 x.value.items.length k1)).set_ 3 (.slice K2 x.value.parts.length k2)).set_ 4 (.slice K3 x.value.names.length k3)).set_ 5 (.slice K4 x.value.cls.length k4)).set_ 6 (.slice K5 x.value.levels.length k5)).set_ 7 (.int .i64 x.value.code)).set_ 8 (.int .i64 x.value.env)).set_ 9 (.int .i64 x.promise)).set_ 10 (.slice Q x.promises.length q)).set_ 11 (.slice M x.labels.length m)), (below_sc (b := w.heap.size + 1) (o := 11) (below_sc (b := w.heap.size + 1) (o := 10) (below_sc (b := w.heap.size + 1) (o := 9) (below_sc (b := w.heap.size + 1) (o := 8) (below_sc (b := w.heap.size + 1) (o := 7) (below_sc (b := w.heap.size + 1) (o := 6) (below_sc (b := w.heap.size + 1) (o := 5) (below_sc (b := w.heap.size + 1) (o := 4) (below_sc (b := w.heap.size + 1) (o := 3) (below_sc (b := w.heap.size + 1) (o := 2) (below_sc (b := w.heap.size + 1) (o := 1) (below_sc (b := w.heap.size + 1) (o := 0) HB.out (by omega) (.int .i64 x.kind)) (by omega) (.int .i64 x.value.kind)) (by omega) (.slice K1 x.value.items.length k1)) (by omega) (.slice K2 x.value.parts.length k2)) (by omega) (.slice K3 x.value.names.length k3)) (by omega) (.slice K4 x.value.cls.length k4)) (by omega) (.slice K5 x.value.levels.length k5)) (by omega) (.int .i64 x.value.code)) (by omega) (.int .i64 x.value.env)) (by omega) (.int .i64 x.promise)) (by omega) (.slice Q x.promises.length q)) (by omega) (.slice M x.labels.length m)), by simp [World.setCell], VecO.keeps O1.out (((((((((((((Keeps.refl _ V3).sc (b := w.heap.size + 1) (o := 0) (fun h => by have := h.1; omega) (.int .i64 x.kind)).sc (b := w.heap.size + 1) (o := 1) (fun h => by have := h.1; omega) (.int .i64 x.value.kind)).sc (b := w.heap.size + 1) (o := 2) (fun h => by have := h.1; omega) (.slice K1 x.value.items.length k1)).sc (b := w.heap.size + 1) (o := 3) (fun h => by have := h.1; omega) (.slice K2 x.value.parts.length k2)).sc (b := w.heap.size + 1) (o := 4) (fun h => by have := h.1; omega) (.slice K3 x.value.names.length k3)).sc (b := w.heap.size + 1) (o := 5) (fun h => by have := h.1; omega) (.slice K4 x.value.cls.length k4)).sc (b := w.heap.size + 1) (o := 6) (fun h => by have := h.1; omega) (.slice K5 x.value.levels.length k5)).sc (b := w.heap.size + 1) (o := 7) (fun h => by have := h.1; omega) (.int .i64 x.value.code)).sc (b := w.heap.size + 1) (o := 8) (fun h => by have := h.1; omega) (.int .i64 x.value.env)).sc (b := w.heap.size + 1) (o := 9) (fun h => by have := h.1; omega) (.int .i64 x.promise)).sc (b := w.heap.size + 1) (o := 10) (fun h => by have := h.1; omega) (.slice Q x.promises.length q)).sc (b := w.heap.size + 1) (o := 11) (fun h => by have := h.1; omega) (.slice M x.labels.length m)), IntO.keeps O3.out (((((((((((((Keeps.refl _ V3).sc (b := w.heap.size + 1) (o := 0) (fun h => by have := h.1; omega) (.int .i64 x.kind)).sc (b := w.heap.size + 1) (o := 1) (fun h => by have := h.1; omega) (.int .i64 x.value.kind)).sc (b := w.heap.size + 1) (o := 2) (fun h => by have := h.1; omega) (.slice K1 x.value.items.length k1)).sc (b := w.heap.size + 1) (o := 3) (fun h => by have := h.1; omega) (.slice K2 x.value.parts.length k2)).sc (b := w.heap.size + 1) (o := 4) (fun h => by have := h.1; omega) (.slice K3 x.value.names.length k3)).sc (b := w.heap.size + 1) (o := 5) (fun h => by have := h.1; omega) (.slice K4 x.value.cls.length k4)).sc (b := w.heap.size + 1) (o := 6) (fun h => by have := h.1; omega) (.slice K5 x.value.levels.length k5)).sc (b := w.heap.size + 1) (o := 7) (fun h => by have := h.1; omega) (.int .i64 x.value.code)).sc (b := w.heap.size + 1) (o := 8) (fun h => by have := h.1; omega) (.int .i64 x.value.env)).sc (b := w.heap.size + 1) (o := 9) (fun h => by have := h.1; omega) (.int .i64 x.promise)).sc (b := w.heap.size + 1) (o := 10) (fun h => by have := h.1; omega) (.slice Q x.promises.length q)).sc (b := w.heap.size + 1) (o := 11) (fun h => by have := h.1; omega) (.slice M x.labels.length m)), TxtO.keeps O4.out (((((((((((((Keeps.refl _ V3).sc (b := w.heap.size + 1) (o := 0) (fun h => by have := h.1; omega) (.int .i64 x.kind)).sc (b := w.heap.size + 1) (o := 1) (fun h => by have := h.1; omega) (.int .i64 x.value.kind)).sc (b := w.heap.size + 1) (o := 2) (fun h => by have := h.1; omega) (.slice K1 x.value.items.length k1)).sc (b := w.heap.size + 1) (o := 3) (fun h => by have := h.1; omega) (.slice K2 x.value.parts.length k2)).sc (b := w.heap.size + 1) (o := 4) (fun h => by have := h.1; omega) (.slice K3 x.value.names.length k3)).sc (b := w.heap.size + 1) (o := 5) (fun h => by have := h.1; omega) (.slice K4 x.value.cls.length k4)).sc (b := w.heap.size + 1) (o := 6) (fun h => by have := h.1; omega) (.slice K5 x.value.levels.length k5)).sc (b := w.heap.size + 1) (o := 7) (fun h => by have := h.1; omega) (.int .i64 x.value.code)).sc (b := w.heap.size + 1) (o := 8) (fun h => by have := h.1; omega) (.int .i64 x.value.env)).sc (b := w.heap.size + 1) (o := 9) (fun h => by have := h.1; omega) (.int .i64 x.promise)).sc (b := w.heap.size + 1) (o := 10) (fun h => by have := h.1; omega) (.slice Q x.promises.length q)).sc (b := w.heap.size + 1) (o := 11) (fun h => by have := h.1; omega) (.slice M x.labels.length m))⟩) ?_
  clear BX1 BY1 HB O1 O3 O4 y0 r0 z0 y1 r1 z1 y2 r2 z2 y3 r3 z3 y4 r4 z4 y5 r5 z5 y6 r6 z6 y7 r7 z7 y8 r8 z8 y9 r9 z9 y10 r10 z10 y11 r11 z11
  rintro U ⟨hbl, hbv, hvs4, o1, o3, o4⟩
  have HV := Lib.hid (show SlotO (Rng w.heap.size U.heap.size) U [.int .i64 x.kind, .int .i64 x.value.kind, .slice K1 x.value.items.length k1, .slice K2 x.value.parts.length k2, .slice K3 x.value.names.length k3, .slice K4 x.value.cls.length k4, .slice K5 x.value.levels.length k5, .int .i64 x.value.code, .int .i64 x.value.env, .int .i64 x.promise, .slice Q x.promises.length q, .slice M x.labels.length m] x from ⟨K1, k1, K2, k2, K3, k3, K4, k4, K5, k5, Q, q, M, m, fun b => if b < w1.heap.size then 1 else if b < w3.heap.size then 3 else 4, rfl, i0,
    VecO.mono o1 (fun b h => ⟨⟨by have := h.1; omega, by have := h.2; omega⟩, if_pos h.2⟩), i1,
    IntO.mono o3 (fun b h => ⟨⟨by have := h.1; omega, by have := h.2; omega⟩, by dsimp only; rw [if_neg (by have := h.1; omega), if_pos h.2]⟩),
    TxtO.mono o4 (fun b h => ⟨⟨by have := h.1; omega, by have := h.2; omega⟩, by dsimp only; rw [if_neg (by have := h.1; omega), if_neg (by have := h.1; omega)]⟩)⟩)
  have HBV := Lib.hid hbv
  have g0 := hbl.cell 0 _ rfl
  have g1 := hbl.cell 1 _ rfl
  have g2 := hbl.cell 2 _ rfl
  have g3 := hbl.cell 3 _ rfl
  have g4 := hbl.cell 4 _ rfl
  have g5 := hbl.cell 5 _ rfl
  have g6 := hbl.cell 6 _ rfl
  have g7 := hbl.cell 7 _ rfl
  have g8 := hbl.cell 8 _ rfl
  have g9 := hbl.cell 9 _ rfl
  have g10 := hbl.cell 10 _ rfl
  have g11 := hbl.cell 11 _ rfl
  clear o1 o3 o4 hbv hbl
  refine bodyPost_ret (v := .agg #[.int .i64 x.kind, .int .i64 x.value.kind, .slice K1 x.value.items.length k1, .slice K2 x.value.parts.length k2, .slice K3 x.value.names.length k3, .slice K4 x.value.cls.length k4, .slice K5 x.value.levels.length k5, .int .i64 x.value.code, .int .i64 x.value.env, .int .i64 x.promise, .slice Q x.promises.length q, .slice M x.labels.length m]) (by simp [results, Tryz.results140, go_sem, g0, g1, g2, g3, g4, g5, g6, g7, g8, g9, g10, g11]) rfl ?_
  exact ⟨_, rfl, HV.out, HBV.out⟩
end Go.Proofs.YtejieacdfjpfnaaGreat
namespace Go.Proofs.YtejieacdfjpfnaaGreat
open Go.ChangeShapes Go.WideShapes Go.ChangeAt Go.RowKit Go.Deep
set_option linter.unusedVariables false
set_option maxRecDepth 100000
set_option maxRecDepth 100000

def zE : List Value := [.bool false, .int .i64 0, .slice none 0 0, .slice none 0 0]
theorem SlotO.shape12 {S : Nat → Prop} {w : World} {cs : List Value} {d : SlotD} (h : SlotO S w cs d) : ∃ (E1 : Option Addr) (m1 : Nat) (E2 : Option Addr) (m2 : Nat) (E3 : Option Addr) (m3 : Nat) (E4 : Option Addr) (m4 : Nat) (E5 : Option Addr) (m5 : Nat) (EP : Option Addr) (ep : Nat) (EL : Option Addr) (el : Nat), cs = [.int .i64 d.kind, .int .i64 d.value.kind, .slice E1 d.value.items.length m1, .slice E2 d.value.parts.length m2, .slice E3 d.value.names.length m3, .slice E4 d.value.cls.length m4, .slice E5 d.value.levels.length m5, .int .i64 d.value.code, .int .i64 d.value.env, .int .i64 d.promise, .slice EP d.promises.length ep, .slice EL d.labels.length el] := by
  obtain ⟨A11, c11, A12, c12, A13, c13, A14, c14, A15, c15, A3, c3, A4, c4, f, rfl, _⟩ := h
  exact ⟨_, _, _, _, _, _, _, _, _, _, _, _, _, _, rfl⟩

def cpeR (B : Nat) (d : EnvD) (N : Option Addr) (nn : Nat) : Nat → (Nat → Nat → Prop) → (Nat → Value) → World → Prop
  | 0, T, vs, W => vs 0 = .pointer (some ⟨B, 0, none⟩)
  | 1, T, vs, W => vs 1 = .bool d.used
  | 2, T, vs, W => vs 2 = .pointer (some ⟨B, 1, none⟩)
  | 3, T, vs, W => vs 3 = .int .i64 d.parent
  | 4, T, vs, W => vs 4 = .pointer (some ⟨B, 2, none⟩)
  | 5, T, vs, W => vs 5 = .slice N d.names.length nn
  | 6, T, vs, W => ∃ A c, vs 6 = .slice A d.names.length c ∧ TxtO (T 2) W (.slice A d.names.length c) d.names
  | 7, T, vs, W => vs 7 = .agg #[vs 1, vs 3, vs 6, .slice none 0 0]
  | 8, T, vs, W => ∃ g, vs 8 = .pointer (some ⟨g, 0, none⟩) ∧ T 9 g ∧ Blk W g 71 zE
  | _, _, _, _ => True
def cpeD : Nat → List Nat
  | 7 => [7, 1, 3, 6]
  | i => [i]
def cpeL : Nat → Nat
  | 6 => 2
  | 8 => 9
  | _ => 0
theorem cpeK (B : Nat) (d : EnvD) (N : Option Addr) (nn : Nat) (i : Nat) (T T' : Nat → Nat → Prop) (vs vs' : Nat → Value) (W W' : World) (hv : ∀ j ∈ cpeD i, vs' j = vs j) (hT : ∀ l b, T l b → T' l b) (hb : Below W.heap.size W W') (h : cpeR B d N nn i T vs W) : cpeR B d N nn i T' vs' W' :=
  match i, hv, h with
  | 0, hv, h => (hv 0 (List.mem_cons_self)).trans h
  | 1, hv, h => (hv 1 (List.mem_cons_self)).trans h
  | 2, hv, h => (hv 2 (List.mem_cons_self)).trans h
  | 3, hv, h => (hv 3 (List.mem_cons_self)).trans h
  | 4, hv, h => (hv 4 (List.mem_cons_self)).trans h
  | 5, hv, h => (hv 5 (List.mem_cons_self)).trans h
  | 6, hv, h => by
    obtain ⟨A, c, e, o⟩ := h
    exact ⟨A, c, (hv 6 List.mem_cons_self).trans e, (TxtO.keeps o (Keeps.of_below _ hb)).mono (hT 2)⟩
  | 7, hv, h => by
    show vs' 7 = _
    rw [hv 7 (by decide), hv 1 (by decide), hv 3 (by decide), hv 6 (by decide)]
    exact h
  | 8, hv, h => by
    obtain ⟨g, e, t, b⟩ := h
    exact ⟨g, (hv 8 List.mem_cons_self).trans e, hT 9 g t, b.below hb⟩
  | _ + 9, _, _ => trivial

/-- the boxes of copyEnv in the midst -/
structure CE (w : World) (d : EnvD) (C0 : List Value) (g lo Bp : Nat) (f : Nat → Nat) (P : Option Addr) (p : Nat) (u : Value) (W : World) : Prop where
  x : Blk W w.heap.size 71 C0
  r : Blk W (w.heap.size + 1) 71 zE
  o : Blk W g 71 [.bool d.used, .int .i64 d.parent, .slice P d.names.length p, u]
  o2 : TxtO (fun b => Rng lo Bp b ∧ f b = 2) W (.slice P d.names.length p) d.names
  fg : f g = 9
  gin : lo ≤ g ∧ g < Bp
  low : w.heap.size + 1 < lo
  top : Bp ≤ W.heap.size
  below : Below w.heap.size w W
theorem CE.stepB {w : World} {d : EnvD} {C0 : List Value} {g lo Bp : Nat} {f : Nat → Nat} {P : Option Addr} {p : Nat} {u : Value} {W W' : World} (h : CE w d C0 g lo Bp f P p u W) (hb : Below Bp W W') : CE w d C0 g lo Bp f P p u W' :=
  have h1 := h.low
  have h2 := h.gin
  ⟨(hb.block _ (by omega)).trans h.x, (hb.block _ (by omega)).trans h.r, (hb.block _ h.gin.2).trans h.o, TxtO.keeps h.o2 ⟨hb.size, fun b _ hs => hb.block b hs.1.2⟩, h.fg, h.gin, h.low, Nat.le_trans h.top hb.size, h.below.trans (hb.mono (by omega))⟩
theorem CE.step {w : World} {d : EnvD} {C0 : List Value} {g lo Bp : Nat} {f : Nat → Nat} {P : Option Addr} {p : Nat} {u : Value} {W W' : World} (h : CE w d C0 g lo Bp f P p u W) (hb : Below W.heap.size W W') : CE w d C0 g lo Bp f P p u W' := h.stepB (hb.mono h.top)
theorem CE.put {w : World} {d : EnvD} {C0 : List Value} {g lo Bp : Nat} {f : Nat → Nat} {P : Option Addr} {p : Nat} {u u' : Value} {W : World} (h : CE w d C0 g lo Bp f P p u W) : CE w d C0 g lo Bp f P p u' (W.setCell ⟨g, 3, none⟩ u') :=
  have h1 := h.low
  have h2 := h.gin
  ⟨h.x.far ⟨g, 3, none⟩ (by simp; omega) u', h.r.far ⟨g, 3, none⟩ (by simp; omega) u', h.o.set_ 3 u', TxtO.keeps h.o2 ((Keeps.refl _ _).sc (fun hs => by have := hs.2.symm.trans h.fg; omega) _), h.fg, h.gin, h.low, by simpa [World.setCell] using h.top, below_sc h.below (by omega) u'⟩

set_option maxHeartbeats 8000000 in
theorem impl_copyEnv (d : EnvD) (cs : List Value) (w : World) (h : EnvR w cs d) (hz : szEnv d ≤ 600000000000) :
    Calls Tryz.prog 115 #[.agg cs.toArray] w (RetEnv w d) := by
  obtain ⟨N, nn, M, mm, rfl, i0, l1, l2, H2, HM⟩ := h.open_
  clear h
  have s1 := szL_length d.names
  have s2 := szS_length szSlot d.slots
  unfold szEnv at hz
  obtain ⟨_, _, g2, hl2, hm2, HC⟩ := SlR.open_ HM.out
  injection g2 with g11 g12 g13
  subst g11 g13
  clear g12
  unfold maxLen at hm2
  obtain ⟨G, g0, HG, BX, BY⟩ := good2 w 71 [.bool d.used, .int .i64 d.parent, .slice N d.names.length nn, .slice M d.slots.length mm] 71 zE
  obtain ⟨x0, x1, x2, x3⟩ := pk_f4 BX
  go_enter Tryz.func115, Tryz.ntmps115
  go_upto_region 1 with fail
  refine gen_w g0 ?_
  clear g0
  intro W0 g0
  have hW0 := (HG.out.below g0).size
  have hlt0 := (BY.out W0 g0).lt
  refine wp_region_free (by kernel_rfl) (by kernel_rfl) (Ok G) cpeL cpeD (cpeR w.heap.size d N nn) (fun vs => ⟨#[.agg #[.bool d.used, .int .i64 d.parent, .slice N d.names.length nn, .slice M d.slots.length mm], .pointer (some ⟨w.heap.size, 0, none⟩), .pointer (some ⟨w.heap.size + 1, 0, none⟩), vs 8, undef, undef, vs 0, vs 1, vs 2, vs 3, vs 4, vs 5, vs 6, vs 7, undef, undef, undef, undef, undef, undef, undef, undef, undef, undef, undef, undef, undef, undef, undef, undef], []⟩) (fun vs => by kernel_rfl) (by kernel_rfl) (HG.out.drew g0) (cpeK w.heap.size d N nn) ?_ ?_
  · intro i o ho hi vs T W hS hd
    have h9 : i + 1 < 10 := by simpa using hi
    have hi' : i = 0 ∨ i = 1 ∨ i = 2 ∨ i = 3 ∨ i = 4 ∨ i = 5 ∨ i = 6 ∨ i = 7 ∨ i = 8 := by omega
    clear h9 hi
    rcases hi' with rfl | rfl | rfl | rfl | rfl | rfl | rfl | rfl | rfl
    · obtain rfl := Option.some.inj ho
      exact oper_ok (by go_simp) ⟨_, rfl, Below.refl _ _, hS, upd_same _ _ _⟩
    · obtain rfl := Option.some.inj ho
      have d : vs 0 = _ := hd ⟨0, .data⟩ (by simp) rfl
      exact oper_ok (by go_simp) ⟨_, rfl, Below.refl _ _, hS, upd_same _ _ _⟩
    · obtain rfl := Option.some.inj ho
      exact oper_ok (by go_simp) ⟨_, rfl, Below.refl _ _, hS, upd_same _ _ _⟩
    · obtain rfl := Option.some.inj ho
      have d : vs 2 = _ := hd ⟨2, .data⟩ (by simp) rfl
      exact oper_ok (by go_simp) ⟨_, rfl, Below.refl _ _, hS, upd_same _ _ _⟩
    · obtain rfl := Option.some.inj ho
      exact oper_ok (by go_simp) ⟨_, rfl, Below.refl _ _, hS, upd_same _ _ _⟩
    · obtain rfl := Option.some.inj ho
      have d : vs 4 = _ := hd ⟨4, .data⟩ (by simp) rfl
      exact oper_ok (by go_simp) ⟨_, rfl, Below.refl _ _, hS, upd_same _ _ _⟩
    · obtain rfl := Option.some.inj ho
      have dx : vs 5 = _ := hd ⟨5, .data⟩ (by simp) rfl
      refine oper_call (by go_simp) (impl_copyTexts d.names _ W (SlR.below H2.out (HG.out.below hS) (fun _ _ h => h)) (by omega)) ?_
      rintro e W' ⟨A, c, rfl, ho, hb⟩
      exact ⟨_, rfl, _, rfl, hb, HG.out.step hS hb, A, c, upd_same _ _ _, TxtO.mono ho fun b hb => .inr ⟨rfl, hb.1, hb.2⟩⟩
    · obtain rfl := Option.some.inj ho
      have e1 : vs 1 = _ := hd ⟨1, .data⟩ (by simp) rfl
      have e3 : vs 3 = _ := hd ⟨3, .data⟩ (by simp) rfl
      obtain ⟨_, _, e6, _⟩ := (show cpeR w.heap.size d N nn 6 T vs W from hd ⟨6, .data⟩ (by simp) rfl)
      refine oper_ok (by go_simp; rfl) ⟨_, rfl, Below.refl _ _, hS, ?_⟩
      show upd vs 7 _ 7 = .agg #[upd vs 7 _ 1, upd vs 7 _ 3, upd vs 7 _ 6, .slice none 0 0]
      simp [upd, e1, e3, e6]
    · obtain rfl := Option.some.inj ho
      exact oper_ok (by go_simp; first | exact ⟨rfl, rfl⟩ | rfl) ⟨_, rfl, (Below.refl _ _).alloc (Nat.le_refl _) _, HG.out.alloc hS _, W.heap.size, upd_same _ _ _, .inr ⟨rfl, Nat.le_refl _, by simp⟩, Blk.new W _ zE⟩
  · intro o ho vs T W hS hsz hT1 hT2 hR
    obtain ⟨od, oo, ot, opos, oa, og⟩ := o
    obtain ⟨rfl, rfl⟩ : od = none ∧ oo = .store 71 (.tmp 3) (.tmp 13) := ⟨(congrArg Oper.dst (Option.some.inj ho)).symm, (congrArg Oper.op (Option.some.inj ho)).symm⟩
    clear ho
    have e1 : vs 1 = _ := hR 1 (by decide)
    have e3 : vs 3 = _ := hR 3 (by decide)
    obtain ⟨P, p, e6, o2⟩ := hR 6 (by decide)
    have e7 : vs 7 = .agg #[vs 1, vs 3, vs 6, .slice none 0 0] := hR 7 (by decide)
    obtain ⟨g, e8, tg, bg⟩ := hR 8 (by decide)
    rw [e1, e3, e6] at e7
    obtain ⟨f, hf⟩ := labels T hT2
    have hg1 := hT1 9 g tg
    have hTr : ∀ l b, T l b → Rng W0.heap.size W.heap.size b ∧ f b = l := fun l b hb => ⟨hT1 l b hb, hf l b hb⟩
    have FG := Lib.hid (hf 9 g tg)
    have O2 := Lib.hid (TxtO.mono o2 (hTr 2))
    have HB := Lib.hid (HG.out.below hS)
    have BXW := Lib.hid (BX.out W hS)
    have BYW := Lib.hid (BY.out W hS)
    have BG := Lib.hid bg
    have hWs := HB.out.size
    clear o2 hR hT1 hT2 hTr hf tg bg
    have y0 := BG.out.cell 0 _ rfl
    have z0 := BG.out.frozen 0
    have y1 := BG.out.cell 1 _ rfl
    have z1 := BG.out.frozen 1
    have y2 := BG.out.cell 2 _ rfl
    have z2 := BG.out.frozen 2
    have y3 := BG.out.cell 3 _ rfl
    have z3 := BG.out.frozen 3
    refine oper_gen (fun K hK => ?_)
    go_wp2_with fail
    refine hK.out _ _ ?_
    clear hK y0 y1 y2 y3 z0 z1 z2 z3
    refine gen_w (G := CE w d [.bool d.used, .int .i64 d.parent, .slice N d.names.length nn, .slice M d.slots.length mm] g W0.heap.size W.heap.size f P p (.slice none 0 0))
      (show Ok _ _ from ⟨((((BXW.out.far ⟨g, 0, none⟩ (by simp <;> omega) (.bool d.used)).far ⟨g, 1, none⟩ (by simp <;> omega) (.int .i64 d.parent)).far ⟨g, 2, none⟩ (by simp <;> omega) (.slice P d.names.length p)).far ⟨g, 3, none⟩ (by simp <;> omega) (.slice none 0 0)), ((((BYW.out.far ⟨g, 0, none⟩ (by simp <;> omega) (.bool d.used)).far ⟨g, 1, none⟩ (by simp <;> omega) (.int .i64 d.parent)).far ⟨g, 2, none⟩ (by simp <;> omega) (.slice P d.names.length p)).far ⟨g, 3, none⟩ (by simp <;> omega) (.slice none 0 0)), ((((BG.out.set_ 0 (.bool d.used)).set_ 1 (.int .i64 d.parent)).set_ 2 (.slice P d.names.length p)).set_ 3 (.slice none 0 0)), TxtO.keeps O2.out (((((Keeps.refl _ W).sc (b := g) (o := 0) (fun h => by have := h.2; have := FG.out; omega) (.bool d.used)).sc (b := g) (o := 1) (fun h => by have := h.2; have := FG.out; omega) (.int .i64 d.parent)).sc (b := g) (o := 2) (fun h => by have := h.2; have := FG.out; omega) (.slice P d.names.length p)).sc (b := g) (o := 3) (fun h => by have := h.2; have := FG.out; omega) (.slice none 0 0)), FG.out, hg1, hlt0, by simp [World.setCell], (below_sc (b := g) (o := 3) (below_sc (b := g) (o := 2) (below_sc (b := g) (o := 1) (below_sc (b := g) (o := 0) HB.out (by omega) (.bool d.used)) (by omega) (.int .i64 d.parent)) (by omega) (.slice P d.names.length p)) (by omega) (.slice none 0 0))⟩) ?_
    clear O2 HB BYW BXW BG FG hS e1 e3 e6
    intro V hv
    simp only [e7, e8]
    clear e7 e8
    have HV := Lib.hid hv
    have y3 := hv.x.cell 3 _ rfl
    clear hv
    go_wp2_with fail
    clear g0
    go_loopw [17] (fun i wr => ∃ (j : Nat) (U : Option Addr) (q : Nat), j ≤ d.slots.length ∧ i = .int .i64 j ∧ Hid (CE w d [.bool d.used, .int .i64 d.parent, .slice N d.names.length nn, .slice M d.slots.length mm] g W0.heap.size W.heap.size f P p (.slice U j q) wr) ∧ Hid (SlotsO (Rng W.heap.size wr.heap.size) wr (.slice U j q) (d.slots.take j))) (fun i _ => d.slots.length - (intOf i).toNat)
    case atStart => exact ⟨0, none, 0, Nat.zero_le _, rfl, HV.out, SlO.nil_ _ _ _ _ _⟩
    case round =>
      clear HV y3
      obtain ⟨j, U, q, hj, rfl, HT, HO⟩ := hrel
      have htop := HT.out.top
      have hgin := HT.out.gin
      have hlow := HT.out.low
      by_cases hlt : j < d.slots.length
      · obtain ⟨b, off, cs, rfl, hbl, _, hat, hr⟩ := HC.out j hlt
        have hpz : szSlot d.slots[j] ≤ 900000000000 := by have := szS_at szSlot d.slots j hlt; omega
        have HRK := Lib.hid hr
        obtain ⟨K1, l1, K2, l2, K3, l3, K4, l4, K5, l5, KP, kp, KL, kl, hcs, _⟩ := hr.open_
        rw [hcs] at HRK hat
        clear hcs hr
        obtain ⟨G, g0, HG⟩ := good0 w
        replace g0 := HG.out.step g0 HT.out.below
        obtain ⟨e0, e1, e2, e3, e4, e5, e6, e7, e8, e9, e10, e11⟩ := pk_e12 HG hbl hat
        clear hat
        go_upto_region 5 with fail
        obtain ⟨T, hTdef⟩ : ∃ T : World → Prop, T = fun W' => CE w d [.bool d.used, .int .i64 d.parent, .slice N d.names.length nn, .slice (some ⟨b, off, none⟩) d.slots.length mm] g W0.heap.size W.heap.size f P p (.slice U j q) W' ∧ Blk W' wr.heap.size 96 [.int .i64 d.slots[j].kind, .int .i64 d.slots[j].value.kind, .slice K1 d.slots[j].value.items.length l1, .slice K2 d.slots[j].value.parts.length l2, .slice K3 d.slots[j].value.names.length l3, .slice K4 d.slots[j].value.cls.length l4, .slice K5 d.slots[j].value.levels.length l5, .int .i64 d.slots[j].value.code, .int .i64 d.slots[j].value.env, .int .i64 d.slots[j].promise, .slice KP d.slots[j].promises.length kp, .slice KL d.slots[j].labels.length kl] := ⟨_, rfl⟩
        have HTI := Lib.hid (fun (W' : World) (h : Ok T W') => show CE w d [.bool d.used, .int .i64 d.parent, .slice N d.names.length nn, .slice (some ⟨b, off, none⟩) d.slots.length mm] g W0.heap.size W.heap.size f P p (.slice U j q) W' ∧ Blk W' wr.heap.size 96 [.int .i64 d.slots[j].kind, .int .i64 d.slots[j].value.kind, .slice K1 d.slots[j].value.items.length l1, .slice K2 d.slots[j].value.parts.length l2, .slice K3 d.slots[j].value.names.length l3, .slice K4 d.slots[j].value.cls.length l4, .slice K5 d.slots[j].value.levels.length l5, .int .i64 d.slots[j].value.code, .int .i64 d.slots[j].value.env, .int .i64 d.slots[j].promise, .slice KP d.slots[j].promises.length kp, .slice KL d.slots[j].labels.length kl] from by rw [hTdef] at h; exact h)
        have HTO := Lib.hid (fun (W' : World) (h1 : CE w d [.bool d.used, .int .i64 d.parent, .slice N d.names.length nn, .slice (some ⟨b, off, none⟩) d.slots.length mm] g W0.heap.size W.heap.size f P p (.slice U j q) W') (h2 : Blk W' wr.heap.size 96 [.int .i64 d.slots[j].kind, .int .i64 d.slots[j].value.kind, .slice K1 d.slots[j].value.items.length l1, .slice K2 d.slots[j].value.parts.length l2, .slice K3 d.slots[j].value.names.length l3, .slice K4 d.slots[j].value.cls.length l4, .slice K5 d.slots[j].value.levels.length l5, .int .i64 d.slots[j].value.code, .int .i64 d.slots[j].value.env, .int .i64 d.slots[j].promise, .slice KP d.slots[j].promises.length kp, .slice KL d.slots[j].labels.length kl]) => show Ok T W' from by rw [hTdef]; exact ⟨h1, h2⟩)
        clear hTdef
        have hbA := (Below.refl wr.heap.size wr).alloc (Nat.le_refl _) (.cells [.int .i64 d.slots[j].kind, .int .i64 d.slots[j].value.kind, .slice K1 d.slots[j].value.items.length l1, .slice K2 d.slots[j].value.parts.length l2, .slice K3 d.slots[j].value.names.length l3, .slice K4 d.slots[j].value.cls.length l4, .slice K5 d.slots[j].value.levels.length l5, .int .i64 d.slots[j].value.code, .int .i64 d.slots[j].value.env, .int .i64 d.slots[j].promise, .slice KP d.slots[j].promises.length kp, .slice KL d.slots[j].labels.length kl].toArray 96)
        refine gen_w (G := fun W' => Ok T W' ∧ Below wr.heap.size wr W') (show Ok _ _ from ⟨HTO.out _ (HT.out.step hbA) (Blk.new wr _ _), hbA⟩) ?_
        clear g0 hbA e0 e2 e4 e5 e9 e10 e11
        rintro W1 ⟨g1, hbW1⟩
        have HBW1 := Lib.hid hbW1
        have hzW1 := hbW1.size
        clear hbW1
        have t3 := fun W' (h : Ok T W') => (HTI.out _ h).1.o.cell 3 _ rfl
        have q0 := fun W' (h : Ok T W') => (HTI.out _ h).2.cell 0 _ rfl
        have q1 := fun W' (h : Ok T W') => (HTI.out _ h).2.cell 1 _ rfl
        have q2 := fun W' (h : Ok T W') => (HTI.out _ h).2.cell 2 _ rfl
        have q3 := fun W' (h : Ok T W') => (HTI.out _ h).2.cell 3 _ rfl
        have q4 := fun W' (h : Ok T W') => (HTI.out _ h).2.cell 4 _ rfl
        have q5 := fun W' (h : Ok T W') => (HTI.out _ h).2.cell 5 _ rfl
        have q6 := fun W' (h : Ok T W') => (HTI.out _ h).2.cell 6 _ rfl
        have q7 := fun W' (h : Ok T W') => (HTI.out _ h).2.cell 7 _ rfl
        have q8 := fun W' (h : Ok T W') => (HTI.out _ h).2.cell 8 _ rfl
        have q9 := fun W' (h : Ok T W') => (HTI.out _ h).2.cell 9 _ rfl
        have q10 := fun W' (h : Ok T W') => (HTI.out _ h).2.cell 10 _ rfl
        have q11 := fun W' (h : Ok T W') => (HTI.out _ h).2.cell 11 _ rfl
        have stepT := Lib.hid (fun (W2 W3 : World) (h : Ok T W2) (hb : Below W2.heap.size W2 W3) => HTO.out _ ((HTI.out _ h).1.step hb) ((HTI.out _ h).2.below hb))
        replace g1 := stepT.out _ _ g1 (Below.drew (Below.refl _ _))
        refine wp_region_phase (T := Ok T) (by kernel_rfl) [(2, 0), (1, 1), (1, 2), (0, 3), (0, 4), (0, 5), (2, 6), (0, 7)] [7] (by kernel_rfl) g1 ?_
        repeat ((first | (refine dynL_take rfl rfl (fun W g => by go_simp; rfl) ?_) | (refine dynL_pure rfl rfl (fun W => by go_simp; rfl) ?_)); go_simp)
        refine dynL_act rfl rfl (fun K hK => ?_)
        go_wp2_with fail
        refine Calls.mono (impl_copySlot d.slots[j] _ _ (HRK.out.below (HTI.out _ g1).1.below) hpz) ?_
        rintro e w2 ⟨cs2, rfl, ho, hb⟩
        have hlen2 := ho.length
        obtain ⟨E1, m1, E2, m2, E3, m3, E4, m4, E5, m5, EP, ep, EL, el, rfl⟩ := ho.shape12
        have hzd : W1.heap.size ≤ w2.heap.size := hb.size
        have g2 := stepT.out _ _ g1 hb
        obtain ⟨xs, hown, hpush⟩ := SlO.push (fun h k => h.keeps k) (fun h k => h.mono k) (show SlO (Rng W.heap.size wr.heap.size) wr 96 12 SlotO _ (d.slots.take j) from HO.out) htop ((Below.drew HBW1.out).trans (hb.mono hzW1)) d.slots[j] _ hlen2 (ho.mono fun b hb => ⟨by have h8 : W1.heap.size ≤ b := hb.1; omega, hb.2⟩)
        rw [List.length_take, Nat.min_eq_left hj] at hown hpush
        have HPU := Lib.hid hpush
        have hown2 := Lib.hid hown
        have hUb : ∀ k, (Value.slice U j q).ownBlock = some k → k < wr.heap.size := by
          obtain ⟨_, _, _, _, h8⟩ := HO.out
          exact fun k hk => (h8.2 k hk).1.2
        have HUB := Lib.hid hUb
        clear hpush hown ho hb hUb
        simp only []
        refine hK.out _ _ g2 ?_
        clear hK
        repeat ((first | (refine dynL_take rfl rfl (fun W g => by go_simp; rfl) ?_) | (refine dynL_pure rfl rfl (fun W => by go_simp; rfl) ?_)); go_simp)
        refine dynL_act rfl rfl (fun K hK => ?_)
        go_wp2_with fail
        refine hK.out _ _ (stepT.out _ _ g2 ((Below.refl _ _).alloc (Nat.le_refl _) _)) ?_
        clear hK
        refine dynL_act rfl rfl (fun K hK => ?_)
        refine wp_push (.tmp 22) (.tmp 25) 69 rfl W.heap.size 96 (.agg #[.int .i64 0, .int .i64 0, .slice none 0 0, .slice none 0 0, .slice none 0 0, .slice none 0 0, .slice none 0 0, .int .i64 0, .int .i64 0, .int .i64 0, .slice none 0 0, .slice none 0 0]) 12 208 Tryz.underlying69 info_Slot rfl (by decide) w2 (.slice U j q) j xs #[.int .i64 d.slots[j].kind, .int .i64 d.slots[j].value.kind, .slice E1 d.slots[j].value.items.length m1, .slice E2 d.slots[j].value.parts.length m2, .slice E3 d.slots[j].value.names.length m3, .slice E4 d.slots[j].value.cls.length m4, .slice E5 d.slots[j].value.levels.length m5, .int .i64 d.slots[j].value.code, .int .i64 d.slots[j].value.env, .int .i64 d.slots[j].promise, .slice EP d.slots[j].promises.length ep, .slice EL d.slots[j].labels.length el] rfl rfl hown2.out rfl (by simp [Value.oneCell']) (by omega) (by omega) (by have := (HTI.out _ g2).1.top; omega) ?_
        intro v1 w3 ho3 hg3 hbk3 hb3
        have g3 : Ok T w3 := HTO.out _ ((HTI.out _ g2).1.stepB hb3) ((hg3.block _ (HTI.out _ g2).2.lt (fun e9 => absurd (HUB.out _ e9.symm) (Nat.lt_irrefl _))).trans (HTI.out _ g2).2)
        obtain ⟨A9, c9, rfl⟩ := own_shapeC ho3
        have hp3 := HPU.out _ _ ho3 hg3 hbk3
        rw [← List.take_succ_eq_append_getElem hlt] at hp3
        have HP3 := Lib.hid (show SlotsO _ _ _ _ from hp3)
        clear hown2 HPU ho3 hg3 hbk3 hb3 hp3 HUB
        refine hK.out _ _ g3 ?_
        clear hK
        go_simp
        repeat ((first | (refine dynL_take rfl rfl (fun W g => by go_simp; rfl) ?_) | (refine dynL_pure rfl rfl (fun W => by go_simp; rfl) ?_)); go_simp)
        have y3 := (HTI.out _ g3).1.o.cell 3 _ rfl
        have f3 := (HTI.out _ g3).1.o.frozen 3
        refine dynL_last rfl (by simp) rfl (fun K hK => ?_)
        go_wp2_with fail
        refine hK.out _ _ ?_
        clear hK
        refine dynL_done ?_
        go_wp2_with fail
        exact ⟨⟨j + 1, A9, c9, by omega, by go_num, (HTI.out _ g3).1.put, SlotsO.mono (SlotsO.keeps HP3.out ((Keeps.refl _ _).sc (fun h => by have := h.1; omega) _)) (fun b h => ⟨h.1, by simpa [World.setCell] using h.2⟩)⟩, by simp [intOf]; omega⟩
      · obtain rfl : j = d.slots.length := by omega
        rw [List.take_length] at HO
        have HB := Lib.hid HT.out.below
        have y0 := HT.out.o.cell 0 _ rfl
        have r0 := HT.out.r.cell 0 _ rfl
        have z0 := HT.out.r.frozen 0
        have y1 := HT.out.o.cell 1 _ rfl
        have r1 := HT.out.r.cell 1 _ rfl
        have z1 := HT.out.r.frozen 1
        have y2 := HT.out.o.cell 2 _ rfl
        have r2 := HT.out.r.cell 2 _ rfl
        have z2 := HT.out.r.frozen 2
        have y3 := HT.out.o.cell 3 _ rfl
        have r3 := HT.out.r.cell 3 _ rfl
        have z3 := HT.out.r.frozen 3
        go_wp2_with fail
        refine gen_w (G := fun V => Blk V (w.heap.size + 1) 71 [.bool d.used, .int .i64 d.parent, .slice P d.names.length p, .slice U d.slots.length q] ∧ Below w.heap.size w V ∧ wr.heap.size ≤ V.heap.size ∧ TxtO (fun b => Rng W0.heap.size W.heap.size b ∧ f b = 2) V (.slice P d.names.length p) d.names ∧ SlotsO (Rng W.heap.size wr.heap.size) V (.slice U d.slots.length q) d.slots)
          (show Ok _ _ from ⟨((((HT.out.r.set_ 0 (.bool d.used)).set_ 1 (.int .i64 d.parent)).set_ 2 (.slice P d.names.length p)).set_ 3 (.slice U d.slots.length q)), (below_sc (b := w.heap.size + 1) (o := 3) (below_sc (b := w.heap.size + 1) (o := 2) (below_sc (b := w.heap.size + 1) (o := 1) (below_sc (b := w.heap.size + 1) (o := 0) HB.out (by omega) (.bool d.used)) (by omega) (.int .i64 d.parent)) (by omega) (.slice P d.names.length p)) (by omega) (.slice U d.slots.length q)), by simp [World.setCell], TxtO.keeps HT.out.o2 (((((Keeps.refl _ wr).sc (b := w.heap.size + 1) (o := 0) (fun h => by have := h.1.1; omega) (.bool d.used)).sc (b := w.heap.size + 1) (o := 1) (fun h => by have := h.1.1; omega) (.int .i64 d.parent)).sc (b := w.heap.size + 1) (o := 2) (fun h => by have := h.1.1; omega) (.slice P d.names.length p)).sc (b := w.heap.size + 1) (o := 3) (fun h => by have := h.1.1; omega) (.slice U d.slots.length q)), SlotsO.keeps HO.out (((((Keeps.refl _ wr).sc (b := w.heap.size + 1) (o := 0) (fun h => by have := h.1; omega) (.bool d.used)).sc (b := w.heap.size + 1) (o := 1) (fun h => by have := h.1; omega) (.int .i64 d.parent)).sc (b := w.heap.size + 1) (o := 2) (fun h => by have := h.1; omega) (.slice P d.names.length p)).sc (b := w.heap.size + 1) (o := 3) (fun h => by have := h.1; omega) (.slice U d.slots.length q))⟩) ?_
        clear HB y0 y1 y2 y3 r0 r1 r2 r3 z0 z1 z2 z3
        rintro V ⟨hbl, hbv, hwv, o2, o3⟩
        have HV := Lib.hid (show EnvO (Rng w.heap.size V.heap.size) V [.bool d.used, .int .i64 d.parent, .slice P d.names.length p, .slice U d.slots.length q] d from ⟨P, p, U, q, fun b => if b < W.heap.size then f b else 3, rfl, trivial, i0,
          TxtO.mono o2 (fun b h => ⟨⟨by have := h.1.1; omega, by have := h.1.2; omega⟩, by dsimp only; rw [if_pos h.1.2]; exact h.2⟩),
          SlotsO.mono o3 (fun b h => ⟨⟨by have := h.1; omega, by have := h.2; omega⟩, if_neg (by have := h.1; omega)⟩)⟩)
        have HBV := Lib.hid hbv
        have y0 := hbl.cell 0 _ rfl
        have y1 := hbl.cell 1 _ rfl
        have y2 := hbl.cell 2 _ rfl
        have y3 := hbl.cell 3 _ rfl
        clear o2 o3 hbv hbl
        refine bodyPost_ret (v := .agg #[.bool d.used, .int .i64 d.parent, .slice P d.names.length p, .slice U d.slots.length q]) (by simp [results, Tryz.results115, go_sem, y0, y1, y2, y3]) rfl ?_
        exact ⟨_, rfl, HV.out, HBV.out⟩
end Go.Proofs.YtejieacdfjpfnaaGreat
namespace Go.Proofs.YtejieacdfjpfnaaGreat
open Go.ChangeShapes Go.WideShapes Go.ChangeAt Go.RowKit Go.Deep
set_option linter.unusedVariables false
set_option maxRecDepth 100000
set_option maxRecDepth 100000

def zSt : List Value := [.slice none 0 0, .slice none 0 0]
theorem EnvO.shape4 {S : Nat → Prop} {w : World} {cs : List Value} {d : EnvD} (h : EnvO S w cs d) : ∃ (E2 : Option Addr) (m2 : Nat) (E3 : Option Addr) (m3 : Nat), cs = [.bool d.used, .int .i64 d.parent, .slice E2 d.names.length m2, .slice E3 d.slots.length m3] := by
  obtain ⟨A2, c2, A3, c3, f, rfl, _⟩ := h
  exact ⟨_, _, _, _, rfl⟩
/-- the boxes of copyStore in the midst -/
structure CS3 (w : World) (C0 : List Value) (Bp : Nat) (u0 u1 : Value) (W : World) : Prop where
  x : Blk W w.heap.size 33 C0
  r : Blk W (w.heap.size + 1) 33 zSt
  o : Blk W (w.heap.size + 1 + 1) 33 [u0, u1]
  low : w.heap.size + 1 + 1 < Bp
  top : Bp ≤ W.heap.size
  below : Below w.heap.size w W
theorem CS3.stepB {w : World} {C0 : List Value} {Bp : Nat} {u0 u1 : Value} {W W' : World} (h : CS3 w C0 Bp u0 u1 W) (hb : Below Bp W W') : CS3 w C0 Bp u0 u1 W' :=
  have h1 := h.low
  ⟨(hb.block _ (by omega)).trans h.x, (hb.block _ (by omega)).trans h.r, (hb.block _ h.low).trans h.o, h.low, Nat.le_trans h.top hb.size, h.below.trans (hb.mono (by omega))⟩
theorem CS3.step {w : World} {C0 : List Value} {Bp : Nat} {u0 u1 : Value} {W W' : World} (h : CS3 w C0 Bp u0 u1 W) (hb : Below W.heap.size W W') : CS3 w C0 Bp u0 u1 W' := h.stepB (hb.mono h.top)
theorem CS3.put0 {w : World} {C0 : List Value} {Bp : Nat} {u0 u1 u : Value} {W : World} (h : CS3 w C0 Bp u0 u1 W) : CS3 w C0 Bp u u1 (W.setCell ⟨w.heap.size + 1 + 1, 0, none⟩ u) :=
  ⟨h.x.far ⟨w.heap.size + 1 + 1, 0, none⟩ (by simp <;> omega) u, h.r.far ⟨w.heap.size + 1 + 1, 0, none⟩ (by simp <;> omega) u, h.o.set_ 0 u, h.low, by simpa [World.setCell] using h.top, below_sc h.below (by omega) u⟩
theorem CS3.put1 {w : World} {C0 : List Value} {Bp : Nat} {u0 u1 u : Value} {W : World} (h : CS3 w C0 Bp u0 u1 W) : CS3 w C0 Bp u0 u (W.setCell ⟨w.heap.size + 1 + 1, 1, none⟩ u) :=
  ⟨h.x.far ⟨w.heap.size + 1 + 1, 1, none⟩ (by simp <;> omega) u, h.r.far ⟨w.heap.size + 1 + 1, 1, none⟩ (by simp <;> omega) u, h.o.set_ 1 u, h.low, by simpa [World.setCell] using h.top, below_sc h.below (by omega) u⟩
theorem CS3.up {w : World} {C0 : List Value} {Bp B2 : Nat} {u0 u1 : Value} {W : World} (h : CS3 w C0 Bp u0 u1 W) (h1 : Bp ≤ B2) (h2 : B2 ≤ W.heap.size) : CS3 w C0 B2 u0 u1 W := ⟨h.x, h.r, h.o, Nat.lt_of_lt_of_le h.low h1, h2, h.below⟩

set_option maxHeartbeats 8000000 in
theorem impl_copyStore (s : StoreD) (cs : List Value) (w : World) (h : StoreR w cs s) (hz : szStore s ≤ 600000000000) :
    Calls Tryz.prog 72 #[.agg cs.toArray] w (RetStore w s) := by
  obtain ⟨E0, e0, E1, e1, rfl, l0, l1, HE, HP⟩ := h.open_
  clear h
  have s1 := szS_length szEnv s.envs
  have s2 := szS_length szPromise s.promises
  unfold szStore at hz
  obtain ⟨G, g0, HG, BX, BY, BZ⟩ := good3 w 33 [.slice E0 s.envs.length e0, .slice E1 s.promises.length e1] 33 zSt 33 zSt
  go_enter Tryz.func72, Tryz.ntmps72
  go_upto_region 2 with fail
  refine gen_w g0 ?_
  clear g0
  intro W0 g0
  have HC0 := Lib.hid (show CS3 w [.slice E0 s.envs.length e0, .slice E1 s.promises.length e1] W0.heap.size (.slice none 0 0) (.slice none 0 0) W0 from ⟨BX.out _ g0, BY.out _ g0, BZ.out _ g0, (BZ.out _ g0).lt, Nat.le_refl _, HG.out.below g0⟩)
  have y0 := HC0.out.x.cell 0 _ rfl
  clear g0
  go_wp2_with fail
  clear y0
  go_loopw [11] (fun i wr => ∃ (j : Nat) (U : Option Addr) (q : Nat), j ≤ s.envs.length ∧ i = .int .i64 j ∧ Hid (CS3 w [.slice E0 s.envs.length e0, .slice E1 s.promises.length e1] W0.heap.size (.slice U j q) (.slice none 0 0) wr) ∧ Hid (EnvsO (Rng W0.heap.size wr.heap.size) wr (.slice U j q) (s.envs.take j))) (fun i _ => s.envs.length - (intOf i).toNat)
  case atStart => exact ⟨0, none, 0, Nat.zero_le _, rfl, HC0.out, SlO.nil_ _ _ _ _ _⟩
  case round =>
    clear HC0 HG BX BY BZ G
    obtain ⟨j, U, q, hj, rfl, HT, HO⟩ := hrel
    have htop := HT.out.top
    have hlow := HT.out.low
    by_cases hlt : j < s.envs.length
    · obtain ⟨b, off, cs, rfl, hbl, _, hat, hr⟩ := HE.out j hlt
      have hpz : szEnv s.envs[j] ≤ 600000000000 := by have := szS_at szEnv s.envs j hlt; omega
      have HRK := Lib.hid hr
      obtain ⟨K2, l2, K3, l3, hcs, _⟩ := hr.open_
      rw [hcs] at HRK hat
      clear hcs hr
      obtain ⟨G, g0, HG⟩ := good0 w
      replace g0 := HG.out.step g0 HT.out.below
      obtain ⟨ee0, ee1, ee2, ee3⟩ := pk_e4 HG hbl hat
      clear hat
      go_upto_region 5 with fail
      obtain ⟨T, hTdef⟩ : ∃ T : World → Prop, T = fun W' => CS3 w [.slice (some ⟨b, off, none⟩) s.envs.length e0, .slice E1 s.promises.length e1] W0.heap.size (.slice U j q) (.slice none 0 0) W' ∧ Blk W' wr.heap.size 71 [.bool s.envs[j].used, .int .i64 s.envs[j].parent, .slice K2 s.envs[j].names.length l2, .slice K3 s.envs[j].slots.length l3] := ⟨_, rfl⟩
      have HTI := Lib.hid (fun (W' : World) (h : Ok T W') => show CS3 w [.slice (some ⟨b, off, none⟩) s.envs.length e0, .slice E1 s.promises.length e1] W0.heap.size (.slice U j q) (.slice none 0 0) W' ∧ Blk W' wr.heap.size 71 [.bool s.envs[j].used, .int .i64 s.envs[j].parent, .slice K2 s.envs[j].names.length l2, .slice K3 s.envs[j].slots.length l3] from by rw [hTdef] at h; exact h)
      have HTO := Lib.hid (fun (W' : World) (h1 : CS3 w [.slice (some ⟨b, off, none⟩) s.envs.length e0, .slice E1 s.promises.length e1] W0.heap.size (.slice U j q) (.slice none 0 0) W') (h2 : Blk W' wr.heap.size 71 [.bool s.envs[j].used, .int .i64 s.envs[j].parent, .slice K2 s.envs[j].names.length l2, .slice K3 s.envs[j].slots.length l3]) => show Ok T W' from by rw [hTdef]; exact ⟨h1, h2⟩)
      clear hTdef
      have hbA := (Below.refl wr.heap.size wr).alloc (Nat.le_refl _) (.cells [.bool s.envs[j].used, .int .i64 s.envs[j].parent, .slice K2 s.envs[j].names.length l2, .slice K3 s.envs[j].slots.length l3].toArray 71)
      refine gen_w (G := fun W' => Ok T W' ∧ Below wr.heap.size wr W') (show Ok _ _ from ⟨HTO.out _ (HT.out.step hbA) (Blk.new wr _ _), hbA⟩) ?_
      clear g0 hbA
      rintro W1 ⟨g1, hbW1⟩
      have HBW1 := Lib.hid hbW1
      have hzW1 := hbW1.size
      clear hbW1
      have t0 := fun W' (h : Ok T W') => (HTI.out _ h).1.o.cell 0 _ rfl
      have q0 := fun W' (h : Ok T W') => (HTI.out _ h).2.cell 0 _ rfl
      have q1 := fun W' (h : Ok T W') => (HTI.out _ h).2.cell 1 _ rfl
      have q2 := fun W' (h : Ok T W') => (HTI.out _ h).2.cell 2 _ rfl
      have q3 := fun W' (h : Ok T W') => (HTI.out _ h).2.cell 3 _ rfl
      have stepT := Lib.hid (fun (W2 W3 : World) (h : Ok T W2) (hb : Below W2.heap.size W2 W3) => HTO.out _ ((HTI.out _ h).1.step hb) ((HTI.out _ h).2.below hb))
      replace g1 := stepT.out _ _ g1 (Below.drew (Below.refl _ _))
      refine wp_region_phase (T := Ok T) (by kernel_rfl) [(2, 0), (1, 1), (1, 2), (0, 3), (0, 4), (0, 5), (2, 6), (0, 7)] [7] (by kernel_rfl) g1 ?_
      repeat ((first | (refine dynL_take rfl rfl (fun W g => by go_simp; rfl) ?_) | (refine dynL_pure rfl rfl (fun W => by go_simp; rfl) ?_)); go_simp)
      refine dynL_act rfl rfl (fun K hK => ?_)
      go_wp2_with fail
      refine Calls.mono (impl_copyEnv s.envs[j] _ _ (HRK.out.below (HTI.out _ g1).1.below) hpz) ?_
      rintro e w2 ⟨cs2, rfl, ho, hb⟩
      have hlen2 := ho.length
      obtain ⟨E2, m2, E3, m3, rfl⟩ := ho.shape4
      have hzd : W1.heap.size ≤ w2.heap.size := hb.size
      have g2 := stepT.out _ _ g1 hb
      obtain ⟨xs, hown, hpush⟩ := SlO.push (fun h k => h.keeps k) (fun h k => h.mono k) (show SlO (Rng W0.heap.size wr.heap.size) wr 71 4 EnvO _ (s.envs.take j) from HO.out) htop ((Below.drew HBW1.out).trans (hb.mono hzW1)) s.envs[j] _ hlen2 (ho.mono fun b hb => ⟨by have h8 : W1.heap.size ≤ b := hb.1; omega, hb.2⟩)
      rw [List.length_take, Nat.min_eq_left hj] at hown hpush
      have HPU := Lib.hid hpush
      have hown2 := Lib.hid hown
      have hUb : ∀ k, (Value.slice U j q).ownBlock = some k → k < wr.heap.size := by
        obtain ⟨_, _, _, _, h8⟩ := HO.out
        exact fun k hk => (h8.2 k hk).1.2
      have HUB := Lib.hid hUb
      clear hpush hown ho hb hUb
      simp only []
      refine hK.out _ _ g2 ?_
      clear hK
      repeat ((first | (refine dynL_take rfl rfl (fun W g => by go_simp; rfl) ?_) | (refine dynL_pure rfl rfl (fun W => by go_simp; rfl) ?_)); go_simp)
      refine dynL_act rfl rfl (fun K hK => ?_)
      go_wp2_with fail
      refine hK.out _ _ (stepT.out _ _ g2 ((Below.refl _ _).alloc (Nat.le_refl _) _)) ?_
      clear hK
      refine dynL_act rfl rfl (fun K hK => ?_)
      refine wp_push (.tmp 16) (.tmp 19) 30 rfl W0.heap.size 71 (.agg #[.bool false, .int .i64 0, .slice none 0 0, .slice none 0 0]) 4 64 Tryz.underlying30 info_Env rfl (by decide) w2 (.slice U j q) j xs #[.bool s.envs[j].used, .int .i64 s.envs[j].parent, .slice E2 s.envs[j].names.length m2, .slice E3 s.envs[j].slots.length m3] rfl rfl hown2.out rfl (by simp [Value.oneCell']) (by omega) (by omega) (by have := (HTI.out _ g2).1.top; omega) ?_
      intro v1 w3 ho3 hg3 hbk3 hb3
      have g3 : Ok T w3 := HTO.out _ ((HTI.out _ g2).1.stepB hb3) ((hg3.block _ (HTI.out _ g2).2.lt (fun e9 => absurd (HUB.out _ e9.symm) (Nat.lt_irrefl _))).trans (HTI.out _ g2).2)
      obtain ⟨A9, c9, rfl⟩ := own_shapeC ho3
      have hp3 := HPU.out _ _ ho3 hg3 hbk3
      rw [← List.take_succ_eq_append_getElem hlt] at hp3
      have HP3 := Lib.hid (show EnvsO _ _ _ _ from hp3)
      clear hown2 HPU ho3 hg3 hbk3 hb3 hp3 HUB
      refine hK.out _ _ g3 ?_
      clear hK
      go_simp
      repeat ((first | (refine dynL_take rfl rfl (fun W g => by go_simp; rfl) ?_) | (refine dynL_pure rfl rfl (fun W => by go_simp; rfl) ?_)); go_simp)
      have y0 := (HTI.out _ g3).1.o.cell 0 _ rfl
      have f0 := (HTI.out _ g3).1.o.frozen 0
      refine dynL_last rfl (by simp) rfl (fun K hK => ?_)
      go_wp2_with fail
      refine hK.out _ _ ?_
      clear hK
      refine dynL_done ?_
      go_wp2_with fail
      exact ⟨⟨j + 1, A9, c9, by omega, by go_num, (HTI.out _ g3).1.put0, EnvsO.mono (EnvsO.keeps HP3.out ((Keeps.refl _ _).sc (fun h => by have := h.1; omega) _)) (fun b h => ⟨h.1, by simpa [World.setCell] using h.2⟩)⟩, by simp [intOf]; omega⟩
    · obtain rfl : j = s.envs.length := by omega
      obtain ⟨wA, hwA⟩ : ∃ x : World, x = wr := ⟨_, rfl⟩
      subst hwA
      rw [List.take_length] at HO
      have y1 := HT.out.x.cell 1 _ rfl
      clear hlt hj
      go_wp2_with fail
      clear y1
      go_loopw [26] (fun i wr => ∃ (j : Nat) (U2 : Option Addr) (q2 : Nat), j ≤ s.promises.length ∧ i = .int .i64 j ∧ Hid (CS3 w [.slice E0 s.envs.length e0, .slice E1 s.promises.length e1] wA.heap.size (.slice U s.envs.length q) (.slice U2 j q2) wr) ∧ Hid (EnvsO (Rng W0.heap.size wA.heap.size) wr (.slice U s.envs.length q) s.envs) ∧ Hid (PromisesO (Rng wA.heap.size wr.heap.size) wr (.slice U2 j q2) (s.promises.take j))) (fun i _ => s.promises.length - (intOf i).toNat)
      case atStart => exact ⟨0, none, 0, Nat.zero_le _, rfl, HT.out.up htop (Nat.le_refl _), HO.out, SlO.nil_ _ _ _ _ _⟩
      case round =>
        clear HT HO
        obtain ⟨j, U2, q2, hj, rfl, HT, HEO, HO⟩ := hrel
        have htop2 := HT.out.top
        have hlow2 := HT.out.low
        by_cases hlt : j < s.promises.length
        · obtain ⟨b, off, cs, rfl, hbl, _, hat, hr⟩ := HP.out j hlt
          have hpz : szVector s.promises[j].value ≤ 900000000000 := by have h1 : szPromise s.promises[j] ≤ _ := szS_at szPromise s.promises j hlt; have h2 : szVector s.promises[j].value = szPromise s.promises[j] := rfl; omega
          obtain ⟨A1, c1, A2, c2, A3, c3, A4, c4, A5, c5, rfl, j0, j1, j2, HVX⟩ := hr.open_
          clear hr
          obtain ⟨G, g0, HG⟩ := good0 w
          replace g0 := HG.out.step g0 HT.out.below
          obtain ⟨ee0, ee1, ee2, ee3, ee4, ee5, ee6, ee7, ee8, ee9, ee10, ee11⟩ := pk_e12 HG hbl hat
          clear hat
          go_upto_region 10 with fail
          have hbA := (Below.refl wr.heap.size wr).alloc (Nat.le_refl _) (.cells [.bool s.promises[j].used, .int .i64 s.promises[j].code, .int .i64 s.promises[j].env, .int .i64 s.promises[j].state, .int .i64 s.promises[j].value.kind, .slice A1 s.promises[j].value.items.length c1, .slice A2 s.promises[j].value.parts.length c2, .slice A3 s.promises[j].value.names.length c3, .slice A4 s.promises[j].value.cls.length c4, .slice A5 s.promises[j].value.levels.length c5, .int .i64 s.promises[j].value.code, .int .i64 s.promises[j].value.env].toArray 74)
          refine gen_w (G := fun W' => CS3 w [.slice E0 s.envs.length e0, .slice (some ⟨b, off, none⟩) s.promises.length e1] wA.heap.size (.slice U s.envs.length q) (.slice U2 j q2) W' ∧ Blk W' wr.heap.size 74 [.bool s.promises[j].used, .int .i64 s.promises[j].code, .int .i64 s.promises[j].env, .int .i64 s.promises[j].state, .int .i64 s.promises[j].value.kind, .slice A1 s.promises[j].value.items.length c1, .slice A2 s.promises[j].value.parts.length c2, .slice A3 s.promises[j].value.names.length c3, .slice A4 s.promises[j].value.cls.length c4, .slice A5 s.promises[j].value.levels.length c5, .int .i64 s.promises[j].value.code, .int .i64 s.promises[j].value.env] ∧ Below wr.heap.size wr W') (show Ok _ _ from ⟨HT.out.step hbA, Blk.new wr _ _, hbA⟩) ?_
          clear g0 hbA HG
          rintro W1 ⟨cs1, bp1, hbW1⟩
          have HCS1 := Lib.hid cs1
          have HBP1 := Lib.hid bp1
          have HBW1 := Lib.hid hbW1
          have hzW1 := hbW1.size
          clear cs1 bp1 hbW1
          have q4 := HBP1.out.cell 4 _ rfl
          have q5 := HBP1.out.cell 5 _ rfl
          have q6 := HBP1.out.cell 6 _ rfl
          have q7 := HBP1.out.cell 7 _ rfl
          have q8 := HBP1.out.cell 8 _ rfl
          have q9 := HBP1.out.cell 9 _ rfl
          have q10 := HBP1.out.cell 10 _ rfl
          have q11 := HBP1.out.cell 11 _ rfl
          go_wp2_with fail
          refine Calls.mono (impl_copyVec s.promises[j].value _ _ (HVX.out.below HCS1.out.below) hpz) ?_
          rintro e w2 ⟨cs2, rfl, ho, hb⟩
          obtain ⟨F1, n1, F2, n2, F3, n3, F4, n4, F5, n5, rfl⟩ := ho.shape
          have HCS2 := Lib.hid (HCS1.out.step hb)
          have HBP2 := Lib.hid (HBP1.out.below hb)
          have HBW2 := Lib.hid (HBW1.out.trans (hb.mono hzW1))
          have hz2 := hb.size
          have HO2 := Lib.hid ho
          have hpbl := HBP1.out.lt
          clear hb ho q4 q5 q6 q7 q8 q9 q10 q11 HBP1 HCS1 HBW1
          have y4 := HBP2.out.cell 4 _ rfl
          have z4 := HBP2.out.frozen 4
          have y5 := HBP2.out.cell 5 _ rfl
          have z5 := HBP2.out.frozen 5
          have y6 := HBP2.out.cell 6 _ rfl
          have z6 := HBP2.out.frozen 6
          have y7 := HBP2.out.cell 7 _ rfl
          have z7 := HBP2.out.frozen 7
          have y8 := HBP2.out.cell 8 _ rfl
          have z8 := HBP2.out.frozen 8
          have y9 := HBP2.out.cell 9 _ rfl
          have z9 := HBP2.out.frozen 9
          have y10 := HBP2.out.cell 10 _ rfl
          have z10 := HBP2.out.frozen 10
          have y11 := HBP2.out.cell 11 _ rfl
          have z11 := HBP2.out.frozen 11
          go_upto_region 11 with fail
          refine gen_w (G := fun V => CS3 w [.slice E0 s.envs.length e0, .slice (some ⟨b, off, none⟩) s.promises.length e1] wA.heap.size (.slice U s.envs.length q) (.slice U2 j q2) V ∧ Blk V wr.heap.size 74 [.bool s.promises[j].used, .int .i64 s.promises[j].code, .int .i64 s.promises[j].env, .int .i64 s.promises[j].state, .int .i64 s.promises[j].value.kind, .slice F1 s.promises[j].value.items.length n1, .slice F2 s.promises[j].value.parts.length n2, .slice F3 s.promises[j].value.names.length n3, .slice F4 s.promises[j].value.cls.length n4, .slice F5 s.promises[j].value.levels.length n5, .int .i64 s.promises[j].value.code, .int .i64 s.promises[j].value.env] ∧ Below wr.heap.size wr V ∧ VecO (Rng W1.heap.size w2.heap.size) V [.int .i64 s.promises[j].value.kind, .slice F1 s.promises[j].value.items.length n1, .slice F2 s.promises[j].value.parts.length n2, .slice F3 s.promises[j].value.names.length n3, .slice F4 s.promises[j].value.cls.length n4, .slice F5 s.promises[j].value.levels.length n5, .int .i64 s.promises[j].value.code, .int .i64 s.promises[j].value.env] s.promises[j].value ∧ w2.heap.size ≤ V.heap.size)
            (show Ok _ _ from ⟨HCS2.out.stepB (below_sc (b := wr.heap.size) (o := 11) (below_sc (b := wr.heap.size) (o := 10) (below_sc (b := wr.heap.size) (o := 9) (below_sc (b := wr.heap.size) (o := 8) (below_sc (b := wr.heap.size) (o := 7) (below_sc (b := wr.heap.size) (o := 6) (below_sc (b := wr.heap.size) (o := 5) (below_sc (b := wr.heap.size) (o := 4) (Below.refl wA.heap.size w2) (by omega) (.int .i64 s.promises[j].value.kind)) (by omega) (.slice F1 s.promises[j].value.items.length n1)) (by omega) (.slice F2 s.promises[j].value.parts.length n2)) (by omega) (.slice F3 s.promises[j].value.names.length n3)) (by omega) (.slice F4 s.promises[j].value.cls.length n4)) (by omega) (.slice F5 s.promises[j].value.levels.length n5)) (by omega) (.int .i64 s.promises[j].value.code)) (by omega) (.int .i64 s.promises[j].value.env)), ((((((((HBP2.out.set_ 4 (.int .i64 s.promises[j].value.kind)).set_ 5 (.slice F1 s.promises[j].value.items.length n1)).set_ 6 (.slice F2 s.promises[j].value.parts.length n2)).set_ 7 (.slice F3 s.promises[j].value.names.length n3)).set_ 8 (.slice F4 s.promises[j].value.cls.length n4)).set_ 9 (.slice F5 s.promises[j].value.levels.length n5)).set_ 10 (.int .i64 s.promises[j].value.code)).set_ 11 (.int .i64 s.promises[j].value.env)), (below_sc (b := wr.heap.size) (o := 11) (below_sc (b := wr.heap.size) (o := 10) (below_sc (b := wr.heap.size) (o := 9) (below_sc (b := wr.heap.size) (o := 8) (below_sc (b := wr.heap.size) (o := 7) (below_sc (b := wr.heap.size) (o := 6) (below_sc (b := wr.heap.size) (o := 5) (below_sc (b := wr.heap.size) (o := 4) HBW2.out (by omega) (.int .i64 s.promises[j].value.kind)) (by omega) (.slice F1 s.promises[j].value.items.length n1)) (by omega) (.slice F2 s.promises[j].value.parts.length n2)) (by omega) (.slice F3 s.promises[j].value.names.length n3)) (by omega) (.slice F4 s.promises[j].value.cls.length n4)) (by omega) (.slice F5 s.promises[j].value.levels.length n5)) (by omega) (.int .i64 s.promises[j].value.code)) (by omega) (.int .i64 s.promises[j].value.env)), VecO.keeps HO2.out (((((((((Keeps.refl _ w2).sc (b := wr.heap.size) (o := 4) (fun h => by have := h.1; omega) (.int .i64 s.promises[j].value.kind)).sc (b := wr.heap.size) (o := 5) (fun h => by have := h.1; omega) (.slice F1 s.promises[j].value.items.length n1)).sc (b := wr.heap.size) (o := 6) (fun h => by have := h.1; omega) (.slice F2 s.promises[j].value.parts.length n2)).sc (b := wr.heap.size) (o := 7) (fun h => by have := h.1; omega) (.slice F3 s.promises[j].value.names.length n3)).sc (b := wr.heap.size) (o := 8) (fun h => by have := h.1; omega) (.slice F4 s.promises[j].value.cls.length n4)).sc (b := wr.heap.size) (o := 9) (fun h => by have := h.1; omega) (.slice F5 s.promises[j].value.levels.length n5)).sc (b := wr.heap.size) (o := 10) (fun h => by have := h.1; omega) (.int .i64 s.promises[j].value.code)).sc (b := wr.heap.size) (o := 11) (fun h => by have := h.1; omega) (.int .i64 s.promises[j].value.env)), by simp [World.setCell]⟩) ?_
          clear y4 y5 y6 y7 y8 y9 y10 y11 z4 z5 z6 z7 z8 z9 z10 z11 HCS2 HBP2 HBW2 HO2
          rintro V ⟨csv, bpv, hbV, ov, hvs⟩
          obtain ⟨xs, hown, hpush⟩ := SlO.push (fun h k => h.keeps k) (fun h k => h.mono k) (show SlO (Rng wA.heap.size wr.heap.size) wr 74 12 PromiseO _ (s.promises.take j) from HO.out) htop2 hbV s.promises[j] [.bool s.promises[j].used, .int .i64 s.promises[j].code, .int .i64 s.promises[j].env, .int .i64 s.promises[j].state, .int .i64 s.promises[j].value.kind, .slice F1 s.promises[j].value.items.length n1, .slice F2 s.promises[j].value.parts.length n2, .slice F3 s.promises[j].value.names.length n3, .slice F4 s.promises[j].value.cls.length n4, .slice F5 s.promises[j].value.levels.length n5, .int .i64 s.promises[j].value.code, .int .i64 s.promises[j].value.env] rfl ⟨F1, n1, F2, n2, F3, n3, F4, n4, F5, n5, fun _ => 4, rfl, trivial, j0, j1, j2, VecO.mono ov (fun b h => ⟨⟨by have := h.1; omega, by have := h.2; omega⟩, rfl⟩)⟩
          rw [List.length_take, Nat.min_eq_left hj] at hown hpush
          have HPU := Lib.hid hpush
          have HCV := Lib.hid csv
          have HBV := Lib.hid hbV
          have hsz := csv.top
          have y1 := csv.o.cell 1 _ rfl
          have p0 := bpv.cell 0 _ rfl
          have p1 := bpv.cell 1 _ rfl
          have p2 := bpv.cell 2 _ rfl
          have p3 := bpv.cell 3 _ rfl
          have p4 := bpv.cell 4 _ rfl
          have p5 := bpv.cell 5 _ rfl
          have p6 := bpv.cell 6 _ rfl
          have p7 := bpv.cell 7 _ rfl
          have p8 := bpv.cell 8 _ rfl
          have p9 := bpv.cell 9 _ rfl
          have p10 := bpv.cell 10 _ rfl
          have p11 := bpv.cell 11 _ rfl
          clear hpush csv bpv hbV ov
          go_wp2_with (at_builtin; go_must (refine wpList_push rfl _ _ 31 rfl wA.heap.size 74 (.agg #[.bool false, .int .i64 0, .int .i64 0, .int .i64 0, .int .i64 0, .slice none 0 0, .slice none 0 0, .slice none 0 0, .slice none 0 0, .slice none 0 0, .int .i64 0, .int .i64 0]) 12 176 Tryz.underlying31 info_Promise rfl (by decide) _ _ _ _ _ rfl rfl (by exact hown) rfl (by simp [Value.oneCell']) (by omega) (by omega) hsz ?_); intro v1 w3 ho3 hg3 hbk3 hb3; obtain ⟨A9, c9, rfl⟩ := own_shapeC ho3; clear y1; have CV3 := Lib.hid (HCV.out.stepB hb3); have y1 := CV3.out.o.cell 1 _ rfl; have f1 := CV3.out.o.frozen 1)
          go_roundw
          case rel =>
            have hp3 := HPU.out _ _ ho3 hg3 hbk3
            rw [← List.take_succ_eq_append_getElem hlt] at hp3
            refine ⟨j + 1, A9, c9, by omega, by go_num, CV3.out.put1, ?_, ?_⟩
            · exact EnvsO.keeps (EnvsO.keeps (EnvsO.keeps HEO.out (Keeps.of_below _ HBV.out)) ⟨hb3.size, fun b _ hs => hb3.block b hs.2⟩) ((Keeps.refl _ _).sc (fun h => by have := h.1; omega) _)
            · exact PromisesO.mono (PromisesO.keeps (show PromisesO _ _ _ _ from hp3) ((Keeps.refl _ _).sc (fun h => by have := h.1; omega) _)) (fun b h => ⟨h.1, by simpa [World.setCell] using h.2⟩)
          case measure => simp [intOf]; omega
        · obtain rfl : j = s.promises.length := by omega
          rw [List.take_length] at HO
          have HB := Lib.hid HT.out.below
          have y0 := HT.out.o.cell 0 _ rfl
          have y1 := HT.out.o.cell 1 _ rfl
          have r0 := HT.out.r.cell 0 _ rfl
          have r1 := HT.out.r.cell 1 _ rfl
          have z0 := HT.out.r.frozen 0
          have z1 := HT.out.r.frozen 1
          go_wp2_with fail
          refine gen_w (G := fun V => Blk V (w.heap.size + 1) 33 [.slice U s.envs.length q, .slice U2 s.promises.length q2] ∧ Below w.heap.size w V ∧ wr.heap.size ≤ V.heap.size ∧ EnvsO (Rng W0.heap.size wA.heap.size) V (.slice U s.envs.length q) s.envs ∧ PromisesO (Rng wA.heap.size wr.heap.size) V (.slice U2 s.promises.length q2) s.promises)
            (show Ok _ _ from ⟨((HT.out.r.set_ 0 (.slice U s.envs.length q)).set_ 1 (.slice U2 s.promises.length q2)), (below_sc (b := w.heap.size + 1) (o := 1) (below_sc (b := w.heap.size + 1) (o := 0) HB.out (by omega) (.slice U s.envs.length q)) (by omega) (.slice U2 s.promises.length q2)), by simp [World.setCell], EnvsO.keeps HEO.out (((Keeps.refl _ wr).sc (b := w.heap.size + 1) (o := 0) (fun h => by have := h.1; omega) (.slice U s.envs.length q)).sc (b := w.heap.size + 1) (o := 1) (fun h => by have := h.1; omega) (.slice U2 s.promises.length q2)), PromisesO.keeps HO.out (((Keeps.refl _ wr).sc (b := w.heap.size + 1) (o := 0) (fun h => by have := h.1; omega) (.slice U s.envs.length q)).sc (b := w.heap.size + 1) (o := 1) (fun h => by have := h.1; omega) (.slice U2 s.promises.length q2))⟩) ?_
          clear HB y0 y1 r0 r1 z0 z1
          rintro V ⟨hbl, hbv, hwv, o2, o3⟩
          have HV := Lib.hid (show StoreO (Rng w.heap.size V.heap.size) V [.slice U s.envs.length q, .slice U2 s.promises.length q2] s from ⟨U, q, U2, q2, fun b => if b < wA.heap.size then 0 else 1, rfl,
            EnvsO.mono o2 (fun b h => ⟨⟨by have := h.1; omega, by have := h.2; omega⟩, if_pos h.2⟩),
            PromisesO.mono o3 (fun b h => ⟨⟨by have := h.1; omega, by have := h.2; omega⟩, if_neg (by have := h.1; omega)⟩)⟩)
          have HBV := Lib.hid hbv
          have y0 := hbl.cell 0 _ rfl
          have y1 := hbl.cell 1 _ rfl
          clear o2 o3 hbv hbl
          refine bodyPost_ret (v := .agg #[.slice U s.envs.length q, .slice U2 s.promises.length q2]) (by simp [results, Tryz.results72, go_sem, y0, y1]) rfl ?_
          exact ⟨_, rfl, HV.out, HBV.out⟩
end Go.Proofs.YtejieacdfjpfnaaGreat
namespace Go.Proofs.YtejieacdfjpfnaaGreat
open Go.ChangeShapes Go.WideShapes Go.ChangeAt Go.RowKit Go.Deep
set_option linter.unusedVariables false
set_option maxRecDepth 100000
set_option maxRecDepth 100000

def l26R (B b off n e0 j : Nat) (d : EnvD) (N : Option Addr) (nn : Nat) : Nat → (Nat → Nat → Prop) → (Nat → Value) → World → Prop
  | 0, T, vs, W => vs 0 = .pointer (some ⟨B, 0, none⟩)
  | 1, T, vs, W => vs 1 = .slice (some ⟨b, off, none⟩) n e0
  | 2, T, vs, W => vs 2 = .int .i64 j
  | 3, T, vs, W => vs 3 = .pointer (some ⟨b, off + j * 4, none⟩)
  | 4, T, vs, W => vs 4 = .pointer (some ⟨b, off + j * 4, none⟩)
  | 5, T, vs, W => vs 5 = .bool d.used
  | 6, T, vs, W => vs 6 = .pointer (some ⟨B, 0, none⟩)
  | 7, T, vs, W => vs 7 = .slice (some ⟨b, off, none⟩) n e0
  | 8, T, vs, W => vs 8 = .int .i64 j
  | 9, T, vs, W => vs 9 = .pointer (some ⟨b, off + j * 4, none⟩)
  | 10, T, vs, W => vs 10 = .pointer (some ⟨b, off + j * 4 + 1, none⟩)
  | 11, T, vs, W => vs 11 = .int .i64 d.parent
  | 12, T, vs, W => EmptyO (T 1) W 9 1 (vs 12)
  | 13, T, vs, W => vs 13 = .pointer (some ⟨B, 0, none⟩)
  | 14, T, vs, W => vs 14 = .slice (some ⟨b, off, none⟩) n e0
  | 15, T, vs, W => vs 15 = .int .i64 j
  | 16, T, vs, W => vs 16 = .pointer (some ⟨b, off + j * 4, none⟩)
  | 17, T, vs, W => vs 17 = .pointer (some ⟨b, off + j * 4 + 2, none⟩)
  | 18, T, vs, W => vs 18 = .slice N d.names.length nn
  | 19, T, vs, W => ∃ A c, vs 19 = .slice A d.names.length c ∧ TxtO (T 1) W (.slice A d.names.length c) d.names
  | 20, T, vs, W => vs 20 = .agg #[vs 5, vs 11, vs 19, .slice none 0 0]
  | 21, T, vs, W => ∃ g, vs 21 = .pointer (some ⟨g, 0, none⟩) ∧ T 9 g ∧ Blk W g 71 zE
  | _, _, _, _ => True
def l26D : Nat → List Nat
  | 20 => [20, 5, 11, 19]
  | i => [i]
def l26L : Nat → Nat
  | 12 => 1
  | 19 => 1
  | 21 => 9
  | _ => 0
theorem l26K (B b off n e0 j : Nat) (d : EnvD) (N : Option Addr) (nn : Nat) (i : Nat) (T T' : Nat → Nat → Prop) (vs vs' : Nat → Value) (W W' : World) (hv : ∀ j ∈ l26D i, vs' j = vs j) (hT : ∀ l b, T l b → T' l b) (hb : Below W.heap.size W W') (h : l26R B b off n e0 j d N nn i T vs W) : l26R B b off n e0 j d N nn i T' vs' W' :=
  match i, hv, h with
  | 0, hv, h => (hv 0 (List.mem_cons_self)).trans h
  | 1, hv, h => (hv 1 (List.mem_cons_self)).trans h
  | 2, hv, h => (hv 2 (List.mem_cons_self)).trans h
  | 3, hv, h => (hv 3 (List.mem_cons_self)).trans h
  | 4, hv, h => (hv 4 (List.mem_cons_self)).trans h
  | 5, hv, h => (hv 5 (List.mem_cons_self)).trans h
  | 6, hv, h => (hv 6 (List.mem_cons_self)).trans h
  | 7, hv, h => (hv 7 (List.mem_cons_self)).trans h
  | 8, hv, h => (hv 8 (List.mem_cons_self)).trans h
  | 9, hv, h => (hv 9 (List.mem_cons_self)).trans h
  | 10, hv, h => (hv 10 (List.mem_cons_self)).trans h
  | 11, hv, h => (hv 11 (List.mem_cons_self)).trans h
  | 12, hv, h => by
    show EmptyO (T' 1) W' _ _ (vs' 12)
    rw [hv 12 List.mem_cons_self]
    exact EmptyO.keeps h hb (hT 1)
  | 13, hv, h => (hv 13 (List.mem_cons_self)).trans h
  | 14, hv, h => (hv 14 (List.mem_cons_self)).trans h
  | 15, hv, h => (hv 15 (List.mem_cons_self)).trans h
  | 16, hv, h => (hv 16 (List.mem_cons_self)).trans h
  | 17, hv, h => (hv 17 (List.mem_cons_self)).trans h
  | 18, hv, h => (hv 18 (List.mem_cons_self)).trans h
  | 19, hv, h => by
    obtain ⟨A, c, e, o⟩ := h
    exact ⟨A, c, (hv 19 List.mem_cons_self).trans e, (TxtO.keeps o (Keeps.of_below _ hb)).mono (hT 1)⟩
  | 20, hv, h => by
    show vs' 20 = _
    rw [hv 20 (by decide), hv 5 (by decide), hv 11 (by decide), hv 19 (by decide)]
    exact h
  | 21, hv, h => by
    obtain ⟨g, e, t, b⟩ := h
    exact ⟨g, (hv 21 List.mem_cons_self).trans e, hT 9 g t, b.below hb⟩
  | _ + 22, _, _ => trivial

theorem CS3.down {w : World} {C0 : List Value} {Bp B2 : Nat} {u0 u1 : Value} {W : World} (h : CS3 w C0 Bp u0 u1 W) (h1 : w.heap.size + 1 + 1 < B2) (h2 : B2 ≤ Bp) : CS3 w C0 B2 u0 u1 W := ⟨h.x, h.r, h.o, h1, Nat.le_trans h2 h.top, h.below⟩
/-- the boxes of l26Copy in the inner loop -/
structure CI (w wA : World) (C0 : List Value) (u0 : Value) (d : EnvD) (g lo Bp : Nat) (f : Nat → Nat) (P : Option Addr) (p : Nat) (u : Value) (W : World) : Prop where
  t : CS3 w C0 wA.heap.size u0 (.slice none 0 0) W
  o : Blk W g 71 [.bool d.used, .int .i64 d.parent, .slice P d.names.length p, u]
  o2 : TxtO (fun b => Rng lo Bp b ∧ f b = 1) W (.slice P d.names.length p) d.names
  fg : f g = 9
  gin : lo ≤ g ∧ g < Bp
  low : wA.heap.size ≤ lo
  top : Bp ≤ W.heap.size
  below : Below wA.heap.size wA W
theorem CI.stepB {w wA : World} {C0 : List Value} {u0 : Value} {d : EnvD} {g lo Bp : Nat} {f : Nat → Nat} {P : Option Addr} {p : Nat} {u : Value} {W W' : World} (h : CI w wA C0 u0 d g lo Bp f P p u W) (hb : Below Bp W W') : CI w wA C0 u0 d g lo Bp f P p u W' :=
  have h1 := h.low
  have h2 := h.gin
  ⟨h.t.stepB (hb.mono (by omega)), (hb.block _ h.gin.2).trans h.o, TxtO.keeps h.o2 ⟨hb.size, fun b _ hs => hb.block b hs.1.2⟩, h.fg, h.gin, h.low, Nat.le_trans h.top hb.size, h.below.trans (hb.mono (by omega))⟩
theorem CI.step {w wA : World} {C0 : List Value} {u0 : Value} {d : EnvD} {g lo Bp : Nat} {f : Nat → Nat} {P : Option Addr} {p : Nat} {u : Value} {W W' : World} (h : CI w wA C0 u0 d g lo Bp f P p u W) (hb : Below W.heap.size W W') : CI w wA C0 u0 d g lo Bp f P p u W' := h.stepB (hb.mono h.top)
theorem CI.put {w wA : World} {C0 : List Value} {u0 : Value} {d : EnvD} {g lo Bp : Nat} {f : Nat → Nat} {P : Option Addr} {p : Nat} {u u' : Value} {W : World} (h : CI w wA C0 u0 d g lo Bp f P p u W) : CI w wA C0 u0 d g lo Bp f P p u' (W.setCell ⟨g, 3, none⟩ u') :=
  have h1 := h.low
  have h2 := h.gin
  ⟨h.t.stepB (below_sc (Below.refl _ _) (by omega) u'), h.o.set_ 3 u', TxtO.keeps h.o2 ((Keeps.refl _ _).sc (fun hs => by have := hs.2.symm.trans h.fg; omega) _), h.fg, h.gin, h.low, by simpa [World.setCell] using h.top, below_sc h.below (by omega) u'⟩

/-- the parts of a store that the reference's copies ask for -/
def PartsOk (s : StoreD) : Prop := (∀ j (h : j < s.envs.length) k (h' : k < s.envs[j].slots.length), okN 3 (s.envs[j].slots[k]).value = true) ∧ ∀ j (h : j < s.promises.length), okN 3 s.promises[j].value = true

set_option maxHeartbeats 16000000 in
theorem spec_l26Copy (s : StoreD) (cs : List Value) (w : World) (h : StoreR w cs s) (hok : PartsOk s) (hz : szStore s ≤ 600000000000) :
    Calls Tryz.prog 70 #[.agg cs.toArray] w (RetStore w s) := by
  obtain ⟨E0, e0, E1, e1, rfl, l0, l1, HE, HP⟩ := h.open_
  clear h
  have HOK := Lib.hid hok
  clear hok
  have s1 := szS_length szEnv s.envs
  have s2 := szS_length szPromise s.promises
  unfold szStore at hz
  obtain ⟨G, g0, HG, BX, BY, BZ⟩ := good3 w 33 [.slice E0 s.envs.length e0, .slice E1 s.promises.length e1] 33 zSt 33 zSt
  go_enter Tryz.func70, Tryz.ntmps70
  have z0 := (BZ.out _ g0).frozen 0
  have z1 := (BZ.out _ g0).frozen 1
  obtain ⟨B0, hB0⟩ : ∃ B : Nat, B = w.heap.size + 1 + 1 + 1 := ⟨_, rfl⟩
  have HC0 := Lib.hid (show CS3 w [.slice E0 s.envs.length e0, .slice E1 s.promises.length e1] B0 (.slice none 0 0) (.slice none 0 0) _ from ⟨BX.out _ g0, BY.out _ g0, BZ.out _ g0, by omega, by simp; omega, HG.out.below g0⟩)
  clear g0 HG BX BY BZ G
  go_upto_region 2 with fail
  refine gen_w (G := fun V => CS3 w [.slice E0 s.envs.length e0, .slice E1 s.promises.length e1] B0 (.slice none 0 0) (.slice none 0 0) V) (show Ok _ _ from HC0.out) ?_
  clear z0 z1 HC0 hB0
  intro V0 hc0
  have HC0 := Lib.hid (show CS3 w [.slice E0 s.envs.length e0, .slice E1 s.promises.length e1] B0 (.slice none 0 0) (.slice none 0 0) V0 from hc0)
  clear hc0
  go_wp2_with fail
  go_loopw [4] (fun i wr => ∃ (j : Nat) (U : Option Addr) (q : Nat), j ≤ s.envs.length ∧ i = .int .i64 j ∧ Hid (CS3 w [.slice E0 s.envs.length e0, .slice E1 s.promises.length e1] B0 (.slice U j q) (.slice none 0 0) wr) ∧ Hid (EnvsO (Rng B0 wr.heap.size) wr (.slice U j q) (s.envs.take j))) (fun i _ => s.envs.length - (intOf i).toNat)
  case atStart => exact ⟨0, none, 0, Nat.zero_le _, rfl, HC0.out, SlO.nil_ _ _ _ _ _⟩
  case round =>
    clear HC0
    obtain ⟨j, U, q, hj, rfl, HT, HO⟩ := hrel
    obtain ⟨wA, hwA⟩ : ∃ x : World, x = wr := ⟨_, rfl⟩
    subst hwA
    have htop := HT.out.top
    have hlow := HT.out.low
    by_cases hlt : j < s.envs.length
    · obtain ⟨b, off, cs, rfl, hbl, _, hat, hr⟩ := HE.out j hlt
      have hpz : szEnv s.envs[j] ≤ 600000000000 := by have := szS_at szEnv s.envs j hlt; omega
      obtain ⟨N, nn, M, mm, rfl, i0, i1, i2, H2, HM⟩ := hr.open_
      have s3 := szL_length s.envs[j].names
      have s4 := szS_length szSlot s.envs[j].slots
      have hpz2 : szL s.envs[j].names + szS szSlot s.envs[j].slots ≤ 600000000000 := by unfold szEnv at hpz; omega
      clear hpz
      obtain ⟨_, _, g2, hl2, hm2, HC⟩ := SlR.open_ HM.out
      injection g2 with g11 g12 g13
      subst g11 g13
      clear g12 hr
      unfold maxLen at hm2
      obtain ⟨G, g0, HG⟩ := good0 wA
      have HTG := Lib.hid (fun W (h : Ok G W) => (HT.out.up htop (Nat.le_refl _)).stepB (HG.out.below h))
      have x0 := fun W (h : Ok G W) => (HTG.out W h).x.cell 0 _ rfl
      have ee0 := fun W (h : Ok G W) => ((HTG.out W h).below.cell (p := ⟨b, off + j * 4, none⟩) hbl).trans (by simpa using hat 0 _ rfl)
      have ee1 := fun W (h : Ok G W) => ((HTG.out W h).below.cell (p := ⟨b, off + j * 4 + 1, none⟩) hbl).trans (hat 1 _ rfl)
      have ee2 := fun W (h : Ok G W) => ((HTG.out W h).below.cell (p := ⟨b, off + j * 4 + 2, none⟩) hbl).trans (hat 2 _ rfl)
      have ee3 := fun W (h : Ok G W) => ((HTG.out W h).below.cell (p := ⟨b, off + j * 4 + 3, none⟩) hbl).trans (hat 3 _ rfl)
      have HATE := Lib.hid (fun (W' : World) (h : Below w.heap.size w W') => (h.cell (p := ⟨b, off + j * 4 + 3, none⟩) hbl).trans (hat 3 _ rfl))
      clear hat
      go_upto_region 5 with fail
      refine wp_region_free (by kernel_rfl) (by kernel_rfl) (Ok G) l26L l26D (l26R w.heap.size b off s.envs.length e0 j s.envs[j] N nn) (fun vs => ⟨#[.agg #[.slice (some ⟨b, off, none⟩) s.envs.length e0, .slice E1 s.promises.length e1], .pointer (some ⟨w.heap.size, 0, none⟩), .pointer (some ⟨w.heap.size + 1, 0, none⟩), .pointer (some ⟨w.heap.size + 1 + 1, 0, none⟩), .int .i64 j, vs 21, u6, undef, undef, .agg #[.slice none 0 0, .slice none 0 0], .int .i64 j, .pointer (some ⟨w.heap.size, 0, none⟩), .slice (some ⟨b, off, none⟩) s.envs.length e0, .int .i64 s.envs.length, .bool true, u15, u16, vs 0, vs 1, vs 2, vs 3, vs 4, vs 5, vs 6, vs 7, vs 8, vs 9, vs 10, vs 11, vs 12, vs 13, vs 14, vs 15, vs 16, vs 17, vs 18, vs 19, vs 20, u38, u39, u40, u41, u42, u43, u44, u45, u46, u47, u48, u49, u50, u51, u52, u53, u54, u55, u56, u57, u58, u59, u60, u61, u62, u63, u64, u65, u66, u67, u68, u69, undef, undef, undef, undef, undef, undef, undef, undef, undef, undef, undef, undef, undef, undef, undef, undef, undef, undef, undef, undef, undef, undef, undef], []⟩) (fun vs => by kernel_rfl) (by kernel_rfl) (HG.out.drew g0) (l26K w.heap.size b off s.envs.length e0 j s.envs[j] N nn) ?_ ?_
      · intro i o ho hi vs T W hS hd
        have h9 : i + 1 < 23 := by simpa using hi
        have hi' : i = 0 ∨ i = 1 ∨ i = 2 ∨ i = 3 ∨ i = 4 ∨ i = 5 ∨ i = 6 ∨ i = 7 ∨ i = 8 ∨ i = 9 ∨ i = 10 ∨ i = 11 ∨ i = 12 ∨ i = 13 ∨ i = 14 ∨ i = 15 ∨ i = 16 ∨ i = 17 ∨ i = 18 ∨ i = 19 ∨ i = 20 ∨ i = 21 := by omega
        clear h9 hi
        rcases hi' with rfl | rfl | rfl | rfl | rfl | rfl | rfl | rfl | rfl | rfl | rfl | rfl | rfl | rfl | rfl | rfl | rfl | rfl | rfl | rfl | rfl | rfl
        · obtain rfl := Option.some.inj ho
          exact oper_ok (by go_simp; try rfl) ⟨_, rfl, Below.refl _ _, hS, upd_same _ _ _⟩
        · obtain rfl := Option.some.inj ho
          have d0 : vs 0 = _ := hd ⟨0, .data⟩ (by simp) rfl
          exact oper_ok (by go_simp; try rfl) ⟨_, rfl, Below.refl _ _, hS, upd_same _ _ _⟩
        · obtain rfl := Option.some.inj ho
          exact oper_ok (by go_simp; try rfl) ⟨_, rfl, Below.refl _ _, hS, upd_same _ _ _⟩
        · obtain rfl := Option.some.inj ho
          have d1 : vs 1 = _ := hd ⟨1, .data⟩ (by simp) rfl
          have d2 : vs 2 = _ := hd ⟨2, .data⟩ (by simp) rfl
          exact oper_ok (by go_simp; try rfl) ⟨_, rfl, Below.refl _ _, hS, upd_same _ _ _⟩
        · obtain rfl := Option.some.inj ho
          have d3 : vs 3 = _ := hd ⟨3, .data⟩ (by simp) rfl
          exact oper_ok (by go_simp; try rfl) ⟨_, rfl, Below.refl _ _, hS, upd_same _ _ _⟩
        · obtain rfl := Option.some.inj ho
          have d4 : vs 4 = _ := hd ⟨4, .data⟩ (by simp) rfl
          exact oper_ok (by go_simp; try rfl) ⟨_, rfl, Below.refl _ _, hS, upd_same _ _ _⟩
        · obtain rfl := Option.some.inj ho
          exact oper_ok (by go_simp; try rfl) ⟨_, rfl, Below.refl _ _, hS, upd_same _ _ _⟩
        · obtain rfl := Option.some.inj ho
          have d6 : vs 6 = _ := hd ⟨6, .data⟩ (by simp) rfl
          exact oper_ok (by go_simp; try rfl) ⟨_, rfl, Below.refl _ _, hS, upd_same _ _ _⟩
        · obtain rfl := Option.some.inj ho
          exact oper_ok (by go_simp; try rfl) ⟨_, rfl, Below.refl _ _, hS, upd_same _ _ _⟩
        · obtain rfl := Option.some.inj ho
          have d7 : vs 7 = _ := hd ⟨7, .data⟩ (by simp) rfl
          have d8 : vs 8 = _ := hd ⟨8, .data⟩ (by simp) rfl
          exact oper_ok (by go_simp; try rfl) ⟨_, rfl, Below.refl _ _, hS, upd_same _ _ _⟩
        · obtain rfl := Option.some.inj ho
          have d9 : vs 9 = _ := hd ⟨9, .data⟩ (by simp) rfl
          exact oper_ok (by go_simp; try rfl) ⟨_, rfl, Below.refl _ _, hS, upd_same _ _ _⟩
        · obtain rfl := Option.some.inj ho
          have d10 : vs 10 = _ := hd ⟨10, .data⟩ (by simp) rfl
          exact oper_ok (by go_simp; try rfl) ⟨_, rfl, Below.refl _ _, hS, upd_same _ _ _⟩
        · obtain rfl := Option.some.inj ho
          refine oper_ok (by go_simp; exact ⟨rfl, rfl⟩) ⟨_, rfl, (Below.refl _ _).alloc (Nat.le_refl _) _, HG.out.alloc hS _, ?_⟩
          show EmptyO _ _ _ _ (upd vs 12 _ 12)
          rw [upd_same]
          exact EmptyO.keeps (EmptyO.new _ _ _) (Below.refl _ _) (fun b hb => .inr ⟨rfl, hb.1, hb.2⟩)
        · obtain rfl := Option.some.inj ho
          exact oper_ok (by go_simp; try rfl) ⟨_, rfl, Below.refl _ _, hS, upd_same _ _ _⟩
        · obtain rfl := Option.some.inj ho
          have d13 : vs 13 = _ := hd ⟨13, .data⟩ (by simp) rfl
          exact oper_ok (by go_simp; try rfl) ⟨_, rfl, Below.refl _ _, hS, upd_same _ _ _⟩
        · obtain rfl := Option.some.inj ho
          exact oper_ok (by go_simp; try rfl) ⟨_, rfl, Below.refl _ _, hS, upd_same _ _ _⟩
        · obtain rfl := Option.some.inj ho
          have d14 : vs 14 = _ := hd ⟨14, .data⟩ (by simp) rfl
          have d15 : vs 15 = _ := hd ⟨15, .data⟩ (by simp) rfl
          exact oper_ok (by go_simp; try rfl) ⟨_, rfl, Below.refl _ _, hS, upd_same _ _ _⟩
        · obtain rfl := Option.some.inj ho
          have d16 : vs 16 = _ := hd ⟨16, .data⟩ (by simp) rfl
          exact oper_ok (by go_simp; try rfl) ⟨_, rfl, Below.refl _ _, hS, upd_same _ _ _⟩
        · obtain rfl := Option.some.inj ho
          have d17 : vs 17 = _ := hd ⟨17, .data⟩ (by simp) rfl
          exact oper_ok (by go_simp; try rfl) ⟨_, rfl, Below.refl _ _, hS, upd_same _ _ _⟩
        · obtain rfl := Option.some.inj ho
          obtain ⟨g, e, o2⟩ := (show EmptyO (T 1) W _ _ (vs 12) from hd ⟨12, .data⟩ (by simp) rfl)
          have dx : vs 18 = _ := hd ⟨18, .data⟩ (by simp) rfl
          rw [e] at o2
          refine wp_cat0 (.tmp 29) (.tmp 35) 43 rfl 9 (.string ByteArray.empty) 1 16 Tryz.underlying43 info_strK rfl (by decide) W g (by exact e) N s.envs[j].names.length nn _ (by exact dx) (Txts.src (SlR.below H2.out (HTG.out W hS).below (fun _ _ h => h))).2 (by omega) (by omega) ?_
          intro A' c' W' hb hown
          refine ⟨_, rfl, hb, HG.out.step hS hb, A', c', upd_same _ _ _, ?_⟩
          exact ⟨cat0_own o2 (fun b hb => .inl hb) (fun b h1 h2 => .inr ⟨rfl, h1, h2⟩) hown, Txts.small H2.out⟩
        · obtain rfl := Option.some.inj ho
          have e5 : vs 5 = _ := hd ⟨5, .data⟩ (by simp) rfl
          have e11 : vs 11 = _ := hd ⟨11, .data⟩ (by simp) rfl
          obtain ⟨_, _, e19, _⟩ := (show l26R w.heap.size b off s.envs.length e0 j s.envs[j] N nn 19 T vs W from hd ⟨19, .data⟩ (by simp) rfl)
          refine oper_ok (by go_simp; rfl) ⟨_, rfl, Below.refl _ _, hS, ?_⟩
          show upd vs 20 _ 20 = .agg #[upd vs 20 _ 5, upd vs 20 _ 11, upd vs 20 _ 19, .slice none 0 0]
          simp [upd, e5, e11, e19]
        · obtain rfl := Option.some.inj ho
          exact oper_ok (by go_simp; first | exact ⟨rfl, rfl⟩ | rfl) ⟨_, rfl, (Below.refl _ _).alloc (Nat.le_refl _) _, HG.out.alloc hS _, W.heap.size, upd_same _ _ _, .inr ⟨rfl, Nat.le_refl _, by simp⟩, Blk.new W _ zE⟩
      · intro o ho vs T W hS hsz hT1 hT2 hR
        obtain ⟨od, oo, ot, opos, oa, og⟩ := o
        obtain ⟨rfl, rfl⟩ : od = none ∧ oo = .store 71 (.tmp 5) (.tmp 37) := ⟨(congrArg Oper.dst (Option.some.inj ho)).symm, (congrArg Oper.op (Option.some.inj ho)).symm⟩
        clear ho
        have e5 : vs 5 = _ := hR 5 (by decide)
        have e11 : vs 11 = _ := hR 11 (by decide)
        obtain ⟨P, p, e19, o2⟩ := hR 19 (by decide)
        have e20 : vs 20 = .agg #[vs 5, vs 11, vs 19, .slice none 0 0] := hR 20 (by decide)
        obtain ⟨g, e21, tg, bg⟩ := hR 21 (by decide)
        rw [e5, e11, e19] at e20
        obtain ⟨f, hf⟩ := labels T hT2
        have hg1 := hT1 9 g tg
        have hTr : ∀ l b, T l b → Rng wA.heap.size W.heap.size b ∧ f b = l := fun l b hb => ⟨hT1 l b hb, hf l b hb⟩
        have FG := Lib.hid (hf 9 g tg)
        have O2 := Lib.hid (TxtO.mono o2 (hTr 1))
        have HB := Lib.hid (HG.out.below hS)
        have HTW := Lib.hid (HTG.out W hS)
        have BG := Lib.hid bg
        have hWs := HB.out.size
        clear o2 hR hT1 hT2 hTr hf tg bg
        have y0 := BG.out.cell 0 _ rfl
        have z0 := BG.out.frozen 0
        have y1 := BG.out.cell 1 _ rfl
        have z1 := BG.out.frozen 1
        have y2 := BG.out.cell 2 _ rfl
        have z2 := BG.out.frozen 2
        have y3 := BG.out.cell 3 _ rfl
        have z3 := BG.out.frozen 3
        refine oper_gen (fun K hK => ?_)
        go_wp2_with fail
        refine hK.out _ _ ?_
        clear hK y0 y1 y2 y3 z0 z1 z2 z3
        refine gen_w (G := CI w wA [.slice (some ⟨b, off, none⟩) s.envs.length e0, .slice E1 s.promises.length e1] (.slice U j q) s.envs[j] g wA.heap.size W.heap.size f P p (.slice none 0 0))
          (show Ok _ _ from ⟨HTW.out.stepB (below_sc (b := g) (o := 3) (below_sc (b := g) (o := 2) (below_sc (b := g) (o := 1) (below_sc (b := g) (o := 0) (Below.refl wA.heap.size W) (by omega) (.bool s.envs[j].used)) (by omega) (.int .i64 s.envs[j].parent)) (by omega) (.slice P s.envs[j].names.length p)) (by omega) (.slice none 0 0)), ((((BG.out.set_ 0 (.bool s.envs[j].used)).set_ 1 (.int .i64 s.envs[j].parent)).set_ 2 (.slice P s.envs[j].names.length p)).set_ 3 (.slice none 0 0)), TxtO.keeps O2.out (((((Keeps.refl _ W).sc (b := g) (o := 0) (fun h => by have := h.2; have := FG.out; omega) (.bool s.envs[j].used)).sc (b := g) (o := 1) (fun h => by have := h.2; have := FG.out; omega) (.int .i64 s.envs[j].parent)).sc (b := g) (o := 2) (fun h => by have := h.2; have := FG.out; omega) (.slice P s.envs[j].names.length p)).sc (b := g) (o := 3) (fun h => by have := h.2; have := FG.out; omega) (.slice none 0 0)), FG.out, hg1, Nat.le_refl _, by simp [World.setCell], (below_sc (b := g) (o := 3) (below_sc (b := g) (o := 2) (below_sc (b := g) (o := 1) (below_sc (b := g) (o := 0) HB.out (by omega) (.bool s.envs[j].used)) (by omega) (.int .i64 s.envs[j].parent)) (by omega) (.slice P s.envs[j].names.length p)) (by omega) (.slice none 0 0))⟩) ?_
        clear O2 HB HTW BG FG hS e5 e11 e19 x0 ee0 ee1 ee2 ee3 HTG
        intro V hv
        try simp only [e20, e21]
        clear e20 e21
        have HV := Lib.hid (show CI w wA [.slice (some ⟨b, off, none⟩) s.envs.length e0, .slice E1 s.promises.length e1] (.slice U j q) s.envs[j] g wA.heap.size W.heap.size f P p (.slice none 0 0) V from hv)
        clear hv g0 HG
        go_wp2_with fail
        go_loopw [6] (fun i wr => ∃ (k : Nat) (U3 : Option Addr) (q3 : Nat), k ≤ s.envs[j].slots.length ∧ i = .int .i64 k ∧ Hid (CI w wA [.slice (some ⟨b, off, none⟩) s.envs.length e0, .slice E1 s.promises.length e1] (.slice U j q) s.envs[j] g wA.heap.size W.heap.size f P p (.slice U3 k q3) wr) ∧ Hid (SlotsO (Rng W.heap.size wr.heap.size) wr (.slice U3 k q3) (s.envs[j].slots.take k))) (fun i _ => s.envs[j].slots.length - (intOf i).toNat)
        case atStart => exact ⟨0, none, 0, Nat.zero_le _, rfl, HV.out, SlO.nil_ _ _ _ _ _⟩
        case round =>
          clear HV
          obtain ⟨k, U3, q3, hk, rfl, HCI, HSO⟩ := hrel
          have ctop := HCI.out.top
          have cgin := HCI.out.gin
          have cbel := HCI.out.below.size
          have x0 := HCI.out.t.x.cell 0 _ rfl
          have ee3 := HATE.out _ HCI.out.t.below
          by_cases hkt : k < s.envs[j].slots.length
          · obtain ⟨b2, off2, cs, rfl, hbl2, _, hat2, hr2⟩ := HC.out k hkt
            have hpz : szSlot s.envs[j].slots[k] ≤ 900000000000 := by have := szS_at szSlot s.envs[j].slots k hkt; omega
            have hok := HOK.out.1 j hlt k hkt
            have HRK := Lib.hid hr2
            obtain ⟨K1, l1, K2, l2, K3, l3, K4, l4, K5, l5, KP, kp, KL, kl, hcs, _⟩ := hr2.open_
            rw [hcs] at HRK hat2
            clear hcs hr2
            go_upto_region 9 with fail
            clear x0 ee3
            obtain ⟨T, hTdef⟩ : ∃ T : World → Prop, T = CI w wA [.slice (some ⟨b, off, none⟩) s.envs.length e0, .slice E1 s.promises.length e1] (.slice U j q) s.envs[j] g wA.heap.size W.heap.size f P p (.slice U3 k q3) := ⟨_, rfl⟩
            have HTI := Lib.hid (fun (W' : World) (h : Ok T W') => show CI w wA [.slice (some ⟨b, off, none⟩) s.envs.length e0, .slice E1 s.promises.length e1] (.slice U j q) s.envs[j] g wA.heap.size W.heap.size f P p (.slice U3 k q3) W' from by rw [hTdef] at h; exact h)
            have HTO := Lib.hid (fun (W' : World) (h1 : CI w wA [.slice (some ⟨b, off, none⟩) s.envs.length e0, .slice E1 s.promises.length e1] (.slice U j q) s.envs[j] g wA.heap.size W.heap.size f P p (.slice U3 k q3) W') => show Ok T W' from by rw [hTdef]; exact h1)
            clear hTdef
            refine gen_w (G := fun W' => Ok T W' ∧ Below wr.heap.size wr W') (show Ok _ _ from ⟨HTO.out _ HCI.out, Below.refl _ _⟩) ?_
            rintro W1 ⟨g1, hbW1⟩
            have HBW1 := Lib.hid hbW1
            have hzW1 := hbW1.size
            clear hbW1
            have x0 := fun W' (h : Ok T W') => (HTI.out _ h).t.x.cell 0 _ rfl
            have ee3 := fun W' (h : Ok T W') => HATE.out _ (HTI.out _ h).t.below
            have t3 := fun W' (h : Ok T W') => (HTI.out _ h).o.cell 3 _ rfl
            have ss0 := fun W' (h : Ok T W') => ((HTI.out W' h).t.below.cell (p := ⟨b2, off2 + k * 12, none⟩) hbl2).trans (by simpa using hat2 0 _ rfl)
            have ss1 := fun W' (h : Ok T W') => ((HTI.out W' h).t.below.cell (p := ⟨b2, off2 + k * 12 + 1, none⟩) hbl2).trans (hat2 1 _ rfl)
            have ss2 := fun W' (h : Ok T W') => ((HTI.out W' h).t.below.cell (p := ⟨b2, off2 + k * 12 + 2, none⟩) hbl2).trans (hat2 2 _ rfl)
            have ss3 := fun W' (h : Ok T W') => ((HTI.out W' h).t.below.cell (p := ⟨b2, off2 + k * 12 + 3, none⟩) hbl2).trans (hat2 3 _ rfl)
            have ss4 := fun W' (h : Ok T W') => ((HTI.out W' h).t.below.cell (p := ⟨b2, off2 + k * 12 + 4, none⟩) hbl2).trans (hat2 4 _ rfl)
            have ss5 := fun W' (h : Ok T W') => ((HTI.out W' h).t.below.cell (p := ⟨b2, off2 + k * 12 + 5, none⟩) hbl2).trans (hat2 5 _ rfl)
            have ss6 := fun W' (h : Ok T W') => ((HTI.out W' h).t.below.cell (p := ⟨b2, off2 + k * 12 + 6, none⟩) hbl2).trans (hat2 6 _ rfl)
            have ss7 := fun W' (h : Ok T W') => ((HTI.out W' h).t.below.cell (p := ⟨b2, off2 + k * 12 + 7, none⟩) hbl2).trans (hat2 7 _ rfl)
            have ss8 := fun W' (h : Ok T W') => ((HTI.out W' h).t.below.cell (p := ⟨b2, off2 + k * 12 + 8, none⟩) hbl2).trans (hat2 8 _ rfl)
            have ss9 := fun W' (h : Ok T W') => ((HTI.out W' h).t.below.cell (p := ⟨b2, off2 + k * 12 + 9, none⟩) hbl2).trans (hat2 9 _ rfl)
            have ss10 := fun W' (h : Ok T W') => ((HTI.out W' h).t.below.cell (p := ⟨b2, off2 + k * 12 + 10, none⟩) hbl2).trans (hat2 10 _ rfl)
            have ss11 := fun W' (h : Ok T W') => ((HTI.out W' h).t.below.cell (p := ⟨b2, off2 + k * 12 + 11, none⟩) hbl2).trans (hat2 11 _ rfl)
            have stepT := Lib.hid (fun (W2 W3 : World) (h : Ok T W2) (hb : Below W2.heap.size W2 W3) => HTO.out _ ((HTI.out _ h).step hb))
            replace g1 := stepT.out _ _ g1 (Below.drew (Below.refl _ _))
            refine wp_region_phase (T := Ok T) (by kernel_rfl) [(2, 0), (1, 1), (2, 2), (1, 3), (2, 4), (2, 5), (2, 6), (1, 7), (2, 8), (2, 9), (1, 10), (0, 11), (0, 12), (0, 13), (2, 14), (0, 15)] [15] (by kernel_rfl) g1 ?_
            repeat ((first | (refine dynL_take rfl rfl (fun W g => by go_simp; rfl) ?_) | (refine dynL_pure rfl rfl (fun W => by go_simp; rfl) ?_)); go_simp)
            refine dynL_act rfl rfl (fun K hK => ?_)
            go_wp2_with fail
            refine Calls.mono (spec_l26CopySlot s.envs[j].slots[k] _ _ (HRK.out.below (HTI.out _ g1).t.below) hok hpz) ?_
            rintro e w2 ⟨cs2, rfl, ho, hb⟩
            have hlen2 := ho.length
            obtain ⟨E1', m1, E2, m2, E3, m3, E4, m4, E5, m5, EP, ep, EL, el, rfl⟩ := ho.shape12
            have hzd : W1.heap.size ≤ w2.heap.size := hb.size
            have g2 := stepT.out _ _ g1 hb
            obtain ⟨xs, hown, hpush⟩ := SlO.push (fun h k => h.keeps k) (fun h k => h.mono k) (show SlO (Rng W.heap.size wr.heap.size) wr 96 12 SlotO _ (s.envs[j].slots.take k) from HSO.out) ctop ((Below.drew HBW1.out).trans (hb.mono hzW1)) s.envs[j].slots[k] _ hlen2 (ho.mono fun b hb => ⟨by have h8 : W1.heap.size ≤ b := hb.1; omega, hb.2⟩)
            rw [List.length_take, Nat.min_eq_left hk] at hown hpush
            have HPU := Lib.hid hpush
            have hown2 := Lib.hid hown
            clear hpush hown ho hb
            simp only []
            refine hK.out _ _ g2 ?_
            clear hK
            repeat ((first | (refine dynL_take rfl rfl (fun W g => by go_simp; rfl) ?_) | (refine dynL_pure rfl rfl (fun W => by go_simp; rfl) ?_)); go_simp)
            refine dynL_act rfl rfl (fun K hK => ?_)
            go_wp2_with fail
            refine hK.out _ _ (stepT.out _ _ g2 ((Below.refl _ _).alloc (Nat.le_refl _) _)) ?_
            clear hK
            refine dynL_act rfl rfl (fun K hK => ?_)
            refine wp_push (.tmp 50) (.tmp 61) 69 rfl W.heap.size 96 (.agg #[.int .i64 0, .int .i64 0, .slice none 0 0, .slice none 0 0, .slice none 0 0, .slice none 0 0, .slice none 0 0, .int .i64 0, .int .i64 0, .int .i64 0, .slice none 0 0, .slice none 0 0]) 12 208 Tryz.underlying69 info_Slot rfl (by decide) w2 (.slice U3 k q3) k xs #[.int .i64 s.envs[j].slots[k].kind, .int .i64 s.envs[j].slots[k].value.kind, .slice E1' s.envs[j].slots[k].value.items.length m1, .slice E2 s.envs[j].slots[k].value.parts.length m2, .slice E3 s.envs[j].slots[k].value.names.length m3, .slice E4 s.envs[j].slots[k].value.cls.length m4, .slice E5 s.envs[j].slots[k].value.levels.length m5, .int .i64 s.envs[j].slots[k].value.code, .int .i64 s.envs[j].slots[k].value.env, .int .i64 s.envs[j].slots[k].promise, .slice EP s.envs[j].slots[k].promises.length ep, .slice EL s.envs[j].slots[k].labels.length el] rfl rfl hown2.out rfl (by simp [Value.oneCell']) (by omega) (by omega) (by have := (HTI.out _ g2).top; omega) ?_
            intro v1 w3 ho3 hg3 hbk3 hb3
            have g3 : Ok T w3 := HTO.out _ ((HTI.out _ g2).stepB hb3)
            obtain ⟨A9, c9, rfl⟩ := own_shapeC ho3
            have hp3 := HPU.out _ _ ho3 hg3 hbk3
            rw [← List.take_succ_eq_append_getElem hkt] at hp3
            have HP3 := Lib.hid (show SlotsO _ _ _ _ from hp3)
            clear hown2 HPU ho3 hg3 hbk3 hb3 hp3
            refine hK.out _ _ g3 ?_
            clear hK
            go_simp
            repeat ((first | (refine dynL_take rfl rfl (fun W g => by go_simp; rfl) ?_) | (refine dynL_pure rfl rfl (fun W => by go_simp; rfl) ?_)); go_simp)
            have y3 := (HTI.out _ g3).o.cell 3 _ rfl
            have f3 := (HTI.out _ g3).o.frozen 3
            refine dynL_last rfl (by simp) rfl (fun K hK => ?_)
            go_wp2_with fail
            refine hK.out _ _ ?_
            clear hK
            refine dynL_done ?_
            go_wp2_with fail
            exact ⟨⟨k + 1, A9, c9, by omega, by go_num, (HTI.out _ g3).put, SlotsO.mono (SlotsO.keeps HP3.out ((Keeps.refl _ _).sc (fun h => by have := h.1; omega) _)) (fun b h => ⟨h.1, by simpa [World.setCell] using h.2⟩)⟩, by simp [intOf]; omega⟩
          · obtain rfl : k = s.envs[j].slots.length := by omega
            rw [List.take_length] at HSO
            obtain ⟨xs, hown, hpush⟩ := SlO.push (fun h k => h.keeps k) (fun h k => h.mono k) (show SlO (Rng B0 wA.heap.size) wA 71 4 EnvO _ (s.envs.take j) from HO.out) htop HCI.out.below s.envs[j] [.bool s.envs[j].used, .int .i64 s.envs[j].parent, .slice P s.envs[j].names.length p, .slice U3 s.envs[j].slots.length q3] rfl
              ⟨P, p, U3, q3, fun b => if b < W.heap.size then 2 else 3, rfl, trivial, i0,
                TxtO.mono HCI.out.o2 (fun b h => ⟨⟨by have := h.1.1; omega, by have := h.1.2; omega⟩, if_pos h.1.2⟩),
                SlotsO.mono HSO.out (fun b h => ⟨⟨by have := h.1; omega, by have := h.2; omega⟩, if_neg (by have := h.1; omega)⟩)⟩
            rw [List.length_take, Nat.min_eq_left hj] at hown hpush
            have HPU := Lib.hid hpush
            have HCS := Lib.hid (HCI.out.t.down hlow htop)
            have hsz := HCS.out.top
            have y0 := HCS.out.o.cell 0 _ rfl
            have y1 := HCS.out.o.cell 1 _ rfl
            have p0 := HCI.out.o.cell 0 _ rfl
            have p1 := HCI.out.o.cell 1 _ rfl
            have p2 := HCI.out.o.cell 2 _ rfl
            have p3 := HCI.out.o.cell 3 _ rfl
            clear hpush
            go_wp2_with (at_builtin; go_must (refine wpList_push rfl _ _ 30 rfl B0 71 (.agg #[.bool false, .int .i64 0, .slice none 0 0, .slice none 0 0]) 4 64 Tryz.underlying30 info_Env rfl (by decide) _ _ _ _ _ rfl rfl (by exact hown) rfl (by simp [Value.oneCell']) (by omega) (by omega) hsz ?_); intro v1 w3 ho3 hg3 hbk3 hb3; obtain ⟨A9, c9, rfl⟩ := own_shapeC ho3; clear y0; have CV3 := Lib.hid (HCS.out.stepB hb3); have y0 := CV3.out.o.cell 0 _ rfl; have f0 := CV3.out.o.frozen 0)
            have hp3 := HPU.out _ _ ho3 hg3 hbk3
            rw [← List.take_succ_eq_append_getElem hlt] at hp3
            exact ⟨⟨j + 1, A9, c9, by omega, by go_num, CV3.out.put0, EnvsO.mono (EnvsO.keeps (show EnvsO _ _ _ _ from hp3) ((Keeps.refl _ _).sc (fun h => by have := h.1; omega) _)) (fun b h => ⟨h.1, by simpa [World.setCell] using h.2⟩)⟩, by simp [intOf]; omega⟩
    · obtain rfl : j = s.envs.length := by omega
      rw [List.take_length] at HO
      have x0 := HT.out.x.cell 0 _ rfl
      clear hlt hj
      go_wp2_with fail
      clear x0
      go_loopw [7] (fun i wr => ∃ (j : Nat) (U2 : Option Addr) (q2 : Nat), j ≤ s.promises.length ∧ i = .int .i64 j ∧ Hid (CS3 w [.slice E0 s.envs.length e0, .slice E1 s.promises.length e1] wA.heap.size (.slice U s.envs.length q) (.slice U2 j q2) wr) ∧ Hid (EnvsO (Rng B0 wA.heap.size) wr (.slice U s.envs.length q) s.envs) ∧ Hid (PromisesO (Rng wA.heap.size wr.heap.size) wr (.slice U2 j q2) (s.promises.take j))) (fun i _ => s.promises.length - (intOf i).toNat)
      case atStart => exact ⟨0, none, 0, Nat.zero_le _, rfl, HT.out.up htop (Nat.le_refl _), HO.out, SlO.nil_ _ _ _ _ _⟩
      case round =>
        clear HT HO
        obtain ⟨j, U2, q2, hj, rfl, HT, HEO, HO⟩ := hrel
        have htop2 := HT.out.top
        have hlow2 := HT.out.low
        have x1 := HT.out.x.cell 1 _ rfl
        by_cases hlt : j < s.promises.length
        · obtain ⟨b, off, cs, rfl, hbl, _, hat, hr⟩ := HP.out j hlt
          have hpz : szVector s.promises[j].value ≤ 900000000000 := by have h1 : szPromise s.promises[j] ≤ _ := szS_at szPromise s.promises j hlt; have h2 : szVector s.promises[j].value = szPromise s.promises[j] := rfl; omega
          obtain ⟨A1, c1, A2, c2, A3, c3, A4, c4, A5, c5, rfl, j0, j1, j2, HVX⟩ := hr.open_
          clear hr
          obtain ⟨G, g0, HG⟩ := good0 w
          replace g0 := HG.out.step g0 HT.out.below
          obtain ⟨ee0, ee1, ee2, ee3, ee4, ee5, ee6, ee7, ee8, ee9, ee10, ee11⟩ := pk_e12 HG hbl hat
          clear hat
          go_upto_region 15 with fail
          have hbA := (Below.refl wr.heap.size wr).alloc (Nat.le_refl _) (.cells [.bool s.promises[j].used, .int .i64 s.promises[j].code, .int .i64 s.promises[j].env, .int .i64 s.promises[j].state, .int .i64 s.promises[j].value.kind, .slice A1 s.promises[j].value.items.length c1, .slice A2 s.promises[j].value.parts.length c2, .slice A3 s.promises[j].value.names.length c3, .slice A4 s.promises[j].value.cls.length c4, .slice A5 s.promises[j].value.levels.length c5, .int .i64 s.promises[j].value.code, .int .i64 s.promises[j].value.env].toArray 74)
          refine gen_w (G := fun W' => CS3 w [.slice E0 s.envs.length e0, .slice (some ⟨b, off, none⟩) s.promises.length e1] wA.heap.size (.slice U s.envs.length q) (.slice U2 j q2) W' ∧ Blk W' wr.heap.size 74 [.bool s.promises[j].used, .int .i64 s.promises[j].code, .int .i64 s.promises[j].env, .int .i64 s.promises[j].state, .int .i64 s.promises[j].value.kind, .slice A1 s.promises[j].value.items.length c1, .slice A2 s.promises[j].value.parts.length c2, .slice A3 s.promises[j].value.names.length c3, .slice A4 s.promises[j].value.cls.length c4, .slice A5 s.promises[j].value.levels.length c5, .int .i64 s.promises[j].value.code, .int .i64 s.promises[j].value.env] ∧ Below wr.heap.size wr W') (show Ok _ _ from ⟨HT.out.step hbA, Blk.new wr _ _, hbA⟩) ?_
          clear g0 hbA HG
          rintro W1 ⟨cs1, bp1, hbW1⟩
          have HCS1 := Lib.hid cs1
          have HBP1 := Lib.hid bp1
          have HBW1 := Lib.hid hbW1
          have hzW1 := hbW1.size
          clear cs1 bp1 hbW1
          have q4 := HBP1.out.cell 4 _ rfl
          have q5 := HBP1.out.cell 5 _ rfl
          have q6 := HBP1.out.cell 6 _ rfl
          have q7 := HBP1.out.cell 7 _ rfl
          have q8 := HBP1.out.cell 8 _ rfl
          have q9 := HBP1.out.cell 9 _ rfl
          have q10 := HBP1.out.cell 10 _ rfl
          have q11 := HBP1.out.cell 11 _ rfl
          go_wp2_with fail
          refine Calls.mono (spec_l4Copy s.promises[j].value _ _ (HVX.out.below HCS1.out.below) (HOK.out.2 j hlt) (by omega)) ?_
          rintro e w2 ⟨cs2, rfl, ho, hb⟩
          obtain ⟨F1, n1, F2, n2, F3, n3, F4, n4, F5, n5, rfl⟩ := ho.shape
          have HCS2 := Lib.hid (HCS1.out.step hb)
          have HBP2 := Lib.hid (HBP1.out.below hb)
          have HBW2 := Lib.hid (HBW1.out.trans (hb.mono hzW1))
          have hz2 := hb.size
          have HO2 := Lib.hid ho
          have hpbl := HBP1.out.lt
          clear hb ho q4 q5 q6 q7 q8 q9 q10 q11 HBP1 HCS1 HBW1
          have y4 := HBP2.out.cell 4 _ rfl
          have z4 := HBP2.out.frozen 4
          have y5 := HBP2.out.cell 5 _ rfl
          have z5 := HBP2.out.frozen 5
          have y6 := HBP2.out.cell 6 _ rfl
          have z6 := HBP2.out.frozen 6
          have y7 := HBP2.out.cell 7 _ rfl
          have z7 := HBP2.out.frozen 7
          have y8 := HBP2.out.cell 8 _ rfl
          have z8 := HBP2.out.frozen 8
          have y9 := HBP2.out.cell 9 _ rfl
          have z9 := HBP2.out.frozen 9
          have y10 := HBP2.out.cell 10 _ rfl
          have z10 := HBP2.out.frozen 10
          have y11 := HBP2.out.cell 11 _ rfl
          have z11 := HBP2.out.frozen 11
          go_upto_region 16 with fail
          refine gen_w (G := fun V => CS3 w [.slice E0 s.envs.length e0, .slice (some ⟨b, off, none⟩) s.promises.length e1] wA.heap.size (.slice U s.envs.length q) (.slice U2 j q2) V ∧ Blk V wr.heap.size 74 [.bool s.promises[j].used, .int .i64 s.promises[j].code, .int .i64 s.promises[j].env, .int .i64 s.promises[j].state, .int .i64 s.promises[j].value.kind, .slice F1 s.promises[j].value.items.length n1, .slice F2 s.promises[j].value.parts.length n2, .slice F3 s.promises[j].value.names.length n3, .slice F4 s.promises[j].value.cls.length n4, .slice F5 s.promises[j].value.levels.length n5, .int .i64 s.promises[j].value.code, .int .i64 s.promises[j].value.env] ∧ Below wr.heap.size wr V ∧ VecO (Rng W1.heap.size w2.heap.size) V [.int .i64 s.promises[j].value.kind, .slice F1 s.promises[j].value.items.length n1, .slice F2 s.promises[j].value.parts.length n2, .slice F3 s.promises[j].value.names.length n3, .slice F4 s.promises[j].value.cls.length n4, .slice F5 s.promises[j].value.levels.length n5, .int .i64 s.promises[j].value.code, .int .i64 s.promises[j].value.env] s.promises[j].value ∧ w2.heap.size ≤ V.heap.size)
            (show Ok _ _ from ⟨HCS2.out.stepB (below_sc (b := wr.heap.size) (o := 11) (below_sc (b := wr.heap.size) (o := 10) (below_sc (b := wr.heap.size) (o := 9) (below_sc (b := wr.heap.size) (o := 8) (below_sc (b := wr.heap.size) (o := 7) (below_sc (b := wr.heap.size) (o := 6) (below_sc (b := wr.heap.size) (o := 5) (below_sc (b := wr.heap.size) (o := 4) (Below.refl wA.heap.size w2) (by omega) (.int .i64 s.promises[j].value.kind)) (by omega) (.slice F1 s.promises[j].value.items.length n1)) (by omega) (.slice F2 s.promises[j].value.parts.length n2)) (by omega) (.slice F3 s.promises[j].value.names.length n3)) (by omega) (.slice F4 s.promises[j].value.cls.length n4)) (by omega) (.slice F5 s.promises[j].value.levels.length n5)) (by omega) (.int .i64 s.promises[j].value.code)) (by omega) (.int .i64 s.promises[j].value.env)), ((((((((HBP2.out.set_ 4 (.int .i64 s.promises[j].value.kind)).set_ 5 (.slice F1 s.promises[j].value.items.length n1)).set_ 6 (.slice F2 s.promises[j].value.parts.length n2)).set_ 7 (.slice F3 s.promises[j].value.names.length n3)).set_ 8 (.slice F4 s.promises[j].value.cls.length n4)).set_ 9 (.slice F5 s.promises[j].value.levels.length n5)).set_ 10 (.int .i64 s.promises[j].value.code)).set_ 11 (.int .i64 s.promises[j].value.env)), (below_sc (b := wr.heap.size) (o := 11) (below_sc (b := wr.heap.size) (o := 10) (below_sc (b := wr.heap.size) (o := 9) (below_sc (b := wr.heap.size) (o := 8) (below_sc (b := wr.heap.size) (o := 7) (below_sc (b := wr.heap.size) (o := 6) (below_sc (b := wr.heap.size) (o := 5) (below_sc (b := wr.heap.size) (o := 4) HBW2.out (by omega) (.int .i64 s.promises[j].value.kind)) (by omega) (.slice F1 s.promises[j].value.items.length n1)) (by omega) (.slice F2 s.promises[j].value.parts.length n2)) (by omega) (.slice F3 s.promises[j].value.names.length n3)) (by omega) (.slice F4 s.promises[j].value.cls.length n4)) (by omega) (.slice F5 s.promises[j].value.levels.length n5)) (by omega) (.int .i64 s.promises[j].value.code)) (by omega) (.int .i64 s.promises[j].value.env)), VecO.keeps HO2.out (((((((((Keeps.refl _ w2).sc (b := wr.heap.size) (o := 4) (fun h => by have := h.1; omega) (.int .i64 s.promises[j].value.kind)).sc (b := wr.heap.size) (o := 5) (fun h => by have := h.1; omega) (.slice F1 s.promises[j].value.items.length n1)).sc (b := wr.heap.size) (o := 6) (fun h => by have := h.1; omega) (.slice F2 s.promises[j].value.parts.length n2)).sc (b := wr.heap.size) (o := 7) (fun h => by have := h.1; omega) (.slice F3 s.promises[j].value.names.length n3)).sc (b := wr.heap.size) (o := 8) (fun h => by have := h.1; omega) (.slice F4 s.promises[j].value.cls.length n4)).sc (b := wr.heap.size) (o := 9) (fun h => by have := h.1; omega) (.slice F5 s.promises[j].value.levels.length n5)).sc (b := wr.heap.size) (o := 10) (fun h => by have := h.1; omega) (.int .i64 s.promises[j].value.code)).sc (b := wr.heap.size) (o := 11) (fun h => by have := h.1; omega) (.int .i64 s.promises[j].value.env)), by simp [World.setCell]⟩) ?_
          clear y4 y5 y6 y7 y8 y9 y10 y11 z4 z5 z6 z7 z8 z9 z10 z11 HCS2 HBP2 HBW2 HO2
          rintro V ⟨csv, bpv, hbV, ov, hvs⟩
          obtain ⟨xs, hown, hpush⟩ := SlO.push (fun h k => h.keeps k) (fun h k => h.mono k) (show SlO (Rng wA.heap.size wr.heap.size) wr 74 12 PromiseO _ (s.promises.take j) from HO.out) htop2 hbV s.promises[j] [.bool s.promises[j].used, .int .i64 s.promises[j].code, .int .i64 s.promises[j].env, .int .i64 s.promises[j].state, .int .i64 s.promises[j].value.kind, .slice F1 s.promises[j].value.items.length n1, .slice F2 s.promises[j].value.parts.length n2, .slice F3 s.promises[j].value.names.length n3, .slice F4 s.promises[j].value.cls.length n4, .slice F5 s.promises[j].value.levels.length n5, .int .i64 s.promises[j].value.code, .int .i64 s.promises[j].value.env] rfl ⟨F1, n1, F2, n2, F3, n3, F4, n4, F5, n5, fun _ => 4, rfl, trivial, j0, j1, j2, VecO.mono ov (fun b h => ⟨⟨by have := h.1; omega, by have := h.2; omega⟩, rfl⟩)⟩
          rw [List.length_take, Nat.min_eq_left hj] at hown hpush
          have HPU := Lib.hid hpush
          have HCV := Lib.hid csv
          have HBV := Lib.hid hbV
          have hsz := csv.top
          have y1 := csv.o.cell 1 _ rfl
          have p0 := bpv.cell 0 _ rfl
          have p1 := bpv.cell 1 _ rfl
          have p2 := bpv.cell 2 _ rfl
          have p3 := bpv.cell 3 _ rfl
          have p4 := bpv.cell 4 _ rfl
          have p5 := bpv.cell 5 _ rfl
          have p6 := bpv.cell 6 _ rfl
          have p7 := bpv.cell 7 _ rfl
          have p8 := bpv.cell 8 _ rfl
          have p9 := bpv.cell 9 _ rfl
          have p10 := bpv.cell 10 _ rfl
          have p11 := bpv.cell 11 _ rfl
          clear hpush csv bpv hbV ov
          go_wp2_with (at_builtin; go_must (refine wpList_push rfl _ _ 31 rfl wA.heap.size 74 (.agg #[.bool false, .int .i64 0, .int .i64 0, .int .i64 0, .int .i64 0, .slice none 0 0, .slice none 0 0, .slice none 0 0, .slice none 0 0, .slice none 0 0, .int .i64 0, .int .i64 0]) 12 176 Tryz.underlying31 info_Promise rfl (by decide) _ _ _ _ _ rfl rfl (by exact hown) rfl (by simp [Value.oneCell']) (by omega) (by omega) hsz ?_); intro v1 w3 ho3 hg3 hbk3 hb3; obtain ⟨A9, c9, rfl⟩ := own_shapeC ho3; clear y1; have CV3 := Lib.hid (HCV.out.stepB hb3); have y1 := CV3.out.o.cell 1 _ rfl; have f1 := CV3.out.o.frozen 1)
          go_roundw
          case rel =>
            have hp3 := HPU.out _ _ ho3 hg3 hbk3
            rw [← List.take_succ_eq_append_getElem hlt] at hp3
            refine ⟨j + 1, A9, c9, by omega, by go_num, CV3.out.put1, ?_, ?_⟩
            · exact EnvsO.keeps (EnvsO.keeps (EnvsO.keeps HEO.out (Keeps.of_below _ HBV.out)) ⟨hb3.size, fun b _ hs => hb3.block b hs.2⟩) ((Keeps.refl _ _).sc (fun h => by have := h.1; omega) _)
            · exact PromisesO.mono (PromisesO.keeps (show PromisesO _ _ _ _ from hp3) ((Keeps.refl _ _).sc (fun h => by have := h.1; omega) _)) (fun b h => ⟨h.1, by simpa [World.setCell] using h.2⟩)
          case measure => simp [intOf]; omega
        · obtain rfl : j = s.promises.length := by omega
          rw [List.take_length] at HO
          have HB := Lib.hid HT.out.below
          have y0 := HT.out.o.cell 0 _ rfl
          have y1 := HT.out.o.cell 1 _ rfl
          have r0 := HT.out.r.cell 0 _ rfl
          have r1 := HT.out.r.cell 1 _ rfl
          have z0 := HT.out.r.frozen 0
          have z1 := HT.out.r.frozen 1
          go_wp2_with fail
          refine gen_w (G := fun V => Blk V (w.heap.size + 1) 33 [.slice U s.envs.length q, .slice U2 s.promises.length q2] ∧ Below w.heap.size w V ∧ wr.heap.size ≤ V.heap.size ∧ EnvsO (Rng B0 wA.heap.size) V (.slice U s.envs.length q) s.envs ∧ PromisesO (Rng wA.heap.size wr.heap.size) V (.slice U2 s.promises.length q2) s.promises)
            (show Ok _ _ from ⟨((HT.out.r.set_ 0 (.slice U s.envs.length q)).set_ 1 (.slice U2 s.promises.length q2)), (below_sc (b := w.heap.size + 1) (o := 1) (below_sc (b := w.heap.size + 1) (o := 0) HB.out (by omega) (.slice U s.envs.length q)) (by omega) (.slice U2 s.promises.length q2)), by simp [World.setCell], EnvsO.keeps HEO.out (((Keeps.refl _ wr).sc (b := w.heap.size + 1) (o := 0) (fun h => by have := h.1; omega) (.slice U s.envs.length q)).sc (b := w.heap.size + 1) (o := 1) (fun h => by have := h.1; omega) (.slice U2 s.promises.length q2)), PromisesO.keeps HO.out (((Keeps.refl _ wr).sc (b := w.heap.size + 1) (o := 0) (fun h => by have := h.1; omega) (.slice U s.envs.length q)).sc (b := w.heap.size + 1) (o := 1) (fun h => by have := h.1; omega) (.slice U2 s.promises.length q2))⟩) ?_
          clear HB y0 y1 r0 r1 z0 z1
          rintro V ⟨hbl, hbv, hwv, o2, o3⟩
          have HV := Lib.hid (show StoreO (Rng w.heap.size V.heap.size) V [.slice U s.envs.length q, .slice U2 s.promises.length q2] s from ⟨U, q, U2, q2, fun b => if b < wA.heap.size then 0 else 1, rfl,
            EnvsO.mono o2 (fun b h => ⟨⟨by have := h.1; omega, by have := h.2; omega⟩, if_pos h.2⟩),
            PromisesO.mono o3 (fun b h => ⟨⟨by have := h.1; omega, by have := h.2; omega⟩, if_neg (by have := h.1; omega)⟩)⟩)
          have HBV := Lib.hid hbv
          have y0 := hbl.cell 0 _ rfl
          have y1 := hbl.cell 1 _ rfl
          clear o2 o3 hbv hbl
          refine bodyPost_ret (v := .agg #[.slice U s.envs.length q, .slice U2 s.promises.length q2]) (by simp [results, Tryz.results70, go_sem, y0, y1]) rfl ?_
          exact ⟨_, rfl, HV.out, HBV.out⟩
end Go.Proofs.YtejieacdfjpfnaaGreat
