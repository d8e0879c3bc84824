/-
  Merged texts: Sweep, SweepW.
-/
import Derived.Test.YtejieacdfjpfnaaGreatL27
import Derived.Test.YtejieacdfjpfnaaGreatStDef
import Derived.Test.YtejieacdfjpfnaaGreatKGood
namespace Go.Proofs.YtejieacdfjpfnaaGreat
set_option maxRecDepth 100000
set_option maxRecDepth 100000
open Go.ChangeShapes Go.WideShapes Go.ChangeAt Go.RowKit Go.Deep
set_option linter.unusedVariables false
set_option maxRecDepth 100000

def zEn : EnvD := ⟨false, 0, [], []⟩
def zPr : PromD := ⟨false, 0, 0, 0, zD⟩
theorem zEn_own (w : World) : EnvO (fun _ => False) w [.bool false, .int .i64 0, .slice none 0 0, .slice none 0 0] zEn := ⟨none, 0, none, 0, fun _ => 0, rfl, trivial, by unfold zEn I64; simp, ⟨FlO.nil_ _ _ _ _, fun _ h => by cases h⟩, SlO.nil_ _ _ _ _ _⟩
theorem zPr_own (w : World) : PromiseO (fun _ => False) w [.bool false, .int .i64 0, .int .i64 0, .int .i64 0, .int .i64 0, .slice none 0 0, .slice none 0 0, .slice none 0 0, .slice none 0 0, .slice none 0 0, .int .i64 0, .int .i64 0] zPr := ⟨none, 0, none, 0, none, 0, none, 0, none, 0, fun _ => 0, rfl, trivial, by unfold zPr I64; simp, by unfold zPr I64; simp, by unfold zPr I64; simp, zeroOD _ _⟩
/-- the first k are swept -/
def sw {α : Type} (z : α) (E : List Bool) : Nat → List α → List α
  | 0, l => l
  | k + 1, l => if gB E k = true then sw z E k l else (sw z E k l).set k z
theorem sw_len {α : Type} (z : α) (E : List Bool) (k : Nat) (l : List α) : (sw z E k l).length = l.length := by
  induction k with
  | zero => rfl
  | succ k ih => unfold sw; split <;> simp [ih]
def colS (s : StoreD) (E P : List Bool) : StoreD := ⟨sw zEn E s.envs.length s.envs, sw zPr P s.promises.length s.promises⟩
theorem SlO.put {α : Type} {S : Nat → Prop} {w : World} {e : TypeId} {size : Nat} {RO : (Nat → Prop) → World → List Value → α → Prop} {v : Value} {l : List α}
    (hRK : ∀ {T : Nat → Prop} {w w' : World} {cs : List Value} {x : α}, RO T w cs x → Keeps T w w' → RO T w' cs x)
    (hRM : ∀ {T T' : Nat → Prop} {w : World} {cs : List Value} {x : α}, RO T w cs x → (∀ b, T b → T' b) → RO T' w cs x)
    (h : SlO S w e size RO v l) (k : Nat) (hk : k < l.length) (cs' : List Value) (x' : α) (hc : cs'.length = size) (hx : ∀ w, RO (fun _ => False) w cs' x') :
    ∃ (g cap : Nat) (pre rest ys : List Value), v = .slice (some ⟨g, 0, none⟩) l.length cap ∧ S g ∧ pre.length = k * size ∧ ys.length = size ∧ Blk w g e (pre ++ ys ++ rest) ∧
      ∀ w', Blk w' g e (pre ++ cs' ++ rest) → Keeps (fun b => S b ∧ b ≠ g) w w' → SlO S w' e size RO v (l.set k x') := by
  obtain ⟨g, cap, f, post, ys, rfl, hcap, hmax, hpost, hm⟩ := SlO.notnil h hk
  obtain ⟨hy, pre, rest, hpre, hblk, hset, ho⟩ := hm.at_ k hk
  refine ⟨g, cap, pre, rest, ys[k], rfl, hm.own.1, hpre, (hm.elem k hy hk).1, hblk, fun w' hb' hK => ?_⟩
  obtain ⟨f', hm'⟩ := MidO.updateD (RO := RO) (w' := w') (fun h k => hRK h k) (fun h k => hRM h k) hm k hk cs' x' hc (T := fun _ => False) (N := fun _ => False) (by rw [← hset]; exact hb') (hx w') (fun b hb => hb.elim) (fun _ _ h => h) (hK.mono fun b hb => ⟨hb.1, hb.2.1⟩)
  have := hm'.back (cap := cap) (by simpa using hcap) hmax (by simpa using hpost)
  have := SlO.mono (S' := S) (fun _ h k => hRM h k) this (fun b hb => hb.elim id (fun h => h.elim))
  simpa using this

structure CW (w : World) (lo r6 ge gp : Nat) (cs : List Value) (E P : List Bool) (d : StoreD) (W : World) : Prop where
  b6 : Blk W r6 33 cs
  o : StoreO (Rng lo r6) W cs d
  bE : Blk W ge 4 (bls E)
  bP : Blk W gp 4 (bls P)
  kp : Keeps (fun b => ¬ Rng lo r6 b) w W
  b0 : Below 0 w W

set_option maxHeartbeats 1000000 in
theorem CW.clearE {w : World} {lo r6 ge gp n m c0 c1 : Nat} {C0 C1 : Option Addr} {E P : List Bool} {d : StoreD} {W : World} (h : CW w lo r6 ge gp [.slice C0 n c0, .slice C1 m c1] E P d W) (hn : d.envs.length = n) (k : Nat) (hk : k < n) (hge : ¬ Rng lo r6 ge) (hgp : ¬ Rng lo r6 gp) :
    ∃ (g : Nat) (u0 u1 u2 u3 : Value), C0 = some ⟨g, 0, none⟩ ∧ (W.cell? ⟨g, k * 4, none⟩ = some u0 ∧ W.cell? ⟨g, k * 4 + 1, none⟩ = some u1 ∧ W.cell? ⟨g, k * 4 + 2, none⟩ = some u2 ∧ W.cell? ⟨g, k * 4 + 3, none⟩ = some u3) ∧ (W.frozen? ⟨g, k * 4, none⟩ = false ∧ W.frozen? ⟨g, k * 4 + 1, none⟩ = false ∧ W.frozen? ⟨g, k * 4 + 2, none⟩ = false ∧ W.frozen? ⟨g, k * 4 + 3, none⟩ = false) ∧ CW w lo r6 ge gp [.slice C0 n c0, .slice C1 m c1] E P ⟨d.envs.set k zEn, d.promises⟩ ((((W.setCell ⟨g, k * 4, none⟩ (.bool false)).setCell ⟨g, k * 4 + 1, none⟩ (.int .i64 0)).setCell ⟨g, k * 4 + 2, none⟩ (.slice none 0 0)).setCell ⟨g, k * 4 + 3, none⟩ (.slice none 0 0)) := by
  obtain ⟨A0, a0, A1, a1, f, he, o0, o1⟩ := h.o
  simp only [List.cons.injEq, Value.slice.injEq, and_true] at he
  obtain ⟨⟨rfl, hl0, rfl⟩, rfl, hl1, rfl⟩ := he
  obtain ⟨g, cap, pre, rest, ys, hv, hg, hpre, hys, hblk, hcl⟩ := SlO.put (fun h k => h.keeps k) (fun h k => h.mono k) (show SlO _ W 71 4 EnvO _ d.envs from o0) k (by omega) [.bool false, .int .i64 0, .slice none 0 0, .slice none 0 0] zEn rfl zEn_own
  injection hv with hv1 hv2 hv3
  subst hv1 hv3
  match ys, hys with
  | [u0, u1, u2, u3], _ =>
    have s0 := hblk.mid_set hpre 0 (.bool false) (by simp)
    have s1 := s0.mid_set hpre 1 (.int .i64 0) (by simp)
    have s2 := s1.mid_set hpre 2 (.slice none 0 0) (by simp)
    have s3 := s2.mid_set hpre 3 (.slice none 0 0) (by simp)
    have hgr : Rng lo r6 g := hg.1
    have hB : Blk ((((W.setCell ⟨g, k * 4, none⟩ (.bool false)).setCell ⟨g, k * 4 + 1, none⟩ (.int .i64 0)).setCell ⟨g, k * 4 + 2, none⟩ (.slice none 0 0)).setCell ⟨g, k * 4 + 3, none⟩ (.slice none 0 0)) g 71 (pre ++ [.bool false, .int .i64 0, .slice none 0 0, .slice none 0 0] ++ rest) := by simpa using s3
    have kS : ∀ S : Nat → Prop, ¬ S g → Keeps S W ((((W.setCell ⟨g, k * 4, none⟩ (.bool false)).setCell ⟨g, k * 4 + 1, none⟩ (.int .i64 0)).setCell ⟨g, k * 4 + 2, none⟩ (.slice none 0 0)).setCell ⟨g, k * 4 + 3, none⟩ (.slice none 0 0)) := fun S hS => (((((Keeps.refl _ _).sc (b := g) (o := k * 4) (hS) (.bool false)).sc (b := g) (o := k * 4 + 1) (hS) (.int .i64 0)).sc (b := g) (o := k * 4 + 2) (hS) (.slice none 0 0)).sc (b := g) (o := k * 4 + 3) (hS) (.slice none 0 0))
    refine ⟨g, u0, u1, u2, u3, rfl, ⟨by simpa using hblk.mid hpre 0 _ rfl, by simpa using hblk.mid hpre 1 _ rfl, by simpa using hblk.mid hpre 2 _ rfl, by simpa using hblk.mid hpre 3 _ rfl⟩, ⟨hblk.frozen _, hblk.frozen _, hblk.frozen _, hblk.frozen _⟩, ?_⟩
    refine ⟨h.b6.keeps (kS (fun b => b ≠ g) (fun h => h rfl)) (fun e => by have := hgr.2; omega), ?_, h.bE.keeps (kS (fun b => b ≠ g) (fun h => h rfl)) (fun e => hge (e ▸ hgr)), h.bP.keeps (kS (fun b => b ≠ g) (fun h => h rfl)) (fun e => hgp (e ▸ hgr)), h.kp.trans (kS _ (fun h => h hgr)), (below_sc (b := g) (o := k * 4 + 3) (below_sc (b := g) (o := k * 4 + 2) (below_sc (b := g) (o := k * 4 + 1) (below_sc (b := g) (o := k * 4) h.b0 (Nat.zero_le _) (.bool false)) (Nat.zero_le _) (.int .i64 0)) (Nat.zero_le _) (.slice none 0 0)) (Nat.zero_le _) (.slice none 0 0))⟩
    refine ⟨some ⟨g, 0, none⟩, c0, C1, c1, f, by simp [hl0, hl1], ?_, PromisesO.keeps o1 (kS _ fun h => by have h1 := h.2; have h2 := hg.2; omega)⟩
    have h8 := hcl _ hB (kS _ fun h => h.2 rfl)
    simpa using (show EnvsO _ _ _ _ from h8)

set_option maxHeartbeats 1000000 in
theorem CW.clearP {w : World} {lo r6 ge gp n m c0 c1 : Nat} {C0 C1 : Option Addr} {E P : List Bool} {d : StoreD} {W : World} (h : CW w lo r6 ge gp [.slice C0 n c0, .slice C1 m c1] E P d W) (hn : d.promises.length = m) (k : Nat) (hk : k < m) (hge : ¬ Rng lo r6 ge) (hgp : ¬ Rng lo r6 gp) :
    ∃ (g : Nat) (u0 u1 u2 u3 u4 u5 u6 u7 u8 u9 u10 u11 : Value), C1 = some ⟨g, 0, none⟩ ∧ (W.cell? ⟨g, k * 12, none⟩ = some u0 ∧ W.cell? ⟨g, k * 12 + 1, none⟩ = some u1 ∧ W.cell? ⟨g, k * 12 + 2, none⟩ = some u2 ∧ W.cell? ⟨g, k * 12 + 3, none⟩ = some u3 ∧ W.cell? ⟨g, k * 12 + 4, none⟩ = some u4 ∧ W.cell? ⟨g, k * 12 + 5, none⟩ = some u5 ∧ W.cell? ⟨g, k * 12 + 6, none⟩ = some u6 ∧ W.cell? ⟨g, k * 12 + 7, none⟩ = some u7 ∧ W.cell? ⟨g, k * 12 + 8, none⟩ = some u8 ∧ W.cell? ⟨g, k * 12 + 9, none⟩ = some u9 ∧ W.cell? ⟨g, k * 12 + 10, none⟩ = some u10 ∧ W.cell? ⟨g, k * 12 + 11, none⟩ = some u11) ∧ (W.frozen? ⟨g, k * 12, none⟩ = false ∧ W.frozen? ⟨g, k * 12 + 1, none⟩ = false ∧ W.frozen? ⟨g, k * 12 + 2, none⟩ = false ∧ W.frozen? ⟨g, k * 12 + 3, none⟩ = false ∧ W.frozen? ⟨g, k * 12 + 4, none⟩ = false ∧ W.frozen? ⟨g, k * 12 + 5, none⟩ = false ∧ W.frozen? ⟨g, k * 12 + 6, none⟩ = false ∧ W.frozen? ⟨g, k * 12 + 7, none⟩ = false ∧ W.frozen? ⟨g, k * 12 + 8, none⟩ = false ∧ W.frozen? ⟨g, k * 12 + 9, none⟩ = false ∧ W.frozen? ⟨g, k * 12 + 10, none⟩ = false ∧ W.frozen? ⟨g, k * 12 + 11, none⟩ = false) ∧ CW w lo r6 ge gp [.slice C0 n c0, .slice C1 m c1] E P ⟨d.envs, d.promises.set k zPr⟩ ((((((((((((W.setCell ⟨g, k * 12, none⟩ (.bool false)).setCell ⟨g, k * 12 + 1, none⟩ (.int .i64 0)).setCell ⟨g, k * 12 + 2, none⟩ (.int .i64 0)).setCell ⟨g, k * 12 + 3, none⟩ (.int .i64 0)).setCell ⟨g, k * 12 + 4, none⟩ (.int .i64 0)).setCell ⟨g, k * 12 + 5, none⟩ (.slice none 0 0)).setCell ⟨g, k * 12 + 6, none⟩ (.slice none 0 0)).setCell ⟨g, k * 12 + 7, none⟩ (.slice none 0 0)).setCell ⟨g, k * 12 + 8, none⟩ (.slice none 0 0)).setCell ⟨g, k * 12 + 9, none⟩ (.slice none 0 0)).setCell ⟨g, k * 12 + 10, none⟩ (.int .i64 0)).setCell ⟨g, k * 12 + 11, none⟩ (.int .i64 0)) := by
  obtain ⟨A0, a0, A1, a1, f, he, o0, o1⟩ := h.o
  simp only [List.cons.injEq, Value.slice.injEq, and_true] at he
  obtain ⟨⟨rfl, hl0, rfl⟩, rfl, hl1, rfl⟩ := he
  obtain ⟨g, cap, pre, rest, ys, hv, hg, hpre, hys, hblk, hcl⟩ := SlO.put (fun h k => h.keeps k) (fun h k => h.mono k) (show SlO _ W 74 12 PromiseO _ d.promises from o1) k (by omega) [.bool false, .int .i64 0, .int .i64 0, .int .i64 0, .int .i64 0, .slice none 0 0, .slice none 0 0, .slice none 0 0, .slice none 0 0, .slice none 0 0, .int .i64 0, .int .i64 0] zPr rfl zPr_own
  injection hv with hv1 hv2 hv3
  subst hv1 hv3
  match ys, hys with
  | [u0, u1, u2, u3, u4, u5, u6, u7, u8, u9, u10, u11], _ =>
    have s0 := hblk.mid_set hpre 0 (.bool false) (by simp)
    have s1 := s0.mid_set hpre 1 (.int .i64 0) (by simp)
    have s2 := s1.mid_set hpre 2 (.int .i64 0) (by simp)
    have s3 := s2.mid_set hpre 3 (.int .i64 0) (by simp)
    have s4 := s3.mid_set hpre 4 (.int .i64 0) (by simp)
    have s5 := s4.mid_set hpre 5 (.slice none 0 0) (by simp)
    have s6 := s5.mid_set hpre 6 (.slice none 0 0) (by simp)
    have s7 := s6.mid_set hpre 7 (.slice none 0 0) (by simp)
    have s8 := s7.mid_set hpre 8 (.slice none 0 0) (by simp)
    have s9 := s8.mid_set hpre 9 (.slice none 0 0) (by simp)
    have s10 := s9.mid_set hpre 10 (.int .i64 0) (by simp)
    have s11 := s10.mid_set hpre 11 (.int .i64 0) (by simp)
    have hgr : Rng lo r6 g := hg.1
    have hB : Blk ((((((((((((W.setCell ⟨g, k * 12, none⟩ (.bool false)).setCell ⟨g, k * 12 + 1, none⟩ (.int .i64 0)).setCell ⟨g, k * 12 + 2, none⟩ (.int .i64 0)).setCell ⟨g, k * 12 + 3, none⟩ (.int .i64 0)).setCell ⟨g, k * 12 + 4, none⟩ (.int .i64 0)).setCell ⟨g, k * 12 + 5, none⟩ (.slice none 0 0)).setCell ⟨g, k * 12 + 6, none⟩ (.slice none 0 0)).setCell ⟨g, k * 12 + 7, none⟩ (.slice none 0 0)).setCell ⟨g, k * 12 + 8, none⟩ (.slice none 0 0)).setCell ⟨g, k * 12 + 9, none⟩ (.slice none 0 0)).setCell ⟨g, k * 12 + 10, none⟩ (.int .i64 0)).setCell ⟨g, k * 12 + 11, none⟩ (.int .i64 0)) g 74 (pre ++ [.bool false, .int .i64 0, .int .i64 0, .int .i64 0, .int .i64 0, .slice none 0 0, .slice none 0 0, .slice none 0 0, .slice none 0 0, .slice none 0 0, .int .i64 0, .int .i64 0] ++ rest) := by simpa using s11
    have kS : ∀ S : Nat → Prop, ¬ S g → Keeps S W ((((((((((((W.setCell ⟨g, k * 12, none⟩ (.bool false)).setCell ⟨g, k * 12 + 1, none⟩ (.int .i64 0)).setCell ⟨g, k * 12 + 2, none⟩ (.int .i64 0)).setCell ⟨g, k * 12 + 3, none⟩ (.int .i64 0)).setCell ⟨g, k * 12 + 4, none⟩ (.int .i64 0)).setCell ⟨g, k * 12 + 5, none⟩ (.slice none 0 0)).setCell ⟨g, k * 12 + 6, none⟩ (.slice none 0 0)).setCell ⟨g, k * 12 + 7, none⟩ (.slice none 0 0)).setCell ⟨g, k * 12 + 8, none⟩ (.slice none 0 0)).setCell ⟨g, k * 12 + 9, none⟩ (.slice none 0 0)).setCell ⟨g, k * 12 + 10, none⟩ (.int .i64 0)).setCell ⟨g, k * 12 + 11, none⟩ (.int .i64 0)) := fun S hS => (((((((((((((Keeps.refl _ _).sc (b := g) (o := k * 12) (hS) (.bool false)).sc (b := g) (o := k * 12 + 1) (hS) (.int .i64 0)).sc (b := g) (o := k * 12 + 2) (hS) (.int .i64 0)).sc (b := g) (o := k * 12 + 3) (hS) (.int .i64 0)).sc (b := g) (o := k * 12 + 4) (hS) (.int .i64 0)).sc (b := g) (o := k * 12 + 5) (hS) (.slice none 0 0)).sc (b := g) (o := k * 12 + 6) (hS) (.slice none 0 0)).sc (b := g) (o := k * 12 + 7) (hS) (.slice none 0 0)).sc (b := g) (o := k * 12 + 8) (hS) (.slice none 0 0)).sc (b := g) (o := k * 12 + 9) (hS) (.slice none 0 0)).sc (b := g) (o := k * 12 + 10) (hS) (.int .i64 0)).sc (b := g) (o := k * 12 + 11) (hS) (.int .i64 0))
    refine ⟨g, u0, u1, u2, u3, u4, u5, u6, u7, u8, u9, u10, u11, rfl, ⟨by simpa using hblk.mid hpre 0 _ rfl, by simpa using hblk.mid hpre 1 _ rfl, by simpa using hblk.mid hpre 2 _ rfl, by simpa using hblk.mid hpre 3 _ rfl, by simpa using hblk.mid hpre 4 _ rfl, by simpa using hblk.mid hpre 5 _ rfl, by simpa using hblk.mid hpre 6 _ rfl, by simpa using hblk.mid hpre 7 _ rfl, by simpa using hblk.mid hpre 8 _ rfl, by simpa using hblk.mid hpre 9 _ rfl, by simpa using hblk.mid hpre 10 _ rfl, by simpa using hblk.mid hpre 11 _ rfl⟩, ⟨hblk.frozen _, hblk.frozen _, hblk.frozen _, hblk.frozen _, hblk.frozen _, hblk.frozen _, hblk.frozen _, hblk.frozen _, hblk.frozen _, hblk.frozen _, hblk.frozen _, hblk.frozen _⟩, ?_⟩
    refine ⟨h.b6.keeps (kS (fun b => b ≠ g) (fun h => h rfl)) (fun e => by have := hgr.2; omega), ?_, h.bE.keeps (kS (fun b => b ≠ g) (fun h => h rfl)) (fun e => hge (e ▸ hgr)), h.bP.keeps (kS (fun b => b ≠ g) (fun h => h rfl)) (fun e => hgp (e ▸ hgr)), h.kp.trans (kS _ (fun h => h hgr)), (below_sc (b := g) (o := k * 12 + 11) (below_sc (b := g) (o := k * 12 + 10) (below_sc (b := g) (o := k * 12 + 9) (below_sc (b := g) (o := k * 12 + 8) (below_sc (b := g) (o := k * 12 + 7) (below_sc (b := g) (o := k * 12 + 6) (below_sc (b := g) (o := k * 12 + 5) (below_sc (b := g) (o := k * 12 + 4) (below_sc (b := g) (o := k * 12 + 3) (below_sc (b := g) (o := k * 12 + 2) (below_sc (b := g) (o := k * 12 + 1) (below_sc (b := g) (o := k * 12) h.b0 (Nat.zero_le _) (.bool false)) (Nat.zero_le _) (.int .i64 0)) (Nat.zero_le _) (.int .i64 0)) (Nat.zero_le _) (.int .i64 0)) (Nat.zero_le _) (.int .i64 0)) (Nat.zero_le _) (.slice none 0 0)) (Nat.zero_le _) (.slice none 0 0)) (Nat.zero_le _) (.slice none 0 0)) (Nat.zero_le _) (.slice none 0 0)) (Nat.zero_le _) (.slice none 0 0)) (Nat.zero_le _) (.int .i64 0)) (Nat.zero_le _) (.int .i64 0))⟩
    refine ⟨C0, c0, some ⟨g, 0, none⟩, c1, f, by simp [hl0, hl1], EnvsO.keeps o0 (kS _ fun h => by have h1 := h.2; have h2 := hg.2; omega), ?_⟩
    have h8 := hcl _ hB (kS _ fun h => h.2 rfl)
    simpa using (show PromisesO _ _ _ _ from h8)
end Go.Proofs.YtejieacdfjpfnaaGreat
namespace Go.Proofs.YtejieacdfjpfnaaGreat
set_option maxRecDepth 100000
open Go.ChangeShapes Go.WideShapes Go.ChangeAt Go.RowKit Go.Deep
set_option linter.unusedVariables false
set_option maxRecDepth 100000

theorem sw_yes {α : Type} {z : α} {E : List Bool} {k : Nat} {l : List α} (h : gB E k = true) : sw z E (k + 1) l = sw z E k l := by rw [sw, if_pos h]
theorem sw_no {α : Type} {z : α} {E : List Bool} {k : Nat} {l : List α} (h : gB E k = false) : sw z E (k + 1) l = (sw z E k l).set k z := by rw [sw, if_neg (by simp [h])]

set_option maxHeartbeats 8000000 in
theorem spec_l27Sweep (s : StoreD) (E P : List Bool) (ge gp lo r6 : Nat) (C0 C1 : Option Addr) (c0 c1 : Nat) (w : World) (hb6 : Blk w r6 33 [.slice C0 s.envs.length c0, .slice C1 s.promises.length c1]) (ho : StoreO (Rng lo r6) w [.slice C0 s.envs.length c0, .slice C1 s.promises.length c1] s) (hE : Blk w ge 4 (bls E)) (hP : Blk w gp 4 (bls P)) (hge : ¬ Rng lo r6 ge) (hgp : ¬ Rng lo r6 gp)
    (hEl : E.length = s.envs.length) (hPl : P.length = s.promises.length) (hz : szStore s ≤ 600000000000) :
    Calls Tryz.prog 88 #[.pointer (some ⟨r6, 0, none⟩), .slice (some ⟨ge, 0, none⟩) s.envs.length s.envs.length, .slice (some ⟨gp, 0, none⟩) s.promises.length s.promises.length] w fun e w' => e = .returned (.tuple #[]) ∧ CW w lo r6 ge gp [.slice C0 s.envs.length c0, .slice C1 s.promises.length c1] E P (colS s E P) w' := by
  have hzE : s.envs.length ≤ 600000000000 := by unfold szStore at hz; have := szS_length szEnv s.envs; omega
  have hzP : s.promises.length ≤ 600000000000 := by unfold szStore at hz; have := szS_length szPromise s.promises; omega
  have HX := Lib.hid (show CW w lo r6 ge gp [.slice C0 s.envs.length c0, .slice C1 s.promises.length c1] E P ⟨sw zEn E 0 s.envs, s.promises⟩ w from ⟨hb6, ho, hE, hP, Keeps.refl _ _, Below.refl _ _⟩)
  clear hb6 ho hE hP hz
  go_enter Tryz.func88, Tryz.ntmps88
  go_wp2_with fail
  go_loopw [6] (fun i wr => ∃ k : Nat, k ≤ s.envs.length ∧ i = .int .i64 k ∧ Hid (CW w lo r6 ge gp [.slice C0 s.envs.length c0, .slice C1 s.promises.length c1] E P ⟨sw zEn E (k) s.envs, s.promises⟩ wr)) (fun i _ => s.envs.length - (intOf i).toNat)
  case atStart => exact ⟨0, Nat.zero_le _, rfl, HX.out⟩
  case round =>
    clear HX
    obtain ⟨k, hk, rfl, HX⟩ := hrel
    have x0 := HX.out.b6.cell 0 _ rfl
    have x1 := HX.out.b6.cell 1 _ rfl
    by_cases hlt : k < s.envs.length
    · have q0 := HX.out.bE.cell k _ (bls_get _ k (by omega))
      cases hg : gB E k
      · have HN := Lib.hid (sw_no (z := zEn) (l := s.envs) hg)
        rw [hg] at q0
        clear hg
        obtain ⟨g, u0, u1, u2, u3, rfl, ⟨y0, y1, y2, y3⟩, ⟨f0, f1, f2, f3⟩, hc⟩ := HX.out.clearE (by show (sw _ _ _ _).length = _; rw [sw_len]) k hlt hge hgp
        have HX2 := Lib.hid hc
        clear hc
        go_wp2_with fail
        clear HX x0 x1 q0 y0 y1 y2 y3 f0 f1 f2 f3
        go_roundw
        case rel => first | exact ⟨k + 1, by omega, by go_num, by rw [HN.out]; exact HX2.out⟩ | ((repeat apply Exists.intro); exact ⟨⟨k + 1, by omega, by go_num, by rw [HN.out]; exact HX2.out⟩, rfl⟩)
        case measure => simp [intOf]; omega
      · have HN := Lib.hid (sw_yes (z := zEn) (l := s.envs) hg)
        rw [hg] at q0
        clear hg
        go_wp2_with fail
        go_roundw
        case rel => first | exact ⟨k + 1, by omega, by go_num, by rw [HN.out]; exact HX.out⟩ | ((repeat apply Exists.intro); exact ⟨⟨k + 1, by omega, by go_num, by rw [HN.out]; exact HX.out⟩, rfl⟩)
        case measure => simp [intOf]; omega
    · obtain rfl : k = s.envs.length := by omega
      clear hlt hk
      go_wp2_with fail
      go_loopw [7] (fun i wr => ∃ k : Nat, k ≤ s.promises.length ∧ i = .int .i64 k ∧ Hid (CW w lo r6 ge gp [.slice C0 s.envs.length c0, .slice C1 s.promises.length c1] E P ⟨sw zEn E s.envs.length s.envs, sw zPr P (k) s.promises⟩ wr)) (fun i _ => s.promises.length - (intOf i).toNat)
      case atStart => exact ⟨0, Nat.zero_le _, rfl, HX.out⟩
      case round =>
        clear HX
        obtain ⟨k, hk, rfl, HX⟩ := hrel
        have x0 := HX.out.b6.cell 0 _ rfl
        have x1 := HX.out.b6.cell 1 _ rfl
        by_cases hlt : k < s.promises.length
        · have q0 := HX.out.bP.cell k _ (bls_get _ k (by omega))
          cases hg : gB P k
          · have HN := Lib.hid (sw_no (z := zPr) (l := s.promises) hg)
            rw [hg] at q0
            clear hg
            obtain ⟨g, u0, u1, u2, u3, u4, u5, u6, u7, u8, u9, u10, u11, rfl, ⟨y0, y1, y2, y3, y4, y5, y6, y7, y8, y9, y10, y11⟩, ⟨f0, f1, f2, f3, f4, f5, f6, f7, f8, f9, f10, f11⟩, hc⟩ := HX.out.clearP (by show (sw _ _ _ _).length = _; rw [sw_len]) k hlt hge hgp
            have HX2 := Lib.hid hc
            clear hc
            go_wp2_with fail
            clear HX x0 x1 q0 y0 y1 y2 y3 y4 y5 y6 y7 y8 y9 y10 y11 f0 f1 f2 f3 f4 f5 f6 f7 f8 f9 f10 f11
            go_roundw
            case rel => first | exact ⟨k + 1, by omega, by go_num, by rw [HN.out]; exact HX2.out⟩ | ((repeat apply Exists.intro); exact ⟨⟨k + 1, by omega, by go_num, by rw [HN.out]; exact HX2.out⟩, rfl⟩)
            case measure => simp [intOf]; omega
          · have HN := Lib.hid (sw_yes (z := zPr) (l := s.promises) hg)
            rw [hg] at q0
            clear hg
            go_wp2_with fail
            go_roundw
            case rel => first | exact ⟨k + 1, by omega, by go_num, by rw [HN.out]; exact HX.out⟩ | ((repeat apply Exists.intro); exact ⟨⟨k + 1, by omega, by go_num, by rw [HN.out]; exact HX.out⟩, rfl⟩)
            case measure => simp [intOf]; omega
        · obtain rfl : k = s.promises.length := by omega
          clear hlt hk
          go_wp2_with fail
          refine bodyPost_end (v := .tuple #[]) (by kernel_rfl) rfl ?_
          exact ⟨rfl, HX.out⟩
end Go.Proofs.YtejieacdfjpfnaaGreat
