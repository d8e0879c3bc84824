/-
  Contracts: what the laws of stores draw: a store with an edit, a place in it.
-/
import Derived.Test.YtejieacdfjpfnaaGreatDrawStore
namespace Go.Proofs.YtejieacdfjpfnaaGreat
set_option maxRecDepth 100000
open Go.ChangeShapes Go.WideShapes Go.ChangeAt Go.RowKit Go.Deep
set_option linter.unusedVariables false

open Classical in
/-- one environment of a store, opened and closed again with other names and slots -/
theorem env_editG {S : Nat → Prop} {w : World} {v : Value} {l : List EnvD} (h : EnvsO S w v l) (k : Nat) (hk : k < l.length) :
    ∃ (g cap : Nat) (pre rest : List Value) (N M : Option Addr) (n m : Nat) (SN SM : Nat → Prop), v = .slice (some ⟨g, 0, none⟩) l.length cap ∧ l.length ≤ cap ∧ cap ≤ maxLen ∧ S g ∧ pre.length = k * 4 ∧ I64 l[k].parent ∧
      Blk w g 71 (pre ++ [.bool l[k].used, .int .i64 l[k].parent, .slice N l[k].names.length n, .slice M l[k].slots.length m] ++ rest) ∧
      TxtO SN w (.slice N l[k].names.length n) l[k].names ∧ SlotsO SM w (.slice M l[k].slots.length m) l[k].slots ∧
      (∀ b, SN b → S b ∧ b ≠ g ∧ ¬ SM b) ∧ (∀ b, SM b → S b ∧ b ≠ g ∧ ¬ SN b) ∧
      ∀ (w' : World) (u' : Bool) (p' : Int) (N' M' : Option Addr) (n' m' : Nat) (ns : List (List UInt8)) (ss : List SlotD) (SN' SM' X : Nat → Prop),
        I64 p' → Blk w' g 71 (pre ++ [.bool u', .int .i64 p', .slice N' ns.length n', .slice M' ss.length m'] ++ rest) →
        TxtO SN' w' (.slice N' ns.length n') ns → SlotsO SM' w' (.slice M' ss.length m') ss → (∀ b, SN' b → (SN b ∨ SM b ∨ X b) ∧ ¬ SM' b) → (∀ b, SM' b → SN b ∨ SM b ∨ X b) → (∀ b, S b → ¬ X b) →
        Keeps (fun b => S b ∧ b ≠ g ∧ ¬ SN b ∧ ¬ SM b) w w' → EnvsO (fun b => S b ∨ X b) w' v (l.set k ⟨u', p', ns, ss⟩) := by
  obtain ⟨g, cap, f, post, ys, rfl, hcap, hmax, hpost, hm⟩ := SlO.notnil (show SlO S w 71 4 EnvO v l from h) hk
  obtain ⟨hy, pre, rest, hpre, hblk, hset, N, n, M, m, f2, hcs, _, hi64, oN, oM⟩ := hm.at_ k hk
  rw [hcs] at hblk
  refine ⟨g, cap, pre, rest, N, M, n, m, _, _, rfl, hcap, hmax, hm.own.1, hpre, hi64, hblk, oN, oM, fun b hb => ⟨hb.1.1, fun e => ?_, fun hb2 => ?_⟩, fun b hb => ⟨hb.1.1, fun e => ?_, fun hb2 => ?_⟩, fun w' u' p' N' M' n' m' ns ss SN' SM' X hp' hb' hN' hM' hSN hSM hX hK => ?_⟩
  · have := hb.1.2
    have := hm.own.2
    subst e
    omega
  · have := hb.2
    have := hb2.2
    omega
  · have := hb.1.2
    have := hm.own.2
    subst e
    omega
  · have := hb.2
    have := hb2.2
    omega
  · have hin : ∀ b, ((S b ∧ f b = k + 1) ∧ f2 b = 2) ∨ ((S b ∧ f b = k + 1) ∧ f2 b = 3) ∨ X b → (S b ∧ f b = k + 1) ∨ X b := fun b hb => by
      rcases hb with hb | hb | hb
      · exact .inl hb.1
      · exact .inl hb.1
      · exact .inr hb
    obtain ⟨f', hm'⟩ := MidO.updateD (w' := w') (fun h k => h.keeps k) (fun h k => h.mono k) hm k hk [.bool u', .int .i64 p', .slice N' ns.length n', .slice M' ss.length m'] ⟨u', p', ns, ss⟩ rfl (T := fun b => (S b ∧ f b = k + 1) ∨ X b) (N := X) (by rw [← hset]; exact hb')
      (show EnvO _ w' _ _ from ⟨N', n', M', m', fun b => if SM' b then 3 else 2, rfl, trivial, hp', TxtO.mono hN' (fun b hb => ⟨hin b (hSN b hb).1, if_neg (hSN b hb).2⟩), SlotsO.mono hM' (fun b hb => ⟨hin b (hSM b hb), if_pos hb⟩)⟩)
      (fun b hb => hb) hX (hK.mono fun b hb => ⟨hb.1, hb.2.1, fun h8 => hb.2.2 h8.1.2, fun h8 => hb.2.2 h8.1.2⟩)
    have := hm'.back (cap := cap) (by simpa using hcap) hmax (by simpa using hpost)
    simpa using (show EnvsO (fun b => S b ∨ X b) w' _ _ from this)


open Classical in
/-- one environment of a store, opened and closed again -/
theorem store_editG {w : World} {lo q r6 : Nat} {cs : List Value} {s : StoreD} (h : StoreO (fun b => Rng lo q b ∧ b ≠ r6) w cs s) (k : Nat) (hk : k < s.envs.length) (hlo : lo ≤ r6) (hr : r6 < w.heap.size) (hq : r6 < q) (hqs : q ≤ w.heap.size) :
    ∃ (g cap : Nat) (pre rest : List Value) (N M : Option Addr) (n m : Nat) (SN SM SP KS : Nat → Prop) (pv : Value), cs = [.slice (some ⟨g, 0, none⟩) s.envs.length cap, pv] ∧ s.envs.length ≤ cap ∧ cap ≤ maxLen ∧ pre.length = k * 4 ∧ I64 s.envs[k].parent ∧ DHm w lo q r6 g SN SM SP KS ∧
      Blk w g 71 (pre ++ [.bool s.envs[k].used, .int .i64 s.envs[k].parent, .slice N s.envs[k].names.length n, .slice M s.envs[k].slots.length m] ++ rest) ∧
      TxtO SN w (.slice N s.envs[k].names.length n) s.envs[k].names ∧ SlotsO SM w (.slice M s.envs[k].slots.length m) s.envs[k].slots ∧ PromisesO SP w pv s.promises ∧
      ∀ (w' : World) (u' : Bool) (p' : Int) (N' M' : Option Addr) (n' m' : Nat) (ns : List (List UInt8)) (ss : List SlotD) (SN' SM' : Nat → Prop), w.heap.size ≤ w'.heap.size →
        I64 p' → Blk w' g 71 (pre ++ [.bool u', .int .i64 p', .slice N' ns.length n', .slice M' ss.length m'] ++ rest) →
        TxtO SN' w' (.slice N' ns.length n') ns → SlotsO SM' w' (.slice M' ss.length m') ss → (∀ b, SN' b → (SN b ∨ SM b ∨ Rng q w'.heap.size b) ∧ ¬ SM' b) → (∀ b, SM' b → SN b ∨ SM b ∨ Rng q w'.heap.size b) →
        PromisesO SP w' pv s.promises → Keeps KS w w' → StoreO (fun b => Rng lo w'.heap.size b ∧ b ≠ r6) w' cs ⟨s.envs.set k ⟨u', p', ns, ss⟩, s.promises⟩ := by
  obtain ⟨A0, c0, A1, c1, f, rfl, o0, o1⟩ := h
  obtain ⟨g, cap, pre, rest, N, M, n, m, SN, SM, hv, hcap, hmax, hg, hpre, hi64, hblk, oN, oM, hSN, hSM, hcl⟩ := env_editG o0 k hk
  injection hv with hv1 _ hv2
  subst hv1 hv2
  refine ⟨g, c0, pre, rest, N, M, n, m, SN, SM, fun b => (Rng lo q b ∧ b ≠ r6) ∧ f b = 1, fun b => ((Rng lo q b ∧ b ≠ r6) ∧ f b = 0) ∧ b ≠ g ∧ ¬ SN b ∧ ¬ SM b, _, rfl, hcap, hmax, hpre, hi64, ⟨⟨hlo, hr, hq, hqs⟩, ⟨hg.1.1.1, hg.1.1.2, hg.1.2⟩, ?_, ?_, ?_, ?_⟩, hblk, oN, oM, o1, fun w' u' p' N' M' n' m' ns ss SN' SM' hsz hp' hb' hN' hM' hSN' hSM' hP' hK' => ?_⟩
  · intro b hb
    obtain ⟨h1, h2, h3⟩ := hSN b hb
    exact ⟨h1.1.1.1, ⟨h1.1.1.2, h1.1.2⟩, h2, h3⟩
  · intro b hb
    obtain ⟨h1, h2, h3⟩ := hSM b hb
    exact ⟨h1.1.1.1, ⟨h1.1.1.2, h1.1.2⟩, h2, h3⟩
  · intro b hb
    refine ⟨hb.1.1.1, ⟨hb.1.1.2, hb.1.2⟩, fun e => ?_, fun h => ?_, fun h => ?_⟩
    · have := hg.2; have := hb.2; subst e; omega
    · have := (hSN b h).1.2; have := hb.2; omega
    · have := (hSM b h).1.2; have := hb.2; omega
  · intro b hb
    exact ⟨hb.1.1.1.1, ⟨hb.1.1.1.2, hb.1.1.2⟩, hb.2⟩
  · have hE := hcl w' u' p' N' M' n' m' ns ss SN' SM' (Rng q w'.heap.size) hp' hb' hN' hM' hSN' hSM' (fun b hb hx => by have := hb.1.1.2; have := hx.1; omega) hK'
    have hrl : ∀ b, (Rng lo q b ∧ b ≠ r6) → Rng lo w'.heap.size b ∧ b ≠ r6 := fun b hb => ⟨⟨hb.1.1, by have := hb.1.2; omega⟩, hb.2⟩
    refine ⟨some ⟨g, 0, none⟩, c0, A1, c1, fun b => if (Rng lo q b ∧ b ≠ r6) ∧ f b = 1 then 1 else 0, by simp, ?_, PromisesO.mono hP' fun b hb => ⟨hrl b hb.1, if_pos hb⟩⟩
    refine (show EnvsO _ w' _ _ from ?_)
    have hE2 := EnvsO.mono (S' := fun b => (Rng lo w'.heap.size b ∧ b ≠ r6) ∧ (if (Rng lo q b ∧ b ≠ r6) ∧ f b = 1 then 1 else 0) = 0) hE fun b hb => by
      rcases hb with hb | hb
      · exact ⟨hrl b hb.1, if_neg (fun h => by have := h.2; have := hb.2; omega)⟩
      · exact ⟨⟨⟨by have := hb.1; omega, hb.2⟩, by have := hb.1; omega⟩, if_neg (fun h => by have := h.1.1.2; have := hb.1; omega)⟩
    simpa using hE2

/-- an environment of the store, opened -/
structure OX (g : Nat) (v : Value) (l : List Nat) (w : World) (r6 : Nat) (cs : List Value) (gE k : Nat) (pre rest : List Value) (SN SM SP KS : Nat → Prop) (pv : Value) (ps : List PromD) (W0 : World)
    (u : Bool) (p : Int) (N M : Option Addr) (nl n ml m : Nat) (ns : List (List UInt8)) (ss : List SlotD) (SN' SM' : Nat → Prop) (W : World) : Prop where
  bc : Ok (BC g v l w r6 cs) W
  row : Blk W gE 71 (pre ++ [.bool u, .int .i64 p, .slice N nl n, .slice M ml m] ++ rest)
  oN : TxtO SN' W (.slice N nl n) ns
  oM : SlotsO SM' W (.slice M ml m) ss
  oP : PromisesO SP W pv ps
  kp : Keeps KS W0 W
  hN : ∀ b, SN' b → (SN b ∨ Rng W0.heap.size W.heap.size b) ∧ ¬ SM' b
  hM : ∀ b, SM' b → SM b ∨ Rng W0.heap.size W.heap.size b
  i : I64 p
  nl : ns.length = nl
  ml : ss.length = ml
section
variable {g : Nat} {v : Value} {l : List Nat} {w : World} {r6 : Nat} {cs : List Value} {gE k : Nat} {pre rest : List Value} {SN SM SP KS : Nat → Prop} {pv : Value} {ps : List PromD} {W0 : World}
  {u : Bool} {p : Int} {N M : Option Addr} {nl n ml m : Nat} {ns : List (List UInt8)} {ss : List SlotD} {SN' SM' : Nat → Prop} {W W' : World}
theorem OX.lo (dh : DHm W0 (w.heap.size + 1) W0.heap.size r6 gE SN SM SP KS) (h : OX g v l w r6 cs gE k pre rest SN SM SP KS pv ps W0 u p N M nl n ml m ns ss SN' SM' W) :
    (∀ b, SN' b → w.heap.size + 1 ≤ b ∧ b < W.heap.size ∧ b ≠ r6 ∧ b ≠ gE) ∧ (∀ b, SM' b → w.heap.size + 1 ≤ b ∧ b < W.heap.size ∧ b ≠ r6 ∧ b ≠ gE) := by
  have hr := dh.r
  have hg := dh.g1
  have hk := h.kp.1
  refine ⟨fun b hb => ?_, fun b hb => ?_⟩
  · rcases (h.hN b hb).1 with h1 | h1
    · have := dh.N b h1; exact ⟨this.1, by omega, this.2.1.2, this.2.2.1⟩
    · have := h1.1; have := h1.2; exact ⟨by omega, by omega, by omega, by omega⟩
  · rcases h.hM b hb with h1 | h1
    · have := dh.M b h1; exact ⟨this.1, by omega, this.2.1.2, this.2.2.1⟩
    · have := h1.1; have := h1.2; exact ⟨by omega, by omega, by omega, by omega⟩
theorem OX.next (dh : DHm W0 (w.heap.size + 1) W0.heap.size r6 gE SN SM SP KS) (h : OX g v l w r6 cs gE k pre rest SN SM SP KS pv ps W0 u p N M nl n ml m ns ss SN' SM' W) (hg : g < w.heap.size) (hc : Cur W' g v l) (ho : Only g W W') :
    OX g v l w r6 cs gE k pre rest SN SM SP KS pv ps W0 u p N M nl n ml m ns ss SN' SM' W' := by
  have hL := h.lo dh
  have hg1 := dh.g1
  have hs := ho.size
  have kp : ∀ S : Nat → Prop, (∀ b, S b → b ≠ g) → Keeps S W W' := fun S hS => Keeps.grown ho fun b hb e => by injection e with e; exact hS b hb e
  exact ⟨BC.next h.bc hg hc ho, (ho.block _ h.row.lt (fun e => by injection e with e; omega)).trans h.row, h.oN.keeps (kp _ fun b hb => by have := hL.1 b hb; omega), h.oM.keeps (kp _ fun b hb => by have := hL.2 b hb; omega),
    h.oP.keeps (kp _ fun b hb => by have := dh.P b hb; omega), h.kp.trans (kp _ fun b hb => by have := dh.K b hb; omega), fun b hb => ⟨(h.hN b hb).1.imp id fun h8 => ⟨h8.1, by have := h8.2; omega⟩, (h.hN b hb).2⟩, fun b hb => (h.hM b hb).imp id fun h8 => ⟨h8.1, by have := h8.2; omega⟩, h.i, h.nl, h.ml⟩
theorem OX.step (h : OX g v l w r6 cs gE k pre rest SN SM SP KS pv ps W0 u p N M nl n ml m ns ss SN' SM' W) (hb : Below W.heap.size W W') :
    OX g v l w r6 cs gE k pre rest SN SM SP KS pv ps W0 u p N M nl n ml m ns ss SN' SM' W' :=
  ⟨BC.step h.bc hb, h.row.below hb, h.oN.keeps (Keeps.of_below _ hb), h.oM.keeps (Keeps.of_below _ hb), h.oP.keeps (Keeps.of_below _ hb), h.kp.trans (Keeps.of_below _ hb),
    fun b hx => ⟨(h.hN b hx).1.imp id fun h8 => ⟨h8.1, Nat.lt_of_lt_of_le h8.2 hb.size⟩, (h.hN b hx).2⟩, fun b hx => (h.hM b hx).imp id fun h8 => ⟨h8.1, Nat.lt_of_lt_of_le h8.2 hb.size⟩, h.i, h.nl, h.ml⟩
/-- the row's block is written -/
theorem OX.put (dh : DHm W0 (w.heap.size + 1) W0.heap.size r6 gE SN SM SP KS) (h : OX g v l w r6 cs gE k pre rest SN SM SP KS pv ps W0 u p N M nl n ml m ns ss SN' SM' W) (hg : g < w.heap.size) (hy : Bytes w v l) (ha : Apart l.length g v)
    (j : Nat) (x : Value) (u' : Bool) (p' : Int) (hp' : I64 p') (hrow : Blk (W.setCell ⟨gE, j, none⟩ x) gE 71 (pre ++ [.bool u', .int .i64 p', .slice N nl n, .slice M ml m] ++ rest)) :
    OX g v l w r6 cs gE k pre rest SN SM SP KS pv ps W0 u' p' N M nl n ml m ns ss SN' SM' (W.setCell ⟨gE, j, none⟩ x) := by
  have hL := h.lo dh
  have hg1 := dh.g1
  have hb : Below (w.heap.size + 1) W (W.setCell ⟨gE, j, none⟩ x) := below_sc (Below.refl _ _) hg1.1 _
  have h3 := BC.far h.bc hg hy ha hb
  have kp : ∀ S : Nat → Prop, ¬ S gE → Keeps S W (W.setCell ⟨gE, j, none⟩ x) := fun S hS => (Keeps.refl _ _).sc hS _
  refine ⟨⟨h3.1, h3.2.1, (BC.b6 h.bc).far ⟨gE, j, none⟩ (by show r6 ≠ gE; omega) _, h3.2.2, BC.lo h.bc⟩, hrow, h.oN.keeps (kp _ fun hb => (hL.1 _ hb).2.2.2 rfl), h.oM.keeps (kp _ fun hb => (hL.2 _ hb).2.2.2 rfl),
    h.oP.keeps (kp _ fun hb => (dh.P _ hb).2.2.1 rfl), h.kp.trans (kp _ fun hb => (dh.K _ hb).2.2.1 rfl), fun b hb => ?_, fun b hb => ?_, hp', h.nl, h.ml⟩
  · rw [size_sc]; exact h.hN b hb
  · rw [size_sc]; exact h.hM b hb
/-- a name is added -/
theorem OX.pushN (dh : DHm W0 (w.heap.size + 1) W0.heap.size r6 gE SN SM SP KS) (h : OX g v l w r6 cs gE k pre rest SN SM SP KS pv ps W0 u p N M nl n ml m ns ss SN' SM' W) (hg : g < w.heap.size) (hy : Bytes w v l) (ha : Apart l.length g v) (hpre : pre.length = k * 4)
    (nm : List UInt8) (hnm : nm.length ≤ maxLen) :
    ∃ xs, W.ownsRow (w.heap.size + 1) 9 1 (.slice N nl n) nl xs ∧ (∀ b, (Value.slice N nl n).ownBlock = some b → b ≠ r6 ∧ b ≠ gE) ∧ ∀ A1 n1 w3, w3.ownsRow (w.heap.size + 1) 9 1 (.slice A1 (nl + 1) n1) (nl + 1) (xs ++ [.string (str nm)]) → W.grownBy w3 (Value.slice N nl n).ownBlock →
      ((Value.slice A1 (nl + 1) n1).ownBlock = (Value.slice N nl n).ownBlock ∨ (Value.slice A1 (nl + 1) n1).ownBlock = some (W.heap.size + 1)) → Below (w.heap.size + 1) W w3 →
      OX g v l w r6 cs gE k pre rest SN SM SP KS pv ps W0 u p A1 M (nl + 1) n1 ml m (ns ++ [nm]) ss (fun b => SN' b ∨ (Value.slice A1 (nl + 1) n1).ownBlock = some b) SM' (w3.setCell ⟨gE, k * 4 + 2, none⟩ (.slice A1 (nl + 1) n1)) := by
  obtain ⟨hown, hvb, hpush⟩ := TxtO.push_ h.oN (lo := w.heap.size + 1) (fun b hb => ((h.lo dh).1 b hb).1) nm hnm
  rw [h.nl] at hown hpush
  refine ⟨_, hown, fun b e => ((h.lo dh).1 b (hvb b e)).2.2, fun A1 n1 w3 ho hgr hbk hb => ?_⟩
  have hL := h.lo dh
  have hg1 := dh.g1
  have hlt := fun b e => (ho.lt b e).2
  have hs := hgr.size
  have hnew : ∀ b, (Value.slice A1 (nl + 1) n1).ownBlock = some b → SN' b ∨ (W.heap.size < b ∧ b < w3.heap.size) := fun b e => by
    rcases hbk with h8 | h8
    · exact .inl (hvb b (h8 ▸ e))
    · have h9 := h8.symm.trans e
      injection h9 with h9
      exact .inr ⟨by omega, hlt b e⟩
  have kp : ∀ S : Nat → Prop, (∀ b, S b → ¬ SN' b) → Keeps S W w3 := fun S hS => Keeps.grown hgr fun b hb e => hS b hb (hvb b e.symm)
  have kp2 : ∀ S : Nat → Prop, ¬ S gE → Keeps S w3 (w3.setCell ⟨gE, k * 4 + 2, none⟩ (.slice A1 (nl + 1) n1)) := fun S hS => (Keeps.refl _ _).sc hS _
  have hbc := BC.grow h.bc hg hy ha hb hgr (fun b e => (hL.1 b (hvb b e)).2.2.1)
  have h3 := BC.far hbc hg hy ha (below_sc (Below.refl _ _) hg1.1 (.slice A1 (nl + 1) n1) (o := k * 4 + 2))
  have hrow : Blk w3 gE 71 (pre ++ [.bool u, .int .i64 p, .slice N nl n, .slice M ml m] ++ rest) := (hgr.block _ h.row.lt (fun e => (hL.1 gE (hvb _ e.symm)).2.2.2 rfl)).trans h.row
  have hS0 := h.kp.1
  refine ⟨⟨h3.1, h3.2.1, (BC.b6 hbc).far ⟨gE, k * 4 + 2, none⟩ (by show r6 ≠ gE; omega) _, h3.2.2, BC.lo hbc⟩, by simpa using hrow.mid_set hpre 2 (.slice A1 (nl + 1) n1) (by simp), ?_, SlotsO.keeps (SlotsO.keeps h.oM (kp _ fun b hb h2 => (h.hN b h2).2 hb)) (kp2 _ fun hb => (hL.2 _ hb).2.2.2 rfl),
    PromisesO.keeps (PromisesO.keeps h.oP (kp _ fun b hb h2 => ?_)) (kp2 _ fun hb => (dh.P _ hb).2.2.1 rfl), (h.kp.trans (kp _ fun b hb h2 => ?_)).trans (kp2 _ fun hb => (dh.K _ hb).2.2.1 rfl), fun b hb => ?_, fun b hb => ?_, h.i, by rw [List.length_append, h.nl]; rfl, h.ml⟩
  · refine TxtO.keeps (hpush _ w3 ho) (kp2 _ fun hb => ?_)
    rcases hb with hb | hb
    · exact (hL.1 _ hb).2.2.2 rfl
    · rcases hnew _ hb with h8 | h8
      · exact (hL.1 _ h8).2.2.2 rfl
      · have := h.row.lt; omega
  · rcases (h.hN b h2).1 with h8 | h8
    · exact (dh.P b hb).2.2.2.1 h8
    · have := (dh.P b hb).2.1.1; have := h8.1; omega
  · rcases (h.hN b h2).1 with h8 | h8
    · exact (dh.K b hb).2.2.2.1 h8
    · have := (dh.K b hb).2.1.1; have := h8.1; omega
  · rw [size_sc]
    rcases hb with hb | hb
    · exact ⟨(h.hN b hb).1.imp id fun h8 => ⟨h8.1, by have := h8.2; omega⟩, (h.hN b hb).2⟩
    · rcases hnew _ hb with h8 | h8
      · exact ⟨(h.hN b h8).1.imp id fun h8 => ⟨h8.1, by have := h8.2; omega⟩, (h.hN b h8).2⟩
      · exact ⟨.inr ⟨by omega, h8.2⟩, fun h9 => by have := hL.2 b h9; omega⟩
  · rw [size_sc]
    exact (h.hM b hb).imp id fun h8 => ⟨h8.1, by have := h8.2; omega⟩
/-- a slot without memory is added -/
theorem OX.pushS (dh : DHm W0 (w.heap.size + 1) W0.heap.size r6 gE SN SM SP KS) (h : OX g v l w r6 cs gE k pre rest SN SM SP KS pv ps W0 u p N M nl n ml m ns ss SN' SM' W) (hg : g < w.heap.size) (hy : Bytes w v l) (ha : Apart l.length g v) (hpre : pre.length = k * 4)
    (xcs : List Value) (x : SlotD) (hlx : xcs.length = 12) (hx : ∀ W, SlotO (fun _ => False) W xcs x) :
    ∃ xs, W.ownsRow (w.heap.size + 1) 96 12 (.slice M ml m) ml xs ∧ (∀ b, (Value.slice M ml m).ownBlock = some b → b ≠ r6 ∧ b ≠ gE) ∧ ∀ A1 n1 w3, w3.ownsRow (w.heap.size + 1) 96 12 (.slice A1 (ml + 1) n1) (ml + 1) (xs ++ xcs) → W.grownBy w3 (Value.slice M ml m).ownBlock →
      ((Value.slice A1 (ml + 1) n1).ownBlock = (Value.slice M ml m).ownBlock ∨ (Value.slice A1 (ml + 1) n1).ownBlock = some (W.heap.size + 1)) → Below (w.heap.size + 1) W w3 →
      OX g v l w r6 cs gE k pre rest SN SM SP KS pv ps W0 u p N A1 nl n (ml + 1) n1 ns (ss ++ [x]) SN' (fun b => SM' b ∨ (Value.slice A1 (ml + 1) n1).ownBlock = some b) (w3.setCell ⟨gE, k * 4 + 3, none⟩ (.slice A1 (ml + 1) n1)) := by
  obtain ⟨xs, hown, hvb, hpush⟩ := SlO.pushD (lo := w.heap.size + 1) (T := fun _ => False) (fun h k => h.keeps k) (fun h k => h.mono k) (show SlO SM' W 96 12 SlotO _ ss from h.oM) (fun b hb => ⟨((h.lo dh).2 b hb).1, ((h.lo dh).2 b hb).2.1⟩) x xcs hlx (hx W) (fun b hb => hb.elim) (fun b _ hb => hb.elim)
  rw [h.ml] at hown hpush
  refine ⟨xs, hown, fun b e => ((h.lo dh).2 b (hvb b e)).2.2, fun A1 n1 w3 ho hgr hbk hb => ?_⟩
  have hL := h.lo dh
  have hg1 := dh.g1
  have hlt := fun b e => (ho.lt b e).2
  have hs := hgr.size
  have hnew : ∀ b, (Value.slice A1 (ml + 1) n1).ownBlock = some b → SM' b ∨ (W.heap.size < b ∧ b < w3.heap.size) := fun b e => by
    rcases hbk with h8 | h8
    · exact .inl (hvb b (h8 ▸ e))
    · have h9 := h8.symm.trans e
      injection h9 with h9
      exact .inr ⟨by omega, hlt b e⟩
  have kp : ∀ S : Nat → Prop, (∀ b, S b → ¬ SM' b) → Keeps S W w3 := fun S hS => Keeps.grown hgr fun b hb e => hS b hb (hvb b e.symm)
  have kp2 : ∀ S : Nat → Prop, ¬ S gE → Keeps S w3 (w3.setCell ⟨gE, k * 4 + 3, none⟩ (.slice A1 (ml + 1) n1)) := fun S hS => (Keeps.refl _ _).sc hS _
  have hbc := BC.grow h.bc hg hy ha hb hgr (fun b e => (hL.2 b (hvb b e)).2.2.1)
  have h3 := BC.far hbc hg hy ha (below_sc (Below.refl _ _) hg1.1 (.slice A1 (ml + 1) n1) (o := k * 4 + 3))
  have hrow : Blk w3 gE 71 (pre ++ [.bool u, .int .i64 p, .slice N nl n, .slice M ml m] ++ rest) := (hgr.block _ h.row.lt (fun e => (hL.2 gE (hvb _ e.symm)).2.2.2 rfl)).trans h.row
  have hS0 := h.kp.1
  refine ⟨⟨h3.1, h3.2.1, (BC.b6 hbc).far ⟨gE, k * 4 + 3, none⟩ (by show r6 ≠ gE; omega) _, h3.2.2, BC.lo hbc⟩, by simpa using hrow.mid_set hpre 3 (.slice A1 (ml + 1) n1) (by simp), TxtO.keeps (TxtO.keeps h.oN (kp _ fun b hb h2 => (h.hN b hb).2 h2)) (kp2 _ fun hb => (hL.1 _ hb).2.2.2 rfl), ?_,
    PromisesO.keeps (PromisesO.keeps h.oP (kp _ fun b hb h2 => ?_)) (kp2 _ fun hb => (dh.P _ hb).2.2.1 rfl), (h.kp.trans (kp _ fun b hb h2 => ?_)).trans (kp2 _ fun hb => (dh.K _ hb).2.2.1 rfl), fun b hb => ?_, fun b hb => ?_, h.i, h.nl, by rw [List.length_append, h.ml]; rfl⟩
  · refine SlotsO.keeps (S := fun b => SM' b ∨ (Value.slice A1 (ml + 1) n1).ownBlock = some b) ((show SlotsO _ w3 _ _ from hpush _ w3 ho hgr hbk).mono fun b hb => ?_) (kp2 _ fun hb => ?_)
    · rcases hb with hb | hb | hb
      · exact .inl hb
      · exact hb.elim
      · exact .inr hb
    · rcases hb with hb | hb
      · exact (hL.2 _ hb).2.2.2 rfl
      · rcases hnew _ hb with h8 | h8
        · exact (hL.2 _ h8).2.2.2 rfl
        · have := h.row.lt; omega
  · rcases h.hM b h2 with h8 | h8
    · exact (dh.P b hb).2.2.2.2 h8
    · have := (dh.P b hb).2.1.1; have := h8.1; omega
  · rcases h.hM b h2 with h8 | h8
    · exact (dh.K b hb).2.2.2.2 h8
    · have := (dh.K b hb).2.1.1; have := h8.1; omega
  · rw [size_sc]
    refine ⟨(h.hN b hb).1.imp id fun h8 => ⟨h8.1, by have := h8.2; omega⟩, fun h9 => ?_⟩
    rcases h9 with h9 | h9
    · exact (h.hN b hb).2 h9
    · rcases hnew _ h9 with h8 | h8
      · exact (h.hN b hb).2 h8
      · have := hL.1 b hb; omega
  · rw [size_sc]
    rcases hb with hb | hb
    · exact (h.hM b hb).imp id fun h8 => ⟨h8.1, by have := h8.2; omega⟩
    · rcases hnew _ hb with h8 | h8
      · exact (h.hM b h8).imp id fun h8 => ⟨h8.1, by have := h8.2; omega⟩
      · exact .inr ⟨by omega, h8.2⟩
/-- closed again -/
theorem OX.close {s : StoreD} (hcl : ∀ (w' : World) (u' : Bool) (p' : Int) (N' M' : Option Addr) (n' m' : Nat) (ns : List (List UInt8)) (ss : List SlotD) (SN' SM' : Nat → Prop), W0.heap.size ≤ w'.heap.size → I64 p' →
        Blk w' gE 71 (pre ++ [.bool u', .int .i64 p', .slice N' ns.length n', .slice M' ss.length m'] ++ rest) →
        TxtO SN' w' (.slice N' ns.length n') ns → SlotsO SM' w' (.slice M' ss.length m') ss → (∀ b, SN' b → (SN b ∨ SM b ∨ Rng W0.heap.size w'.heap.size b) ∧ ¬ SM' b) → (∀ b, SM' b → SN b ∨ SM b ∨ Rng W0.heap.size w'.heap.size b) →
        PromisesO SP w' pv s.promises → Keeps KS W0 w' → StoreO (fun b => Rng (w.heap.size + 1) w'.heap.size b ∧ b ≠ r6) w' cs ⟨s.envs.set k ⟨u', p', ns, ss⟩, s.promises⟩)
    (h : OX g v l w r6 cs gE k pre rest SN SM SP KS pv s.promises W0 u p N M nl n ml m ns ss SN' SM' W) : SC g v l w r6 cs W.heap.size ⟨s.envs.set k ⟨u, p, ns, ss⟩, s.promises⟩ W := by
  obtain ⟨h1, h2, h3, h4, h5, h6, h7, h8, h9, rfl, rfl⟩ := h
  exact ⟨h1, hcl W u p N M n m ns ss SN' SM' h6.1 h9 h2 h3 h4 (fun b hb => ⟨(h7 b hb).1.imp id .inr, (h7 b hb).2⟩) (fun b hb => .inr (h8 b hb)) h5 h6, (BC.b6 h1).lt, Nat.le_refl _⟩
end
/-- the boxes and the row of environments -/
structure RC (g : Nat) (v : Value) (l : List Nat) (w : World) (r6 : Nat) (cs : List Value) (gE : Nat) (rc : List Value) (W : World) : Prop where
  bc : Ok (BC g v l w r6 cs) W
  row : Blk W gE 71 rc
theorem RC.mid {g : Nat} {v : Value} {l : List Nat} {w : World} {r6 : Nat} {cs : List Value} {gE : Nat} {rc pre ys rest : List Value} {W : World} (h : Ok (RC g v l w r6 cs gE rc) W) (e : rc = pre ++ ys ++ rest) {o : Nat} (ho : pre.length = o) (j : Nat) (u : Value) (hu : ys[j]? = some u) : W.cell? ⟨gE, o + j, none⟩ = some u :=
  Blk.mid (e ▸ RC.row h) ho j u hu
theorem sz_edit {s : StoreD} {k : Nat} (hk : k < s.envs.length) (e : EnvD) : szStore ⟨s.envs.set k e, s.promises⟩ ≤ szStore s + szEnv e := by
  have := szS_set szEnv s.envs k e
  simp only [szStore]; omega
theorem sz_env_le {s : StoreD} {k : Nat} (hk : k < s.envs.length) : szEnv s.envs[k] ≤ szStore s := by
  have := szS_at szEnv s.envs k hk
  simp only [szStore]; omega
def four4 : List Int := [-1, 0, 3, 9223372036854775807]
theorem four4_i64 : ∀ x ∈ four4, I64 x := by
  intro x hx
  simp only [four4, List.mem_cons, List.not_mem_nil, or_false] at hx
  rcases hx with rfl | rfl | rfl | rfl <;> exact ⟨by decide, by decide⟩
def RetAny (g : Nat) (v : Value) (l : List Nat) (w : World) (e : Ending) (w' : World) : Prop :=
  ∃ (cs : List Value) (s : StoreD), e = .returned (.agg cs.toArray) ∧ StoreO (Rng w.heap.size w'.heap.size) w' cs s ∧ szStore s ≤ 60000 ∧ (1 ≤ s.envs.length ∧ s.envs.length ≤ 7) ∧ Cur w' g v l ∧ Only g w w'

set_option maxHeartbeats 8000000 in
theorem spec_l26Any (g : Nat) (v : Value) (l : List Nat) (w : World) (hC : Cur w g v l) (ha : Apart l.length g v) :
    Calls Tryz.prog 125 #[.pointer (some ⟨g, 0, none⟩)] w (RetAny g v l w) := by
  have hgl := Cur.lt_ hC
  have HA := Lib.hid ha
  have HY := Lib.hid (show Bytes w v l from by obtain ⟨_, _, _, _, _, h⟩ := hC; exact h)
  have hb0 := (Below.refl w.heap.size w).alloc (Nat.le_refl _) (.cells #[.slice none 0 0, .slice none 0 0] 33)
  have HC := Lib.hid (Cur.below_ hC hb0)
  have HO0 := Lib.hid (Only.of_below (g := g) hb0)
  clear hC ha hb0
  go_enter Tryz.func125, Tryz.ntmps125
  go_wp2_with fail
  refine Calls.mono (spec_l26Draw g v l _ (by exact HC.out) HA.out) ?_
  rintro e w1 ⟨cs, s, E, P, D, rfl, hO, hPB, ⟨hE1, hE7, hP3, hD8⟩, hc, ho⟩
  obtain ⟨A0, c0, A1, c1, rfl⟩ := hO.shape2
  have hsz := hPB.small hE7 hP3 hD8
  obtain rfl := hPB.e
  obtain rfl := hPB.p
  have hs1 : w.heap.size + 1 ≤ w1.heap.size := by have := ho.size; simpa using this
  have HS1 := Lib.hid (show SC g v l w w1.heap.size (csS A0 s.envs.length c0 A1 s.promises.length c1) (w1.heap.size + 1) s (w1.alloc (.cells (csS A0 s.envs.length c0 A1 s.promises.length c1).toArray 33)) from by
    have hb2 : Below w1.heap.size w1 (w1.alloc (.cells (csS A0 s.envs.length c0 A1 s.promises.length c1).toArray 33)) := (Below.refl _ _).alloc (Nat.le_refl _) _
    refine ⟨⟨Cur.below_ hc hb2, ?_, Blk.new w1 _ _, (HO0.out.trans ho).trans (Only.of_below hb2), by omega⟩, ?_, by omega, by simp⟩
    · exact (hb2.block _ (by omega)).trans ((ho.block _ (by simp) (fun e => by injection e with e; omega)).trans (Blk.new w 33 [.slice none 0 0, .slice none 0 0]))
    · refine (hO.keeps (Keeps.of_below _ hb2)).mono fun b hb => ⟨⟨by have := hb.1; simp at this; omega, by have := hb.2; omega⟩, by have := hb.2; omega⟩)
  have HZ := Lib.hid hsz
  clear hO hPB hc ho HC HO0 hsz
  go_upto_region 2 with fail
  refine gen_w (G := SC g v l w w1.heap.size (csS A0 s.envs.length c0 A1 s.promises.length c1) (w1.heap.size + 1) s) HS1.out ?_
  intro w2 HX2
  have HS2 := Lib.hid (SC.rebase (show SC g v l w w1.heap.size (csS A0 s.envs.length c0 A1 s.promises.length c1) (w1.heap.size + 1) s w2 from HX2))
  clear HX2 HS1
  generalize w1.heap.size = r6 at HS2 hs1 ⊢
  generalize Value.agg #[.slice A0 s.envs.length c0, .slice A1 s.promises.length c1] = V6
  have y0 := (BC.b6 HS2.out.bc).cell 0 _ rfl
  go_wp2_with fail
  refine Calls.mono (spec_l1Below g v l s.envs.length _ (BC.cur HS2.out.bc) HA.out (by omega) (by omega)) ?_
  rintro e w3 ⟨x, rfl, hx0, hx1, hc, ho⟩
  obtain ⟨k, rfl⟩ := Int.eq_ofNat_of_zero_le hx0
  have hk : k < s.envs.length := by omega
  have HS3 := Lib.hid ((HS2.out.next hgl hc ho).rebase)
  clear hc ho HS2 y0
  go_wp2_with fail
  refine Calls.mono (spec_l1Below g v l 16 _ (BC.cur HS3.out.bc) HA.out (by omega) (by omega)) ?_
  rintro e w4 ⟨t, rfl, ht0, ht1, hc, ho⟩
  have HS4 := Lib.hid ((HS3.out.next hgl hc ho).rebase)
  clear hc ho HS3
  go_upto_block 0 with fail
  go_cut [] from 14 to 73 (fun wx => ∃ (A1' : Option Addr) (P' c1' : Nat) (s' : StoreD), Hid (s'.envs.length = s.envs.length) ∧ Hid (szStore s' ≤ 60000) ∧ Hid (SC g v l w r6 (csS A0 s.envs.length c0 A1' P' c1') wx.heap.size s' wx))
  case first =>
    by_cases k2 : t = 2
    · subst k2
      have t0 := fun W (h : Ok (BC g v l w r6 (csS A0 s.envs.length c0 A1 s.promises.length c1)) W) => (BC.b6 h).cell 0 _ rfl
      have t1 := fun W (h : Ok (BC g v l w r6 (csS A0 s.envs.length c0 A1 s.promises.length c1)) W) => (BC.b6 h).cell 1 _ rfl
      go_wp2_with fail
      have HSX := Lib.hid HS4.out
      have g1 : Ok (BC g v l w r6 (csS A0 s.envs.length c0 A1 s.promises.length c1)) w4.drew := BC.step HS4.out.bc (Below.drew (Below.refl _ _))
      refine wp_region_phase (T := Ok (BC g v l w r6 (csS A0 s.envs.length c0 A1 s.promises.length c1))) (by kernel_rfl) [(2, 0), (1, 1), (2, 2), (0, 3), (2, 4), (0, 5), (0, 6), (2, 7), (0, 8)] [8] (by kernel_rfl) g1 ?_
      repeat ((first | (refine dynL_take rfl rfl (fun W g => by go_simp; rfl) ?_) | (refine dynL_pure rfl rfl (fun W => by go_simp; rfl) ?_)); go_simp)
      refine dynL_act rfl rfl (fun K hK => ?_)
      go_wp2_with fail
      refine (spec_l1Below g v l 9 _ (BC.cur g1) HA.out (by omega) (by omega)).mono ?_
      rintro e w5 ⟨y, rfl, hy0, hy1, hc, ho⟩
      have HS5 := Lib.hid ((HSX.out.step (Below.drew (Below.refl _ _))).next hgl hc ho)
      have g5 := HS5.out.bc
      have HIy := Lib.hid (show I64 y by unfold I64; omega)
      clear hc ho g1 HSX
      simp only []
      refine hK.out _ _ g5 ?_
      clear hK
      repeat ((first | (refine dynL_take rfl rfl (fun W g => by go_simp; rfl) ?_) | (refine dynL_pure rfl rfl (fun W => by go_simp; rfl) ?_)); go_simp)
      refine dynL_act rfl rfl (fun K hK => ?_)
      go_wp2_with fail
      refine hK.out _ _ (BC.step g5 ((Below.refl _ _).alloc (Nat.le_refl _) _)) ?_
      clear hK
      refine dynL_act rfl rfl (fun K hK => ?_)
      have hlw := BC.lo g5
      have hrq := HS5.out.rq
      have hqs := HS5.out.qs
      have hpl : s.promises.length ≤ 3 := hP3
      obtain ⟨xs, hown, hrow, hclose⟩ := StoreO.pushP (x := PromD.mk false 0 y 0 vz0) (T := fun _ => False) (pcs := [.bool false, .int .i64 0, .int .i64 y, .int .i64 0, .int .i64 0, .slice none 0 0, .slice none 0 0, .slice none 0 0, .slice none 0 0, .slice none 0 0, .int .i64 0, .int .i64 0]) HS5.out.st hrq hqs (by omega) rfl
        ⟨none, 0, none, 0, none, 0, none, 0, none, 0, fun _ => 4, rfl, trivial, i64z_, HIy.out, i64z_, vz0_own _ _⟩ (fun _ h => h.elim)
      refine wp_push (.tmp 34) (.tmp 38) 31 rfl (w.heap.size + 1) 74 (.agg #[.bool false, .int .i64 0, .int .i64 0, .int .i64 0, .int .i64 0, .slice none 0 0, .slice none 0 0, .slice none 0 0, .slice none 0 0, .slice none 0 0, .int .i64 0, .int .i64 0]) 12 176 Tryz.underlying31 info_Promise rfl (by decide) w5 (.slice A1 s.promises.length c1) s.promises.length xs #[.bool false, .int .i64 0, .int .i64 y, .int .i64 0, .int .i64 0, .slice none 0 0, .slice none 0 0, .slice none 0 0, .slice none 0 0, .slice none 0 0, .int .i64 0, .int .i64 0] rfl rfl hown rfl (by simp [Value.oneCell']) (by omega) (by omega) (by omega) ?_
      intro v1 w6 ho6 hg6 hk6 hb6
      have g6 := BC.grow g5 hgl HY.out HA.out hb6 hg6 (fun b e => (hrow b e).2)
      obtain ⟨A6, c6, rfl⟩ := own_shapeN ho6
      have HO6 := Lib.hid (hclose _ w6 (w6.setCell ⟨r6, 1, none⟩ (.slice A6 (s.promises.length + 1) c6)) ho6 hg6 hk6 (fun b e => (ho6.lt b e).2) ((Keeps.refl _ _).sc (by simp) _))
      clear hclose hown hrow ho6 hg6 hk6 hb6 HS5 g5 hlw hrq hqs
      refine hK.out _ _ g6 ?_
      clear hK
      go_simp
      repeat ((first | (refine dynL_take rfl rfl (fun W g => by go_simp; rfl) ?_) | (refine dynL_pure rfl rfl (fun W => by go_simp; rfl) ?_)); go_simp)
      have y1 := (BC.b6 g6).cell 1 _ rfl
      have f1 := (BC.b6 g6).frozen 1
      refine dynL_last rfl (by simp) rfl (fun K hK => ?_)
      go_wp2_with fail
      refine hK.out _ _ ?_
      clear hK
      refine dynL_done ?_
      go_wp2_with fail
      go_meet
      case rel =>
        have hz := HZ.out
        refine ⟨A6, s.promises.length + 1, c6, ⟨s.envs, s.promises ++ [PromD.mk false 0 y 0 vz0]⟩, rfl, ?_, ⟨BC.put g6 hgl HY.out HA.out 1 _, HO6.out, by rw [size_sc]; exact (BC.b6 g6).lt, Nat.le_refl _⟩⟩
        show szStore _ ≤ _
        have : szPromise (PromD.mk false 0 y 0 vz0) = 0 := sz_vz0
        simp only [szStore, szS_snoc] at hz ⊢
        omega
    by_cases k1 : t = 1
    · subst k1
      obtain ⟨gE, cap, pre, rest, N, M, n, m, SN, SM, SP, KS, pv, hcs, _, _, hpre, hi64, dh, bg, oN, oM, oP, hclose⟩ := store_editG HS4.out.st k hk (by have := BC.lo HS4.out.bc; omega) (BC.b6 HS4.out.bc).lt HS4.out.rq HS4.out.qs
      simp only [csS, List.cons.injEq, Value.slice.injEq, true_and, and_true] at hcs
      obtain ⟨⟨rfl, rfl⟩, rfl⟩ := hcs
      have hX := OX.mk (k := k) (pv := Value.slice A1 s.promises.length c1) (ps := s.promises) (KS := KS) (W0 := w4) (SN := SN) (SM := SM) (SP := SP) HS4.out.bc bg oN oM oP (Keeps.refl _ _) (fun b hb => ⟨.inl hb, (dh.N b hb).2.2.2⟩) (fun b hb => .inl hb) hi64 rfl rfl
      have HD := Lib.hid dh
      have HCL := Lib.hid hclose
      have HX := Lib.hid hX
      have hg1 := dh.g1
      clear bg oN oM oP hclose hX dh
      have y0 := (BC.b6 HX.out.bc).cell 0 _ rfl
      have e0 : w4.cell? ⟨gE, k * 4, none⟩ = some (.bool s.envs[k].used) := HX.out.row.mid hpre 0 _ rfl
      have f0 := HX.out.row.frozen (k * 4)
      go_wp2_with fail
      go_meet
      case rel =>
        have hz := HZ.out
        have h5 := HX.out.put (k := k) HD.out hgl HY.out HA.out (k * 4) (.bool false) false s.envs[k].parent hi64 (HX.out.row.mid_set hpre 0 (.bool false) (by simp))
        have h6 := OX.close HCL.out h5
        refine ⟨A1, s.promises.length, c1, _, ?_, ?_, h6⟩
        · show _ = _; simp
        · show szStore _ ≤ _
          have h7 := sz_edit hk ⟨false, s.envs[k].parent, s.envs[k].names, s.envs[k].slots⟩
          have h8 := sz_env_le hk
          have h9 : szEnv ⟨false, s.envs[k].parent, s.envs[k].names, s.envs[k].slots⟩ = szEnv s.envs[k] := rfl
          omega
    by_cases k0 : t = 0
    · subst k0
      obtain ⟨gE, cap, pre, rest, N, M, n, m, SN, SM, SP, KS, pv, hcs, _, _, hpre, hi64, dh, bg, oN, oM, oP, hclose⟩ := store_editG HS4.out.st k hk (by have := BC.lo HS4.out.bc; omega) (BC.b6 HS4.out.bc).lt HS4.out.rq HS4.out.qs
      simp only [csS, List.cons.injEq, Value.slice.injEq, true_and, and_true] at hcs
      obtain ⟨⟨rfl, rfl⟩, rfl⟩ := hcs
      have hX := OX.mk (k := k) (pv := Value.slice A1 s.promises.length c1) (ps := s.promises) (KS := KS) (W0 := w4) (SN := SN) (SM := SM) (SP := SP) HS4.out.bc bg oN oM oP (Keeps.refl _ _) (fun b hb => ⟨.inl hb, (dh.N b hb).2.2.2⟩) (fun b hb => .inl hb) hi64 rfl rfl
      have HD := Lib.hid dh
      have HCL := Lib.hid hclose
      have HX := Lib.hid hX
      have hg1 := dh.g1
      clear bg oN oM oP hclose hX dh
      have t0 := fun W (h : Ok (OX g v l w r6 (csS (some ⟨gE, 0, none⟩) s.envs.length c0 A1 s.promises.length c1) gE k pre rest SN SM SP KS (.slice A1 s.promises.length c1) s.promises w4 s.envs[k].used s.envs[k].parent N M s.envs[k].names.length n s.envs[k].slots.length m s.envs[k].names s.envs[k].slots SN SM) W) => (BC.b6 (OX.bc h)).cell 0 _ rfl
      go_wp2_with fail
      have g1 : Ok (OX g v l w r6 (csS (some ⟨gE, 0, none⟩) s.envs.length c0 A1 s.promises.length c1) gE k pre rest SN SM SP KS (.slice A1 s.promises.length c1) s.promises w4 s.envs[k].used s.envs[k].parent N M s.envs[k].names.length n s.envs[k].slots.length m s.envs[k].names s.envs[k].slots SN SM) w4.drew := OX.step HX.out (Below.drew (Below.refl _ _))
      refine wp_region_phase (T := Ok (OX g v l w r6 (csS (some ⟨gE, 0, none⟩) s.envs.length c0 A1 s.promises.length c1) gE k pre rest SN SM SP KS (.slice A1 s.promises.length c1) s.promises w4 s.envs[k].used s.envs[k].parent N M s.envs[k].names.length n s.envs[k].slots.length m s.envs[k].names s.envs[k].slots SN SM)) (by kernel_rfl) [(2, 0), (1, 1), (2, 2), (2, 3), (0, 4), (0, 5), (2, 6), (2, 7), (0, 8)] [8] (by kernel_rfl) g1 ?_
      repeat ((first | (refine dynL_take rfl rfl (fun W g => by go_simp; rfl) ?_) | (refine dynL_pure rfl rfl (fun W => by go_simp; rfl) ?_)); go_simp)
      refine dynL_act rfl rfl (fun K hK => ?_)
      go_wp2_with fail
      have HI := Lib.hid (Ints.lit (W := w4.drew) four4 4 rfl (by decide) four4_i64)
      have HAP := Lib.hid (apart_new (W := w4.drew) (g := g) (n := 4) (Cur.lt_ (BC.cur (OX.bc g1))))
      have g2 := Lib.hid (show Ok (OX g v l w r6 (csS (some ⟨gE, 0, none⟩) s.envs.length c0 A1 s.promises.length c1) gE k pre rest SN SM SP KS (.slice A1 s.promises.length c1) s.promises w4 s.envs[k].used s.envs[k].parent N M s.envs[k].names.length n s.envs[k].slots.length m s.envs[k].names s.envs[k].slots SN SM) (w4.drew.alloc (.cells (four4.map fun x => Value.int .i64 x).toArray 3)) from OX.step g1 ((Below.refl _ _).alloc (Nat.le_refl _) _))
      refine hK.out _ _ (by exact g2.out) ?_
      clear hK
      refine dynL_act rfl rfl (fun K hK => ?_)
      go_wp2_with fail
      refine Calls.mono (spec_l1PickInt g v l _ four4 _ (by exact BC.cur (OX.bc g2.out)) HA.out (by exact HI.out) (by exact HAP.out) (by decide) (by decide)) ?_
      rintro e w5 ⟨y, rfl, hyi, hc, ho⟩
      have g3 : Ok (OX g v l w r6 (csS (some ⟨gE, 0, none⟩) s.envs.length c0 A1 s.promises.length c1) gE k pre rest SN SM SP KS (.slice A1 s.promises.length c1) s.promises w4 s.envs[k].used s.envs[k].parent N M s.envs[k].names.length n s.envs[k].slots.length m s.envs[k].names s.envs[k].slots SN SM) w5 := OX.next HD.out g2.out hgl hc (by exact ho)
      have HYI := Lib.hid hyi
      clear hc ho HI HAP g2 g1 hyi
      simp only []
      refine hK.out _ _ g3 ?_
      clear hK
      go_simp
      repeat ((first | (refine dynL_take rfl rfl (fun W g => by go_simp; rfl) ?_) | (refine dynL_pure rfl rfl (fun W => by go_simp; rfl) ?_)); go_simp)
      have e1 := (OX.row g3).mid hpre 1 _ rfl
      have f1 := (OX.row g3).frozen (k * 4 + 1)
      refine dynL_last rfl (by simp) rfl (fun K hK => ?_)
      go_wp2_with fail
      refine hK.out _ _ ?_
      clear hK
      refine dynL_done ?_
      go_wp2_with fail
      go_meet
      case rel =>
        have hz := HZ.out
        have h5 := OX.put (k := k) HD.out g3 hgl HY.out HA.out (k * 4 + 1) (.int .i64 y) s.envs[k].used y HYI.out (by simpa using (OX.row g3).mid_set hpre 1 (.int .i64 y) (by simp))
        have h6 := OX.close HCL.out h5
        refine ⟨A1, s.promises.length, c1, _, ?_, ?_, h6⟩
        · show _ = _; simp
        · show szStore _ ≤ _
          have h7 := sz_edit hk ⟨s.envs[k].used, y, s.envs[k].names, s.envs[k].slots⟩
          have h8 := sz_env_le hk
          have h9 : szEnv ⟨s.envs[k].used, y, s.envs[k].names, s.envs[k].slots⟩ = szEnv s.envs[k] := rfl
          omega
    by_cases k3 : t = 3
    · subst k3
      obtain ⟨gE, cap, pre, rest, N, M, n, m, SN, SM, SP, KS, pv, hcs, _, _, hpre, hi64, dh, bg, oN, oM, oP, hclose⟩ := store_editG HS4.out.st k hk (by have := BC.lo HS4.out.bc; omega) (BC.b6 HS4.out.bc).lt HS4.out.rq HS4.out.qs
      simp only [csS, List.cons.injEq, Value.slice.injEq, true_and, and_true] at hcs
      obtain ⟨⟨rfl, rfl⟩, rfl⟩ := hcs
      have hX := OX.mk (k := k) (pv := Value.slice A1 s.promises.length c1) (ps := s.promises) (KS := KS) (W0 := w4) (SN := SN) (SM := SM) (SP := SP) HS4.out.bc bg oN oM oP (Keeps.refl _ _) (fun b hb => ⟨.inl hb, (dh.N b hb).2.2.2⟩) (fun b hb => .inl hb) hi64 rfl rfl
      have HD := Lib.hid dh
      have HCL := Lib.hid hclose
      have HX := Lib.hid hX
      have hg1 := dh.g1
      clear bg oN oM oP hclose hX dh
      have hnb : s.envs[k].names.length ≤ 60000 := by
        have := sz_env_le hk
        have := HZ.out
        have h9 : s.envs[k].names.length ≤ szEnv s.envs[k] := by unfold szEnv szL; omega
        omega
      have hsb : s.envs[k].slots.length ≤ 60000 := by
        have := sz_env_le hk
        have := HZ.out
        have h9 : s.envs[k].slots.length ≤ szEnv s.envs[k] := by unfold szEnv; have := szS_length szSlot s.envs[k].slots; omega
        omega
      go_wp2_with fail
      have g1 : Ok (OX g v l w r6 (csS (some ⟨gE, 0, none⟩) s.envs.length c0 A1 s.promises.length c1) gE k pre rest SN SM SP KS (.slice A1 s.promises.length c1) s.promises w4 s.envs[k].used s.envs[k].parent N M s.envs[k].names.length n s.envs[k].slots.length m s.envs[k].names s.envs[k].slots SN SM) w4.drew := OX.step HX.out (Below.drew (Below.refl _ _))
      obtain ⟨rc, hrc⟩ : ∃ x : List Value, x = pre ++ [.bool s.envs[k].used, .int .i64 s.envs[k].parent, .slice N s.envs[k].names.length n, .slice M s.envs[k].slots.length m] ++ rest := ⟨_, rfl⟩
      have Hrc := Lib.hid hrc
      clear hrc
      have t0 := fun W (h : Ok (RC g v l w r6 (csS (some ⟨gE, 0, none⟩) s.envs.length c0 A1 s.promises.length c1) gE rc) W) => (BC.b6 (RC.bc h)).cell 0 _ rfl
      have t2 := fun W (h : Ok (RC g v l w r6 (csS (some ⟨gE, 0, none⟩) s.envs.length c0 A1 s.promises.length c1) gE rc) W) => RC.mid h Hrc.out hpre 2 _ rfl
      refine wp_region_phase (T := Ok (RC g v l w r6 (csS (some ⟨gE, 0, none⟩) s.envs.length c0 A1 s.promises.length c1) gE rc)) (by kernel_rfl) [(2, 0), (1, 1), (2, 2), (2, 3), (1, 4), (2, 5), (2, 6), (2, 7), (1, 8), (0, 9), (0, 10), (2, 11), (2, 12), (0, 13)] [13] (by kernel_rfl) (show Ok (RC _ _ _ _ _ _ _ _) _ from ⟨OX.bc g1, by rw [Hrc.out]; exact OX.row g1⟩) ?_
      repeat ((first | (refine dynL_take rfl rfl (fun W g => by go_simp; rfl) ?_) | (refine dynL_pure rfl rfl (fun W => by go_simp; rfl) ?_)); go_simp)
      refine dynL_act rfl rfl (fun K hK => ?_)
      go_wp2_with fail
      have G2 := OX.step g1 ((Below.refl _ _).alloc (Nat.le_refl _) (.cells #[.string (str [120])] 9))
      refine hK.out _ _ (show Ok (RC _ _ _ _ _ _ _ _) _ from ⟨OX.bc G2, by rw [Hrc.out]; exact OX.row G2⟩) ?_
      clear hK G2
      refine dynL_act rfl rfl (fun K hK => ?_)
      have hlw := BC.lo HX.out.bc
      have hlt6 := (BC.b6 (OX.bc g1)).lt
      obtain ⟨xs, hown, hrow, hpush⟩ := OX.pushN (k := k) HD.out g1 hgl HY.out HA.out hpre [120] (by decide)
      refine wp_push (.tmp 51) (.tmp 52) 43 rfl (w.heap.size + 1) 9 (.string ByteArray.empty) 1 16 Tryz.underlying43 info_strD rfl (by decide) w4.drew (.slice N s.envs[k].names.length n) s.envs[k].names.length xs #[.string (str [120])] rfl rfl hown rfl (by simp [Value.oneCell']) (by omega) (by omega) (by omega) ?_
      intro v1 w6 ho6 hg6 hk6 hb6
      obtain ⟨A6, n6, rfl⟩ := own_shapeN ho6
      have HX6 := Lib.hid (hpush A6 n6 w6 ho6 hg6 hk6 hb6)
      have g6 := BC.grow (OX.bc g1) hgl HY.out HA.out hb6 hg6 (fun b e => (hrow b e).1)
      have hrow6 : Blk w6 gE 71 (pre ++ [.bool s.envs[k].used, .int .i64 s.envs[k].parent, .slice N s.envs[k].names.length n, .slice M s.envs[k].slots.length m] ++ rest) := (hg6.block _ (OX.row g1).lt (fun e => (hrow _ e.symm).2 rfl)).trans (OX.row g1)
      clear hown hrow hpush ho6 hg6 hk6 hb6
      refine hK.out _ _ (show Ok (RC _ _ _ _ _ _ _ _) _ from ⟨g6, by rw [Hrc.out]; exact hrow6⟩) ?_
      clear hK
      go_simp
      repeat ((first | (refine dynL_take rfl rfl (fun W g => by go_simp; rfl) ?_) | (refine dynL_pure rfl rfl (fun W => by go_simp; rfl) ?_)); go_simp)
      have e2 := hrow6.mid hpre 2 _ rfl
      have f2 := hrow6.frozen (k * 4 + 2)
      refine dynL_last rfl (by simp) rfl (fun K hK => ?_)
      go_wp2_with fail
      refine hK.out _ _ ?_
      clear hK
      refine dynL_done ?_
      clear e2 f2 hrow6 g6 g1 HX t0 t2 hlt6
      refine gen_w (G := OX g v l w r6 (csS (some ⟨gE, 0, none⟩) s.envs.length c0 A1 s.promises.length c1) gE k pre rest SN SM SP KS (.slice A1 s.promises.length c1) s.promises w4 s.envs[k].used s.envs[k].parent A6 M (s.envs[k].names.length + 1) n6 s.envs[k].slots.length m (s.envs[k].names ++ [[120]]) s.envs[k].slots (fun b => SN b ∨ (Value.slice A6 (s.envs[k].names.length + 1) n6).ownBlock = some b) SM) HX6.out ?_
      intro w7 HX7
      have HX7 := Lib.hid HX7
      clear HX6
      go_wp2_with fail
      have g1 : Ok (OX g v l w r6 (csS (some ⟨gE, 0, none⟩) s.envs.length c0 A1 s.promises.length c1) gE k pre rest SN SM SP KS (.slice A1 s.promises.length c1) s.promises w4 s.envs[k].used s.envs[k].parent A6 M (s.envs[k].names.length + 1) n6 s.envs[k].slots.length m (s.envs[k].names ++ [[120]]) s.envs[k].slots (fun b => SN b ∨ (Value.slice A6 (s.envs[k].names.length + 1) n6).ownBlock = some b) SM) w7.drew := OX.step HX7.out (Below.drew (Below.refl _ _))
      obtain ⟨rd, hrd⟩ : ∃ x : List Value, x = pre ++ [.bool s.envs[k].used, .int .i64 s.envs[k].parent, .slice A6 (s.envs[k].names.length + 1) n6, .slice M s.envs[k].slots.length m] ++ rest := ⟨_, rfl⟩
      have Hrd := Lib.hid hrd
      clear hrd
      have t0 := fun W (h : Ok (RC g v l w r6 (csS (some ⟨gE, 0, none⟩) s.envs.length c0 A1 s.promises.length c1) gE rd) W) => (BC.b6 (RC.bc h)).cell 0 _ rfl
      have t3 := fun W (h : Ok (RC g v l w r6 (csS (some ⟨gE, 0, none⟩) s.envs.length c0 A1 s.promises.length c1) gE rd) W) => RC.mid h Hrd.out hpre 3 _ rfl
      refine wp_region_phase (T := Ok (RC g v l w r6 (csS (some ⟨gE, 0, none⟩) s.envs.length c0 A1 s.promises.length c1) gE rd)) (by kernel_rfl) [(2, 0), (1, 1), (2, 2), (2, 3), (1, 4), (2, 5), (2, 6), (2, 7), (1, 8), (2, 9), (2, 11), (0, 10), (0, 12), (2, 13), (0, 14), (0, 15), (2, 16), (2, 17), (0, 18)] [18] (by kernel_rfl) (show Ok (RC _ _ _ _ _ _ _ _) _ from ⟨OX.bc g1, by rw [Hrd.out]; exact OX.row g1⟩) ?_
      repeat ((first | (refine dynL_take rfl rfl (fun W g => by go_simp; rfl) ?_) | (refine dynL_pure rfl rfl (fun W => by go_simp; rfl) ?_)); go_simp)
      refine dynL_act rfl rfl (fun K hK => ?_)
      go_wp2_with fail
      refine (spec_l1Below g v l 5 _ (BC.cur (OX.bc g1)) HA.out (by omega) (by omega)).mono ?_
      rintro e w8 ⟨y, rfl, hy0, hy1, hc, ho⟩
      have g2 : Ok (OX g v l w r6 (csS (some ⟨gE, 0, none⟩) s.envs.length c0 A1 s.promises.length c1) gE k pre rest SN SM SP KS (.slice A1 s.promises.length c1) s.promises w4 s.envs[k].used s.envs[k].parent A6 M (s.envs[k].names.length + 1) n6 s.envs[k].slots.length m (s.envs[k].names ++ [[120]]) s.envs[k].slots (fun b => SN b ∨ (Value.slice A6 (s.envs[k].names.length + 1) n6).ownBlock = some b) SM) w8 := OX.next HD.out g1 hgl hc ho
      have HIy := Lib.hid (show I64 y by unfold I64; omega)
      clear hc ho g1 hy0 hy1
      simp only []
      refine hK.out _ _ (show Ok (RC _ _ _ _ _ _ _ _) _ from ⟨OX.bc g2, by rw [Hrd.out]; exact OX.row g2⟩) ?_
      clear hK
      go_simp
      repeat ((first | (refine dynL_take rfl rfl (fun W g => by go_simp; rfl) ?_) | (refine dynL_pure rfl rfl (fun W => by go_simp; rfl) ?_)); go_simp)
      refine dynL_act rfl rfl (fun K hK => ?_)
      go_wp2_with fail
      refine (spec_l1Below g v l 6 _ (BC.cur (OX.bc g2)) HA.out (by omega) (by omega)).mono ?_
      rintro e w9 ⟨z, rfl, hz0, hz1, hc, ho⟩
      have g3 : Ok (OX g v l w r6 (csS (some ⟨gE, 0, none⟩) s.envs.length c0 A1 s.promises.length c1) gE k pre rest SN SM SP KS (.slice A1 s.promises.length c1) s.promises w4 s.envs[k].used s.envs[k].parent A6 M (s.envs[k].names.length + 1) n6 s.envs[k].slots.length m (s.envs[k].names ++ [[120]]) s.envs[k].slots (fun b => SN b ∨ (Value.slice A6 (s.envs[k].names.length + 1) n6).ownBlock = some b) SM) w9 := OX.next HD.out g2 hgl hc ho
      have HIz := Lib.hid (show I64 z by unfold I64; omega)
      clear hc ho g2 hz0 hz1
      simp only []
      refine hK.out _ _ (show Ok (RC _ _ _ _ _ _ _ _) _ from ⟨OX.bc g3, by rw [Hrd.out]; exact OX.row g3⟩) ?_
      clear hK
      go_simp
      repeat ((first | (refine dynL_take rfl rfl (fun W g => by go_simp; rfl) ?_) | (refine dynL_pure rfl rfl (fun W => by go_simp; rfl) ?_)); go_simp)
      refine dynL_act rfl rfl (fun K hK => ?_)
      go_wp2_with fail
      have G4 := OX.step g3 ((Below.refl _ _).alloc (Nat.le_refl _) (.cells (xcK y z (.slice none 0 0) (.slice none 0 0)).toArray 96))
      refine hK.out _ _ (show Ok (RC _ _ _ _ _ _ _ _) _ from ⟨OX.bc G4, by rw [Hrd.out]; exact OX.row G4⟩) ?_
      clear hK G4
      refine dynL_act rfl rfl (fun K hK => ?_)
      have hlt6 := (BC.b6 (OX.bc g3)).lt
      obtain ⟨xs, hown, hrow, hpush⟩ := OX.pushS (k := k) HD.out g3 hgl HY.out HA.out hpre (xcK y z (.slice none 0 0) (.slice none 0 0)) (SlotD.mk y vz0 z [] []) rfl (fun W => slotO_z HIy.out HIz.out)
      refine wp_push (.tmp 64) (.tmp 70) 69 rfl (w.heap.size + 1) 96 (.agg #[.int .i64 0, .int .i64 0, .slice none 0 0, .slice none 0 0, .slice none 0 0, .slice none 0 0, .slice none 0 0, .int .i64 0, .int .i64 0, .int .i64 0, .slice none 0 0, .slice none 0 0]) 12 208 Tryz.underlying69 info_Slot rfl (by decide) w9 (.slice M s.envs[k].slots.length m) s.envs[k].slots.length xs #[.int .i64 y, .int .i64 0, .slice none 0 0, .slice none 0 0, .slice none 0 0, .slice none 0 0, .slice none 0 0, .int .i64 0, .int .i64 0, .int .i64 z, .slice none 0 0, .slice none 0 0] rfl rfl hown rfl (by simp [Value.oneCell']) (by omega) (by omega) (by omega) ?_
      intro v1 w10 ho10 hg10 hk10 hb10
      obtain ⟨A10, n10, rfl⟩ := own_shapeN ho10
      have HX10 := Lib.hid (hpush A10 n10 w10 ho10 hg10 hk10 hb10)
      have g6 := BC.grow (OX.bc g3) hgl HY.out HA.out hb10 hg10 (fun b e => (hrow b e).1)
      have hrow6 : Blk w10 gE 71 (pre ++ [.bool s.envs[k].used, .int .i64 s.envs[k].parent, .slice A6 (s.envs[k].names.length + 1) n6, .slice M s.envs[k].slots.length m] ++ rest) := (hg10.block _ (OX.row g3).lt (fun e => (hrow _ e.symm).2 rfl)).trans (OX.row g3)
      clear hown hrow hpush ho10 hg10 hk10 hb10
      refine hK.out _ _ (show Ok (RC _ _ _ _ _ _ _ _) _ from ⟨g6, by rw [Hrd.out]; exact hrow6⟩) ?_
      clear hK
      go_simp
      repeat ((first | (refine dynL_take rfl rfl (fun W g => by go_simp; rfl) ?_) | (refine dynL_pure rfl rfl (fun W => by go_simp; rfl) ?_)); go_simp)
      have e3 := hrow6.mid hpre 3 _ rfl
      have f3 := hrow6.frozen (k * 4 + 3)
      refine dynL_last rfl (by simp) rfl (fun K hK => ?_)
      go_wp2_with fail
      refine hK.out _ _ ?_
      clear hK
      refine dynL_done ?_
      go_wp2_with fail
      go_meet
      case rel =>
        have hz := HZ.out
        have h6 := OX.close HCL.out HX10.out
        refine ⟨A1, s.promises.length, c1, _, ?_, ?_, h6⟩
        · show _ = _; simp
        · show szStore _ ≤ _
          have h7 := sz_edit hk ⟨s.envs[k].used, s.envs[k].parent, s.envs[k].names ++ [[120]], s.envs[k].slots ++ [SlotD.mk y vz0 z [] []]⟩
          have h8 := sz_env_le hk
          have h9 : szEnv ⟨s.envs[k].used, s.envs[k].parent, s.envs[k].names ++ [[120]], s.envs[k].slots ++ [SlotD.mk y vz0 z [] []]⟩ = szEnv s.envs[k] + 3 := by
            have : szSlot (SlotD.mk y vz0 z [] []) = 0 := by unfold szSlot; dsimp only; rw [sz_vz0]; rfl
            simp only [szEnv, szL_snoc, szS_snoc, List.length_cons, List.length_nil, this]; omega
          omega
    · go_wp2_with fail
      go_meet
      case rel => exact ⟨A1, s.promises.length, c1, s, rfl, by have := HZ.out; show szStore s ≤ _; omega, HS4.out⟩
  case rest =>
  obtain ⟨A9, P9, c9, s9, HE9, HZ9, HS9⟩ := hcut
  obtain ⟨w9, hw9⟩ : ∃ w9, w9 = wc := ⟨_, rfl⟩
  rw [← hw9] at HS9 ⊢
  clear hw9
  have y0 := (BC.b6 HS9.out.bc).cell 0 _ rfl
  have y1 := (BC.b6 HS9.out.bc).cell 1 _ rfl
  have r0 := (BC.res HS9.out.bc).cell 0 _ rfl
  have r1 := (BC.res HS9.out.bc).cell 1 _ rfl
  have z0 := (BC.res HS9.out.bc).frozen 0
  have z1 := (BC.res HS9.out.bc).frozen 1
  go_wp2_with fail
  have hlw := BC.lo HS9.out.bc
  have hkF := Keeps.sc (b := w.heap.size) (o := 1) (Keeps.sc (b := w.heap.size) (o := 0) (Keeps.refl (fun b => b ≠ w.heap.size) w9) (by simp) (.slice A0 s.envs.length c0)) (by simp) (.slice A9 P9 c9)
  have hbF := below_sc (b := w.heap.size) (o := 1) (below_sc (b := w.heap.size) (o := 0) (Below.refl w.heap.size w9) (Nat.le_refl _) (.slice A0 s.envs.length c0)) (Nat.le_refl _) (.slice A9 P9 c9)
  have hoF := (BC.only HS9.out.bc).belowB hbF
  exact bodyPost_ret (v := .agg #[.slice A0 s.envs.length c0, .slice A9 P9 c9]) (by simp [results, Tryz.results125, go_sem, r0, r1]; try rfl) rfl ⟨csS A0 s.envs.length c0 A9 P9 c9, s9, rfl, (HS9.out.st.keeps (hkF.mono fun b hb => by have := hb.1.1; omega)).mono fun b hb => ⟨by have := hb.1.1; omega, Nat.lt_of_lt_of_le hb.1.2 hkF.1⟩, HZ9.out, (show 1 ≤ s9.envs.length ∧ s9.envs.length ≤ 7 by rw [HE9.out]; exact ⟨hE1, hE7⟩), Cur.next (BC.cur HS9.out.bc) hbF hgl (HY.out.only HA.out hoF), hoF⟩
end Go.Proofs.YtejieacdfjpfnaaGreat
