/-
  Merged texts: DefM, StPush.
-/
import Derived.Test.YtejieacdfjpfnaaGreatDefine
namespace Go.Proofs.YtejieacdfjpfnaaGreat
set_option maxRecDepth 100000
set_option maxRecDepth 100000
open Go.ChangeShapes Go.WideShapes Go.ChangeAt Go.RowKit Go.Deep
set_option linter.unusedVariables false
set_option maxRecDepth 100000

/-- the sets of blocks that define looks at -/
structure DHm (w : World) (lo q r6 g : Nat) (SN SM SP KS : Nat → Prop) : Prop where
  r : lo ≤ r6 ∧ (r6 < w.heap.size ∧ r6 < q ∧ q ≤ w.heap.size)
  g1 : lo ≤ g ∧ (g < q ∧ g ≠ r6)
  N : ∀ b, SN b → lo ≤ b ∧ (b < q ∧ b ≠ r6) ∧ b ≠ g ∧ ¬ SM b
  M : ∀ b, SM b → lo ≤ b ∧ (b < q ∧ b ≠ r6) ∧ b ≠ g ∧ ¬ SN b
  P : ∀ b, SP b → lo ≤ b ∧ (b < q ∧ b ≠ r6) ∧ b ≠ g ∧ ¬ SN b ∧ ¬ SM b
  K : ∀ b, KS b → lo ≤ b ∧ (b < q ∧ b ≠ r6) ∧ b ≠ g ∧ ¬ SN b ∧ ¬ SM b

/-- define, after the name is added -/
structure DMm (w : World) (lo q r6 g : Nat) (cs xcs pre rest : List Value) (d : EnvD) (nm : List UInt8) (x : SlotD) (A1 : Option Addr) (n1 : Nat) (M : Option Addr) (m : Nat) (SN SM SP KS : Nat → Prop) (pv : Value) (ps : List PromD) (W : World) : Prop where
  b6 : Blk W r6 33 cs
  bx : Blk W w.heap.size 96 xcs
  bg : Blk W g 71 (pre ++ [.bool d.used, .int .i64 d.parent, .slice A1 (d.names.length + 1) n1, .slice M d.slots.length m] ++ rest)
  oN : TxtO (fun b => SN b ∨ (Value.slice A1 (d.names.length + 1) n1).ownBlock = some b) W (.slice A1 (d.names.length + 1) n1) (d.names ++ [nm])
  oM : SlotsO SM W (.slice M d.slots.length m) d.slots
  oP : PromisesO SP W pv ps
  oX : SlotO (Rng q w.heap.size) W xcs x
  kp : Keeps KS w W
  below : Below lo w W
  top : w.heap.size < W.heap.size
  nb : ∀ b, (Value.slice A1 (d.names.length + 1) n1).ownBlock = some b → SN b ∨ (w.heap.size < b ∧ b < W.heap.size)
section
variable {w W W' w3 : World} {lo q r6 g k : Nat} {cs xcs pre rest : List Value} {d : EnvD} {nm : List UInt8} {x : SlotD} {A1 N M : Option Addr} {n1 n m : Nat} {SN SM SP KS : Nat → Prop} {pv : Value} {ps : List PromD}
theorem DMm.step (dh : DHm w lo q r6 g SN SM SP KS) (h : DMm w lo q r6 g cs xcs pre rest d nm x A1 n1 M m SN SM SP KS pv ps W) (hb : Below W.heap.size W W') : DMm w lo q r6 g cs xcs pre rest d nm x A1 n1 M m SN SM SP KS pv ps W' :=
  have h1 := h.top
  have h2 := dh.r
  ⟨h.b6.below hb, h.bx.below hb, h.bg.below hb, TxtO.keeps h.oN (Keeps.of_below _ hb), SlotsO.keeps h.oM (Keeps.of_below _ hb), PromisesO.keeps h.oP (Keeps.of_below _ hb), SlotO.keeps h.oX (Keeps.of_below _ hb), h.kp.trans (Keeps.of_below _ hb), h.below.trans (hb.mono (by omega)), Nat.lt_of_lt_of_le h1 hb.size,
    fun b hb' => (h.nb b hb').imp id fun h8 => ⟨h8.1, Nat.lt_of_lt_of_le h8.2 hb.size⟩⟩
theorem def_namesM (dh : DHm w lo q r6 g SN SM SP KS) (hW : Below w.heap.size w W) (bx : Blk W w.heap.size 96 xcs) (b6 : Blk w r6 33 cs) (hpre : pre.length = k * 4)
    (bg : Blk w g 71 (pre ++ [.bool d.used, .int .i64 d.parent, .slice N d.names.length n, .slice M d.slots.length m] ++ rest))
    (oM : SlotsO SM w (.slice M d.slots.length m) d.slots) (oP : PromisesO SP w pv ps) (oX : SlotO (Rng q w.heap.size) w xcs x)
    (hown : ∀ b, (Value.slice N d.names.length n).ownBlock = some b → SN b)
    (ho : TxtO (fun b => SN b ∨ (Value.slice A1 (d.names.length + 1) n1).ownBlock = some b) w3 (.slice A1 (d.names.length + 1) n1) (d.names ++ [nm]))
    (hlt : ∀ b, (Value.slice A1 (d.names.length + 1) n1).ownBlock = some b → b < w3.heap.size)
    (hg : W.grownBy w3 (Value.slice N d.names.length n).ownBlock) (hbk : (Value.slice A1 (d.names.length + 1) n1).ownBlock = (Value.slice N d.names.length n).ownBlock ∨ (Value.slice A1 (d.names.length + 1) n1).ownBlock = some (W.heap.size + 1)) (hb : Below lo W w3) :
    DMm w lo q r6 g cs xcs pre rest d nm x A1 n1 M m SN SM SP KS pv ps (w3.setCell ⟨g, k * 4 + 2, none⟩ (.slice A1 (d.names.length + 1) n1)) := by
  have hr := dh.r
  have hg1 := dh.g1
  have hWs := hW.size
  have hw3 := hg.size
  have hbx := bx.lt
  have hnb : ∀ b, (Value.slice A1 (d.names.length + 1) n1).ownBlock = some b → SN b ∨ (w.heap.size < b ∧ b < w3.heap.size) := fun b e => by
    rcases hbk with h8 | h8
    · exact .inl (hown b (h8 ▸ e))
    · have h9 := h8.symm.trans e
      injection h9 with h9
      exact .inr ⟨by omega, hlt b e⟩
  have hfar : ∀ b, b < w.heap.size → ¬ SN b → w3.heap[b]? = w.heap[b]? := fun b h1 h2 => (hg.block b (by omega) (fun e => h2 (hown b e.symm))).trans (hW.block b h1)
  have hK : ∀ S : Nat → Prop, (∀ b, S b → ¬ SN b) → Keeps S w w3 := fun S hS => ⟨by omega, fun b h1 h2 => hfar b h1 (hS b h2)⟩
  have hng : ∀ b, SN b → b ≠ g := fun b h => (dh.N b h).2.2.1
  refine ⟨Blk.far ((hfar r6 hr.2.1 (fun h => by have := dh.N _ h; omega)).trans b6) ⟨g, k * 4 + 2, none⟩ (by simp <;> omega) _, Blk.far ((hg.block _ hbx (fun e => by have := dh.N _ (hown _ e.symm); omega)).trans bx) ⟨g, k * 4 + 2, none⟩ (by simp <;> omega) _, ?_,
    TxtO.keeps ho ((Keeps.refl _ _).sc (fun h => ?_) _), SlotsO.keeps (SlotsO.keeps oM (hK _ fun b h => (dh.M b h).2.2.2)) ((Keeps.refl _ _).sc (fun h => (dh.M g h).2.2.1 rfl) _), PromisesO.keeps (PromisesO.keeps oP (hK _ fun b h => (dh.P b h).2.2.2.1)) ((Keeps.refl _ _).sc (fun h => (dh.P g h).2.2.1 rfl) _),
    SlotO.keeps (SlotO.keeps oX (hK _ fun b h h2 => by have := dh.N b h2; have := h.1; omega)) ((Keeps.refl _ _).sc (fun h => by have := h.1; omega) _), (hK _ fun b h => (dh.K b h).2.2.2.1).sc (fun h => (dh.K g h).2.2.1 rfl) _, below_sc ((hW.mono (by omega)).trans hb) hg1.1 _, by rw [size_sc]; omega, fun b e => by rw [size_sc]; exact hnb b e⟩
  · have h8 := Blk.mid_set (w := w3) (g := g) (e := 71) (pre := pre) (rest := rest) ((hfar g (by omega) (fun h => hng g h rfl)).trans bg) hpre 2 (.slice A1 (d.names.length + 1) n1) (by simp)
    simpa using h8
  · rcases h with h | h
    · exact hng g h rfl
    · rcases hnb g h with h | h
      · exact hng g h rfl
      · omega
theorem def_slotsM {A2 : Option Addr} {n2 : Nat} (dh : DHm w lo q r6 g SN SM SP KS) (h : DMm w lo q r6 g cs xcs pre rest d nm x A1 n1 M m SN SM SP KS pv ps W) (hpre : pre.length = k * 4)
    (hown : ∀ b, (Value.slice M d.slots.length m).ownBlock = some b → SM b)
    (ho : SlotsO (fun b => SM b ∨ Rng q w.heap.size b ∨ (Value.slice A2 (d.slots.length + 1) n2).ownBlock = some b) w3 (.slice A2 (d.slots.length + 1) n2) (d.slots ++ [x]))
    (hlt : ∀ b, (Value.slice A2 (d.slots.length + 1) n2).ownBlock = some b → b < w3.heap.size)
    (hg : W.grownBy w3 (Value.slice M d.slots.length m).ownBlock) (hbk : (Value.slice A2 (d.slots.length + 1) n2).ownBlock = (Value.slice M d.slots.length m).ownBlock ∨ (Value.slice A2 (d.slots.length + 1) n2).ownBlock = some (W.heap.size + 1)) (hb : Below lo W w3)
    (w' : World) (hw' : w' = w3.setCell ⟨g, k * 4 + 3, none⟩ (.slice A2 (d.slots.length + 1) n2)) :
    Blk w' r6 33 cs ∧ Below lo w w' ∧ Blk w' g 71 (pre ++ [.bool d.used, .int .i64 d.parent, .slice A1 (d.names.length + 1) n1, .slice A2 (d.slots.length + 1) n2] ++ rest) ∧
      TxtO (fun b => SN b ∨ (Value.slice A1 (d.names.length + 1) n1).ownBlock = some b) w' (.slice A1 (d.names.length + 1) n1) (d.names ++ [nm]) ∧
      SlotsO (fun b => SM b ∨ Rng q w.heap.size b ∨ (Value.slice A2 (d.slots.length + 1) n2).ownBlock = some b) w' (.slice A2 (d.slots.length + 1) n2) (d.slots ++ [x]) ∧ PromisesO SP w' pv ps ∧ Keeps KS w w' ∧
      (∀ b, (SN b ∨ (Value.slice A1 (d.names.length + 1) n1).ownBlock = some b) → (SN b ∨ SM b ∨ Rng q w'.heap.size b) ∧ ¬ (SM b ∨ Rng q w.heap.size b ∨ (Value.slice A2 (d.slots.length + 1) n2).ownBlock = some b)) ∧
      (∀ b, (SM b ∨ Rng q w.heap.size b ∨ (Value.slice A2 (d.slots.length + 1) n2).ownBlock = some b) → (SN b ∨ SM b ∨ Rng q w'.heap.size b)) := by
  subst hw'
  have hr := dh.r
  have hg1 := dh.g1
  have hw3 := hg.size
  have htop := h.top
  have hbx := h.bx.lt
  have hnb : ∀ b, (Value.slice A2 (d.slots.length + 1) n2).ownBlock = some b → SM b ∨ (W.heap.size < b ∧ b < w3.heap.size) := fun b e => by
    rcases hbk with h8 | h8
    · exact .inl (hown b (h8 ▸ e))
    · have h9 := h8.symm.trans e
      injection h9 with h9
      exact .inr ⟨by omega, hlt b e⟩
  have hfar : ∀ b, b < W.heap.size → ¬ SM b → w3.heap[b]? = W.heap[b]? := fun b h1 h2 => hg.block b h1 (fun e => h2 (hown b e.symm))
  have hK : ∀ S : Nat → Prop, (∀ b, S b → ¬ SM b) → Keeps S W w3 := fun S hS => ⟨hw3, fun b h1 h2 => hfar b h1 (hS b h2)⟩
  have hNM : ∀ b, (SN b ∨ (Value.slice A1 (d.names.length + 1) n1).ownBlock = some b) → ¬ SM b := fun b hb => by
    rcases hb with hb | hb
    · exact (dh.N b hb).2.2.2
    · rcases h.nb b hb with h8 | h8
      · exact (dh.N b h8).2.2.2
      · intro h9; have := (dh.M b h9).2.1; omega
  have hNg : ¬ (SN g ∨ (Value.slice A1 (d.names.length + 1) n1).ownBlock = some g) := fun hb => by
    rcases hb with hb | hb
    · exact (dh.N g hb).2.2.1 rfl
    · rcases h.nb g hb with h8 | h8
      · exact (dh.N g h8).2.2.1 rfl
      · omega
  have hMg : ¬ (SM g ∨ Rng q w.heap.size g ∨ (Value.slice A2 (d.slots.length + 1) n2).ownBlock = some g) := fun hb => by
    rcases hb with hb | hb | hb
    · exact (dh.M g hb).2.2.1 rfl
    · have := hb.1; omega
    · rcases hnb g hb with h8 | h8
      · exact (dh.M g h8).2.2.1 rfl
      · omega
  refine ⟨Blk.far ((hfar r6 (by omega) (fun h => by have := (dh.M _ h).2.1; omega)).trans h.b6) ⟨g, k * 4 + 3, none⟩ (by simp <;> omega) _, below_sc (h.below.trans hb) hg1.1 _, ?_,
    TxtO.keeps (TxtO.keeps h.oN (hK _ hNM)) ((Keeps.refl _ _).sc hNg _), SlotsO.keeps ho ((Keeps.refl _ _).sc hMg _),
    PromisesO.keeps (PromisesO.keeps h.oP (hK _ fun b h => (dh.P b h).2.2.2.2)) ((Keeps.refl _ _).sc (fun h => (dh.P g h).2.2.1 rfl) _), (h.kp.trans (hK _ fun b h => (dh.K b h).2.2.2.2)).sc (fun h => (dh.K g h).2.2.1 rfl) _, ?_, ?_⟩
  · have h8 := Blk.mid_set (w := w3) (g := g) (e := 71) (pre := pre) (rest := rest) ((hfar g (by omega) (fun h => (dh.M g h).2.2.1 rfl)).trans h.bg) hpre 3 (.slice A2 (d.slots.length + 1) n2) (by simp)
    simpa using h8
  · intro b hb
    rw [size_sc]
    refine ⟨?_, fun h2 => ?_⟩
    · rcases hb with hb | hb
      · exact .inl hb
      · rcases h.nb b hb with h8 | h8
        · exact .inl h8
        · exact .inr (.inr ⟨by omega, by omega⟩)
    · rcases h2 with h2 | h2 | h2
      · exact hNM b hb h2
      · rcases hb with hb | hb
        · have := (dh.N b hb).2.1; have := h2.1; omega
        · rcases h.nb b hb with h8 | h8
          · have := (dh.N b h8).2.1; have := h2.1; omega
          · have := h2.2; omega
      · rcases hnb b h2 with h2 | h2
        · exact hNM b hb h2
        · rcases hb with hb | hb
          · have := (dh.N b hb).2.1; omega
          · rcases h.nb b hb with h8 | h8
            · have := (dh.N b h8).2.1; omega
            · omega
  · intro b hb
    rw [size_sc]
    rcases hb with hb | hb | hb
    · exact .inr (.inl hb)
    · exact .inr (.inr ⟨hb.1, by have := hb.2; omega⟩)
    · rcases hnb b hb with h8 | h8
      · exact .inr (.inl h8)
      · exact .inr (.inr ⟨by omega, h8.2⟩)
end
open Classical in
/-- one environment of a store, opened and closed again -/
theorem store_editM {w : World} {lo q r6 : Nat} {cs : List Value} {s : StoreD} (h : StoreO (fun b => Rng lo q b ∧ b ≠ r6) w cs s) (k : Nat) (hk : k < s.envs.length) (hlo : lo ≤ r6) (hr : r6 < w.heap.size) (hq : r6 < q) (hqs : q ≤ w.heap.size) :
    ∃ (g cap : Nat) (pre rest : List Value) (N M : Option Addr) (n m : Nat) (SN SM SP KS : Nat → Prop) (pv : Value), cs = [.slice (some ⟨g, 0, none⟩) s.envs.length cap, pv] ∧ s.envs.length ≤ cap ∧ cap ≤ maxLen ∧ pre.length = k * 4 ∧ I64 s.envs[k].parent ∧ DHm w lo q r6 g SN SM SP KS ∧
      Blk w g 71 (pre ++ [.bool s.envs[k].used, .int .i64 s.envs[k].parent, .slice N s.envs[k].names.length n, .slice M s.envs[k].slots.length m] ++ rest) ∧
      TxtO SN w (.slice N s.envs[k].names.length n) s.envs[k].names ∧ SlotsO SM w (.slice M s.envs[k].slots.length m) s.envs[k].slots ∧ PromisesO SP w pv s.promises ∧
      ∀ (w' : World) (N' M' : Option Addr) (n' m' : Nat) (ns : List (List UInt8)) (ss : List SlotD) (SN' SM' : Nat → Prop), w.heap.size ≤ w'.heap.size →
        Blk w' g 71 (pre ++ [.bool s.envs[k].used, .int .i64 s.envs[k].parent, .slice N' ns.length n', .slice M' ss.length m'] ++ rest) →
        TxtO SN' w' (.slice N' ns.length n') ns → SlotsO SM' w' (.slice M' ss.length m') ss → (∀ b, SN' b → (SN b ∨ SM b ∨ Rng q w'.heap.size b) ∧ ¬ SM' b) → (∀ b, SM' b → SN b ∨ SM b ∨ Rng q w'.heap.size b) →
        PromisesO SP w' pv s.promises → Keeps KS w w' → StoreO (fun b => Rng lo w'.heap.size b ∧ b ≠ r6) w' cs ⟨s.envs.set k ⟨s.envs[k].used, s.envs[k].parent, ns, ss⟩, s.promises⟩ := by
  obtain ⟨A0, c0, A1, c1, f, rfl, o0, o1⟩ := h
  obtain ⟨g, cap, pre, rest, N, M, n, m, SN, SM, hv, hcap, hmax, hg, hpre, hi64, hblk, oN, oM, hSN, hSM, hcl⟩ := env_edit o0 k hk
  injection hv with hv1 _ hv2
  subst hv1 hv2
  refine ⟨g, c0, pre, rest, N, M, n, m, SN, SM, fun b => (Rng lo q b ∧ b ≠ r6) ∧ f b = 1, fun b => ((Rng lo q b ∧ b ≠ r6) ∧ f b = 0) ∧ b ≠ g ∧ ¬ SN b ∧ ¬ SM b, _, rfl, hcap, hmax, hpre, hi64, ⟨⟨hlo, hr, hq, hqs⟩, ⟨hg.1.1.1, hg.1.1.2, hg.1.2⟩, ?_, ?_, ?_, ?_⟩, hblk, oN, oM, o1, fun w' N' M' n' m' ns ss SN' SM' hsz hb' hN' hM' hSN' hSM' hP' hK' => ?_⟩
  · intro b hb
    obtain ⟨h1, h2, h3⟩ := hSN b hb
    exact ⟨h1.1.1.1, ⟨h1.1.1.2, h1.1.2⟩, h2, h3⟩
  · intro b hb
    obtain ⟨h1, h2, h3⟩ := hSM b hb
    exact ⟨h1.1.1.1, ⟨h1.1.1.2, h1.1.2⟩, h2, h3⟩
  · intro b hb
    refine ⟨hb.1.1.1, ⟨hb.1.1.2, hb.1.2⟩, fun e => ?_, fun h => ?_, fun h => ?_⟩
    · have := hg.2; have := hb.2; subst e; omega
    · have := (hSN b h).1.2; have := hb.2; omega
    · have := (hSM b h).1.2; have := hb.2; omega
  · intro b hb
    exact ⟨hb.1.1.1.1, ⟨hb.1.1.1.2, hb.1.1.2⟩, hb.2⟩
  · have hE := hcl w' N' M' n' m' ns ss SN' SM' (Rng q w'.heap.size) hb' hN' hM' hSN' hSM' (fun b hb hx => by have := hb.1.1.2; have := hx.1; omega) hK'
    have hrl : ∀ b, (Rng lo q b ∧ b ≠ r6) → Rng lo w'.heap.size b ∧ b ≠ r6 := fun b hb => ⟨⟨hb.1.1, by have := hb.1.2; omega⟩, hb.2⟩
    refine ⟨some ⟨g, 0, none⟩, c0, A1, c1, fun b => if (Rng lo q b ∧ b ≠ r6) ∧ f b = 1 then 1 else 0, by simp, ?_, PromisesO.mono hP' fun b hb => ⟨hrl b hb.1, if_pos hb⟩⟩
    refine (show EnvsO _ w' _ _ from ?_)
    have hE2 := EnvsO.mono (S' := fun b => (Rng lo w'.heap.size b ∧ b ≠ r6) ∧ (if (Rng lo q b ∧ b ≠ r6) ∧ f b = 1 then 1 else 0) = 0) hE fun b hb => by
      rcases hb with hb | hb
      · exact ⟨hrl b hb.1, if_neg (fun h => by have := h.2; have := hb.2; omega)⟩
      · exact ⟨⟨⟨by have := hb.1; omega, hb.2⟩, by have := hb.1; omega⟩, if_neg (fun h => by have := h.1.1.2; have := hb.1; omega)⟩
    simpa using hE2

/-- a slot is put in the place of another -/
theorem def_putM {s : StoreD} {k : Nat} {hk : k < s.envs.length} {w W : World} {lo q r6 g g2 j : Nat} {cs pre rest pre2 rest2 ys : List Value} {N M : Option Addr} {n m : Nat} {SN SM SP KS : Nat → Prop} {pv : Value} {x : SlotD} {a0 a1 a2 a3 a4 a5 a6 a7 a8 a9 a10 a11 : Value} (hW : Below w.heap.size w W)
    (dh : DHm w lo q r6 g SN SM SP KS) (b6 : Blk w r6 33 cs) (bg : Blk w g 71 (pre ++ [Value.bool s.envs[k].used, Value.int .i64 s.envs[k].parent, Value.slice N s.envs[k].names.length n, Value.slice M s.envs[k].slots.length m] ++ rest)) (oN : TxtO SN w (.slice N s.envs[k].names.length n) s.envs[k].names) (oP : PromisesO SP w pv s.promises)
    (hx : SlotO (Rng q w.heap.size) w [a0, a1, a2, a3, a4, a5, a6, a7, a8, a9, a10, a11] x) (hg2 : SM g2) (hblk : Blk w g2 96 (pre2 ++ ys ++ rest2)) (hpre2 : pre2.length = j * 12) (hys : ys.length = 12)
    (hcl2 : ∀ (w' : World) (xcs : List Value) (x : SlotD) (T : Nat → Prop), xcs.length = 12 → Blk w' g2 96 (pre2 ++ xcs ++ rest2) → SlotO T w' xcs x → (∀ b, SM b → ¬ T b) → Keeps (fun b => SM b ∧ b ≠ g2) w w' → SlotsO (fun b => SM b ∨ T b) w' (.slice M s.envs[k].slots.length m) (s.envs[k].slots.set j x))
    (hcl : ∀ (w' : World) (N' M' : Option Addr) (n' m' : Nat) (ns : List (List UInt8)) (ss : List SlotD) (SN' SM' : Nat → Prop), w.heap.size ≤ w'.heap.size →
        Blk w' g 71 (pre ++ [.bool s.envs[k].used, .int .i64 s.envs[k].parent, .slice N' ns.length n', .slice M' ss.length m'] ++ rest) →
        TxtO SN' w' (.slice N' ns.length n') ns → SlotsO SM' w' (.slice M' ss.length m') ss → (∀ b, SN' b → (SN b ∨ SM b ∨ Rng q w'.heap.size b) ∧ ¬ SM' b) → (∀ b, SM' b → SN b ∨ SM b ∨ Rng q w'.heap.size b) →
        PromisesO SP w' pv s.promises → Keeps KS w w' → StoreO (fun b => Rng lo w'.heap.size b ∧ b ≠ r6) w' cs ⟨s.envs.set k ⟨s.envs[k].used, s.envs[k].parent, ns, ss⟩, s.promises⟩)
    (w' : World) (hw' : w' = ((((((((((((W.setCell ⟨g2, j * 12, none⟩ a0).setCell ⟨g2, j * 12 + 1, none⟩ a1).setCell ⟨g2, j * 12 + 2, none⟩ a2).setCell ⟨g2, j * 12 + 3, none⟩ a3).setCell ⟨g2, j * 12 + 4, none⟩ a4).setCell ⟨g2, j * 12 + 5, none⟩ a5).setCell ⟨g2, j * 12 + 6, none⟩ a6).setCell ⟨g2, j * 12 + 7, none⟩ a7).setCell ⟨g2, j * 12 + 8, none⟩ a8).setCell ⟨g2, j * 12 + 9, none⟩ a9).setCell ⟨g2, j * 12 + 10, none⟩ a10).setCell ⟨g2, j * 12 + 11, none⟩ a11)) :
    Blk w' r6 33 cs ∧ StoreO (fun b => Rng lo w'.heap.size b ∧ b ≠ r6) w' cs ⟨s.envs.set k ⟨s.envs[k].used, s.envs[k].parent, s.envs[k].names, s.envs[k].slots.set j x⟩, s.promises⟩ ∧ Below lo w w' := by
  have hr := dh.r
  have hg1 := dh.g1
  have hM2 := dh.M g2 hg2
  have hs := hW.size
  have hsz : w'.heap.size = W.heap.size := by subst hw'; simp [World.setCell]
  have k12 : Keeps (fun b => b ≠ g2) W w' := by subst hw'; exact keeps12 (fun h => h rfl) a0 a1 a2 a3 a4 a5 a6 a7 a8 a9 a10 a11
  have b12 : Blk w' g2 96 (pre2 ++ [a0, a1, a2, a3, a4, a5, a6, a7, a8, a9, a10, a11] ++ rest2) := by subst hw'; exact Blk.mid12 (hblk.below hW) hpre2 hys a0 a1 a2 a3 a4 a5 a6 a7 a8 a9 a10 a11
  have bel : Below lo w w' := by subst hw'; exact below12 (hW.mono (by omega)) hM2.1 a0 a1 a2 a3 a4 a5 a6 a7 a8 a9 a10 a11
  have kk : ∀ S : Nat → Prop, (∀ b, S b → b ≠ g2) → Keeps S w w' := fun S h => (Keeps.of_below S hW).trans (k12.mono h)
  have hxT : SlotO (Rng q w.heap.size) w' [a0, a1, a2, a3, a4, a5, a6, a7, a8, a9, a10, a11] x := SlotO.keeps hx (kk _ fun b h e => by have := h.1; omega)
  have hss := hcl2 w' _ x _ rfl b12 hxT (fun b h h2 => by have := (dh.M b h).2.1; have := h2.1; omega) (kk _ fun b h => h.2)
  have hN2 : ∀ b, SN b → b ≠ g2 := fun b h e => (dh.N b h).2.2.2 (e ▸ hg2)
  refine ⟨Blk.keeps b6 (kk (fun b => b ≠ g2) fun b h => h) (by omega), ?_, bel⟩
  have h8 := hcl w' N M n m s.envs[k].names (s.envs[k].slots.set j x) SN (fun b => SM b ∨ Rng q w.heap.size b) (by omega) (by simpa using Blk.keeps bg (kk (fun b => b ≠ g2) fun b h => h) (fun e => hM2.2.2.1 e.symm)) (TxtO.keeps oN (kk _ hN2)) (by simpa using hss)
    (fun b h => ⟨.inl h, fun h2 => h2.elim (fun h2 => (dh.N b h).2.2.2 h2) (fun h2 => by have := (dh.N b h).2.1; have := h2.1; omega)⟩) (fun b h => h.elim (fun h => .inr (.inl h)) (fun h => .inr (.inr ⟨h.1, by have := h.2; omega⟩)))
    (PromisesO.keeps oP (kk _ fun b h e => (dh.P b h).2.2.2.2 (e ▸ hg2))) (kk _ fun b h e => (dh.K b h).2.2.2.2 (e ▸ hg2))
  simpa using h8

set_option maxHeartbeats 8000000 in
theorem spec_l26DefineM (s : StoreD) (k : Nat) (hk : k < s.envs.length) (nm : List UInt8) (hnm : nm.length ≤ maxLen) (x : SlotD) (cs xcs : List Value) (lo q r6 : Nat) (w : World) (hb6 : Blk w r6 33 cs) (ho : StoreO (fun b => Rng lo q b ∧ b ≠ r6) w cs s) (hlo : lo ≤ r6) (hq : r6 < q) (hqs : q ≤ w.heap.size)
    (hx : SlotO (Rng q w.heap.size) w xcs x) (hlen : s.envs[k].names.length = s.envs[k].slots.length) (hz : s.envs[k].slots.length ≤ 600000000000) (hzl : s.envs.length ≤ 600000000000) :
    Calls Tryz.prog 80 #[.pointer (some ⟨r6, 0, none⟩), .int .i64 k, .string (str nm), .agg xcs.toArray] w (RetDef lo r6 cs (defS s k hk nm x) w) := by
  have hr6 := hb6.lt
  obtain ⟨g, cap, pre, rest, N, M, n, m, SN, SM, SP, KS, pv, rfl, hcap, hmax, hpre, hi64, dh, bg, oN, oM, oP, hclose⟩ := store_editM ho k hk hlo hr6 hq hqs
  obtain ⟨E1, m1, E2, m2, E3, m3, E4, m4, E5, m5, EP, ep, EL, el, rfl⟩ := hx.shape12
  have hg1 := dh.g1
  have hfl := findB_le s.envs[k].names nm
  have HLEN := Lib.hid hlen
  have hzn : s.envs[k].names.length ≤ 600000000000 := by omega
  clear hlen
  have HDH := Lib.hid dh
  have HCL := Lib.hid hclose
  have OM := Lib.hid oM
  have OP := Lib.hid oP
  have ON := Lib.hid oN
  have OX := Lib.hid hx
  have HB6 := Lib.hid hb6
  have HBG := Lib.hid bg
  clear hb6 ho dh bg oN oM oP hclose hx
  obtain ⟨G, g0, HG, HBX⟩ := good1 w 96 [.int .i64 x.kind, .int .i64 x.value.kind, .slice E1 x.value.items.length m1, .slice E2 x.value.parts.length m2, .slice E3 x.value.names.length m3, .slice E4 x.value.cls.length m4, .slice E5 x.value.levels.length m5, .int .i64 x.value.code, .int .i64 x.value.env, .int .i64 x.promise, .slice EP x.promises.length ep, .slice EL x.labels.length el]
  have HR6 := Lib.hid (fun W (h : Ok G W) => show Blk W r6 33 [.slice (some ⟨g, 0, none⟩) s.envs.length cap, pv] from ((HG.out.below h).block _ hr6).trans HB6.out)
  have HRG := Lib.hid (fun W (h : Ok G W) => show Blk W g 71 (pre ++ [Value.bool s.envs[k].used, Value.int .i64 s.envs[k].parent, Value.slice N s.envs[k].names.length n, Value.slice M s.envs[k].slots.length m] ++ rest) from ((HG.out.below h).block _ (by omega)).trans HBG.out)
  have t0 := fun W (h : Ok G W) => (HR6.out W h).cell 0 _ rfl
  have e2 := fun W (h : Ok G W) => (HRG.out W h).mid hpre 2 _ rfl
  have e3 := fun W (h : Ok G W) => (HRG.out W h).mid hpre 3 _ rfl
  go_enter Tryz.func80, Tryz.ntmps80
  go_upto_region 1 with fail
  refine gen_w g0 ?_
  clear g0
  intro W0 g0
  go_wp2_with fail
  refine Calls.mono (spec_l1Find s.envs[k].names nm _ _ (TxtO.keeps ON.out (Keeps.of_below _ (HG.out.below g0))).read) ?_
  rintro e w1 ⟨rfl, rfl⟩
  by_cases hneg : findB s.envs[k].names nm < 0
  · have HN := Lib.hid (show defS s k hk nm x = ⟨s.envs.set k ⟨s.envs[k].used, s.envs[k].parent, s.envs[k].names ++ [nm], s.envs[k].slots ++ [x]⟩, s.promises⟩ by unfold defS defE; rw [if_pos hneg])
    obtain ⟨c6, hc6⟩ : ∃ l : List Value, l = [.slice (some ⟨g, 0, none⟩) s.envs.length cap, pv] := ⟨_, rfl⟩
    obtain ⟨xc, hxc⟩ : ∃ l : List Value, l = [.int .i64 x.kind, .int .i64 x.value.kind, .slice E1 x.value.items.length m1, .slice E2 x.value.parts.length m2, .slice E3 x.value.names.length m3, .slice E4 x.value.cls.length m4, .slice E5 x.value.levels.length m5, .int .i64 x.value.code, .int .i64 x.value.env, .int .i64 x.promise, .slice EP x.promises.length ep, .slice EL x.labels.length el] := ⟨_, rfl⟩
    obtain ⟨gc, hgc⟩ : ∃ l : List Value, l = pre ++ [Value.bool s.envs[k].used, Value.int .i64 s.envs[k].parent, Value.slice N s.envs[k].names.length n, Value.slice M s.envs[k].slots.length m] ++ rest := ⟨_, rfl⟩
    have HC6 := Lib.hid hc6
    have HXC := Lib.hid hxc
    have HGC := Lib.hid hgc
    clear hc6 hxc hgc
    have gd := HG.out.drew g0
    obtain ⟨hown, hvb, hpush⟩ := TxtO.push_ (TxtO.keeps ON.out (Keeps.of_below _ (HG.out.below gd))) (lo := lo) (fun b h => (HDH.out.N b h).1) nm hnm
    have HPU := Lib.hid hpush
    clear hpush
    have gT : Ok (DT r6 g w.heap.size c6 xc gc) W0.drew := ⟨by rw [HC6.out]; exact HR6.out _ gd, by rw [HXC.out]; exact HBX.out _ gd, by rw [HGC.out]; exact HRG.out _ gd⟩
    have r0 := fun W (h : Ok (DT r6 g w.heap.size c6 xc gc) W) => DT.s h 0 _ ((congrArg (fun l => l[0]?) HC6.out).trans rfl)
    have r2 := fun W (h : Ok (DT r6 g w.heap.size c6 xc gc) W) => DT.m h HGC.out hpre 2 _ rfl
    clear t0 e2 e3
    go_wp2_with fail
    refine wp_region_phase (T := Ok (DT r6 g w.heap.size c6 xc gc)) (by kernel_rfl) [(2, 0), (2, 1), (2, 2), (1, 3), (2, 4), (2, 5), (2, 6), (2, 7), (1, 8), (2, 9), (2, 10), (2, 11), (1, 12), (2, 13), (0, 14), (0, 15), (2, 16), (2, 17), (0, 18)] [18] (by kernel_rfl) gT ?_
    repeat ((first | (refine dynL_take rfl rfl (fun W g => by go_simp; rfl) ?_) | (refine dynL_pure rfl rfl (fun W => by go_simp; rfl) ?_)); go_simp)
    refine dynL_act rfl rfl (fun K hK => ?_)
    go_wp2_with fail
    refine hK.out _ _ (DT.step gT ((Below.refl _ _).alloc (Nat.le_refl _) _)) ?_
    clear hK
    refine dynL_act rfl rfl (fun K hK => ?_)
    refine wp_push (.tmp 44) (.tmp 46) 43 rfl lo 9 (.string ByteArray.empty) 1 16 Tryz.underlying43 info_strD rfl (by decide) W0.drew (.slice N s.envs[k].names.length n) s.envs[k].names.length _ #[.string (str nm)] rfl rfl hown rfl (by simp [Value.oneCell']) (by omega) (by omega) (by have := (HG.out.below gd).size; omega) ?_
    intro v1 w3 ho3 hg3 hbk3 hb3
    obtain ⟨A1, n1, rfl⟩ := own_shapeC ho3
    have gT3 := DT.grow gT hg3 (fun e => by have := (HDH.out.N _ (hvb _ e.symm)).2.1; omega) (fun e => (HDH.out.N _ (hvb _ e.symm)).2.2.1 rfl) (fun e => by have := (HDH.out.N _ (hvb _ e.symm)).2.1; omega)
    have D2 := Lib.hid (def_namesM (k := k) HDH.out (HG.out.below gd) (HBX.out _ gd) HB6.out hpre HBG.out OM.out OP.out OX.out hvb (HPU.out _ _ ho3) (fun b e => (ho3.lt b e).2) hg3 hbk3 hb3)
    refine hK.out _ _ gT3 ?_
    clear hK
    go_simp
    repeat ((first | (refine dynL_take rfl rfl (fun W g => by go_simp; rfl) ?_) | (refine dynL_pure rfl rfl (fun W => by go_simp; rfl) ?_)); go_simp)
    have f2 := DT.f gT3 (k * 4 + 2)
    refine dynL_last rfl (by simp) rfl (fun K hK => ?_)
    go_wp2_with fail
    refine hK.out _ _ ?_
    clear hK
    refine dynL_done ?_
    clear f2 hown hvb HPU ho3 hg3 hbk3 hb3 gT3 gT r0 r2
    go_wp2_with fail
    refine gen_w (G := DMm w lo q r6 g [.slice (some ⟨g, 0, none⟩) s.envs.length cap, pv] [.int .i64 x.kind, .int .i64 x.value.kind, .slice E1 x.value.items.length m1, .slice E2 x.value.parts.length m2, .slice E3 x.value.names.length m3, .slice E4 x.value.cls.length m4, .slice E5 x.value.levels.length m5, .int .i64 x.value.code, .int .i64 x.value.env, .int .i64 x.promise, .slice EP x.promises.length ep, .slice EL x.labels.length el] pre rest s.envs[k] nm x A1 n1 M m SN SM SP KS pv s.promises) (show Ok _ _ from D2.out) ?_
    clear D2 
    intro W5 g5
    have g6 : DMm w lo q r6 g [.slice (some ⟨g, 0, none⟩) s.envs.length cap, pv] [.int .i64 x.kind, .int .i64 x.value.kind, .slice E1 x.value.items.length m1, .slice E2 x.value.parts.length m2, .slice E3 x.value.names.length m3, .slice E4 x.value.cls.length m4, .slice E5 x.value.levels.length m5, .int .i64 x.value.code, .int .i64 x.value.env, .int .i64 x.promise, .slice EP x.promises.length ep, .slice EL x.labels.length el] pre rest s.envs[k] nm x A1 n1 M m SN SM SP KS pv s.promises W5.drew := DMm.step HDH.out g5 (Below.drew (Below.refl _ _))
    have G6 := Lib.hid g6
    have h65 := g6.top
    obtain ⟨gn, hgn⟩ : ∃ l : List Value, l = pre ++ [Value.bool s.envs[k].used, Value.int .i64 s.envs[k].parent, Value.slice A1 (s.envs[k].names.length + 1) n1, Value.slice M s.envs[k].slots.length m] ++ rest := ⟨_, rfl⟩
    have HGN := Lib.hid hgn
    clear hgn
    have gT : Ok (DT r6 g w.heap.size c6 xc gn) W5.drew := ⟨by rw [HC6.out]; exact g6.b6, by rw [HXC.out]; exact g6.bx, by rw [HGN.out]; exact g6.bg⟩
    have r0 := fun W (h : Ok (DT r6 g w.heap.size c6 xc gn) W) => DT.s h 0 _ ((congrArg (fun l => l[0]?) HC6.out).trans rfl)
    have r3 := fun W (h : Ok (DT r6 g w.heap.size c6 xc gn) W) => DT.m h HGN.out hpre 3 _ rfl
    have xs0 := fun W (h : Ok (DT r6 g w.heap.size c6 xc gn) W) => DT.x h 0 _ ((congrArg (fun l => l[0]?) HXC.out).trans rfl)
    have xs1 := fun W (h : Ok (DT r6 g w.heap.size c6 xc gn) W) => DT.x h 1 _ ((congrArg (fun l => l[1]?) HXC.out).trans rfl)
    have xs2 := fun W (h : Ok (DT r6 g w.heap.size c6 xc gn) W) => DT.x h 2 _ ((congrArg (fun l => l[2]?) HXC.out).trans rfl)
    have xs3 := fun W (h : Ok (DT r6 g w.heap.size c6 xc gn) W) => DT.x h 3 _ ((congrArg (fun l => l[3]?) HXC.out).trans rfl)
    have xs4 := fun W (h : Ok (DT r6 g w.heap.size c6 xc gn) W) => DT.x h 4 _ ((congrArg (fun l => l[4]?) HXC.out).trans rfl)
    have xs5 := fun W (h : Ok (DT r6 g w.heap.size c6 xc gn) W) => DT.x h 5 _ ((congrArg (fun l => l[5]?) HXC.out).trans rfl)
    have xs6 := fun W (h : Ok (DT r6 g w.heap.size c6 xc gn) W) => DT.x h 6 _ ((congrArg (fun l => l[6]?) HXC.out).trans rfl)
    have xs7 := fun W (h : Ok (DT r6 g w.heap.size c6 xc gn) W) => DT.x h 7 _ ((congrArg (fun l => l[7]?) HXC.out).trans rfl)
    have xs8 := fun W (h : Ok (DT r6 g w.heap.size c6 xc gn) W) => DT.x h 8 _ ((congrArg (fun l => l[8]?) HXC.out).trans rfl)
    have xs9 := fun W (h : Ok (DT r6 g w.heap.size c6 xc gn) W) => DT.x h 9 _ ((congrArg (fun l => l[9]?) HXC.out).trans rfl)
    have xs10 := fun W (h : Ok (DT r6 g w.heap.size c6 xc gn) W) => DT.x h 10 _ ((congrArg (fun l => l[10]?) HXC.out).trans rfl)
    have xs11 := fun W (h : Ok (DT r6 g w.heap.size c6 xc gn) W) => DT.x h 11 _ ((congrArg (fun l => l[11]?) HXC.out).trans rfl)
    obtain ⟨xs, hown2, hvb2, hpush2⟩ := SlO.pushD (lo := lo) (T := Rng q w.heap.size) (fun h k => h.keeps k) (fun h k => h.mono k) (show SlO SM W5.drew 96 12 SlotO _ s.envs[k].slots from g6.oM) (fun b h => ⟨(HDH.out.M b h).1, by have := (HDH.out.M b h).2.1; omega⟩) x [.int .i64 x.kind, .int .i64 x.value.kind, .slice E1 x.value.items.length m1, .slice E2 x.value.parts.length m2, .slice E3 x.value.names.length m3, .slice E4 x.value.cls.length m4, .slice E5 x.value.levels.length m5, .int .i64 x.value.code, .int .i64 x.value.env, .int .i64 x.promise, .slice EP x.promises.length ep, .slice EL x.labels.length el] rfl (show SlotO _ _ _ _ from g6.oX) (fun b h => by have := h.2; omega) (fun b h h2 => by have := (HDH.out.M b h).2.1; have := h2.1; omega)
    have HPU2 := Lib.hid hpush2
    clear hpush2 g5 g6
    go_wp2_with fail
    refine wp_region_phase (T := Ok (DT r6 g w.heap.size c6 xc gn)) (by kernel_rfl) [(2, 0), (2, 1), (2, 2), (1, 3), (2, 4), (2, 5), (2, 6), (2, 7), (1, 8), (2, 9), (2, 10), (2, 11), (1, 12), (1, 13), (0, 14), (0, 15), (2, 16), (2, 17), (0, 18)] [18] (by kernel_rfl) gT ?_
    repeat ((first | (refine dynL_take rfl rfl (fun W g => by go_simp; rfl) ?_) | (refine dynL_pure rfl rfl (fun W => by go_simp; rfl) ?_)); go_simp)
    refine dynL_act rfl rfl (fun K hK => ?_)
    go_wp2_with fail
    refine hK.out _ _ (DT.step gT ((Below.refl _ _).alloc (Nat.le_refl _) _)) ?_
    clear hK
    refine dynL_act rfl rfl (fun K hK => ?_)
    refine wp_push (.tmp 62) (.tmp 64) 69 rfl lo 96 (.agg #[.int .i64 0, .int .i64 0, .slice none 0 0, .slice none 0 0, .slice none 0 0, .slice none 0 0, .slice none 0 0, .int .i64 0, .int .i64 0, .int .i64 0, .slice none 0 0, .slice none 0 0]) 12 208 Tryz.underlying69 info_Slot rfl (by decide) W5.drew (.slice M s.envs[k].slots.length m) s.envs[k].slots.length xs #[.int .i64 x.kind, .int .i64 x.value.kind, .slice E1 x.value.items.length m1, .slice E2 x.value.parts.length m2, .slice E3 x.value.names.length m3, .slice E4 x.value.cls.length m4, .slice E5 x.value.levels.length m5, .int .i64 x.value.code, .int .i64 x.value.env, .int .i64 x.promise, .slice EP x.promises.length ep, .slice EL x.labels.length el] rfl rfl hown2 rfl (by simp [Value.oneCell']) (by omega) (by omega) (by have : W5.drew.heap.size = W5.heap.size := rfl; omega) ?_
    intro v1 w7 ho7 hg7 hbk7 hb7
    obtain ⟨A2, n2, rfl⟩ := own_shapeC ho7
    have gT7 := DT.grow gT hg7 (fun e => by have := (HDH.out.M _ (hvb2 _ e.symm)).2.1; omega) (fun e => (HDH.out.M _ (hvb2 _ e.symm)).2.2.1 rfl) (fun e => by have := (HDH.out.M _ (hvb2 _ e.symm)).2.1; omega)
    have DS := Lib.hid (def_slotsM (k := k) HDH.out G6.out hpre hvb2 (HPU2.out _ _ ho7 hg7 hbk7) (fun b e => (ho7.lt b e).2) hg7 hbk7 hb7 _ rfl)
    refine hK.out _ _ gT7 ?_
    clear hK
    go_simp
    repeat ((first | (refine dynL_take rfl rfl (fun W g => by go_simp; rfl) ?_) | (refine dynL_pure rfl rfl (fun W => by go_simp; rfl) ?_)); go_simp)
    have f3 := DT.f gT7 (k * 4 + 3)
    refine dynL_last rfl (by simp) rfl (fun K hK => ?_)
    go_wp2_with fail
    refine hK.out _ _ ?_
    clear hK
    refine dynL_done ?_
    go_wp2_with fail
    obtain ⟨c1, c2, c3, c4, c5, c6, c7, c8, c9⟩ := DS.out
    refine bodyPost_end (v := .tuple #[]) (by kernel_rfl) rfl ?_
    refine ⟨rfl, c1, ?_, c2⟩
    rw [HN.out]
    exact HCL.out _ A1 A2 n1 n2 (s.envs[k].names ++ [nm]) (s.envs[k].slots ++ [x]) _ _ (by rw [size_sc]; have := hb7.size; have : W5.drew.heap.size = W5.heap.size := rfl; omega) (by simpa using c3) (by simpa using c4) (by simpa using c5) c8 c9 c6 c7
  · obtain ⟨j, hj⟩ := Int.eq_ofNat_of_zero_le (show 0 ≤ findB s.envs[k].names nm by omega)
    have hjl : j < s.envs[k].slots.length := by have := HLEN.out; omega
    have HN := Lib.hid (show defS s k hk nm x = ⟨s.envs.set k ⟨s.envs[k].used, s.envs[k].parent, s.envs[k].names, s.envs[k].slots.set j x⟩, s.promises⟩ by unfold defS defE; rw [if_neg hneg, hj]; rfl)
    rw [hj]
    clear hneg
    obtain ⟨g2, cap2, pre2, rest2, ys, hv2, hcap2, hmax2, hg2, hpre2, hys, hblk2, hcl2⟩ := slot_edit OM.out j hjl
    simp only [Value.slice.injEq, true_and] at hv2
    obtain ⟨rfl, rfl⟩ := hv2
    have HC2 := Lib.hid hcl2
    have HB2 := Lib.hid hblk2
    clear hcl2 hblk2
    have gd := HG.out.drew g0
    obtain ⟨u0, u1, u2, u3, u4, u5, u6, u7, u8, u9, u10, u11, rfl⟩ := len12 hys
    have xs0 := fun W (h : Ok G W) => (HBX.out W h).cell 0 _ rfl
    have xs1 := fun W (h : Ok G W) => (HBX.out W h).cell 1 _ rfl
    have xs2 := fun W (h : Ok G W) => (HBX.out W h).cell 2 _ rfl
    have xs3 := fun W (h : Ok G W) => (HBX.out W h).cell 3 _ rfl
    have xs4 := fun W (h : Ok G W) => (HBX.out W h).cell 4 _ rfl
    have xs5 := fun W (h : Ok G W) => (HBX.out W h).cell 5 _ rfl
    have xs6 := fun W (h : Ok G W) => (HBX.out W h).cell 6 _ rfl
    have xs7 := fun W (h : Ok G W) => (HBX.out W h).cell 7 _ rfl
    have xs8 := fun W (h : Ok G W) => (HBX.out W h).cell 8 _ rfl
    have xs9 := fun W (h : Ok G W) => (HBX.out W h).cell 9 _ rfl
    have xs10 := fun W (h : Ok G W) => (HBX.out W h).cell 10 _ rfl
    have xs11 := fun W (h : Ok G W) => (HBX.out W h).cell 11 _ rfl
    go_wp2_with fail
    refine wp_region_phase (T := Ok G) (by kernel_rfl) [(2, 0), (2, 1), (2, 2), (1, 3), (2, 4), (2, 5), (2, 6), (1, 7), (2, 8), (1, 9), (2, 10), (0, 11)] [11] (by kernel_rfl) gd ?_
    refine gen_w gd ?_
    clear gd g0
    intro W1 gd
    have M2 := Lib.hid (HB2.out.below (HG.out.below gd))
    have z0 := M2.out.frozen (j * 12)
    have v0 := (show W1.cell? ⟨g2, j * 12, none⟩ = some u0 by simpa using M2.out.mid hpre2 0 _ rfl)
    have z1 := M2.out.frozen (j * 12 + 1)
    have v1 := M2.out.mid hpre2 1 _ rfl
    have z2 := M2.out.frozen (j * 12 + 2)
    have v2 := M2.out.mid hpre2 2 _ rfl
    have z3 := M2.out.frozen (j * 12 + 3)
    have v3 := M2.out.mid hpre2 3 _ rfl
    have z4 := M2.out.frozen (j * 12 + 4)
    have v4 := M2.out.mid hpre2 4 _ rfl
    have z5 := M2.out.frozen (j * 12 + 5)
    have v5 := M2.out.mid hpre2 5 _ rfl
    have z6 := M2.out.frozen (j * 12 + 6)
    have v6 := M2.out.mid hpre2 6 _ rfl
    have z7 := M2.out.frozen (j * 12 + 7)
    have v7 := M2.out.mid hpre2 7 _ rfl
    have z8 := M2.out.frozen (j * 12 + 8)
    have v8 := M2.out.mid hpre2 8 _ rfl
    have z9 := M2.out.frozen (j * 12 + 9)
    have v9 := M2.out.mid hpre2 9 _ rfl
    have z10 := M2.out.frozen (j * 12 + 10)
    have v10 := M2.out.mid hpre2 10 _ rfl
    have z11 := M2.out.frozen (j * 12 + 11)
    have v11 := M2.out.mid hpre2 11 _ rfl
    repeat ((first | (refine dynL_take rfl rfl (fun W g => by go_simp; rfl) ?_) | (refine dynL_pure rfl rfl (fun W => by go_simp; rfl) ?_)); go_simp)
    refine dynL_last rfl (by simp) rfl (fun K hK => ?_)
    go_wp2_with fail
    refine hK.out _ _ ?_
    clear hK
    refine dynL_done ?_
    go_wp2_with fail
    obtain ⟨c1, c2, c3⟩ := def_putM (HG.out.below gd) HDH.out HB6.out HBG.out ON.out OP.out OX.out hg2 HB2.out hpre2 hys HC2.out HCL.out _ rfl
    refine bodyPost_ret (v := .tuple #[]) (by kernel_rfl) rfl ?_
    refine ⟨rfl, c1, ?_, c3⟩
    rw [HN.out]
    exact c2
end Go.Proofs.YtejieacdfjpfnaaGreat
namespace Go.Proofs.YtejieacdfjpfnaaGreat
set_option maxRecDepth 100000
open Go.ChangeShapes Go.WideShapes Go.ChangeAt Go.RowKit Go.Deep
set_option linter.unusedVariables false

open Classical in
theorem StoreO.pushE {W : World} {lo q r6 : Nat} {d : StoreD} {v0 pv : Value} {T : Nat → Prop} {ecs : List Value} {x : EnvD}
    (h : StoreO (fun b => Rng lo q b ∧ b ≠ r6) W [v0, pv] d) (hr : r6 < q) (hq : q ≤ W.heap.size) (hlo : lo ≤ q) (hc : ecs.length = 4) (hx : EnvO T W ecs x) (hT : ∀ b, T b → q ≤ b ∧ b < W.heap.size) :
    ∃ xs, W.ownsRow lo 71 4 v0 d.envs.length xs ∧ (∀ b, v0.ownBlock = some b → Rng lo q b ∧ b ≠ r6) ∧ ∀ v' w2 w3, w2.ownsRow lo 71 4 v' (d.envs.length + 1) (xs ++ ecs) → W.grownBy w2 v0.ownBlock →
      (v'.ownBlock = v0.ownBlock ∨ v'.ownBlock = some (W.heap.size + 1)) → (∀ b, v'.ownBlock = some b → b < w2.heap.size) → Keeps (fun b => b ≠ r6) w2 w3 → StoreO (fun b => Rng lo w3.heap.size b ∧ b ≠ r6) w3 [v', pv] ⟨d.envs ++ [x], d.promises⟩ := by
  obtain ⟨A0, c0, A1, c1, f, he, o0, o1⟩ := h
  simp only [List.cons.injEq, and_true] at he
  obtain ⟨rfl, rfl⟩ := he
  obtain ⟨xs, h1, h2, h3⟩ := SlO.pushD (lo := lo) (fun h k => h.keeps k) (fun h k => h.mono k) (show SlO _ W 71 4 EnvO _ d.envs from o0) (fun b hb => ⟨hb.1.1.1, by have := hb.1.1.2; omega⟩) x ecs hc hx (fun b hb => (hT b hb).2) (fun b hb h2 => by have := hb.1.1.2; have := hT b h2; omega)
  refine ⟨xs, h1, fun b e => (h2 b e).1, fun v' w2 w3 ho hg hbk hlt hk => ?_⟩
  have hE := h3 v' w2 ho hg hbk
  obtain ⟨A', c', rfl⟩ := own_shapeC ho
  have hz := hg.size
  have hz3 := hk.1
  have hne : ∀ b, (((Rng lo q b ∧ b ≠ r6) ∧ f b = 0) ∨ T b ∨ (Value.slice A' (d.envs.length + 1) c').ownBlock = some b) → (Rng lo w3.heap.size b ∧ b ≠ r6) ∧ ¬ ((Rng lo q b ∧ b ≠ r6) ∧ f b = 1) := fun b hb => by
    rcases hb with hb | hb | hb
    · have := hb.1.1.1; have := hb.1.1.2
      exact ⟨⟨⟨by omega, by omega⟩, hb.1.2⟩, fun h => by have := h.2; have := hb.2; omega⟩
    · have := hT b hb
      exact ⟨⟨⟨by omega, by omega⟩, by omega⟩, fun h => by have := h.1.1.2; omega⟩
    · have hl := hlt b hb
      rcases hbk with e | e
      · have h8 := h2 b (e ▸ hb)
        have := h8.1.1.1; have := h8.1.1.2
        exact ⟨⟨⟨by omega, by omega⟩, h8.1.2⟩, fun h => by have := h.2; have := h8.2; omega⟩
      · have e2 := e.symm.trans hb
        injection e2 with e2
        exact ⟨⟨⟨by omega, by omega⟩, by omega⟩, fun h => by have := h.1.1.2; omega⟩
  refine ⟨A', c', A1, c1, fun b => if (Rng lo q b ∧ b ≠ r6) ∧ f b = 1 then 1 else 0, by simp, ?_, ?_⟩
  · have h9 := EnvsO.mono (EnvsO.keeps (show EnvsO _ w2 _ (d.envs ++ [x]) from hE) (hk.mono fun b hb => (hne b hb).1.2)) (fun b hb => show (Rng lo w3.heap.size b ∧ b ≠ r6) ∧ (if (Rng lo q b ∧ b ≠ r6) ∧ f b = 1 then 1 else 0) = 0 from ⟨(hne b hb).1, if_neg (hne b hb).2⟩)
    simpa using h9
  · refine PromisesO.mono (PromisesO.keeps (PromisesO.keeps o1 (Keeps.grown hg fun b hb e => ?_)) (hk.mono fun b hb => hb.1.2)) (fun b hb => ⟨⟨⟨hb.1.1.1, by have := hb.1.1.2; omega⟩, hb.1.2⟩, if_pos hb⟩)
    have := (h2 b e.symm).2
    have := hb.2
    omega

open Classical in
theorem StoreO.pushP {W : World} {lo q r6 : Nat} {d : StoreD} {v0 pv : Value} {T : Nat → Prop} {pcs : List Value} {x : PromD}
    (h : StoreO (fun b => Rng lo q b ∧ b ≠ r6) W [v0, pv] d) (hr : r6 < q) (hq : q ≤ W.heap.size) (hlo : lo ≤ q) (hc : pcs.length = 12) (hx : PromiseO T W pcs x) (hT : ∀ b, T b → q ≤ b ∧ b < W.heap.size) :
    ∃ xs, W.ownsRow lo 74 12 pv d.promises.length xs ∧ (∀ b, pv.ownBlock = some b → Rng lo q b ∧ b ≠ r6) ∧ ∀ v' w2 w3, w2.ownsRow lo 74 12 v' (d.promises.length + 1) (xs ++ pcs) → W.grownBy w2 pv.ownBlock →
      (v'.ownBlock = pv.ownBlock ∨ v'.ownBlock = some (W.heap.size + 1)) → (∀ b, v'.ownBlock = some b → b < w2.heap.size) → Keeps (fun b => b ≠ r6) w2 w3 → StoreO (fun b => Rng lo w3.heap.size b ∧ b ≠ r6) w3 [v0, v'] ⟨d.envs, d.promises ++ [x]⟩ := by
  obtain ⟨A0, c0, A1, c1, f, he, o0, o1⟩ := h
  simp only [List.cons.injEq, and_true] at he
  obtain ⟨rfl, rfl⟩ := he
  obtain ⟨xs, h1, h2, h3⟩ := SlO.pushD (lo := lo) (fun h k => h.keeps k) (fun h k => h.mono k) (show SlO _ W 74 12 PromiseO _ d.promises from o1) (fun b hb => ⟨hb.1.1.1, by have := hb.1.1.2; omega⟩) x pcs hc hx (fun b hb => (hT b hb).2) (fun b hb h2 => by have := hb.1.1.2; have := hT b h2; omega)
  refine ⟨xs, h1, fun b e => (h2 b e).1, fun v' w2 w3 ho hg hbk hlt hk => ?_⟩
  have hE := h3 v' w2 ho hg hbk
  obtain ⟨A', c', rfl⟩ := own_shapeC ho
  have hz := hg.size
  have hz3 := hk.1
  have hne : ∀ b, (((Rng lo q b ∧ b ≠ r6) ∧ f b = 1) ∨ T b ∨ (Value.slice A' (d.promises.length + 1) c').ownBlock = some b) → (Rng lo w3.heap.size b ∧ b ≠ r6) ∧ ¬ ((Rng lo q b ∧ b ≠ r6) ∧ f b = 0) := fun b hb => by
    rcases hb with hb | hb | hb
    · have := hb.1.1.1; have := hb.1.1.2
      exact ⟨⟨⟨by omega, by omega⟩, hb.1.2⟩, fun h => by have := h.2; have := hb.2; omega⟩
    · have := hT b hb
      exact ⟨⟨⟨by omega, by omega⟩, by omega⟩, fun h => by have := h.1.1.2; omega⟩
    · have hl := hlt b hb
      rcases hbk with e | e
      · have h8 := h2 b (e ▸ hb)
        have := h8.1.1.1; have := h8.1.1.2
        exact ⟨⟨⟨by omega, by omega⟩, h8.1.2⟩, fun h => by have := h.2; have := h8.2; omega⟩
      · have e2 := e.symm.trans hb
        injection e2 with e2
        exact ⟨⟨⟨by omega, by omega⟩, by omega⟩, fun h => by have := h.1.1.2; omega⟩
  refine ⟨A0, c0, A', c', fun b => if (Rng lo q b ∧ b ≠ r6) ∧ f b = 0 then 0 else 1, by simp, ?_, ?_⟩
  · refine EnvsO.mono (EnvsO.keeps (EnvsO.keeps o0 (Keeps.grown hg fun b hb e => ?_)) (hk.mono fun b hb => hb.1.2)) (fun b hb => ⟨⟨⟨hb.1.1.1, by have := hb.1.1.2; omega⟩, hb.1.2⟩, if_pos hb⟩)
    have := (h2 b e.symm).2
    have := hb.2
    omega
  · have h9 := PromisesO.mono (PromisesO.keeps (show PromisesO _ w2 _ (d.promises ++ [x]) from hE) (hk.mono fun b hb => (hne b hb).1.2)) (fun b hb => show (Rng lo w3.heap.size b ∧ b ≠ r6) ∧ (if (Rng lo q b ∧ b ≠ r6) ∧ f b = 0 then 0 else 1) = 1 from ⟨(hne b hb).1, if_neg (hne b hb).2⟩)
    simpa using h9
end Go.Proofs.YtejieacdfjpfnaaGreat
