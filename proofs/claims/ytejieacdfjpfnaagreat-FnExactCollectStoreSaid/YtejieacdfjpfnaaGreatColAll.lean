/-
  CollectStore: contracts; a store swept in place; what a law's walk has in hand.
-/
import Derived.Test.YtejieacdfjpfnaaGreatStE
import Derived.Test.YtejieacdfjpfnaaGreatGood
import Derived.Test.YtejieacdfjpfnaaGreatMarks
import Derived.Test.YtejieacdfjpfnaaGreatGSlot
import Derived.Test.YtejieacdfjpfnaaGreatL27
import Derived.Test.YtejieacdfjpfnaaGreatPhase
import Derived.Test.YtejieacdfjpfnaaGreatReachP
namespace Go.Proofs.YtejieacdfjpfnaaGreat
set_option maxRecDepth 100000
open Go.ChangeShapes Go.WideShapes Go.ChangeAt Go.RowKit Go.Deep
set_option linter.unusedVariables false
set_option maxRecDepth 100000
set_option maxRecDepth 100000
open Classical in
theorem SlO.pushD {α : Type} {w : World} {lo : Nat} {e : TypeId} {size : Nat} {RO : (Nat → Prop) → World → List Value → α → Prop} {v : Value} {l : List α} {S T : Nat → Prop}
    (hRK : ∀ {T : Nat → Prop} {w w' : World} {cs : List Value} {x : α}, RO T w cs x → Keeps T w w' → RO T w' cs x)
    (hRM : ∀ {T T' : Nat → Prop} {w : World} {cs : List Value} {x : α}, RO T w cs x → (∀ b, T b → T' b) → RO T' w cs x)
    (h : SlO S w e size RO v l) (hS : ∀ b, S b → lo ≤ b ∧ b < w.heap.size) (x : α) (cs : List Value) (hcs : cs.length = size) (hx : RO T w cs x) (hT : ∀ b, T b → b < w.heap.size) (hd : ∀ b, S b → ¬ T b) :
    ∃ xs, w.ownsRow lo e size v l.length xs ∧ (∀ b, v.ownBlock = some b → S b) ∧ ∀ v' w2, w2.ownsRow lo e size v' (l.length + 1) (xs ++ cs) → w.grownBy w2 v.ownBlock → (v'.ownBlock = v.ownBlock ∨ v'.ownBlock = some (w.heap.size + 1)) →
      SlO (fun b => S b ∨ T b ∨ v'.ownBlock = some b) w2 e size RO v' (l ++ [x]) := by
  obtain ⟨xss, f, h1, h2, h3, h4⟩ := h
  have hown : w.ownsRow lo e size v l.length xss.flatten := by
    refine ⟨h3.1, ?_⟩
    rcases h3.2 with hn | ⟨g, cap, cur, rfl, _, hg, rest⟩
    · exact .inl hn
    · exact .inr ⟨g, cap, cur, rfl, (hS g (h4 g rfl).1).1, hg, rest⟩
  refine ⟨xss.flatten, hown, fun b e1 => (h4 b e1).1, fun v' w2 ho hg hbk => ?_⟩
  have hz2 := hg.size
  have hown0 : ∀ b, v.ownBlock = some b → S b ∧ f b = 0 := fun b e1 => h4 b e1
  refine ⟨xss ++ [cs], fun b => if v'.ownBlock = some b then 0 else if T b then l.length + 1 else f b, by simp [h1], fun k a b => ?_, ⟨?_, ?_⟩, fun k hk => ⟨.inr (.inr hk), by simp [hk]⟩⟩
  · by_cases hk : k < l.length
    · rw [List.getElem_append_left (by omega), List.getElem_append_left hk]
      obtain ⟨q1, q2⟩ := h2 k (by omega) hk
      refine ⟨q1, hRM (hRK q2 (Keeps.grown hg fun b hT' e1 => ?_)) fun b hT' => ⟨.inl hT'.1, ?_⟩⟩
      · have := (hown0 b e1.symm).2
        have := hT'.2
        omega
      · have hbl := (hS b hT'.1).2
        have hne : v'.ownBlock ≠ some b := fun e1 => by
          rcases hbk with e2 | e2
          · have := (hown0 b (e2 ▸ e1)).2
            have := hT'.2
            omega
          · rw [e2] at e1
            injection e1 with e1
            omega
        show (if v'.ownBlock = some b then 0 else if T b then l.length + 1 else f b) = k + 1
        rw [if_neg hne, if_neg (hd b hT'.1)]
        exact hT'.2
    · have hk' : k = l.length := by simp at b; omega
      subst hk'
      rw [List.getElem_append_right (by omega), List.getElem_append_right (by omega)]
      simp only [h1, Nat.sub_self, List.getElem_cons_zero]
      refine ⟨hcs, hRM (hRK hx (Keeps.grown hg fun b hT' e1 => hd b (hown0 b e1.symm).1 hT')) fun b hT' => ⟨.inr (.inl hT'), ?_⟩⟩
      have hne : v'.ownBlock ≠ some b := fun e1 => by
        rcases hbk with e2 | e2
        · exact hd b (hown0 b (e2 ▸ e1)).1 hT'
        · rw [e2] at e1
          injection e1 with e1
          have := hT b hT'
          omega
      show (if v'.ownBlock = some b then 0 else if T b then l.length + 1 else f b) = l.length + 1
      rw [if_neg hne, if_pos hT']
  · have := ho.1
    simpa using this
  · rw [List.flatten_append, List.length_append]
    have := (own_base ho (Nat.zero_le lo)).2
    simpa using this

theorem TxtO.push_ {S : Nat → Prop} {w : World} {v : Value} {l : List (List UInt8)} {lo : Nat} (h : TxtO S w v l) (hS : ∀ b, S b → lo ≤ b) (s : List UInt8) (hs : s.length ≤ maxLen) :
    w.ownsRow lo 9 1 v l.length (l.map fun s => Value.string (str s)) ∧ (∀ b, v.ownBlock = some b → S b) ∧ ∀ v' w2, w2.ownsRow lo 9 1 v' (l.length + 1) ((l.map fun s => Value.string (str s)) ++ [.string (str s)]) → TxtO (fun b => S b ∨ v'.ownBlock = some b) w2 v' (l ++ [s]) := by
  obtain ⟨⟨h1, h2⟩, h3⟩ := h
  refine ⟨⟨h1.1, ?_⟩, h2, fun v' w2 ho => ⟨⟨?_, fun k hk => .inr hk⟩, fun t ht => ?_⟩⟩
  · rcases h1.2 with hn | ⟨g, cap, cur, rfl, _, hg, rest⟩
    · exact .inl hn
    · exact .inr ⟨g, cap, cur, rfl, hS g (h2 g rfl), hg, rest⟩
  · have := own_base ho (Nat.zero_le lo)
    simpa using this
  · rcases List.mem_append.1 ht with ht | ht
    · exact h3 t ht
    · rw [List.mem_singleton] at ht
      subst ht
      exact hs

section
variable {α : Type} {S : Nat → Prop} {f : Nat → Nat} {w w' : World} {e : TypeId} {size : Nat} {RO : (Nat → Prop) → World → List Value → α → Prop} {g : Nat} {post : List Value} {ys : List (List Value)} {m : List α}
open Classical in
theorem MidO.updateD (hRK : ∀ {T : Nat → Prop} {w w' : World} {cs : List Value} {x : α}, RO T w cs x → Keeps T w w' → RO T w' cs x)
    (hRM : ∀ {T T' : Nat → Prop} {w : World} {cs : List Value} {x : α}, RO T w cs x → (∀ b, T b → T' b) → RO T' w cs x)
    (h : MidO S f w e size RO g post ys m) (i : Nat) (hi : i < m.length) (cs' : List Value) (x' : α) (hc : cs'.length = size) {T N : Nat → Prop}
    (hb : Blk w' g e ((ys.set i cs').flatten ++ post)) (hx : RO T w' cs' x') (hT : ∀ b, T b → (S b ∧ f b = i + 1) ∨ N b) (hN : ∀ b, S b → ¬ N b) (hk : Keeps (fun b => S b ∧ b ≠ g ∧ f b ≠ i + 1) w w') :
    ∃ f', MidO (fun b => S b ∨ N b) f' w' e size RO g post (ys.set i cs') (m.set i x') := by
  refine ⟨fun b => if N b then i + 1 else f b, ⟨.inl h.own.1, by show (if N g then i + 1 else f g) = 0; rw [if_neg (hN g h.own.1)]; exact h.own.2⟩, hb, by simp [h.len], fun k h1 h2 => ?_⟩
  by_cases hki : k = i
  · subst hki
    simp only [List.getElem_set_self]
    refine ⟨hc, hRM hx fun b hb => ?_⟩
    rcases hT b hb with h8 | h8
    · exact ⟨.inl h8.1, by rw [if_neg (hN b h8.1)]; exact h8.2⟩
    · exact ⟨.inr h8, by rw [if_pos h8]⟩
  · rw [List.getElem_set_ne (by omega), List.getElem_set_ne (by omega)]
    simp only [List.length_set] at h1 h2
    obtain ⟨q1, q2⟩ := h.elem k h1 h2
    refine ⟨q1, hRM (hRK q2 (hk.mono fun b hb => ⟨hb.1, fun hg => ?_, fun hq => ?_⟩)) fun b hb => ⟨.inl hb.1, by rw [if_neg (hN b hb.1)]; exact hb.2⟩⟩
    · have := hb.2
      have := h.own.2
      subst hg
      omega
    · have := hb.2
      omega
end
theorem SlO.notnil {α : Type} {S : Nat → Prop} {w : World} {e : TypeId} {size : Nat} {RO : (Nat → Prop) → World → List Value → α → Prop} {v : Value} {l : List α} (h : SlO S w e size RO v l) {k : Nat} (hk : k < l.length) :
    ∃ g cap f post ys, v = .slice (some ⟨g, 0, none⟩) l.length cap ∧ l.length ≤ cap ∧ cap ≤ maxLen ∧ l.length * size + post.length = cap * size ∧ MidO S f w e size RO g post ys l := by
  rcases SlO.mid h with ⟨_, rfl⟩ | h
  · simp at hk
  · exact h

open Classical in
/-- one environment of a store, opened and closed again with other names and slots -/
theorem env_edit {S : Nat → Prop} {w : World} {v : Value} {l : List EnvD} (h : EnvsO S w v l) (k : Nat) (hk : k < l.length) :
    ∃ (g cap : Nat) (pre rest : List Value) (N M : Option Addr) (n m : Nat) (SN SM : Nat → Prop), v = .slice (some ⟨g, 0, none⟩) l.length cap ∧ l.length ≤ cap ∧ cap ≤ maxLen ∧ S g ∧ pre.length = k * 4 ∧ I64 l[k].parent ∧
      Blk w g 71 (pre ++ [.bool l[k].used, .int .i64 l[k].parent, .slice N l[k].names.length n, .slice M l[k].slots.length m] ++ rest) ∧
      TxtO SN w (.slice N l[k].names.length n) l[k].names ∧ SlotsO SM w (.slice M l[k].slots.length m) l[k].slots ∧
      (∀ b, SN b → S b ∧ b ≠ g ∧ ¬ SM b) ∧ (∀ b, SM b → S b ∧ b ≠ g ∧ ¬ SN b) ∧
      ∀ (w' : World) (N' M' : Option Addr) (n' m' : Nat) (ns : List (List UInt8)) (ss : List SlotD) (SN' SM' X : Nat → Prop),
        Blk w' g 71 (pre ++ [.bool l[k].used, .int .i64 l[k].parent, .slice N' ns.length n', .slice M' ss.length m'] ++ rest) →
        TxtO SN' w' (.slice N' ns.length n') ns → SlotsO SM' w' (.slice M' ss.length m') ss → (∀ b, SN' b → (SN b ∨ SM b ∨ X b) ∧ ¬ SM' b) → (∀ b, SM' b → SN b ∨ SM b ∨ X b) → (∀ b, S b → ¬ X b) →
        Keeps (fun b => S b ∧ b ≠ g ∧ ¬ SN b ∧ ¬ SM b) w w' → EnvsO (fun b => S b ∨ X b) w' v (l.set k ⟨l[k].used, l[k].parent, ns, ss⟩) := by
  obtain ⟨g, cap, f, post, ys, rfl, hcap, hmax, hpost, hm⟩ := SlO.notnil (show SlO S w 71 4 EnvO v l from h) hk
  obtain ⟨hy, pre, rest, hpre, hblk, hset, N, n, M, m, f2, hcs, _, hi64, oN, oM⟩ := hm.at_ k hk
  rw [hcs] at hblk
  refine ⟨g, cap, pre, rest, N, M, n, m, _, _, rfl, hcap, hmax, hm.own.1, hpre, hi64, hblk, oN, oM, fun b hb => ⟨hb.1.1, fun e => ?_, fun hb2 => ?_⟩, fun b hb => ⟨hb.1.1, fun e => ?_, fun hb2 => ?_⟩, fun w' N' M' n' m' ns ss SN' SM' X hb' hN' hM' hSN hSM hX hK => ?_⟩
  · have := hb.1.2
    have := hm.own.2
    subst e
    omega
  · have := hb.2
    have := hb2.2
    omega
  · have := hb.1.2
    have := hm.own.2
    subst e
    omega
  · have := hb.2
    have := hb2.2
    omega
  · have hin : ∀ b, ((S b ∧ f b = k + 1) ∧ f2 b = 2) ∨ ((S b ∧ f b = k + 1) ∧ f2 b = 3) ∨ X b → (S b ∧ f b = k + 1) ∨ X b := fun b hb => by
      rcases hb with hb | hb | hb
      · exact .inl hb.1
      · exact .inl hb.1
      · exact .inr hb
    obtain ⟨f', hm'⟩ := MidO.updateD (w' := w') (fun h k => h.keeps k) (fun h k => h.mono k) hm k hk [.bool l[k].used, .int .i64 l[k].parent, .slice N' ns.length n', .slice M' ss.length m'] ⟨l[k].used, l[k].parent, ns, ss⟩ rfl (T := fun b => (S b ∧ f b = k + 1) ∨ X b) (N := X) (by rw [← hset]; exact hb')
      (show EnvO _ w' _ _ from ⟨N', n', M', m', fun b => if SM' b then 3 else 2, rfl, trivial, hi64, TxtO.mono hN' (fun b hb => ⟨hin b (hSN b hb).1, if_neg (hSN b hb).2⟩), SlotsO.mono hM' (fun b hb => ⟨hin b (hSM b hb), if_pos hb⟩)⟩)
      (fun b hb => hb) hX (hK.mono fun b hb => ⟨hb.1, hb.2.1, fun h8 => hb.2.2 h8.1.2, fun h8 => hb.2.2 h8.1.2⟩)
    have := hm'.back (cap := cap) (by simpa using hcap) hmax (by simpa using hpost)
    simpa using (show EnvsO (fun b => S b ∨ X b) w' _ _ from this)

/-! ### define -/
def defE (e : EnvD) (nm : List UInt8) (x : SlotD) : EnvD := if findB e.names nm < 0 then ⟨e.used, e.parent, e.names ++ [nm], e.slots ++ [x]⟩ else ⟨e.used, e.parent, e.names, e.slots.set (findB e.names nm).toNat x⟩
def defS (s : StoreD) (k : Nat) (h : k < s.envs.length) (nm : List UInt8) (x : SlotD) : StoreD := ⟨s.envs.set k (defE s.envs[k] nm x), s.promises⟩

/-- the sets of blocks that define looks at -/
structure DH (w : World) (lo r6 g : Nat) (SN SM SP KS : Nat → Prop) : Prop where
  r : lo ≤ r6 ∧ r6 < w.heap.size
  g1 : lo ≤ g ∧ g < r6
  N : ∀ b, SN b → lo ≤ b ∧ b < r6 ∧ b ≠ g ∧ ¬ SM b
  M : ∀ b, SM b → lo ≤ b ∧ b < r6 ∧ b ≠ g ∧ ¬ SN b
  P : ∀ b, SP b → lo ≤ b ∧ b < r6 ∧ b ≠ g ∧ ¬ SN b ∧ ¬ SM b
  K : ∀ b, KS b → lo ≤ b ∧ b < r6 ∧ b ≠ g ∧ ¬ SN b ∧ ¬ SM b

/-- define, after the name is added -/
structure DM2 (w : World) (lo r6 g : Nat) (cs xcs pre rest : List Value) (d : EnvD) (nm : List UInt8) (x : SlotD) (A1 : Option Addr) (n1 : Nat) (M : Option Addr) (m : Nat) (SN SM SP KS : Nat → Prop) (pv : Value) (ps : List PromD) (W : World) : Prop where
  b6 : Blk W r6 33 cs
  bx : Blk W w.heap.size 96 xcs
  bg : Blk W g 71 (pre ++ [.bool d.used, .int .i64 d.parent, .slice A1 (d.names.length + 1) n1, .slice M d.slots.length m] ++ rest)
  oN : TxtO (fun b => SN b ∨ (Value.slice A1 (d.names.length + 1) n1).ownBlock = some b) W (.slice A1 (d.names.length + 1) n1) (d.names ++ [nm])
  oM : SlotsO SM W (.slice M d.slots.length m) d.slots
  oP : PromisesO SP W pv ps
  oX : SlotO (Rng (r6 + 1) w.heap.size) W xcs x
  kp : Keeps KS w W
  below : Below lo w W
  top : w.heap.size < W.heap.size
  nb : ∀ b, (Value.slice A1 (d.names.length + 1) n1).ownBlock = some b → SN b ∨ (w.heap.size < b ∧ b < W.heap.size)
section
variable {w W W' w3 : World} {lo r6 g k : Nat} {cs xcs pre rest : List Value} {d : EnvD} {nm : List UInt8} {x : SlotD} {A1 N M : Option Addr} {n1 n m : Nat} {SN SM SP KS : Nat → Prop} {pv : Value} {ps : List PromD}
theorem DM2.step (dh : DH w lo r6 g SN SM SP KS) (h : DM2 w lo r6 g cs xcs pre rest d nm x A1 n1 M m SN SM SP KS pv ps W) (hb : Below W.heap.size W W') : DM2 w lo r6 g cs xcs pre rest d nm x A1 n1 M m SN SM SP KS pv ps W' :=
  have h1 := h.top
  have h2 := dh.r
  ⟨h.b6.below hb, h.bx.below hb, h.bg.below hb, TxtO.keeps h.oN (Keeps.of_below _ hb), SlotsO.keeps h.oM (Keeps.of_below _ hb), PromisesO.keeps h.oP (Keeps.of_below _ hb), SlotO.keeps h.oX (Keeps.of_below _ hb), h.kp.trans (Keeps.of_below _ hb), h.below.trans (hb.mono (by omega)), Nat.lt_of_lt_of_le h1 hb.size,
    fun b hb' => (h.nb b hb').imp id fun h8 => ⟨h8.1, Nat.lt_of_lt_of_le h8.2 hb.size⟩⟩
theorem def_names (dh : DH w lo r6 g SN SM SP KS) (hW : Below w.heap.size w W) (bx : Blk W w.heap.size 96 xcs) (b6 : Blk w r6 33 cs) (hpre : pre.length = k * 4)
    (bg : Blk w g 71 (pre ++ [.bool d.used, .int .i64 d.parent, .slice N d.names.length n, .slice M d.slots.length m] ++ rest))
    (oM : SlotsO SM w (.slice M d.slots.length m) d.slots) (oP : PromisesO SP w pv ps) (oX : SlotO (Rng (r6 + 1) w.heap.size) w xcs x)
    (hown : ∀ b, (Value.slice N d.names.length n).ownBlock = some b → SN b)
    (ho : TxtO (fun b => SN b ∨ (Value.slice A1 (d.names.length + 1) n1).ownBlock = some b) w3 (.slice A1 (d.names.length + 1) n1) (d.names ++ [nm]))
    (hlt : ∀ b, (Value.slice A1 (d.names.length + 1) n1).ownBlock = some b → b < w3.heap.size)
    (hg : W.grownBy w3 (Value.slice N d.names.length n).ownBlock) (hbk : (Value.slice A1 (d.names.length + 1) n1).ownBlock = (Value.slice N d.names.length n).ownBlock ∨ (Value.slice A1 (d.names.length + 1) n1).ownBlock = some (W.heap.size + 1)) (hb : Below lo W w3) :
    DM2 w lo r6 g cs xcs pre rest d nm x A1 n1 M m SN SM SP KS pv ps (w3.setCell ⟨g, k * 4 + 2, none⟩ (.slice A1 (d.names.length + 1) n1)) := by
  have hr := dh.r
  have hg1 := dh.g1
  have hWs := hW.size
  have hw3 := hg.size
  have hbx := bx.lt
  have hnb : ∀ b, (Value.slice A1 (d.names.length + 1) n1).ownBlock = some b → SN b ∨ (w.heap.size < b ∧ b < w3.heap.size) := fun b e => by
    rcases hbk with h8 | h8
    · exact .inl (hown b (h8 ▸ e))
    · have h9 := h8.symm.trans e
      injection h9 with h9
      exact .inr ⟨by omega, hlt b e⟩
  have hfar : ∀ b, b < w.heap.size → ¬ SN b → w3.heap[b]? = w.heap[b]? := fun b h1 h2 => (hg.block b (by omega) (fun e => h2 (hown b e.symm))).trans (hW.block b h1)
  have hK : ∀ S : Nat → Prop, (∀ b, S b → ¬ SN b) → Keeps S w w3 := fun S hS => ⟨by omega, fun b h1 h2 => hfar b h1 (hS b h2)⟩
  have hng : ∀ b, SN b → b ≠ g := fun b h => (dh.N b h).2.2.1
  refine ⟨Blk.far ((hfar r6 hr.2 (fun h => by have := dh.N _ h; omega)).trans b6) ⟨g, k * 4 + 2, none⟩ (by simp <;> omega) _, Blk.far ((hg.block _ hbx (fun e => by have := dh.N _ (hown _ e.symm); omega)).trans bx) ⟨g, k * 4 + 2, none⟩ (by simp <;> omega) _, ?_,
    TxtO.keeps ho ((Keeps.refl _ _).sc (fun h => ?_) _), SlotsO.keeps (SlotsO.keeps oM (hK _ fun b h => (dh.M b h).2.2.2)) ((Keeps.refl _ _).sc (fun h => (dh.M g h).2.2.1 rfl) _), PromisesO.keeps (PromisesO.keeps oP (hK _ fun b h => (dh.P b h).2.2.2.1)) ((Keeps.refl _ _).sc (fun h => (dh.P g h).2.2.1 rfl) _),
    SlotO.keeps (SlotO.keeps oX (hK _ fun b h h2 => by have := dh.N b h2; have := h.1; omega)) ((Keeps.refl _ _).sc (fun h => by have := h.1; omega) _), (hK _ fun b h => (dh.K b h).2.2.2.1).sc (fun h => (dh.K g h).2.2.1 rfl) _, below_sc ((hW.mono (by omega)).trans hb) hg1.1 _, by rw [size_sc]; omega, fun b e => by rw [size_sc]; exact hnb b e⟩
  · have h8 := Blk.mid_set (w := w3) (g := g) (e := 71) (pre := pre) (rest := rest) ((hfar g (by omega) (fun h => hng g h rfl)).trans bg) hpre 2 (.slice A1 (d.names.length + 1) n1) (by simp)
    simpa using h8
  · rcases h with h | h
    · exact hng g h rfl
    · rcases hnb g h with h | h
      · exact hng g h rfl
      · omega
theorem def_slots {A2 : Option Addr} {n2 : Nat} (dh : DH w lo r6 g SN SM SP KS) (h : DM2 w lo r6 g cs xcs pre rest d nm x A1 n1 M m SN SM SP KS pv ps W) (hpre : pre.length = k * 4)
    (hown : ∀ b, (Value.slice M d.slots.length m).ownBlock = some b → SM b)
    (ho : SlotsO (fun b => SM b ∨ Rng (r6 + 1) w.heap.size b ∨ (Value.slice A2 (d.slots.length + 1) n2).ownBlock = some b) w3 (.slice A2 (d.slots.length + 1) n2) (d.slots ++ [x]))
    (hlt : ∀ b, (Value.slice A2 (d.slots.length + 1) n2).ownBlock = some b → b < w3.heap.size)
    (hg : W.grownBy w3 (Value.slice M d.slots.length m).ownBlock) (hbk : (Value.slice A2 (d.slots.length + 1) n2).ownBlock = (Value.slice M d.slots.length m).ownBlock ∨ (Value.slice A2 (d.slots.length + 1) n2).ownBlock = some (W.heap.size + 1)) (hb : Below lo W w3)
    (w' : World) (hw' : w' = w3.setCell ⟨g, k * 4 + 3, none⟩ (.slice A2 (d.slots.length + 1) n2)) :
    Blk w' r6 33 cs ∧ Below lo w w' ∧ Blk w' g 71 (pre ++ [.bool d.used, .int .i64 d.parent, .slice A1 (d.names.length + 1) n1, .slice A2 (d.slots.length + 1) n2] ++ rest) ∧
      TxtO (fun b => SN b ∨ (Value.slice A1 (d.names.length + 1) n1).ownBlock = some b) w' (.slice A1 (d.names.length + 1) n1) (d.names ++ [nm]) ∧
      SlotsO (fun b => SM b ∨ Rng (r6 + 1) w.heap.size b ∨ (Value.slice A2 (d.slots.length + 1) n2).ownBlock = some b) w' (.slice A2 (d.slots.length + 1) n2) (d.slots ++ [x]) ∧ PromisesO SP w' pv ps ∧ Keeps KS w w' ∧
      (∀ b, (SN b ∨ (Value.slice A1 (d.names.length + 1) n1).ownBlock = some b) → (SN b ∨ SM b ∨ Rng (r6 + 1) w'.heap.size b) ∧ ¬ (SM b ∨ Rng (r6 + 1) w.heap.size b ∨ (Value.slice A2 (d.slots.length + 1) n2).ownBlock = some b)) ∧
      (∀ b, (SM b ∨ Rng (r6 + 1) w.heap.size b ∨ (Value.slice A2 (d.slots.length + 1) n2).ownBlock = some b) → (SN b ∨ SM b ∨ Rng (r6 + 1) w'.heap.size b)) := by
  subst hw'
  have hr := dh.r
  have hg1 := dh.g1
  have hw3 := hg.size
  have htop := h.top
  have hbx := h.bx.lt
  have hnb : ∀ b, (Value.slice A2 (d.slots.length + 1) n2).ownBlock = some b → SM b ∨ (W.heap.size < b ∧ b < w3.heap.size) := fun b e => by
    rcases hbk with h8 | h8
    · exact .inl (hown b (h8 ▸ e))
    · have h9 := h8.symm.trans e
      injection h9 with h9
      exact .inr ⟨by omega, hlt b e⟩
  have hfar : ∀ b, b < W.heap.size → ¬ SM b → w3.heap[b]? = W.heap[b]? := fun b h1 h2 => hg.block b h1 (fun e => h2 (hown b e.symm))
  have hK : ∀ S : Nat → Prop, (∀ b, S b → ¬ SM b) → Keeps S W w3 := fun S hS => ⟨hw3, fun b h1 h2 => hfar b h1 (hS b h2)⟩
  have hNM : ∀ b, (SN b ∨ (Value.slice A1 (d.names.length + 1) n1).ownBlock = some b) → ¬ SM b := fun b hb => by
    rcases hb with hb | hb
    · exact (dh.N b hb).2.2.2
    · rcases h.nb b hb with h8 | h8
      · exact (dh.N b h8).2.2.2
      · intro h9; have := (dh.M b h9).2.1; omega
  have hNg : ¬ (SN g ∨ (Value.slice A1 (d.names.length + 1) n1).ownBlock = some g) := fun hb => by
    rcases hb with hb | hb
    · exact (dh.N g hb).2.2.1 rfl
    · rcases h.nb g hb with h8 | h8
      · exact (dh.N g h8).2.2.1 rfl
      · omega
  have hMg : ¬ (SM g ∨ Rng (r6 + 1) w.heap.size g ∨ (Value.slice A2 (d.slots.length + 1) n2).ownBlock = some g) := fun hb => by
    rcases hb with hb | hb | hb
    · exact (dh.M g hb).2.2.1 rfl
    · have := hb.1; omega
    · rcases hnb g hb with h8 | h8
      · exact (dh.M g h8).2.2.1 rfl
      · omega
  refine ⟨Blk.far ((hfar r6 (by omega) (fun h => by have := (dh.M _ h).2.1; omega)).trans h.b6) ⟨g, k * 4 + 3, none⟩ (by simp <;> omega) _, below_sc (h.below.trans hb) hg1.1 _, ?_,
    TxtO.keeps (TxtO.keeps h.oN (hK _ hNM)) ((Keeps.refl _ _).sc hNg _), SlotsO.keeps ho ((Keeps.refl _ _).sc hMg _),
    PromisesO.keeps (PromisesO.keeps h.oP (hK _ fun b h => (dh.P b h).2.2.2.2)) ((Keeps.refl _ _).sc (fun h => (dh.P g h).2.2.1 rfl) _), (h.kp.trans (hK _ fun b h => (dh.K b h).2.2.2.2)).sc (fun h => (dh.K g h).2.2.1 rfl) _, ?_, ?_⟩
  · have h8 := Blk.mid_set (w := w3) (g := g) (e := 71) (pre := pre) (rest := rest) ((hfar g (by omega) (fun h => (dh.M g h).2.2.1 rfl)).trans h.bg) hpre 3 (.slice A2 (d.slots.length + 1) n2) (by simp)
    simpa using h8
  · intro b hb
    rw [size_sc]
    refine ⟨?_, fun h2 => ?_⟩
    · rcases hb with hb | hb
      · exact .inl hb
      · rcases h.nb b hb with h8 | h8
        · exact .inl h8
        · exact .inr (.inr ⟨by omega, by omega⟩)
    · rcases h2 with h2 | h2 | h2
      · exact hNM b hb h2
      · rcases hb with hb | hb
        · have := (dh.N b hb).2.1; have := h2.1; omega
        · rcases h.nb b hb with h8 | h8
          · have := (dh.N b h8).2.1; have := h2.1; omega
          · have := h2.2; omega
      · rcases hnb b h2 with h2 | h2
        · exact hNM b hb h2
        · rcases hb with hb | hb
          · have := (dh.N b hb).2.1; omega
          · rcases h.nb b hb with h8 | h8
            · have := (dh.N b h8).2.1; omega
            · omega
  · intro b hb
    rw [size_sc]
    rcases hb with hb | hb | hb
    · exact .inr (.inl hb)
    · exact .inr (.inr ⟨hb.1, by have := hb.2; omega⟩)
    · rcases hnb b hb with h8 | h8
      · exact .inr (.inl h8)
      · exact .inr (.inr ⟨by omega, h8.2⟩)
end
open Classical in
/-- one environment of a store, opened and closed again -/
theorem store_edit {w : World} {lo r6 : Nat} {cs : List Value} {s : StoreD} (h : StoreO (Rng lo r6) w cs s) (k : Nat) (hk : k < s.envs.length) (hlo : lo ≤ r6) (hr : r6 < w.heap.size) :
    ∃ (g cap : Nat) (pre rest : List Value) (N M : Option Addr) (n m : Nat) (SN SM SP KS : Nat → Prop) (pv : Value), cs = [.slice (some ⟨g, 0, none⟩) s.envs.length cap, pv] ∧ s.envs.length ≤ cap ∧ cap ≤ maxLen ∧ pre.length = k * 4 ∧ I64 s.envs[k].parent ∧ DH w lo r6 g SN SM SP KS ∧
      Blk w g 71 (pre ++ [.bool s.envs[k].used, .int .i64 s.envs[k].parent, .slice N s.envs[k].names.length n, .slice M s.envs[k].slots.length m] ++ rest) ∧
      TxtO SN w (.slice N s.envs[k].names.length n) s.envs[k].names ∧ SlotsO SM w (.slice M s.envs[k].slots.length m) s.envs[k].slots ∧ PromisesO SP w pv s.promises ∧
      ∀ (w' : World) (N' M' : Option Addr) (n' m' : Nat) (ns : List (List UInt8)) (ss : List SlotD) (SN' SM' : Nat → Prop), w.heap.size ≤ w'.heap.size →
        Blk w' g 71 (pre ++ [.bool s.envs[k].used, .int .i64 s.envs[k].parent, .slice N' ns.length n', .slice M' ss.length m'] ++ rest) →
        TxtO SN' w' (.slice N' ns.length n') ns → SlotsO SM' w' (.slice M' ss.length m') ss → (∀ b, SN' b → (SN b ∨ SM b ∨ Rng (r6 + 1) w'.heap.size b) ∧ ¬ SM' b) → (∀ b, SM' b → SN b ∨ SM b ∨ Rng (r6 + 1) w'.heap.size b) →
        PromisesO SP w' pv s.promises → Keeps KS w w' → StoreO (fun b => Rng lo w'.heap.size b ∧ b ≠ r6) w' cs ⟨s.envs.set k ⟨s.envs[k].used, s.envs[k].parent, ns, ss⟩, s.promises⟩ := by
  obtain ⟨A0, c0, A1, c1, f, rfl, o0, o1⟩ := h
  obtain ⟨g, cap, pre, rest, N, M, n, m, SN, SM, hv, hcap, hmax, hg, hpre, hi64, hblk, oN, oM, hSN, hSM, hcl⟩ := env_edit o0 k hk
  injection hv with hv1 _ hv2
  subst hv1 hv2
  refine ⟨g, c0, pre, rest, N, M, n, m, SN, SM, fun b => Rng lo r6 b ∧ f b = 1, fun b => (Rng lo r6 b ∧ f b = 0) ∧ b ≠ g ∧ ¬ SN b ∧ ¬ SM b, _, rfl, hcap, hmax, hpre, hi64, ⟨⟨hlo, hr⟩, hg.1, ?_, ?_, ?_, ?_⟩, hblk, oN, oM, o1, fun w' N' M' n' m' ns ss SN' SM' hsz hb' hN' hM' hSN' hSM' hP' hK' => ?_⟩
  · intro b hb
    obtain ⟨h1, h2, h3⟩ := hSN b hb
    exact ⟨h1.1.1, h1.1.2, h2, h3⟩
  · intro b hb
    obtain ⟨h1, h2, h3⟩ := hSM b hb
    exact ⟨h1.1.1, h1.1.2, h2, h3⟩
  · intro b hb
    refine ⟨hb.1.1, hb.1.2, fun e => ?_, fun h => ?_, fun h => ?_⟩
    · have := hg.2; have := hb.2; subst e; omega
    · have := (hSN b h).1.2; have := hb.2; omega
    · have := (hSM b h).1.2; have := hb.2; omega
  · intro b hb
    exact ⟨hb.1.1.1, hb.1.1.2, hb.2⟩
  · have hE := hcl w' N' M' n' m' ns ss SN' SM' (Rng (r6 + 1) w'.heap.size) hb' hN' hM' hSN' hSM' (fun b hb hx => by have := hb.1.2; have := hx.1; omega) hK'
    have hrl : ∀ b, Rng lo r6 b → Rng lo w'.heap.size b ∧ b ≠ r6 := fun b hb => ⟨⟨hb.1, by have := hb.2; omega⟩, by have := hb.2; omega⟩
    refine ⟨some ⟨g, 0, none⟩, c0, A1, c1, fun b => if Rng lo r6 b ∧ f b = 1 then 1 else 0, by simp, ?_, PromisesO.mono hP' fun b hb => ⟨hrl b hb.1, if_pos hb⟩⟩
    refine (show EnvsO _ w' _ _ from ?_)
    have hE2 := EnvsO.mono (S' := fun b => (Rng lo w'.heap.size b ∧ b ≠ r6) ∧ (if Rng lo r6 b ∧ f b = 1 then 1 else 0) = 0) hE fun b hb => by
      rcases hb with hb | hb
      · exact ⟨hrl b hb.1, if_neg (fun h => by have := h.2; have := hb.2; omega)⟩
      · exact ⟨⟨⟨by have := hb.1; omega, hb.2⟩, by have := hb.1; omega⟩, if_neg (fun h => by have := h.1.2; have := hb.1; omega)⟩
    simpa using hE2

/-- one slot is replaced -/
theorem slot_edit {S : Nat → Prop} {w : World} {v : Value} {l : List SlotD} (h : SlotsO S w v l) (i : Nat) (hi : i < l.length) :
    ∃ (g cap : Nat) (pre rest ys : List Value), v = .slice (some ⟨g, 0, none⟩) l.length cap ∧ l.length ≤ cap ∧ cap ≤ maxLen ∧ S g ∧ pre.length = i * 12 ∧ ys.length = 12 ∧ Blk w g 96 (pre ++ ys ++ rest) ∧
      ∀ (w' : World) (xcs : List Value) (x : SlotD) (T : Nat → Prop), xcs.length = 12 → Blk w' g 96 (pre ++ xcs ++ rest) → SlotO T w' xcs x → (∀ b, S b → ¬ T b) → Keeps (fun b => S b ∧ b ≠ g) w w' → SlotsO (fun b => S b ∨ T b) w' v (l.set i x) := by
  obtain ⟨g, cap, f, post, ys, rfl, hcap, hmax, hpost, hm⟩ := SlO.notnil (show SlO S w 96 12 SlotO v l from h) hi
  obtain ⟨hy, pre, rest, hpre, hblk, hset, ho⟩ := hm.at_ i hi
  refine ⟨g, cap, pre, rest, ys[i], rfl, hcap, hmax, hm.own.1, hpre, (hm.elem i hy hi).1, hblk, fun w' xcs x T hx hb' hxO hT hK => ?_⟩
  obtain ⟨f', hm'⟩ := MidO.updateD (w' := w') (fun h k => h.keeps k) (fun h k => h.mono k) hm i hi xcs x hx (T := T) (N := T) (by rw [← hset]; exact hb') (show SlotO _ w' _ _ from hxO) (fun b hb => .inr hb) hT (hK.mono fun b hb => ⟨hb.1, hb.2.1⟩)
  have := hm'.back (cap := cap) (by simpa using hcap) hmax (by simpa using hpost)
  simpa using (show SlotsO (fun b => S b ∨ T b) w' _ _ from this)
theorem Blk.mid12 {w : World} {g : Nat} {e : TypeId} {pre ys rest : List Value} {o : Nat} (h : Blk w g e (pre ++ ys ++ rest)) (ho : pre.length = o) (hy : ys.length = 12) (a0 a1 a2 a3 a4 a5 a6 a7 a8 a9 a10 a11 : Value) :
    Blk ((((((((((((w.setCell ⟨g, o, none⟩ a0).setCell ⟨g, o + 1, none⟩ a1).setCell ⟨g, o + 2, none⟩ a2).setCell ⟨g, o + 3, none⟩ a3).setCell ⟨g, o + 4, none⟩ a4).setCell ⟨g, o + 5, none⟩ a5).setCell ⟨g, o + 6, none⟩ a6).setCell ⟨g, o + 7, none⟩ a7).setCell ⟨g, o + 8, none⟩ a8).setCell ⟨g, o + 9, none⟩ a9).setCell ⟨g, o + 10, none⟩ a10).setCell ⟨g, o + 11, none⟩ a11) g e (pre ++ [a0, a1, a2, a3, a4, a5, a6, a7, a8, a9, a10, a11] ++ rest) := by
  match ys, hy with
  | [y0, y1, y2, y3, y4, y5, y6, y7, y8, y9, y10, y11], _ =>
    have h0 := h.mid_set ho 0 a0 (by simp)
    have h1 := h0.mid_set ho 1 a1 (by simp)
    have h2 := h1.mid_set ho 2 a2 (by simp)
    have h3 := h2.mid_set ho 3 a3 (by simp)
    have h4 := h3.mid_set ho 4 a4 (by simp)
    have h5 := h4.mid_set ho 5 a5 (by simp)
    have h6 := h5.mid_set ho 6 a6 (by simp)
    have h7 := h6.mid_set ho 7 a7 (by simp)
    have h8 := h7.mid_set ho 8 a8 (by simp)
    have h9 := h8.mid_set ho 9 a9 (by simp)
    have h10 := h9.mid_set ho 10 a10 (by simp)
    have h11 := h10.mid_set ho 11 a11 (by simp)
    simpa using h11
theorem keeps12 {S : Nat → Prop} {w : World} {g o : Nat} (hS : ¬ S g) (a0 a1 a2 a3 a4 a5 a6 a7 a8 a9 a10 a11 : Value) :
    Keeps S w ((((((((((((w.setCell ⟨g, o, none⟩ a0).setCell ⟨g, o + 1, none⟩ a1).setCell ⟨g, o + 2, none⟩ a2).setCell ⟨g, o + 3, none⟩ a3).setCell ⟨g, o + 4, none⟩ a4).setCell ⟨g, o + 5, none⟩ a5).setCell ⟨g, o + 6, none⟩ a6).setCell ⟨g, o + 7, none⟩ a7).setCell ⟨g, o + 8, none⟩ a8).setCell ⟨g, o + 9, none⟩ a9).setCell ⟨g, o + 10, none⟩ a10).setCell ⟨g, o + 11, none⟩ a11) :=
  ((((((((((((Keeps.refl S w).sc (b := g) hS a0).sc (b := g) hS a1).sc (b := g) hS a2).sc (b := g) hS a3).sc (b := g) hS a4).sc (b := g) hS a5).sc (b := g) hS a6).sc (b := g) hS a7).sc (b := g) hS a8).sc (b := g) hS a9).sc (b := g) hS a10).sc (b := g) hS a11
theorem below12 {B : Nat} {w0 w : World} {g o : Nat} (h : Below B w0 w) (hS : B ≤ g) (a0 a1 a2 a3 a4 a5 a6 a7 a8 a9 a10 a11 : Value) :
    Below B w0 ((((((((((((w.setCell ⟨g, o, none⟩ a0).setCell ⟨g, o + 1, none⟩ a1).setCell ⟨g, o + 2, none⟩ a2).setCell ⟨g, o + 3, none⟩ a3).setCell ⟨g, o + 4, none⟩ a4).setCell ⟨g, o + 5, none⟩ a5).setCell ⟨g, o + 6, none⟩ a6).setCell ⟨g, o + 7, none⟩ a7).setCell ⟨g, o + 8, none⟩ a8).setCell ⟨g, o + 9, none⟩ a9).setCell ⟨g, o + 10, none⟩ a10).setCell ⟨g, o + 11, none⟩ a11) :=
  below_sc (below_sc (below_sc (below_sc (below_sc (below_sc (below_sc (below_sc (below_sc (below_sc (below_sc (below_sc h hS a0) hS a1) hS a2) hS a3) hS a4) hS a5) hS a6) hS a7) hS a8) hS a9) hS a10) hS a11
theorem info_strD : (Tryz.prog.info? 9).map (fun i => (i.zero, i.size, i.bytes)) = some (some (.string ByteArray.empty), 1, 16) := by kernel_rfl
theorem cell_grown {w w' : World} {row : Option Nat} {g : Nat} {t : TypeId} {cs : List Value} (hg : w.grownBy w' row) (h : Blk w g t cs) (hne : some g ≠ row) : Blk w' g t cs := (hg.block g h.lt hne).trans h
theorem frozen_grown {w w' : World} {row : Option Nat} {g : Nat} {t : TypeId} {cs : List Value} (hg : w.grownBy w' row) (h : Blk w g t cs) (o : Nat) (hne : some g ≠ row) : w'.frozen? ⟨g, o, none⟩ = false := (cell_grown hg h hne).frozen o
end Go.Proofs.YtejieacdfjpfnaaGreat
namespace Go.Proofs.YtejieacdfjpfnaaGreat
open Go.ChangeShapes Go.WideShapes Go.ChangeAt Go.RowKit Go.Deep
set_option linter.unusedVariables false
set_option maxRecDepth 100000

structure Part where
  lo : Nat
  hi : Nat
  P : World → Prop
def Closed (lo hi : Nat) (P : World → Prop) : Prop := ∀ W W', Keeps (Rng lo hi) W W' → P W → P W'
/-- the newest part stands first -/
def Chain (B : Nat) : List Part → Nat → Prop
  | [], top => B ≤ top
  | p :: ps, top => p.lo ≤ p.hi ∧ p.hi ≤ top ∧ Chain B ps p.lo
def LS (w : World) (ps : List Part) (W : World) : Prop := Below w.heap.size w W ∧ Chain w.heap.size ps W.heap.size ∧ ∀ p ∈ ps, Closed p.lo p.hi p.P ∧ p.P W
theorem Chain.top {B : Nat} : ∀ {ps : List Part} {a b : Nat}, Chain B ps a → a ≤ b → Chain B ps b
  | [], _, _, h, k => Nat.le_trans h k
  | _ :: _, _, _, h, k => ⟨h.1, Nat.le_trans h.2.1 k, h.2.2⟩
theorem Chain.base {B : Nat} : ∀ {ps : List Part} {a : Nat}, Chain B ps a → B ≤ a
  | [], _, h => h
  | p :: ps, a, h => Nat.le_trans (Chain.base h.2.2) (Nat.le_trans h.1 h.2.1)
theorem Chain.bnd {B : Nat} : ∀ {ps : List Part} {a : Nat}, Chain B ps a → ∀ p ∈ ps, B ≤ p.lo ∧ p.lo ≤ p.hi ∧ p.hi ≤ a
  | [], _, _, p, hp => by cases hp
  | q :: ps, a, h, p, hp => by
    rcases List.mem_cons.1 hp with rfl | hp
    · exact ⟨Chain.base h.2.2, h.1, h.2.1⟩
    · have := Chain.bnd h.2.2 p hp
      have h1 := h.1
      have h2 := h.2.1
      exact ⟨this.1, this.2.1, by omega⟩
section
variable {w : World} {ps : List Part} {W W' : World}
theorem LS.start (w : World) : LS w [] w := ⟨Below.refl _ _, Nat.le_refl _, fun p hp => by cases hp⟩
theorem LS.below (h : LS w ps W) : Below w.heap.size w W := h.1
theorem LS.at (h : LS w ps W) (i : Nat) (p : Part) (hp : ps[i]? = some p) : p.P W := (h.2.2 p (List.mem_of_getElem? hp)).2
theorem LS.bnd (h : LS w ps W) (i : Nat) (p : Part) (hp : ps[i]? = some p) : w.heap.size ≤ p.lo ∧ p.lo ≤ p.hi ∧ p.hi ≤ W.heap.size := h.2.1.bnd p (List.mem_of_getElem? hp)
theorem LS.keep (h : LS w ps W) (hb : Below w.heap.size w W') (hs : W.heap.size ≤ W'.heap.size) (hk : ∀ p ∈ ps, Keeps (Rng p.lo p.hi) W W') : LS w ps W' :=
  ⟨hb, h.2.1.top hs, fun p hp => ⟨(h.2.2 p hp).1, (h.2.2 p hp).1 W W' (hk p hp) (h.2.2 p hp).2⟩⟩
theorem LS.step (h : LS w ps W) (hb : Below W.heap.size W W') : LS w ps W' :=
  h.keep (h.1.trans (hb.mono h.1.size)) hb.size (fun p _ => Keeps.of_below _ hb)
theorem LS.alloc (h : LS w ps W) (o : Obj) : LS w ps (W.alloc o) := h.step ((Below.refl _ _).alloc (Nat.le_refl _) o)
theorem LS.drew (h : LS w ps W) : LS w ps W.drew := h.step (Below.drew (Below.refl _ _))
/-- a new part -/
theorem LS.push (h : LS w ps W) (hb : Below W.heap.size W W') (P : World → Prop) (hc : Closed W.heap.size W'.heap.size P) (hP : P W') : ∃ p : Part, LS w (p :: ps) W' ∧ p.lo = W.heap.size ∧ p.hi = W'.heap.size ∧ Hid (∀ V, p.P V → P V) := by
  have h1 := h.step hb
  refine ⟨⟨W.heap.size, W'.heap.size, P⟩, ⟨h1.1, ⟨hb.size, Nat.le_refl _, h.2.1⟩, fun p hp => ?_⟩, rfl, rfl, fun _ h => h⟩
  rcases List.mem_cons.1 hp with rfl | hp
  · exact ⟨hc, hP⟩
  · exact h1.2.2 p hp
theorem Chain.apart {B : Nat} : ∀ {ps : List Part} {a : Nat} (i j : Nat) (p q : Part), Chain B ps a → ps[i]? = some p → ps[j]? = some q → i < j → q.hi ≤ p.lo
  | [], _, i, _, _, _, _, h, _, _ => by simp at h
  | r :: ps, a, 0, j + 1, p, q, hc, hi, hj, _ => by
    simp only [List.getElem?_cons_zero, Option.some.injEq] at hi
    subst hi
    simp only [List.getElem?_cons_succ] at hj
    exact (Chain.bnd hc.2.2 q (List.mem_of_getElem? hj)).2.2
  | r :: ps, a, i + 1, j + 1, p, q, hc, hi, hj, hij => by
    simp only [List.getElem?_cons_succ] at hi hj
    exact Chain.apart i j p q hc.2.2 hi hj (by omega)
theorem Chain.set {B : Nat} : ∀ {ps : List Part} {a : Nat} (i : Nat) (p p' : Part), Chain B ps a → ps[i]? = some p → p'.lo = p.lo → p'.hi = p.hi → Chain B (ps.set i p') a
  | [], _, _, _, _, _, h, _, _ => by simp at h
  | r :: ps, a, 0, p, p', hc, hi, h1, h2 => by
    simp only [List.getElem?_cons_zero, Option.some.injEq] at hi
    subst hi
    simp only [List.set_cons_zero]
    exact ⟨by rw [h1, h2]; exact hc.1, by rw [h2]; exact hc.2.1, by rw [h1]; exact hc.2.2⟩
  | r :: ps, a, i + 1, p, p', hc, hi, h1, h2 => by
    simp only [List.getElem?_cons_succ] at hi
    simp only [List.set_cons_succ]
    exact ⟨hc.1, hc.2.1, Chain.set i p p' hc.2.2 hi h1 h2⟩
/-- a part is changed, all else is kept -/
theorem LS.mod (h : LS w ps W) (i : Nat) (p : Part) (hp : ps[i]? = some p) (hk : Keeps (fun b => ¬ Rng p.lo p.hi b) W W') (h0 : Below 0 W W') (P' : World → Prop) (hc : Closed p.lo p.hi P') (hP : P' W') :
    ∃ p' : Part, LS w (ps.set i p') W' ∧ p'.lo = p.lo ∧ p'.hi = p.hi ∧ Hid (∀ V, p'.P V → P' V) := by
  have hb := h.bnd i p hp
  have hbel : Below w.heap.size w W' := h.1.trans ⟨h0.os, h0.tape, h0.output, hk.1, fun b hb' => hk.2 b (by have := h.1.size; omega) (fun hr => by have := hr.1; omega)⟩
  refine ⟨⟨p.lo, p.hi, P'⟩, ⟨hbel, (h.2.1.set i p ⟨p.lo, p.hi, P'⟩ hp rfl rfl).top hk.1, fun q hq => ?_⟩, rfl, rfl, fun _ h => h⟩
  obtain ⟨j, hj, hjq⟩ := List.getElem_of_mem hq
  rw [List.length_set] at hj
  by_cases hij : i = j
  · subst hij
    rw [List.getElem_set_self] at hjq
    subst hjq
    exact ⟨hc, hP⟩
  · rw [List.getElem_set_ne hij] at hjq
    have hjs : ps[j]? = some q := by rw [← hjq]; exact List.getElem?_eq_getElem hj
    have hq' := h.2.2 q (List.mem_of_getElem? hjs)
    refine ⟨hq'.1, hq'.1 W W' ⟨hk.1, fun b hbs hr => hk.2 b hbs fun hr' => ?_⟩ hq'.2⟩
    have a1 := hr.1
    have a2 := hr.2
    have a3 := hr'.1
    have a4 := hr'.2
    rcases Nat.lt_or_gt_of_ne hij with hlt | hlt
    · have := Chain.apart i j p q h.2.1 hp hjs hlt
      omega
    · have := Chain.apart j i q p h.2.1 hjs hp hlt
      omega
/-- a box -/
theorem LS.box (h : LS w ps W) (t : Nat) (cs : List Value) : ∃ p : Part, LS w (p :: ps) (W.alloc (.cells cs.toArray t)) ∧ Hid (p.lo = W.heap.size) ∧ Hid (∀ V, p.P V → Blk V W.heap.size t cs) := by
  obtain ⟨p, h1, h2, _, h4⟩ := h.push ((Below.refl _ _).alloc (Nat.le_refl _) (.cells cs.toArray t)) (fun V => Blk V W.heap.size t cs) (fun V V' hk hb => hb.keeps hk ⟨Nat.le_refl _, by simp⟩) (Blk.new W t cs)
  exact ⟨p, h1, h2, h4⟩
end
theorem open_ints64 {H : Type} {enc : TypeId × Value → H} {w : World} {base : Nat} {spare : Nat → Bool} {held : Bool} {v : Value} {d : DataW H} {p : List MemPlace} {r : Reach} {b0 : Nat} (hv : Value.okWide Tryz.prog w r b0 26 v) (h : DataW.Trod enc Tryz.prog w base spare held 26 v d p) : ∃ l, Ints w v l := by
  obtain ⟨a, len, cap, rfl⟩ := okWide_slice Tryz.underlying26 hv
  obtain ⟨fuel, hf⟩ := h
  obtain ⟨v, l, hcs, hl⟩ := open_slr Tryz.underlying26 cells_int (by decide) IntR (fun _ _ _ _ _ h => open_i64 Tryz.underlying3 h) hf
  have : v = .slice a len cap := by simpa [Value.cells] using hcs.symm
  subst this
  exact ⟨l, hl⟩
end Go.Proofs.YtejieacdfjpfnaaGreat
namespace Go.Proofs.YtejieacdfjpfnaaGreat
open Go.ChangeShapes Go.WideShapes Go.ChangeAt Go.RowKit Go.Deep
set_option linter.unusedVariables false
set_option maxRecDepth 100000
set_option maxRecDepth 100000

def zEn : EnvD := ⟨false, 0, [], []⟩
def zPr : PromD := ⟨false, 0, 0, 0, zD⟩
theorem zEn_own (w : World) : EnvO (fun _ => False) w [.bool false, .int .i64 0, .slice none 0 0, .slice none 0 0] zEn := ⟨none, 0, none, 0, fun _ => 0, rfl, trivial, by unfold zEn I64; simp, ⟨FlO.nil_ _ _ _ _, fun _ h => by cases h⟩, SlO.nil_ _ _ _ _ _⟩
theorem zPr_own (w : World) : PromiseO (fun _ => False) w [.bool false, .int .i64 0, .int .i64 0, .int .i64 0, .int .i64 0, .slice none 0 0, .slice none 0 0, .slice none 0 0, .slice none 0 0, .slice none 0 0, .int .i64 0, .int .i64 0] zPr := ⟨none, 0, none, 0, none, 0, none, 0, none, 0, fun _ => 0, rfl, trivial, by unfold zPr I64; simp, by unfold zPr I64; simp, by unfold zPr I64; simp, zeroOD _ _⟩
/-- the first k are swept -/
def sw {α : Type} (z : α) (E : List Bool) : Nat → List α → List α
  | 0, l => l
  | k + 1, l => if gB E k = true then sw z E k l else (sw z E k l).set k z
theorem sw_len {α : Type} (z : α) (E : List Bool) (k : Nat) (l : List α) : (sw z E k l).length = l.length := by
  induction k with
  | zero => rfl
  | succ k ih => unfold sw; split <;> simp [ih]
def colS (s : StoreD) (E P : List Bool) : StoreD := ⟨sw zEn E s.envs.length s.envs, sw zPr P s.promises.length s.promises⟩
theorem SlO.put {α : Type} {S : Nat → Prop} {w : World} {e : TypeId} {size : Nat} {RO : (Nat → Prop) → World → List Value → α → Prop} {v : Value} {l : List α}
    (hRK : ∀ {T : Nat → Prop} {w w' : World} {cs : List Value} {x : α}, RO T w cs x → Keeps T w w' → RO T w' cs x)
    (hRM : ∀ {T T' : Nat → Prop} {w : World} {cs : List Value} {x : α}, RO T w cs x → (∀ b, T b → T' b) → RO T' w cs x)
    (h : SlO S w e size RO v l) (k : Nat) (hk : k < l.length) (cs' : List Value) (x' : α) (hc : cs'.length = size) (hx : ∀ w, RO (fun _ => False) w cs' x') :
    ∃ (g cap : Nat) (pre rest ys : List Value), v = .slice (some ⟨g, 0, none⟩) l.length cap ∧ S g ∧ pre.length = k * size ∧ ys.length = size ∧ Blk w g e (pre ++ ys ++ rest) ∧
      ∀ w', Blk w' g e (pre ++ cs' ++ rest) → Keeps (fun b => S b ∧ b ≠ g) w w' → SlO S w' e size RO v (l.set k x') := by
  obtain ⟨g, cap, f, post, ys, rfl, hcap, hmax, hpost, hm⟩ := SlO.notnil h hk
  obtain ⟨hy, pre, rest, hpre, hblk, hset, ho⟩ := hm.at_ k hk
  refine ⟨g, cap, pre, rest, ys[k], rfl, hm.own.1, hpre, (hm.elem k hy hk).1, hblk, fun w' hb' hK => ?_⟩
  obtain ⟨f', hm'⟩ := MidO.updateD (RO := RO) (w' := w') (fun h k => hRK h k) (fun h k => hRM h k) hm k hk cs' x' hc (T := fun _ => False) (N := fun _ => False) (by rw [← hset]; exact hb') (hx w') (fun b hb => hb.elim) (fun _ _ h => h) (hK.mono fun b hb => ⟨hb.1, hb.2.1⟩)
  have := hm'.back (cap := cap) (by simpa using hcap) hmax (by simpa using hpost)
  have := SlO.mono (S' := S) (fun _ h k => hRM h k) this (fun b hb => hb.elim id (fun h => h.elim))
  simpa using this

structure CW (w : World) (lo r6 ge gp : Nat) (cs : List Value) (E P : List Bool) (d : StoreD) (W : World) : Prop where
  b6 : Blk W r6 33 cs
  o : StoreO (Rng lo r6) W cs d
  bE : Blk W ge 4 (bls E)
  bP : Blk W gp 4 (bls P)
  kp : Keeps (fun b => ¬ Rng lo r6 b) w W
  b0 : Below 0 w W

set_option maxHeartbeats 1000000 in
theorem CW.clearE {w : World} {lo r6 ge gp n m c0 c1 : Nat} {C0 C1 : Option Addr} {E P : List Bool} {d : StoreD} {W : World} (h : CW w lo r6 ge gp [.slice C0 n c0, .slice C1 m c1] E P d W) (hn : d.envs.length = n) (k : Nat) (hk : k < n) (hge : ¬ Rng lo r6 ge) (hgp : ¬ Rng lo r6 gp) :
    ∃ (g : Nat) (u0 u1 u2 u3 : Value), C0 = some ⟨g, 0, none⟩ ∧ (W.cell? ⟨g, k * 4, none⟩ = some u0 ∧ W.cell? ⟨g, k * 4 + 1, none⟩ = some u1 ∧ W.cell? ⟨g, k * 4 + 2, none⟩ = some u2 ∧ W.cell? ⟨g, k * 4 + 3, none⟩ = some u3) ∧ (W.frozen? ⟨g, k * 4, none⟩ = false ∧ W.frozen? ⟨g, k * 4 + 1, none⟩ = false ∧ W.frozen? ⟨g, k * 4 + 2, none⟩ = false ∧ W.frozen? ⟨g, k * 4 + 3, none⟩ = false) ∧ CW w lo r6 ge gp [.slice C0 n c0, .slice C1 m c1] E P ⟨d.envs.set k zEn, d.promises⟩ ((((W.setCell ⟨g, k * 4, none⟩ (.bool false)).setCell ⟨g, k * 4 + 1, none⟩ (.int .i64 0)).setCell ⟨g, k * 4 + 2, none⟩ (.slice none 0 0)).setCell ⟨g, k * 4 + 3, none⟩ (.slice none 0 0)) := by
  obtain ⟨A0, a0, A1, a1, f, he, o0, o1⟩ := h.o
  simp only [List.cons.injEq, Value.slice.injEq, and_true] at he
  obtain ⟨⟨rfl, hl0, rfl⟩, rfl, hl1, rfl⟩ := he
  obtain ⟨g, cap, pre, rest, ys, hv, hg, hpre, hys, hblk, hcl⟩ := SlO.put (fun h k => h.keeps k) (fun h k => h.mono k) (show SlO _ W 71 4 EnvO _ d.envs from o0) k (by omega) [.bool false, .int .i64 0, .slice none 0 0, .slice none 0 0] zEn rfl zEn_own
  injection hv with hv1 hv2 hv3
  subst hv1 hv3
  match ys, hys with
  | [u0, u1, u2, u3], _ =>
    have s0 := hblk.mid_set hpre 0 (.bool false) (by simp)
    have s1 := s0.mid_set hpre 1 (.int .i64 0) (by simp)
    have s2 := s1.mid_set hpre 2 (.slice none 0 0) (by simp)
    have s3 := s2.mid_set hpre 3 (.slice none 0 0) (by simp)
    have hgr : Rng lo r6 g := hg.1
    have hB : Blk ((((W.setCell ⟨g, k * 4, none⟩ (.bool false)).setCell ⟨g, k * 4 + 1, none⟩ (.int .i64 0)).setCell ⟨g, k * 4 + 2, none⟩ (.slice none 0 0)).setCell ⟨g, k * 4 + 3, none⟩ (.slice none 0 0)) g 71 (pre ++ [.bool false, .int .i64 0, .slice none 0 0, .slice none 0 0] ++ rest) := by simpa using s3
    have kS : ∀ S : Nat → Prop, ¬ S g → Keeps S W ((((W.setCell ⟨g, k * 4, none⟩ (.bool false)).setCell ⟨g, k * 4 + 1, none⟩ (.int .i64 0)).setCell ⟨g, k * 4 + 2, none⟩ (.slice none 0 0)).setCell ⟨g, k * 4 + 3, none⟩ (.slice none 0 0)) := fun S hS => (((((Keeps.refl _ _).sc (b := g) (o := k * 4) (hS) (.bool false)).sc (b := g) (o := k * 4 + 1) (hS) (.int .i64 0)).sc (b := g) (o := k * 4 + 2) (hS) (.slice none 0 0)).sc (b := g) (o := k * 4 + 3) (hS) (.slice none 0 0))
    refine ⟨g, u0, u1, u2, u3, rfl, ⟨by simpa using hblk.mid hpre 0 _ rfl, by simpa using hblk.mid hpre 1 _ rfl, by simpa using hblk.mid hpre 2 _ rfl, by simpa using hblk.mid hpre 3 _ rfl⟩, ⟨hblk.frozen _, hblk.frozen _, hblk.frozen _, hblk.frozen _⟩, ?_⟩
    refine ⟨h.b6.keeps (kS (fun b => b ≠ g) (fun h => h rfl)) (fun e => by have := hgr.2; omega), ?_, h.bE.keeps (kS (fun b => b ≠ g) (fun h => h rfl)) (fun e => hge (e ▸ hgr)), h.bP.keeps (kS (fun b => b ≠ g) (fun h => h rfl)) (fun e => hgp (e ▸ hgr)), h.kp.trans (kS _ (fun h => h hgr)), (below_sc (b := g) (o := k * 4 + 3) (below_sc (b := g) (o := k * 4 + 2) (below_sc (b := g) (o := k * 4 + 1) (below_sc (b := g) (o := k * 4) h.b0 (Nat.zero_le _) (.bool false)) (Nat.zero_le _) (.int .i64 0)) (Nat.zero_le _) (.slice none 0 0)) (Nat.zero_le _) (.slice none 0 0))⟩
    refine ⟨some ⟨g, 0, none⟩, c0, C1, c1, f, by simp [hl0, hl1], ?_, PromisesO.keeps o1 (kS _ fun h => by have h1 := h.2; have h2 := hg.2; omega)⟩
    have h8 := hcl _ hB (kS _ fun h => h.2 rfl)
    simpa using (show EnvsO _ _ _ _ from h8)

set_option maxHeartbeats 1000000 in
theorem CW.clearP {w : World} {lo r6 ge gp n m c0 c1 : Nat} {C0 C1 : Option Addr} {E P : List Bool} {d : StoreD} {W : World} (h : CW w lo r6 ge gp [.slice C0 n c0, .slice C1 m c1] E P d W) (hn : d.promises.length = m) (k : Nat) (hk : k < m) (hge : ¬ Rng lo r6 ge) (hgp : ¬ Rng lo r6 gp) :
    ∃ (g : Nat) (u0 u1 u2 u3 u4 u5 u6 u7 u8 u9 u10 u11 : Value), C1 = some ⟨g, 0, none⟩ ∧ (W.cell? ⟨g, k * 12, none⟩ = some u0 ∧ W.cell? ⟨g, k * 12 + 1, none⟩ = some u1 ∧ W.cell? ⟨g, k * 12 + 2, none⟩ = some u2 ∧ W.cell? ⟨g, k * 12 + 3, none⟩ = some u3 ∧ W.cell? ⟨g, k * 12 + 4, none⟩ = some u4 ∧ W.cell? ⟨g, k * 12 + 5, none⟩ = some u5 ∧ W.cell? ⟨g, k * 12 + 6, none⟩ = some u6 ∧ W.cell? ⟨g, k * 12 + 7, none⟩ = some u7 ∧ W.cell? ⟨g, k * 12 + 8, none⟩ = some u8 ∧ W.cell? ⟨g, k * 12 + 9, none⟩ = some u9 ∧ W.cell? ⟨g, k * 12 + 10, none⟩ = some u10 ∧ W.cell? ⟨g, k * 12 + 11, none⟩ = some u11) ∧ (W.frozen? ⟨g, k * 12, none⟩ = false ∧ W.frozen? ⟨g, k * 12 + 1, none⟩ = false ∧ W.frozen? ⟨g, k * 12 + 2, none⟩ = false ∧ W.frozen? ⟨g, k * 12 + 3, none⟩ = false ∧ W.frozen? ⟨g, k * 12 + 4, none⟩ = false ∧ W.frozen? ⟨g, k * 12 + 5, none⟩ = false ∧ W.frozen? ⟨g, k * 12 + 6, none⟩ = false ∧ W.frozen? ⟨g, k * 12 + 7, none⟩ = false ∧ W.frozen? ⟨g, k * 12 + 8, none⟩ = false ∧ W.frozen? ⟨g, k * 12 + 9, none⟩ = false ∧ W.frozen? ⟨g, k * 12 + 10, none⟩ = false ∧ W.frozen? ⟨g, k * 12 + 11, none⟩ = false) ∧ CW w lo r6 ge gp [.slice C0 n c0, .slice C1 m c1] E P ⟨d.envs, d.promises.set k zPr⟩ ((((((((((((W.setCell ⟨g, k * 12, none⟩ (.bool false)).setCell ⟨g, k * 12 + 1, none⟩ (.int .i64 0)).setCell ⟨g, k * 12 + 2, none⟩ (.int .i64 0)).setCell ⟨g, k * 12 + 3, none⟩ (.int .i64 0)).setCell ⟨g, k * 12 + 4, none⟩ (.int .i64 0)).setCell ⟨g, k * 12 + 5, none⟩ (.slice none 0 0)).setCell ⟨g, k * 12 + 6, none⟩ (.slice none 0 0)).setCell ⟨g, k * 12 + 7, none⟩ (.slice none 0 0)).setCell ⟨g, k * 12 + 8, none⟩ (.slice none 0 0)).setCell ⟨g, k * 12 + 9, none⟩ (.slice none 0 0)).setCell ⟨g, k * 12 + 10, none⟩ (.int .i64 0)).setCell ⟨g, k * 12 + 11, none⟩ (.int .i64 0)) := by
  obtain ⟨A0, a0, A1, a1, f, he, o0, o1⟩ := h.o
  simp only [List.cons.injEq, Value.slice.injEq, and_true] at he
  obtain ⟨⟨rfl, hl0, rfl⟩, rfl, hl1, rfl⟩ := he
  obtain ⟨g, cap, pre, rest, ys, hv, hg, hpre, hys, hblk, hcl⟩ := SlO.put (fun h k => h.keeps k) (fun h k => h.mono k) (show SlO _ W 74 12 PromiseO _ d.promises from o1) k (by omega) [.bool false, .int .i64 0, .int .i64 0, .int .i64 0, .int .i64 0, .slice none 0 0, .slice none 0 0, .slice none 0 0, .slice none 0 0, .slice none 0 0, .int .i64 0, .int .i64 0] zPr rfl zPr_own
  injection hv with hv1 hv2 hv3
  subst hv1 hv3
  match ys, hys with
  | [u0, u1, u2, u3, u4, u5, u6, u7, u8, u9, u10, u11], _ =>
    have s0 := hblk.mid_set hpre 0 (.bool false) (by simp)
    have s1 := s0.mid_set hpre 1 (.int .i64 0) (by simp)
    have s2 := s1.mid_set hpre 2 (.int .i64 0) (by simp)
    have s3 := s2.mid_set hpre 3 (.int .i64 0) (by simp)
    have s4 := s3.mid_set hpre 4 (.int .i64 0) (by simp)
    have s5 := s4.mid_set hpre 5 (.slice none 0 0) (by simp)
    have s6 := s5.mid_set hpre 6 (.slice none 0 0) (by simp)
    have s7 := s6.mid_set hpre 7 (.slice none 0 0) (by simp)
    have s8 := s7.mid_set hpre 8 (.slice none 0 0) (by simp)
    have s9 := s8.mid_set hpre 9 (.slice none 0 0) (by simp)
    have s10 := s9.mid_set hpre 10 (.int .i64 0) (by simp)
    have s11 := s10.mid_set hpre 11 (.int .i64 0) (by simp)
    have hgr : Rng lo r6 g := hg.1
    have hB : Blk ((((((((((((W.setCell ⟨g, k * 12, none⟩ (.bool false)).setCell ⟨g, k * 12 + 1, none⟩ (.int .i64 0)).setCell ⟨g, k * 12 + 2, none⟩ (.int .i64 0)).setCell ⟨g, k * 12 + 3, none⟩ (.int .i64 0)).setCell ⟨g, k * 12 + 4, none⟩ (.int .i64 0)).setCell ⟨g, k * 12 + 5, none⟩ (.slice none 0 0)).setCell ⟨g, k * 12 + 6, none⟩ (.slice none 0 0)).setCell ⟨g, k * 12 + 7, none⟩ (.slice none 0 0)).setCell ⟨g, k * 12 + 8, none⟩ (.slice none 0 0)).setCell ⟨g, k * 12 + 9, none⟩ (.slice none 0 0)).setCell ⟨g, k * 12 + 10, none⟩ (.int .i64 0)).setCell ⟨g, k * 12 + 11, none⟩ (.int .i64 0)) g 74 (pre ++ [.bool false, .int .i64 0, .int .i64 0, .int .i64 0, .int .i64 0, .slice none 0 0, .slice none 0 0, .slice none 0 0, .slice none 0 0, .slice none 0 0, .int .i64 0, .int .i64 0] ++ rest) := by simpa using s11
    have kS : ∀ S : Nat → Prop, ¬ S g → Keeps S W ((((((((((((W.setCell ⟨g, k * 12, none⟩ (.bool false)).setCell ⟨g, k * 12 + 1, none⟩ (.int .i64 0)).setCell ⟨g, k * 12 + 2, none⟩ (.int .i64 0)).setCell ⟨g, k * 12 + 3, none⟩ (.int .i64 0)).setCell ⟨g, k * 12 + 4, none⟩ (.int .i64 0)).setCell ⟨g, k * 12 + 5, none⟩ (.slice none 0 0)).setCell ⟨g, k * 12 + 6, none⟩ (.slice none 0 0)).setCell ⟨g, k * 12 + 7, none⟩ (.slice none 0 0)).setCell ⟨g, k * 12 + 8, none⟩ (.slice none 0 0)).setCell ⟨g, k * 12 + 9, none⟩ (.slice none 0 0)).setCell ⟨g, k * 12 + 10, none⟩ (.int .i64 0)).setCell ⟨g, k * 12 + 11, none⟩ (.int .i64 0)) := fun S hS => (((((((((((((Keeps.refl _ _).sc (b := g) (o := k * 12) (hS) (.bool false)).sc (b := g) (o := k * 12 + 1) (hS) (.int .i64 0)).sc (b := g) (o := k * 12 + 2) (hS) (.int .i64 0)).sc (b := g) (o := k * 12 + 3) (hS) (.int .i64 0)).sc (b := g) (o := k * 12 + 4) (hS) (.int .i64 0)).sc (b := g) (o := k * 12 + 5) (hS) (.slice none 0 0)).sc (b := g) (o := k * 12 + 6) (hS) (.slice none 0 0)).sc (b := g) (o := k * 12 + 7) (hS) (.slice none 0 0)).sc (b := g) (o := k * 12 + 8) (hS) (.slice none 0 0)).sc (b := g) (o := k * 12 + 9) (hS) (.slice none 0 0)).sc (b := g) (o := k * 12 + 10) (hS) (.int .i64 0)).sc (b := g) (o := k * 12 + 11) (hS) (.int .i64 0))
    refine ⟨g, u0, u1, u2, u3, u4, u5, u6, u7, u8, u9, u10, u11, rfl, ⟨by simpa using hblk.mid hpre 0 _ rfl, by simpa using hblk.mid hpre 1 _ rfl, by simpa using hblk.mid hpre 2 _ rfl, by simpa using hblk.mid hpre 3 _ rfl, by simpa using hblk.mid hpre 4 _ rfl, by simpa using hblk.mid hpre 5 _ rfl, by simpa using hblk.mid hpre 6 _ rfl, by simpa using hblk.mid hpre 7 _ rfl, by simpa using hblk.mid hpre 8 _ rfl, by simpa using hblk.mid hpre 9 _ rfl, by simpa using hblk.mid hpre 10 _ rfl, by simpa using hblk.mid hpre 11 _ rfl⟩, ⟨hblk.frozen _, hblk.frozen _, hblk.frozen _, hblk.frozen _, hblk.frozen _, hblk.frozen _, hblk.frozen _, hblk.frozen _, hblk.frozen _, hblk.frozen _, hblk.frozen _, hblk.frozen _⟩, ?_⟩
    refine ⟨h.b6.keeps (kS (fun b => b ≠ g) (fun h => h rfl)) (fun e => by have := hgr.2; omega), ?_, h.bE.keeps (kS (fun b => b ≠ g) (fun h => h rfl)) (fun e => hge (e ▸ hgr)), h.bP.keeps (kS (fun b => b ≠ g) (fun h => h rfl)) (fun e => hgp (e ▸ hgr)), h.kp.trans (kS _ (fun h => h hgr)), (below_sc (b := g) (o := k * 12 + 11) (below_sc (b := g) (o := k * 12 + 10) (below_sc (b := g) (o := k * 12 + 9) (below_sc (b := g) (o := k * 12 + 8) (below_sc (b := g) (o := k * 12 + 7) (below_sc (b := g) (o := k * 12 + 6) (below_sc (b := g) (o := k * 12 + 5) (below_sc (b := g) (o := k * 12 + 4) (below_sc (b := g) (o := k * 12 + 3) (below_sc (b := g) (o := k * 12 + 2) (below_sc (b := g) (o := k * 12 + 1) (below_sc (b := g) (o := k * 12) h.b0 (Nat.zero_le _) (.bool false)) (Nat.zero_le _) (.int .i64 0)) (Nat.zero_le _) (.int .i64 0)) (Nat.zero_le _) (.int .i64 0)) (Nat.zero_le _) (.int .i64 0)) (Nat.zero_le _) (.slice none 0 0)) (Nat.zero_le _) (.slice none 0 0)) (Nat.zero_le _) (.slice none 0 0)) (Nat.zero_le _) (.slice none 0 0)) (Nat.zero_le _) (.slice none 0 0)) (Nat.zero_le _) (.int .i64 0)) (Nat.zero_le _) (.int .i64 0))⟩
    refine ⟨C0, c0, some ⟨g, 0, none⟩, c1, f, by simp [hl0, hl1], EnvsO.keeps o0 (kS _ fun h => by have h1 := h.2; have h2 := hg.2; omega), ?_⟩
    have h8 := hcl _ hB (kS _ fun h => h.2 rfl)
    simpa using (show PromisesO _ _ _ _ from h8)
end Go.Proofs.YtejieacdfjpfnaaGreat
namespace Go.Proofs.YtejieacdfjpfnaaGreat
open Go.ChangeShapes Go.WideShapes Go.ChangeAt Go.RowKit Go.Deep
set_option linter.unusedVariables false
set_option maxRecDepth 100000
set_option maxRecDepth 100000

theorem sw_yes {α : Type} {z : α} {E : List Bool} {k : Nat} {l : List α} (h : gB E k = true) : sw z E (k + 1) l = sw z E k l := by rw [sw, if_pos h]
theorem sw_no {α : Type} {z : α} {E : List Bool} {k : Nat} {l : List α} (h : gB E k = false) : sw z E (k + 1) l = (sw z E k l).set k z := by rw [sw, if_neg (by simp [h])]

set_option maxHeartbeats 8000000 in
theorem spec_l27Sweep (s : StoreD) (E P : List Bool) (ge gp lo r6 : Nat) (C0 C1 : Option Addr) (c0 c1 : Nat) (w : World) (hb6 : Blk w r6 33 [.slice C0 s.envs.length c0, .slice C1 s.promises.length c1]) (ho : StoreO (Rng lo r6) w [.slice C0 s.envs.length c0, .slice C1 s.promises.length c1] s) (hE : Blk w ge 4 (bls E)) (hP : Blk w gp 4 (bls P)) (hge : ¬ Rng lo r6 ge) (hgp : ¬ Rng lo r6 gp)
    (hEl : E.length = s.envs.length) (hPl : P.length = s.promises.length) (hz : szStore s ≤ 600000000000) :
    Calls Tryz.prog 88 #[.pointer (some ⟨r6, 0, none⟩), .slice (some ⟨ge, 0, none⟩) s.envs.length s.envs.length, .slice (some ⟨gp, 0, none⟩) s.promises.length s.promises.length] w fun e w' => e = .returned (.tuple #[]) ∧ CW w lo r6 ge gp [.slice C0 s.envs.length c0, .slice C1 s.promises.length c1] E P (colS s E P) w' := by
  have hzE : s.envs.length ≤ 600000000000 := by unfold szStore at hz; have := szS_length szEnv s.envs; omega
  have hzP : s.promises.length ≤ 600000000000 := by unfold szStore at hz; have := szS_length szPromise s.promises; omega
  have HX := Lib.hid (show CW w lo r6 ge gp [.slice C0 s.envs.length c0, .slice C1 s.promises.length c1] E P ⟨sw zEn E 0 s.envs, s.promises⟩ w from ⟨hb6, ho, hE, hP, Keeps.refl _ _, Below.refl _ _⟩)
  clear hb6 ho hE hP hz
  go_enter Tryz.func88, Tryz.ntmps88
  go_wp2_with fail
  go_loopw [6] (fun i wr => ∃ k : Nat, k ≤ s.envs.length ∧ i = .int .i64 k ∧ Hid (CW w lo r6 ge gp [.slice C0 s.envs.length c0, .slice C1 s.promises.length c1] E P ⟨sw zEn E (k) s.envs, s.promises⟩ wr)) (fun i _ => s.envs.length - (intOf i).toNat)
  case atStart => exact ⟨0, Nat.zero_le _, rfl, HX.out⟩
  case round =>
    clear HX
    obtain ⟨k, hk, rfl, HX⟩ := hrel
    have x0 := HX.out.b6.cell 0 _ rfl
    have x1 := HX.out.b6.cell 1 _ rfl
    by_cases hlt : k < s.envs.length
    · have q0 := HX.out.bE.cell k _ (bls_get _ k (by omega))
      cases hg : gB E k
      · have HN := Lib.hid (sw_no (z := zEn) (l := s.envs) hg)
        rw [hg] at q0
        clear hg
        obtain ⟨g, u0, u1, u2, u3, rfl, ⟨y0, y1, y2, y3⟩, ⟨f0, f1, f2, f3⟩, hc⟩ := HX.out.clearE (by show (sw _ _ _ _).length = _; rw [sw_len]) k hlt hge hgp
        have HX2 := Lib.hid hc
        clear hc
        go_wp2_with fail
        clear HX x0 x1 q0 y0 y1 y2 y3 f0 f1 f2 f3
        go_roundw
        case rel => first | exact ⟨k + 1, by omega, by go_num, by rw [HN.out]; exact HX2.out⟩ | ((repeat apply Exists.intro); exact ⟨⟨k + 1, by omega, by go_num, by rw [HN.out]; exact HX2.out⟩, rfl⟩)
        case measure => simp [intOf]; omega
      · have HN := Lib.hid (sw_yes (z := zEn) (l := s.envs) hg)
        rw [hg] at q0
        clear hg
        go_wp2_with fail
        go_roundw
        case rel => first | exact ⟨k + 1, by omega, by go_num, by rw [HN.out]; exact HX.out⟩ | ((repeat apply Exists.intro); exact ⟨⟨k + 1, by omega, by go_num, by rw [HN.out]; exact HX.out⟩, rfl⟩)
        case measure => simp [intOf]; omega
    · obtain rfl : k = s.envs.length := by omega
      clear hlt hk
      go_wp2_with fail
      go_loopw [7] (fun i wr => ∃ k : Nat, k ≤ s.promises.length ∧ i = .int .i64 k ∧ Hid (CW w lo r6 ge gp [.slice C0 s.envs.length c0, .slice C1 s.promises.length c1] E P ⟨sw zEn E s.envs.length s.envs, sw zPr P (k) s.promises⟩ wr)) (fun i _ => s.promises.length - (intOf i).toNat)
      case atStart => exact ⟨0, Nat.zero_le _, rfl, HX.out⟩
      case round =>
        clear HX
        obtain ⟨k, hk, rfl, HX⟩ := hrel
        have x0 := HX.out.b6.cell 0 _ rfl
        have x1 := HX.out.b6.cell 1 _ rfl
        by_cases hlt : k < s.promises.length
        · have q0 := HX.out.bP.cell k _ (bls_get _ k (by omega))
          cases hg : gB P k
          · have HN := Lib.hid (sw_no (z := zPr) (l := s.promises) hg)
            rw [hg] at q0
            clear hg
            obtain ⟨g, u0, u1, u2, u3, u4, u5, u6, u7, u8, u9, u10, u11, rfl, ⟨y0, y1, y2, y3, y4, y5, y6, y7, y8, y9, y10, y11⟩, ⟨f0, f1, f2, f3, f4, f5, f6, f7, f8, f9, f10, f11⟩, hc⟩ := HX.out.clearP (by show (sw _ _ _ _).length = _; rw [sw_len]) k hlt hge hgp
            have HX2 := Lib.hid hc
            clear hc
            go_wp2_with fail
            clear HX x0 x1 q0 y0 y1 y2 y3 y4 y5 y6 y7 y8 y9 y10 y11 f0 f1 f2 f3 f4 f5 f6 f7 f8 f9 f10 f11
            go_roundw
            case rel => first | exact ⟨k + 1, by omega, by go_num, by rw [HN.out]; exact HX2.out⟩ | ((repeat apply Exists.intro); exact ⟨⟨k + 1, by omega, by go_num, by rw [HN.out]; exact HX2.out⟩, rfl⟩)
            case measure => simp [intOf]; omega
          · have HN := Lib.hid (sw_yes (z := zPr) (l := s.promises) hg)
            rw [hg] at q0
            clear hg
            go_wp2_with fail
            go_roundw
            case rel => first | exact ⟨k + 1, by omega, by go_num, by rw [HN.out]; exact HX.out⟩ | ((repeat apply Exists.intro); exact ⟨⟨k + 1, by omega, by go_num, by rw [HN.out]; exact HX.out⟩, rfl⟩)
            case measure => simp [intOf]; omega
        · obtain rfl : k = s.promises.length := by omega
          clear hlt hk
          go_wp2_with fail
          refine bodyPost_end (v := .tuple #[]) (by kernel_rfl) rfl ?_
          exact ⟨rfl, HX.out⟩
end Go.Proofs.YtejieacdfjpfnaaGreat
namespace Go.Proofs.YtejieacdfjpfnaaGreat
open Go.ChangeShapes Go.WideShapes Go.ChangeAt Go.RowKit Go.Deep
set_option linter.unusedVariables false
set_option maxRecDepth 100000
set_option maxRecDepth 100000

def ColP (s : StoreD) (roots : List Int) (x : StoreD × Bool) : Prop := x.2 = rootsOk s roots ∧ (x.2 = true → ∃ E P, Marked s roots E P ∧ x.1 = colS s E P) ∧ (x.2 = false → x.1 = stZ)
theorem ColP.unique {s : StoreD} {roots : List Int} {x y : StoreD × Bool} (h : ColP s roots x) (h' : ColP s roots y) : x = y := by
  obtain ⟨d, b⟩ := x
  obtain ⟨e, c⟩ := y
  obtain ⟨a1, a2, a3⟩ := h
  obtain ⟨b1, b2, b3⟩ := h'
  dsimp only at a1 a2 a3 b1 b2 b3
  have hbc : b = c := a1.trans b1.symm
  subst hbc
  cases b
  · rw [a3 rfl, b3 rfl]
  · obtain ⟨E, P, m, rfl⟩ := a2 rfl
    obtain ⟨E', P', m', rfl⟩ := b2 rfl
    obtain ⟨rfl, rfl⟩ := m.unique m'
    rfl
def RetCol (s : StoreD) (roots : List Int) (w : World) (e : Ending) (w' : World) : Prop := ∃ (x : StoreD × Bool) (cs : List Value), ColP s roots x ∧ e = .returned (.tuple #[.agg cs.toArray, .bool x.2]) ∧ StoreO (Rng w.heap.size w'.heap.size) w' cs x.1 ∧ Below w.heap.size w w'
theorem colS_shape {S : Nat → Prop} {w : World} {cs : List Value} {s : StoreD} {E P : List Bool} (h : StoreO S w cs (colS s E P)) : ∃ (A0 : Option Addr) (a0 : Nat) (A1 : Option Addr) (a1 : Nat), cs = [.slice A0 s.envs.length a0, .slice A1 s.promises.length a1] := by
  obtain ⟨A0, a0, A1, a1, rfl⟩ := h.shape2
  exact ⟨A0, a0, A1, a1, by unfold colS; simp [sw_len]⟩
/-- the end: the box's cells are stored into the result's box -/
theorem put2c {w w3 : World} {d : StoreD} {r lo r6 : Nat} {t : TypeId} (c0 c1 : Value) {a0 a1 : Value} (hB : Blk w3 r t [a0, a1]) (ho : StoreO (Rng lo r6) w3 [c0, c1] d) (h6 : r6 ≤ w3.heap.size) (hr : w.heap.size ≤ r) (hl : r < lo) (hb : Below w.heap.size w w3) :
    Ok (fun W => Blk W r t [c0, c1] ∧ StoreO (Rng w.heap.size W.heap.size) W [c0, c1] d ∧ Below w.heap.size w W) ((w3.setCell ⟨r, 0, none⟩ c0).setCell ⟨r, 1, none⟩ c1) :=
  put2 c0 c1 hB (ho.mono fun b h => ⟨h.1, Nat.lt_of_lt_of_le h.2 h6⟩) hr hl hb

set_option maxHeartbeats 8000000 in
theorem spec_CollectStore (s : StoreD) (roots : List Int) (ss : List Value) (rv : Value) (w : World) (h : StoreR w ss s) (hr : Ints w rv roots) (hz : szStore s ≤ 1048576) :
    Calls Tryz.prog 34 #[.agg ss.toArray, rv] w (RetCol s roots w) := by
  have HS := Lib.hid h
  have HR := Lib.hid hr
  have HZ := Lib.hid hz
  have hzE : s.envs.length ≤ 1048576 := by unfold szStore at hz; have := szS_length szEnv s.envs; omega
  have hzP : s.promises.length ≤ 1048576 := by unfold szStore at hz; have := szS_length szPromise s.promises; omega
  clear hz
  obtain ⟨G, g0, HG, BX, BZ⟩ := good2 w 33 ss 33 zSt
  obtain ⟨E0, e0, E1, e1, rfl, _⟩ := h.open_
  obtain ⟨RA, rc, rfl, _⟩ := Ints.open_ hr
  clear h hr
  have x0 := fun W (h : Ok G W) => (BX.out W h).cell 0 _ rfl
  have x1 := fun W (h : Ok G W) => (BX.out W h).cell 1 _ rfl
  go_enter Tryz.func34, Tryz.ntmps34
  go_upto_region 1 with fail
  refine gen_w g0 ?_
  clear g0
  intro W1 g1
  generalize (Value.agg #[.slice E0 s.envs.length e0, .slice E1 s.promises.length e1]) = V0
  go_wp2_with fail
  refine Calls.mono (spec_l27Roots s roots _ _ _ (HS.out.below (HG.out.below g1)) (HR.out.below (HG.out.below g1)) (by have := HZ.out; omega)) ?_
  rintro e w2 ⟨ge, gp, E, P, rfl, hge, hgp, hne, hE, hP, hEl, hPl, hmk, hb⟩
  replace g1 := HG.out.step g1 hb
  clear hb
  have HMK := Lib.hid hmk
  clear hmk
  have HE := Lib.hid hE
  have HP := Lib.hid hP
  clear hE hP
  cases hro : rootsOk s roots
  · have HCP := Lib.hid (show ColP s roots (stZ, false) from ⟨hro.symm, fun h => (by cases h), fun _ => rfl⟩)
    clear hro
    have z0 := (BZ.out _ g1).frozen 0
    have z1 := (BZ.out _ g1).frozen 1
    have y0 := (BZ.out _ g1).cell 0 _ rfl
    have y1 := (BZ.out _ g1).cell 1 _ rfl
    have hltR := (BZ.out _ g1).lt
    go_wp2_with fail
    refine gen_w (put2 (w := w) (d := stZ) (lo := w.heap.size + 2) (.slice none 0 0) (.slice none 0 0) (BZ.out _ g1) (zeroSt _ _) (by omega) (by omega) (HG.out.below g1)) ?_
    clear z0 z1 y0 y1
    rintro V ⟨hblk, hv, hbv⟩
    have f0 := hblk.cell 0 _ rfl
    have f1 := hblk.cell 1 _ rfl
    refine bodyPost_ret (v := .tuple #[.agg #[.slice none 0 0, .slice none 0 0], .bool false]) (by simp [results, Tryz.results34, go_sem, f0, f1]) rfl ?_
    exact ⟨_, _, HCP.out, rfl, hv, hbv⟩
  have HM := Lib.hid (HMK.out hro)
  have HOK := Lib.hid (show storeOk s = true by unfold rootsOk at hro; rw [Bool.and_eq_true] at hro; exact hro.1)
  have HCP := Lib.hid (show ColP s roots (colS s E P, true) from ⟨hro.symm, fun _ => ⟨E, P, HM.out, rfl⟩, fun h => (by cases h)⟩)
  clear hro
  go_wp2_with fail
  refine Calls.mono (spec_l26Copy s _ _ (HS.out.below (HG.out.below g1)) (parts_ok HOK.out) (by have := HZ.out; omega)) ?_
  rintro e w6 ⟨cs6, rfl, ho, hb⟩
  obtain ⟨C0, c0, C1, c1, rfl⟩ := ho.shape2
  have hz6 := hb.size
  have HLO := Lib.hid (BZ.out _ g1).lt
  have hgel := HE.out.lt
  have hgpl := HP.out.lt
  have g6 := HG.out.step g1 hb
  have HO6 := Lib.hid ho
  have HE6 := Lib.hid (HE.out.below hb)
  have HP6 := Lib.hid (HP.out.below hb)
  obtain ⟨lo, hlo⟩ : ∃ lo : Nat, lo = w2.heap.size := ⟨_, rfl⟩
  rw [← hlo] at HLO HO6 hz6 hgel hgpl
  clear hb ho g1 HE HP hlo
  obtain ⟨G7, g7, HG7, BP⟩ := good1 w6 33 [.slice C0 s.envs.length c0, .slice C1 s.promises.length c1]
  have HH7 := Lib.hid (fun W (h : Ok G7 W) => HG.out.step g6 (HG7.out.below h))
  go_upto_region 5 with fail
  refine gen_w g7 ?_
  clear g7 x0 x1
  intro W7 g7
  have hb7 := HG7.out.below g7
  have BZ8 := Lib.hid (BZ.out _ (HH7.out _ g7))
  have HBW := Lib.hid (HG.out.below (HH7.out _ g7))
  have hsz7 := hb7.size
  go_wp2_with fail
  refine Calls.mono (spec_l27Sweep s E P ge gp lo w6.heap.size C0 C1 c0 c1 W7 (BP.out _ g7) (HO6.out.keeps (Keeps.of_below _ hb7)) (HE6.out.below hb7) (HP6.out.below hb7) (fun h => by have := h.1; omega) (fun h => by have := h.1; omega) hEl hPl (by have := HZ.out; omega)) ?_
  rintro e w9 ⟨rfl, hcw⟩
  have HX := Lib.hid hcw
  clear hcw hb7 g7
  have hwl3 := HLO.out
  have HXB := Lib.hid (show Below w.heap.size w w9 from HBW.out.trans (below_ofK HX.out.kp HX.out.b0 (fun b hb hr => by have := hr.1; omega) HBW.out.size))
  have HBZ := Lib.hid (BZ8.out.keeps HX.out.kp (fun hr => by have := hr.1; omega))
  have HOO := Lib.hid HX.out.o
  have h6s : w6.heap.size ≤ w9.heap.size := Nat.le_of_lt HX.out.b6.lt
  have y0 := HX.out.b6.cell 0 _ rfl
  have y1 := HX.out.b6.cell 1 _ rfl
  have z0 := HBZ.out.frozen 0
  have z1 := HBZ.out.frozen 1
  have r0 := HBZ.out.cell 0 _ rfl
  have r1 := HBZ.out.cell 1 _ rfl
  go_wp2_with fail
  refine gen_w (put2c (w := w) (r6 := w6.heap.size) (.slice C0 s.envs.length c0) (.slice C1 s.promises.length c1) HBZ.out HOO.out h6s (by omega) (by omega) HXB.out) ?_
  clear y0 y1 z0 z1 r0 r1
  rintro V ⟨hblk, hv, hbv⟩
  have f0 := hblk.cell 0 _ rfl
  have f1 := hblk.cell 1 _ rfl
  refine bodyPost_ret (v := .tuple #[.agg #[.slice C0 s.envs.length c0, .slice C1 s.promises.length c1], .bool true]) (by simp [results, Tryz.results34, go_sem, f0, f1]) rfl ?_
  exact ⟨_, _, HCP.out, rfl, hv, hbv⟩

set_option maxHeartbeats 8000000 in
theorem impl_CollectStore (s : StoreD) (roots : List Int) (ss : List Value) (rv : Value) (w : World) (h : StoreR w ss s) (hr : Ints w rv roots) (hz : szStore s ≤ 1048576) :
    Calls Tryz.prog 35 #[.agg ss.toArray, rv] w (RetCol s roots w) := by
  have HS := Lib.hid h
  have HR := Lib.hid hr
  have HZ := Lib.hid hz
  have hzE : s.envs.length ≤ 1048576 := by unfold szStore at hz; have := szS_length szEnv s.envs; omega
  have hzP : s.promises.length ≤ 1048576 := by unfold szStore at hz; have := szS_length szPromise s.promises; omega
  clear hz
  obtain ⟨G, g0, HG, BX, BZ⟩ := good2 w 33 ss 33 zSt
  obtain ⟨E0, e0, E1, e1, rfl, _⟩ := h.open_
  obtain ⟨RA, rc, rfl, _⟩ := Ints.open_ hr
  clear h hr
  have x0 := fun W (h : Ok G W) => (BX.out W h).cell 0 _ rfl
  have x1 := fun W (h : Ok G W) => (BX.out W h).cell 1 _ rfl
  go_enter Tryz.func35, Tryz.ntmps35
  go_upto_region 1 with fail
  refine gen_w g0 ?_
  clear g0
  intro W1 g1
  generalize (Value.agg #[.slice E0 s.envs.length e0, .slice E1 s.promises.length e1]) = V0
  go_wp2_with fail
  refine Calls.mono (impl_rootsRight s roots _ _ _ (HS.out.below (HG.out.below g1)) (HR.out.below (HG.out.below g1)) (by have := HZ.out; omega)) ?_
  rintro e w2 ⟨rfl, hb⟩
  replace g1 := HG.out.step g1 hb
  clear hb
  cases hro : rootsOk s roots
  · have HCP := Lib.hid (show ColP s roots (stZ, false) from ⟨hro.symm, fun h => (by cases h), fun _ => rfl⟩)
    clear hro
    have z0 := (BZ.out _ g1).frozen 0
    have z1 := (BZ.out _ g1).frozen 1
    have y0 := (BZ.out _ g1).cell 0 _ rfl
    have y1 := (BZ.out _ g1).cell 1 _ rfl
    have hltR := (BZ.out _ g1).lt
    go_wp2_with fail
    refine gen_w (put2 (w := w) (d := stZ) (lo := w.heap.size + 2) (.slice none 0 0) (.slice none 0 0) (BZ.out _ g1) (zeroSt _ _) (by omega) (by omega) (HG.out.below g1)) ?_
    clear z0 z1 y0 y1
    rintro V ⟨hblk, hv, hbv⟩
    have f0 := hblk.cell 0 _ rfl
    have f1 := hblk.cell 1 _ rfl
    refine bodyPost_ret (v := .tuple #[.agg #[.slice none 0 0, .slice none 0 0], .bool false]) (by simp [results, Tryz.results35, go_sem, f0, f1]) rfl ?_
    exact ⟨_, _, HCP.out, rfl, hv, hbv⟩
  have HOK := Lib.hid (show storeOk s = true by unfold rootsOk at hro; rw [Bool.and_eq_true] at hro; exact hro.1)
  have HALL := Lib.hid (show ∀ e ∈ roots, 0 ≤ e ∧ e < s.envs.length from fun e he => by unfold rootsOk at hro; rw [Bool.and_eq_true, List.all_eq_true] at hro; exact envU_in (hro.2 e he))
  have HRO := Lib.hid hro
  clear hro
  go_wp2_with fail
  refine Calls.mono (impl_copyStore s _ _ (HS.out.below (HG.out.below g1)) (by have := HZ.out; omega)) ?_
  rintro e w6 ⟨cs6, rfl, ho, hb⟩
  obtain ⟨C0, c0, C1, c1, rfl⟩ := ho.shape2
  have hz6 := hb.size
  have HLO := Lib.hid (BZ.out _ g1).lt
  have g6 := HG.out.step g1 hb
  have HO6 := Lib.hid ho
  obtain ⟨lo, hlo⟩ : ∃ lo : Nat, lo = w2.heap.size := ⟨_, rfl⟩
  rw [← hlo] at HLO HO6 hz6
  clear hb ho g1 hlo
  obtain ⟨G7, g7, HG7, BP⟩ := good1 w6 33 [.slice C0 s.envs.length c0, .slice C1 s.promises.length c1]
  have HH7 := Lib.hid (fun W (h : Ok G7 W) => HG.out.step g6 (HG7.out.below h))
  go_upto_region 4 with fail
  refine gen_w g7 ?_
  clear g7 x0 x1
  intro W7 g7
  have hb7 := HG7.out.below g7
  have hw7 := (BP.out _ g7).lt
  go_wp2_with fail
  refine Calls.mono (impl_reached s roots _ _ W7 w.heap.size (HS.out.below (HG.out.below (HH7.out _ g7))) (BX.out _ (HH7.out _ g7)) (HR.out.below (HG.out.below (HH7.out _ g7))) HOK.out HALL.out (by have := HZ.out; omega)) ?_
  rintro e wb ⟨rb, ge, gp, lo2, st, A, c, rfl, hq, hs, hmk⟩
  have g8 := HG7.out.step g7 hs.rd
  have HRL := Lib.hid (show w6.heap.size < rb by have := hq.r.1; omega)
  have hge : ¬ Rng lo w6.heap.size ge := fun h => by have := h.2; have := hq.g.1; omega
  have hgp : ¬ Rng lo w6.heap.size gp := fun h => by have := h.2; have := hq.p.1; omega
  have HRB := Lib.hid hs.bR
  have hEl : st.E.length = s.envs.length := hmk.lenE
  have hPl : st.P.length = s.promises.length := hmk.lenP
  have HCP := Lib.hid (show ColP s roots (colS s st.E st.P, true) from ⟨HRO.out.symm, fun _ => ⟨st.E, st.P, hmk, rfl⟩, fun h => (by cases h)⟩)
  have BZ8 := Lib.hid (BZ.out _ (HH7.out _ g8))
  have HBW := Lib.hid (HG.out.below (HH7.out _ g8))
  have HX := Lib.hid (show CW wb lo w6.heap.size ge gp [.slice C0 s.envs.length c0, .slice C1 s.promises.length c1] st.E st.P ⟨sw zEn st.E 0 s.envs, s.promises⟩ wb from ⟨BP.out _ g8, HO6.out.keeps (Keeps.of_below _ (HG7.out.below g8)), hs.bE, hs.bP, Keeps.refl _ _, Below.refl _ _⟩)
  obtain ⟨E, hE9⟩ : ∃ E, E = st.E := ⟨_, rfl⟩
  obtain ⟨P, hP9⟩ : ∃ P, P = st.P := ⟨_, rfl⟩
  rw [← hE9] at hEl HCP HX
  rw [← hP9] at hPl HCP HX
  have hr1 := hs.bR.cell 1 _ rfl
  clear hE9 hP9 hs hmk hq hb7 g7 g8
  go_wp2_with fail
  clear hr1
  go_loopw [8, 9, 26] (fun _ _ i wr => ∃ k : Nat, k ≤ s.envs.length ∧ i = .int .i64 k ∧ Hid (CW wb lo w6.heap.size ge gp [.slice C0 s.envs.length c0, .slice C1 s.promises.length c1] E P ⟨sw zEn E (k) s.envs, s.promises⟩ wr)) (fun _ _ i _ => s.envs.length - (intOf i).toNat)
  case atStart => exact ⟨0, Nat.zero_le _, rfl, HX.out⟩
  case round =>
    clear HX
    obtain ⟨k, hk, rfl, HX⟩ := hrel
    have x0 := HX.out.b6.cell 0 _ rfl
    have x1 := HX.out.b6.cell 1 _ rfl
    by_cases hlt : k < s.envs.length
    · have q0 := HX.out.bE.cell k _ (bls_get _ k (by omega))
      cases hg : gB E k
      · have HN := Lib.hid (sw_no (z := zEn) (l := s.envs) hg)
        rw [hg] at q0
        clear hg
        obtain ⟨g, u0, u1, u2, u3, rfl, ⟨y0, y1, y2, y3⟩, ⟨f0, f1, f2, f3⟩, hc⟩ := HX.out.clearE (by show (sw _ _ _ _).length = _; rw [sw_len]) k hlt hge hgp
        have HX2 := Lib.hid hc
        clear hc
        go_wp2_with fail
        clear HX x0 x1 q0 y0 y1 y2 y3 f0 f1 f2 f3
        go_roundw
        case rel => first | exact ⟨k + 1, by omega, by go_num, by rw [HN.out]; exact HX2.out⟩ | ((repeat apply Exists.intro); exact ⟨⟨k + 1, by omega, by go_num, by rw [HN.out]; exact HX2.out⟩, rfl⟩)
        case measure => simp [intOf]; omega
      · have HN := Lib.hid (sw_yes (z := zEn) (l := s.envs) hg)
        rw [hg] at q0
        clear hg
        go_wp2_with fail
        go_roundw
        case rel => first | exact ⟨k + 1, by omega, by go_num, by rw [HN.out]; exact HX.out⟩ | ((repeat apply Exists.intro); exact ⟨⟨k + 1, by omega, by go_num, by rw [HN.out]; exact HX.out⟩, rfl⟩)
        case measure => simp [intOf]; omega
    · obtain rfl : k = s.envs.length := by omega
      clear hlt hk
      have hr2 := (HRB.out.keeps HX.out.kp (fun h => by have := h.2; have := HRL.out; omega)).cell 2 _ rfl
      go_wp2_with fail
      clear hr2
      go_loopw [10, 11, 44] (fun _ _ i wr => ∃ k : Nat, k ≤ s.promises.length ∧ i = .int .i64 k ∧ Hid (CW wb lo w6.heap.size ge gp [.slice C0 s.envs.length c0, .slice C1 s.promises.length c1] E P ⟨sw zEn E s.envs.length s.envs, sw zPr P (k) s.promises⟩ wr)) (fun _ _ i _ => s.promises.length - (intOf i).toNat)
      case atStart => exact ⟨0, Nat.zero_le _, rfl, HX.out⟩
      case round =>
        clear HX
        obtain ⟨k, hk, rfl, HX⟩ := hrel
        have x0 := HX.out.b6.cell 0 _ rfl
        have x1 := HX.out.b6.cell 1 _ rfl
        by_cases hlt : k < s.promises.length
        · have q0 := HX.out.bP.cell k _ (bls_get _ k (by omega))
          cases hg : gB P k
          · have HN := Lib.hid (sw_no (z := zPr) (l := s.promises) hg)
            rw [hg] at q0
            clear hg
            obtain ⟨g, u0, u1, u2, u3, u4, u5, u6, u7, u8, u9, u10, u11, rfl, ⟨y0, y1, y2, y3, y4, y5, y6, y7, y8, y9, y10, y11⟩, ⟨f0, f1, f2, f3, f4, f5, f6, f7, f8, f9, f10, f11⟩, hc⟩ := HX.out.clearP (by show (sw _ _ _ _).length = _; rw [sw_len]) k hlt hge hgp
            have HX2 := Lib.hid hc
            clear hc
            go_wp2_with fail
            clear HX x0 x1 q0 y0 y1 y2 y3 y4 y5 y6 y7 y8 y9 y10 y11 f0 f1 f2 f3 f4 f5 f6 f7 f8 f9 f10 f11
            go_roundw
            case rel => first | exact ⟨k + 1, by omega, by go_num, by rw [HN.out]; exact HX2.out⟩ | ((repeat apply Exists.intro); exact ⟨⟨k + 1, by omega, by go_num, by rw [HN.out]; exact HX2.out⟩, rfl⟩)
            case measure => simp [intOf]; omega
          · have HN := Lib.hid (sw_yes (z := zPr) (l := s.promises) hg)
            rw [hg] at q0
            clear hg
            go_wp2_with fail
            go_roundw
            case rel => first | exact ⟨k + 1, by omega, by go_num, by rw [HN.out]; exact HX.out⟩ | ((repeat apply Exists.intro); exact ⟨⟨k + 1, by omega, by go_num, by rw [HN.out]; exact HX.out⟩, rfl⟩)
            case measure => simp [intOf]; omega
        · obtain rfl : k = s.promises.length := by omega
          clear hlt hk
          have hwl3 := HLO.out
          have HXB := Lib.hid (show Below w.heap.size w wr from HBW.out.trans (below_ofK HX.out.kp HX.out.b0 (fun b hb hr => by have := hr.1; omega) HBW.out.size))
          have HBZ := Lib.hid (BZ8.out.keeps HX.out.kp (fun hr => by have := hr.1; omega))
          have HOO := Lib.hid HX.out.o
          have h6s : w6.heap.size ≤ wr.heap.size := Nat.le_of_lt HX.out.b6.lt
          have y0 := HX.out.b6.cell 0 _ rfl
          have y1 := HX.out.b6.cell 1 _ rfl
          have z0 := HBZ.out.frozen 0
          have z1 := HBZ.out.frozen 1
          have r0 := HBZ.out.cell 0 _ rfl
          have r1 := HBZ.out.cell 1 _ rfl
          go_wp2_with fail
          refine gen_w (put2c (w := w) (r6 := w6.heap.size) (.slice C0 s.envs.length c0) (.slice C1 s.promises.length c1) HBZ.out HOO.out h6s (by omega) (by omega) HXB.out) ?_
          clear y0 y1 z0 z1 r0 r1
          rintro V ⟨hblk, hv, hbv⟩
          have f0 := hblk.cell 0 _ rfl
          have f1 := hblk.cell 1 _ rfl
          refine bodyPost_ret (v := .tuple #[.agg #[.slice C0 s.envs.length c0, .slice C1 s.promises.length c1], .bool true]) (by simp [results, Tryz.results35, go_sem, f0, f1]) rfl ?_
          exact ⟨_, _, HCP.out, rfl, hv, hbv⟩
end Go.Proofs.YtejieacdfjpfnaaGreat
