/-
  A store's environments are changed in place: names and slots are added, a slot is replaced.
-/
import Derived.Test.YtejieacdfjpfnaaGreatStE
namespace Go.Proofs.YtejieacdfjpfnaaGreat
set_option maxRecDepth 100000
open Go.ChangeShapes Go.WideShapes Go.ChangeAt Go.RowKit Go.Deep
set_option linter.unusedVariables false
set_option maxRecDepth 100000
open Classical in
theorem SlO.pushD {α : Type} {w : World} {lo : Nat} {e : TypeId} {size : Nat} {RO : (Nat → Prop) → World → List Value → α → Prop} {v : Value} {l : List α} {S T : Nat → Prop}
    (hRK : ∀ {T : Nat → Prop} {w w' : World} {cs : List Value} {x : α}, RO T w cs x → Keeps T w w' → RO T w' cs x)
    (hRM : ∀ {T T' : Nat → Prop} {w : World} {cs : List Value} {x : α}, RO T w cs x → (∀ b, T b → T' b) → RO T' w cs x)
    (h : SlO S w e size RO v l) (hS : ∀ b, S b → lo ≤ b ∧ b < w.heap.size) (x : α) (cs : List Value) (hcs : cs.length = size) (hx : RO T w cs x) (hT : ∀ b, T b → b < w.heap.size) (hd : ∀ b, S b → ¬ T b) :
    ∃ xs, w.ownsRow lo e size v l.length xs ∧ (∀ b, v.ownBlock = some b → S b) ∧ ∀ v' w2, w2.ownsRow lo e size v' (l.length + 1) (xs ++ cs) → w.grownBy w2 v.ownBlock → (v'.ownBlock = v.ownBlock ∨ v'.ownBlock = some (w.heap.size + 1)) →
      SlO (fun b => S b ∨ T b ∨ v'.ownBlock = some b) w2 e size RO v' (l ++ [x]) := by
  obtain ⟨xss, f, h1, h2, h3, h4⟩ := h
  have hown : w.ownsRow lo e size v l.length xss.flatten := by
    refine ⟨h3.1, ?_⟩
    rcases h3.2 with hn | ⟨g, cap, cur, rfl, _, hg, rest⟩
    · exact .inl hn
    · exact .inr ⟨g, cap, cur, rfl, (hS g (h4 g rfl).1).1, hg, rest⟩
  refine ⟨xss.flatten, hown, fun b e1 => (h4 b e1).1, fun v' w2 ho hg hbk => ?_⟩
  have hz2 := hg.size
  have hown0 : ∀ b, v.ownBlock = some b → S b ∧ f b = 0 := fun b e1 => h4 b e1
  refine ⟨xss ++ [cs], fun b => if v'.ownBlock = some b then 0 else if T b then l.length + 1 else f b, by simp [h1], fun k a b => ?_, ⟨?_, ?_⟩, fun k hk => ⟨.inr (.inr hk), by simp [hk]⟩⟩
  · by_cases hk : k < l.length
    · rw [List.getElem_append_left (by omega), List.getElem_append_left hk]
      obtain ⟨q1, q2⟩ := h2 k (by omega) hk
      refine ⟨q1, hRM (hRK q2 (Keeps.grown hg fun b hT' e1 => ?_)) fun b hT' => ⟨.inl hT'.1, ?_⟩⟩
      · have := (hown0 b e1.symm).2
        have := hT'.2
        omega
      · have hbl := (hS b hT'.1).2
        have hne : v'.ownBlock ≠ some b := fun e1 => by
          rcases hbk with e2 | e2
          · have := (hown0 b (e2 ▸ e1)).2
            have := hT'.2
            omega
          · rw [e2] at e1
            injection e1 with e1
            omega
        show (if v'.ownBlock = some b then 0 else if T b then l.length + 1 else f b) = k + 1
        rw [if_neg hne, if_neg (hd b hT'.1)]
        exact hT'.2
    · have hk' : k = l.length := by simp at b; omega
      subst hk'
      rw [List.getElem_append_right (by omega), List.getElem_append_right (by omega)]
      simp only [h1, Nat.sub_self, List.getElem_cons_zero]
      refine ⟨hcs, hRM (hRK hx (Keeps.grown hg fun b hT' e1 => hd b (hown0 b e1.symm).1 hT')) fun b hT' => ⟨.inr (.inl hT'), ?_⟩⟩
      have hne : v'.ownBlock ≠ some b := fun e1 => by
        rcases hbk with e2 | e2
        · exact hd b (hown0 b (e2 ▸ e1)).1 hT'
        · rw [e2] at e1
          injection e1 with e1
          have := hT b hT'
          omega
      show (if v'.ownBlock = some b then 0 else if T b then l.length + 1 else f b) = l.length + 1
      rw [if_neg hne, if_pos hT']
  · have := ho.1
    simpa using this
  · rw [List.flatten_append, List.length_append]
    have := (own_base ho (Nat.zero_le lo)).2
    simpa using this

theorem TxtO.push_ {S : Nat → Prop} {w : World} {v : Value} {l : List (List UInt8)} {lo : Nat} (h : TxtO S w v l) (hS : ∀ b, S b → lo ≤ b) (s : List UInt8) (hs : s.length ≤ maxLen) :
    w.ownsRow lo 9 1 v l.length (l.map fun s => Value.string (str s)) ∧ (∀ b, v.ownBlock = some b → S b) ∧ ∀ v' w2, w2.ownsRow lo 9 1 v' (l.length + 1) ((l.map fun s => Value.string (str s)) ++ [.string (str s)]) → TxtO (fun b => S b ∨ v'.ownBlock = some b) w2 v' (l ++ [s]) := by
  obtain ⟨⟨h1, h2⟩, h3⟩ := h
  refine ⟨⟨h1.1, ?_⟩, h2, fun v' w2 ho => ⟨⟨?_, fun k hk => .inr hk⟩, fun t ht => ?_⟩⟩
  · rcases h1.2 with hn | ⟨g, cap, cur, rfl, _, hg, rest⟩
    · exact .inl hn
    · exact .inr ⟨g, cap, cur, rfl, hS g (h2 g rfl), hg, rest⟩
  · have := own_base ho (Nat.zero_le lo)
    simpa using this
  · rcases List.mem_append.1 ht with ht | ht
    · exact h3 t ht
    · rw [List.mem_singleton] at ht
      subst ht
      exact hs

section
variable {α : Type} {S : Nat → Prop} {f : Nat → Nat} {w w' : World} {e : TypeId} {size : Nat} {RO : (Nat → Prop) → World → List Value → α → Prop} {g : Nat} {post : List Value} {ys : List (List Value)} {m : List α}
open Classical in
theorem MidO.updateD (hRK : ∀ {T : Nat → Prop} {w w' : World} {cs : List Value} {x : α}, RO T w cs x → Keeps T w w' → RO T w' cs x)
    (hRM : ∀ {T T' : Nat → Prop} {w : World} {cs : List Value} {x : α}, RO T w cs x → (∀ b, T b → T' b) → RO T' w cs x)
    (h : MidO S f w e size RO g post ys m) (i : Nat) (hi : i < m.length) (cs' : List Value) (x' : α) (hc : cs'.length = size) {T N : Nat → Prop}
    (hb : Blk w' g e ((ys.set i cs').flatten ++ post)) (hx : RO T w' cs' x') (hT : ∀ b, T b → (S b ∧ f b = i + 1) ∨ N b) (hN : ∀ b, S b → ¬ N b) (hk : Keeps (fun b => S b ∧ b ≠ g ∧ f b ≠ i + 1) w w') :
    ∃ f', MidO (fun b => S b ∨ N b) f' w' e size RO g post (ys.set i cs') (m.set i x') := by
  refine ⟨fun b => if N b then i + 1 else f b, ⟨.inl h.own.1, by show (if N g then i + 1 else f g) = 0; rw [if_neg (hN g h.own.1)]; exact h.own.2⟩, hb, by simp [h.len], fun k h1 h2 => ?_⟩
  by_cases hki : k = i
  · subst hki
    simp only [List.getElem_set_self]
    refine ⟨hc, hRM hx fun b hb => ?_⟩
    rcases hT b hb with h8 | h8
    · exact ⟨.inl h8.1, by rw [if_neg (hN b h8.1)]; exact h8.2⟩
    · exact ⟨.inr h8, by rw [if_pos h8]⟩
  · rw [List.getElem_set_ne (by omega), List.getElem_set_ne (by omega)]
    simp only [List.length_set] at h1 h2
    obtain ⟨q1, q2⟩ := h.elem k h1 h2
    refine ⟨q1, hRM (hRK q2 (hk.mono fun b hb => ⟨hb.1, fun hg => ?_, fun hq => ?_⟩)) fun b hb => ⟨.inl hb.1, by rw [if_neg (hN b hb.1)]; exact hb.2⟩⟩
    · have := hb.2
      have := h.own.2
      subst hg
      omega
    · have := hb.2
      omega
end
theorem SlO.notnil {α : Type} {S : Nat → Prop} {w : World} {e : TypeId} {size : Nat} {RO : (Nat → Prop) → World → List Value → α → Prop} {v : Value} {l : List α} (h : SlO S w e size RO v l) {k : Nat} (hk : k < l.length) :
    ∃ g cap f post ys, v = .slice (some ⟨g, 0, none⟩) l.length cap ∧ l.length ≤ cap ∧ cap ≤ maxLen ∧ l.length * size + post.length = cap * size ∧ MidO S f w e size RO g post ys l := by
  rcases SlO.mid h with ⟨_, rfl⟩ | h
  · simp at hk
  · exact h

open Classical in
/-- one environment of a store, opened and closed again with other names and slots -/
theorem env_edit {S : Nat → Prop} {w : World} {v : Value} {l : List EnvD} (h : EnvsO S w v l) (k : Nat) (hk : k < l.length) :
    ∃ (g cap : Nat) (pre rest : List Value) (N M : Option Addr) (n m : Nat) (SN SM : Nat → Prop), v = .slice (some ⟨g, 0, none⟩) l.length cap ∧ l.length ≤ cap ∧ cap ≤ maxLen ∧ S g ∧ pre.length = k * 4 ∧ I64 l[k].parent ∧
      Blk w g 71 (pre ++ [.bool l[k].used, .int .i64 l[k].parent, .slice N l[k].names.length n, .slice M l[k].slots.length m] ++ rest) ∧
      TxtO SN w (.slice N l[k].names.length n) l[k].names ∧ SlotsO SM w (.slice M l[k].slots.length m) l[k].slots ∧
      (∀ b, SN b → S b ∧ b ≠ g ∧ ¬ SM b) ∧ (∀ b, SM b → S b ∧ b ≠ g ∧ ¬ SN b) ∧
      ∀ (w' : World) (N' M' : Option Addr) (n' m' : Nat) (ns : List (List UInt8)) (ss : List SlotD) (SN' SM' X : Nat → Prop),
        Blk w' g 71 (pre ++ [.bool l[k].used, .int .i64 l[k].parent, .slice N' ns.length n', .slice M' ss.length m'] ++ rest) →
        TxtO SN' w' (.slice N' ns.length n') ns → SlotsO SM' w' (.slice M' ss.length m') ss → (∀ b, SN' b → (SN b ∨ SM b ∨ X b) ∧ ¬ SM' b) → (∀ b, SM' b → SN b ∨ SM b ∨ X b) → (∀ b, S b → ¬ X b) →
        Keeps (fun b => S b ∧ b ≠ g ∧ ¬ SN b ∧ ¬ SM b) w w' → EnvsO (fun b => S b ∨ X b) w' v (l.set k ⟨l[k].used, l[k].parent, ns, ss⟩) := by
  obtain ⟨g, cap, f, post, ys, rfl, hcap, hmax, hpost, hm⟩ := SlO.notnil (show SlO S w 71 4 EnvO v l from h) hk
  obtain ⟨hy, pre, rest, hpre, hblk, hset, N, n, M, m, f2, hcs, _, hi64, oN, oM⟩ := hm.at_ k hk
  rw [hcs] at hblk
  refine ⟨g, cap, pre, rest, N, M, n, m, _, _, rfl, hcap, hmax, hm.own.1, hpre, hi64, hblk, oN, oM, fun b hb => ⟨hb.1.1, fun e => ?_, fun hb2 => ?_⟩, fun b hb => ⟨hb.1.1, fun e => ?_, fun hb2 => ?_⟩, fun w' N' M' n' m' ns ss SN' SM' X hb' hN' hM' hSN hSM hX hK => ?_⟩
  · have := hb.1.2
    have := hm.own.2
    subst e
    omega
  · have := hb.2
    have := hb2.2
    omega
  · have := hb.1.2
    have := hm.own.2
    subst e
    omega
  · have := hb.2
    have := hb2.2
    omega
  · have hin : ∀ b, ((S b ∧ f b = k + 1) ∧ f2 b = 2) ∨ ((S b ∧ f b = k + 1) ∧ f2 b = 3) ∨ X b → (S b ∧ f b = k + 1) ∨ X b := fun b hb => by
      rcases hb with hb | hb | hb
      · exact .inl hb.1
      · exact .inl hb.1
      · exact .inr hb
    obtain ⟨f', hm'⟩ := MidO.updateD (w' := w') (fun h k => h.keeps k) (fun h k => h.mono k) hm k hk [.bool l[k].used, .int .i64 l[k].parent, .slice N' ns.length n', .slice M' ss.length m'] ⟨l[k].used, l[k].parent, ns, ss⟩ rfl (T := fun b => (S b ∧ f b = k + 1) ∨ X b) (N := X) (by rw [← hset]; exact hb')
      (show EnvO _ w' _ _ from ⟨N', n', M', m', fun b => if SM' b then 3 else 2, rfl, trivial, hi64, TxtO.mono hN' (fun b hb => ⟨hin b (hSN b hb).1, if_neg (hSN b hb).2⟩), SlotsO.mono hM' (fun b hb => ⟨hin b (hSM b hb), if_pos hb⟩)⟩)
      (fun b hb => hb) hX (hK.mono fun b hb => ⟨hb.1, hb.2.1, fun h8 => hb.2.2 h8.1.2, fun h8 => hb.2.2 h8.1.2⟩)
    have := hm'.back (cap := cap) (by simpa using hcap) hmax (by simpa using hpost)
    simpa using (show EnvsO (fun b => S b ∨ X b) w' _ _ from this)

/-! ### define -/
def defE (e : EnvD) (nm : List UInt8) (x : SlotD) : EnvD := if findB e.names nm < 0 then ⟨e.used, e.parent, e.names ++ [nm], e.slots ++ [x]⟩ else ⟨e.used, e.parent, e.names, e.slots.set (findB e.names nm).toNat x⟩
def defS (s : StoreD) (k : Nat) (h : k < s.envs.length) (nm : List UInt8) (x : SlotD) : StoreD := ⟨s.envs.set k (defE s.envs[k] nm x), s.promises⟩

section
variable {w W W' w3 : World} {lo r6 g k : Nat} {cs xcs pre rest : List Value} {d : EnvD} {nm : List UInt8} {x : SlotD} {A1 N M : Option Addr} {n1 n m : Nat} {SN SM SP KS : Nat → Prop} {pv : Value} {ps : List PromD}
end
open Classical in
/-- one slot is replaced -/
theorem slot_edit {S : Nat → Prop} {w : World} {v : Value} {l : List SlotD} (h : SlotsO S w v l) (i : Nat) (hi : i < l.length) :
    ∃ (g cap : Nat) (pre rest ys : List Value), v = .slice (some ⟨g, 0, none⟩) l.length cap ∧ l.length ≤ cap ∧ cap ≤ maxLen ∧ S g ∧ pre.length = i * 12 ∧ ys.length = 12 ∧ Blk w g 96 (pre ++ ys ++ rest) ∧
      ∀ (w' : World) (xcs : List Value) (x : SlotD) (T : Nat → Prop), xcs.length = 12 → Blk w' g 96 (pre ++ xcs ++ rest) → SlotO T w' xcs x → (∀ b, S b → ¬ T b) → Keeps (fun b => S b ∧ b ≠ g) w w' → SlotsO (fun b => S b ∨ T b) w' v (l.set i x) := by
  obtain ⟨g, cap, f, post, ys, rfl, hcap, hmax, hpost, hm⟩ := SlO.notnil (show SlO S w 96 12 SlotO v l from h) hi
  obtain ⟨hy, pre, rest, hpre, hblk, hset, ho⟩ := hm.at_ i hi
  refine ⟨g, cap, pre, rest, ys[i], rfl, hcap, hmax, hm.own.1, hpre, (hm.elem i hy hi).1, hblk, fun w' xcs x T hx hb' hxO hT hK => ?_⟩
  obtain ⟨f', hm'⟩ := MidO.updateD (w' := w') (fun h k => h.keeps k) (fun h k => h.mono k) hm i hi xcs x hx (T := T) (N := T) (by rw [← hset]; exact hb') (show SlotO _ w' _ _ from hxO) (fun b hb => .inr hb) hT (hK.mono fun b hb => ⟨hb.1, hb.2.1⟩)
  have := hm'.back (cap := cap) (by simpa using hcap) hmax (by simpa using hpost)
  simpa using (show SlotsO (fun b => S b ∨ T b) w' _ _ from this)
theorem Blk.mid12 {w : World} {g : Nat} {e : TypeId} {pre ys rest : List Value} {o : Nat} (h : Blk w g e (pre ++ ys ++ rest)) (ho : pre.length = o) (hy : ys.length = 12) (a0 a1 a2 a3 a4 a5 a6 a7 a8 a9 a10 a11 : Value) :
    Blk ((((((((((((w.setCell ⟨g, o, none⟩ a0).setCell ⟨g, o + 1, none⟩ a1).setCell ⟨g, o + 2, none⟩ a2).setCell ⟨g, o + 3, none⟩ a3).setCell ⟨g, o + 4, none⟩ a4).setCell ⟨g, o + 5, none⟩ a5).setCell ⟨g, o + 6, none⟩ a6).setCell ⟨g, o + 7, none⟩ a7).setCell ⟨g, o + 8, none⟩ a8).setCell ⟨g, o + 9, none⟩ a9).setCell ⟨g, o + 10, none⟩ a10).setCell ⟨g, o + 11, none⟩ a11) g e (pre ++ [a0, a1, a2, a3, a4, a5, a6, a7, a8, a9, a10, a11] ++ rest) := by
  match ys, hy with
  | [y0, y1, y2, y3, y4, y5, y6, y7, y8, y9, y10, y11], _ =>
    have h0 := h.mid_set ho 0 a0 (by simp)
    have h1 := h0.mid_set ho 1 a1 (by simp)
    have h2 := h1.mid_set ho 2 a2 (by simp)
    have h3 := h2.mid_set ho 3 a3 (by simp)
    have h4 := h3.mid_set ho 4 a4 (by simp)
    have h5 := h4.mid_set ho 5 a5 (by simp)
    have h6 := h5.mid_set ho 6 a6 (by simp)
    have h7 := h6.mid_set ho 7 a7 (by simp)
    have h8 := h7.mid_set ho 8 a8 (by simp)
    have h9 := h8.mid_set ho 9 a9 (by simp)
    have h10 := h9.mid_set ho 10 a10 (by simp)
    have h11 := h10.mid_set ho 11 a11 (by simp)
    simpa using h11
theorem keeps12 {S : Nat → Prop} {w : World} {g o : Nat} (hS : ¬ S g) (a0 a1 a2 a3 a4 a5 a6 a7 a8 a9 a10 a11 : Value) :
    Keeps S w ((((((((((((w.setCell ⟨g, o, none⟩ a0).setCell ⟨g, o + 1, none⟩ a1).setCell ⟨g, o + 2, none⟩ a2).setCell ⟨g, o + 3, none⟩ a3).setCell ⟨g, o + 4, none⟩ a4).setCell ⟨g, o + 5, none⟩ a5).setCell ⟨g, o + 6, none⟩ a6).setCell ⟨g, o + 7, none⟩ a7).setCell ⟨g, o + 8, none⟩ a8).setCell ⟨g, o + 9, none⟩ a9).setCell ⟨g, o + 10, none⟩ a10).setCell ⟨g, o + 11, none⟩ a11) :=
  ((((((((((((Keeps.refl S w).sc (b := g) hS a0).sc (b := g) hS a1).sc (b := g) hS a2).sc (b := g) hS a3).sc (b := g) hS a4).sc (b := g) hS a5).sc (b := g) hS a6).sc (b := g) hS a7).sc (b := g) hS a8).sc (b := g) hS a9).sc (b := g) hS a10).sc (b := g) hS a11
theorem below12 {B : Nat} {w0 w : World} {g o : Nat} (h : Below B w0 w) (hS : B ≤ g) (a0 a1 a2 a3 a4 a5 a6 a7 a8 a9 a10 a11 : Value) :
    Below B w0 ((((((((((((w.setCell ⟨g, o, none⟩ a0).setCell ⟨g, o + 1, none⟩ a1).setCell ⟨g, o + 2, none⟩ a2).setCell ⟨g, o + 3, none⟩ a3).setCell ⟨g, o + 4, none⟩ a4).setCell ⟨g, o + 5, none⟩ a5).setCell ⟨g, o + 6, none⟩ a6).setCell ⟨g, o + 7, none⟩ a7).setCell ⟨g, o + 8, none⟩ a8).setCell ⟨g, o + 9, none⟩ a9).setCell ⟨g, o + 10, none⟩ a10).setCell ⟨g, o + 11, none⟩ a11) :=
  below_sc (below_sc (below_sc (below_sc (below_sc (below_sc (below_sc (below_sc (below_sc (below_sc (below_sc (below_sc h hS a0) hS a1) hS a2) hS a3) hS a4) hS a5) hS a6) hS a7) hS a8) hS a9) hS a10) hS a11
theorem info_strD : (Tryz.prog.info? 9).map (fun i => (i.zero, i.size, i.bytes)) = some (some (.string ByteArray.empty), 1, 16) := by kernel_rfl
theorem cell_grown {w w' : World} {row : Option Nat} {g : Nat} {t : TypeId} {cs : List Value} (hg : w.grownBy w' row) (h : Blk w g t cs) (hne : some g ≠ row) : Blk w' g t cs := (hg.block g h.lt hne).trans h
end Go.Proofs.YtejieacdfjpfnaaGreat
