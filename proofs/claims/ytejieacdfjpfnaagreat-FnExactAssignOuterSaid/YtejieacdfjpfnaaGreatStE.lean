/-
  ExtendStore: contracts; a slice of structs of a value's own is added to or changed.
-/
import Derived.Test.YtejieacdfjpfnaaGreatSlPush
import Derived.Test.YtejieacdfjpfnaaGreatMarks
import Derived.Test.YtejieacdfjpfnaaGreatStCpy
import Derived.Test.YtejieacdfjpfnaaGreatStoreFind
import Derived.Test.YtejieacdfjpfnaaGreatSpecStore6
namespace Go.Proofs.YtejieacdfjpfnaaGreat
set_option maxRecDepth 100000
open Go.ChangeShapes Go.WideShapes Go.ChangeAt Go.RowKit Go.Deep
set_option linter.unusedVariables false
set_option maxRecDepth 100000

theorem SlO.pushS {α : Type} {w w1 : World} {lo : Nat} {e : TypeId} {size : Nat} {RO : (Nat → Prop) → World → List Value → α → Prop} {v : Value} {l : List α} {S T : Nat → Prop}
    (hRK : ∀ {T : Nat → Prop} {w w' : World} {cs : List Value} {x : α}, RO T w cs x → Keeps T w w' → RO T w' cs x)
    (hRM : ∀ {T T' : Nat → Prop} {w : World} {cs : List Value} {x : α}, RO T w cs x → (∀ b, T b → T' b) → RO T' w cs x)
    (h : SlO S w e size RO v l) (hS : ∀ b, S b → lo ≤ b ∧ b < w.heap.size) (hlo : lo ≤ w.heap.size) (hb : Below w.heap.size w w1) (x : α) (cs : List Value) (hcs : cs.length = size) (hx : RO T w1 cs x) (hT : ∀ b, T b → w.heap.size ≤ b ∧ b < w1.heap.size) :
    ∃ xs, w1.ownsRow lo e size v l.length xs ∧ (∀ b, v.ownBlock = some b → S b) ∧ ∀ v' w2, w2.ownsRow lo e size v' (l.length + 1) (xs ++ cs) → w1.grownBy w2 v.ownBlock → (v'.ownBlock = v.ownBlock ∨ v'.ownBlock = some (w1.heap.size + 1)) →
      SlO (fun b => S b ∨ T b ∨ v'.ownBlock = some b) w2 e size RO v' (l ++ [x]) := by
  obtain ⟨xss, f, h1, h2, h3, h4⟩ := h
  have hown : w.ownsRow lo e size v l.length xss.flatten := by
    refine ⟨h3.1, ?_⟩
    rcases h3.2 with hn | ⟨g, cap, cur, rfl, _, hg, rest⟩
    · exact .inl hn
    · exact .inr ⟨g, cap, cur, rfl, (hS g (h4 g rfl).1).1, hg, rest⟩
  refine ⟨xss.flatten, own_below hown hb, fun b e1 => (h4 b e1).1, fun v' w2 ho hg hbk => ?_⟩
  have hz := hb.size
  have hz2 := hg.size
  have hown0 : ∀ b, v.ownBlock = some b → b < w.heap.size ∧ f b = 0 := fun b e1 => ⟨(hS b (h4 b e1).1).2, (h4 b e1).2⟩
  refine ⟨xss ++ [cs], fun b => if v'.ownBlock = some b then 0 else if b < w.heap.size then f b else l.length + 1, by simp [h1], fun k a b => ?_, ⟨?_, ?_⟩, fun k hk => ⟨.inr (.inr hk), by simp [hk]⟩⟩
  · by_cases hk : k < l.length
    · rw [List.getElem_append_left (by omega), List.getElem_append_left hk]
      obtain ⟨q1, q2⟩ := h2 k (by omega) hk
      refine ⟨q1, hRM (hRK (hRK q2 ⟨hb.size, fun b hb' hT' => hb.block b hb'⟩) (Keeps.grown hg fun b hT' e1 => ?_)) fun b hT' => ⟨.inl hT'.1, ?_⟩⟩
      · have := hown0 b e1.symm
        have := hT'.2
        omega
      · have hbl := (hS b hT'.1).2
        have hne : v'.ownBlock ≠ some b := fun e1 => by
          rcases hbk with e2 | e2
          · have := hown0 b (e2 ▸ e1)
            have := hT'.2
            omega
          · rw [e2] at e1
            injection e1 with e1
            omega
        show (if v'.ownBlock = some b then 0 else if b < w.heap.size then f b else l.length + 1) = k + 1
        rw [if_neg hne, if_pos hbl]
        exact hT'.2
    · have hk' : k = l.length := by simp at b; omega
      subst hk'
      rw [List.getElem_append_right (by omega), List.getElem_append_right (by omega)]
      simp only [h1, Nat.sub_self, List.getElem_cons_zero]
      refine ⟨hcs, hRM (hRK hx (Keeps.grown hg fun b hT' e1 => ?_)) fun b hT' => ⟨.inr (.inl hT'), ?_⟩⟩
      · have := (hown0 b e1.symm).1
        have := (hT b hT').1
        omega
      · have hne : v'.ownBlock ≠ some b := fun e1 => by
          rcases hbk with e2 | e2
          · have := (hown0 b (e2 ▸ e1)).1
            have := (hT b hT').1
            omega
          · rw [e2] at e1
            injection e1 with e1
            have := (hT b hT').2
            omega
        show (if v'.ownBlock = some b then 0 else if b < w.heap.size then f b else l.length + 1) = l.length + 1
        rw [if_neg hne, if_neg (by have := (hT b hT').1; omega)]
  · have := ho.1
    simpa using this
  · rw [List.flatten_append, List.length_append]
    have := (own_base ho (Nat.zero_le lo)).2
    simpa using this

section
variable {α : Type} {S : Nat → Prop} {f : Nat → Nat} {w w' : World} {e : TypeId} {size : Nat} {RO : (Nat → Prop) → World → List Value → α → Prop} {g : Nat} {post : List Value} {ys : List (List Value)} {m : List α}
theorem MidO.updateN (hRK : ∀ {T : Nat → Prop} {w w' : World} {cs : List Value} {x : α}, RO T w cs x → Keeps T w w' → RO T w' cs x)
    (hRM : ∀ {T T' : Nat → Prop} {w : World} {cs : List Value} {x : α}, RO T w cs x → (∀ b, T b → T' b) → RO T' w cs x)
    (h : MidO S f w e size RO g post ys m) (hS : ∀ b, S b → b < w.heap.size) (i : Nat) (hi : i < m.length) (cs' : List Value) (x' : α) (hc : cs'.length = size) {T N : Nat → Prop}
    (hb : Blk w' g e ((ys.set i cs').flatten ++ post)) (hx : RO T w' cs' x') (hT : ∀ b, T b → (S b ∧ f b = i + 1) ∨ N b) (hN : ∀ b, N b → w.heap.size ≤ b) (hk : Keeps (fun b => b < w.heap.size ∧ b ≠ g ∧ ¬ (S b ∧ f b = i + 1)) w w') :
    MidO (fun b => S b ∨ N b) (fun b => if b < w.heap.size then f b else i + 1) w' e size RO g post (ys.set i cs') (m.set i x') := by
  have hg := hS g h.own.1
  refine ⟨⟨.inl h.own.1, by show (if g < w.heap.size then f g else i + 1) = 0; rw [if_pos hg]; exact h.own.2⟩, hb, by simp [h.len], fun k h1 h2 => ?_⟩
  by_cases hki : k = i
  · subst hki
    simp only [List.getElem_set_self]
    refine ⟨hc, hRM hx fun b hb => ?_⟩
    rcases hT b hb with h8 | h8
    · exact ⟨.inl h8.1, by rw [if_pos (hS b h8.1)]; exact h8.2⟩
    · exact ⟨.inr h8, by rw [if_neg (by have := hN b h8; omega)]⟩
  · rw [List.getElem_set_ne (by omega), List.getElem_set_ne (by omega)]
    simp only [List.length_set] at h1 h2
    obtain ⟨q1, q2⟩ := h.elem k h1 h2
    refine ⟨q1, hRM (hRK q2 (hk.mono fun b hb => ⟨hS b hb.1, fun hg => ?_, fun hq => ?_⟩)) fun b hb => ⟨.inl hb.1, by rw [if_pos (hS b hb.1)]; exact hb.2⟩⟩
    · have := hb.2
      have := h.own.2
      subst hg
      omega
    · have := hb.2
      have := hq.2
      omega
end
end Go.Proofs.YtejieacdfjpfnaaGreat
namespace Go.Proofs.YtejieacdfjpfnaaGreat
open Go.ChangeShapes Go.WideShapes Go.ChangeAt Go.RowKit Go.Deep
set_option linter.unusedVariables false
set_option maxRecDepth 100000
set_option maxRecDepth 100000

def stZ : StoreD := ⟨[], []⟩
theorem zeroSt (S : Nat → Prop) (w : World) : StoreO S w zSt stZ := ⟨none, 0, none, 0, fun _ => 0, rfl, SlO.nil_ _ _ _ _ _, SlO.nil_ _ _ _ _ _⟩
def RetSI (x : StoreD × Int) (w : World) (e : Ending) (w' : World) : Prop := ∃ cs, e = .returned (.tuple #[.agg cs.toArray, .int .i64 x.2]) ∧ StoreO (Rng w.heap.size w'.heap.size) w' cs x.1 ∧ Below w.heap.size w w'
def extS (s : StoreD) (p : Int) : StoreD × Int := if storeOk s = true ∧ envU s p = true then (⟨s.envs ++ [⟨true, p, [], []⟩], s.promises⟩, s.envs.length) else (stZ, -1)
theorem StoreO.shape2 {S : Nat → Prop} {w : World} {cs : List Value} {d : StoreD} (h : StoreO S w cs d) : ∃ (A0 : Option Addr) (c0 : Nat) (A1 : Option Addr) (c1 : Nat), cs = [.slice A0 d.envs.length c0, .slice A1 d.promises.length c1] := by
  obtain ⟨A0, c0, A1, c1, f, rfl, _⟩ := h
  exact ⟨_, _, _, _, rfl⟩
theorem keepsIn2 {S : Nat → Prop} {r lo : Nat} {w3 : World} (hS : ∀ b, S b → lo ≤ b) (hl : r < lo) (c0 c1 : Value) : Keeps S w3 ((w3.setCell ⟨r, 0, none⟩ c0).setCell ⟨r, 1, none⟩ c1) :=
  ((Keeps.refl _ _).sc (b := r) (o := 0) (fun h => by have := hS _ h; omega) c0).sc (b := r) (o := 1) (fun h => by have := hS _ h; omega) c1
/-- a store is stored into the result's box -/
theorem put2 {w w3 : World} {d : StoreD} {r lo : Nat} {t : TypeId} (c0 c1 : Value) {a0 a1 : Value} (hB : Blk w3 r t [a0, a1]) (ho : StoreO (Rng lo w3.heap.size) w3 [c0, c1] d) (hr : w.heap.size ≤ r) (hl : r < lo) (hb : Below w.heap.size w w3) :
    Ok (fun W => Blk W r t [c0, c1] ∧ StoreO (Rng w.heap.size W.heap.size) W [c0, c1] d ∧ Below w.heap.size w W) ((w3.setCell ⟨r, 0, none⟩ c0).setCell ⟨r, 1, none⟩ c1) := by
  refine ⟨(hB.set_ 0 c0).set_ 1 c1, ?_, below_sc (b := r) (o := 1) (below_sc (b := r) (o := 0) hb hr c0) hr c1⟩
  refine (StoreO.keeps ho (keepsIn2 (fun b h => h.1) hl c0 c1)).mono (fun b h => ⟨by have := h.1; omega, by simpa [World.setCell] using h.2⟩)

theorem okN_zD : okN 3 zD = true := by decide
/-- the boxes at the end of a function that gives back a changed copy of a store -/
structure ET (w : World) (C0 : List Value) (r6 lo : Nat) (C6 : List Value) (d : StoreD) (W : World) : Prop where
  b6 : Blk W r6 33 C6
  x : Blk W w.heap.size 33 C0
  r : ∃ a0 a1, Blk W (w.heap.size + 1) 33 [a0, a1]
  below : Below w.heap.size w W
  o : StoreO (Rng lo W.heap.size) W C6 d
theorem ET.drew {w : World} {C0 : List Value} {r6 lo : Nat} {C6 : List Value} {d : StoreD} {W : World} (h : ET w C0 r6 lo C6 d W) : ET w C0 r6 lo C6 d W.drew :=
  have hb := Below.drew (Below.refl W.heap.size W)
  ⟨h.b6.below hb, h.x.below hb, h.r.elim fun a h => h.elim fun b h => ⟨a, b, h.below hb⟩, Below.drew h.below, StoreO.keeps h.o (Keeps.of_below _ hb)⟩
theorem ET.put {w : World} {C0 : List Value} {r6 lo : Nat} {C6 : List Value} {d : StoreD} {W : World} (h : ET w C0 r6 lo C6 d W) (h1 : w.heap.size + 1 < lo) (h2 : lo ≤ r6) (c0 c1 : Value) : ET w C0 r6 lo C6 d ((W.setCell ⟨w.heap.size + 1, 0, none⟩ c0).setCell ⟨w.heap.size + 1, 1, none⟩ c1) :=
  ⟨(h.b6.far ⟨w.heap.size + 1, 0, none⟩ (by simp <;> omega) c0).far ⟨w.heap.size + 1, 1, none⟩ (by simp <;> omega) c1, (h.x.far ⟨w.heap.size + 1, 0, none⟩ (by simp <;> omega) c0).far ⟨w.heap.size + 1, 1, none⟩ (by simp <;> omega) c1,
    h.r.elim fun a h => h.elim fun b h => ⟨_, _, (h.set_ 0 c0).set_ 1 c1⟩, below_sc (b := w.heap.size + 1) (o := 1) (below_sc (b := w.heap.size + 1) (o := 0) h.below (by omega) c0) (by omega) c1,
    (StoreO.keeps h.o (keepsIn2 (fun b h => h.1) h1 c0 c1)).mono (fun b h => ⟨h.1, by simpa [World.setCell] using h.2⟩)⟩
theorem ET.make {w w5 : World} {C0 : List Value} {r6 lo : Nat} {f : Nat → Nat} {A9 A1 : Option Addr} {c9 c1 : Nat} {u : Value} (d : StoreD)
    (hb6 : Blk w5 r6 33 [u, .slice A1 d.promises.length c1]) (hbx : Blk w5 w.heap.size 33 C0) (hbr : Blk w5 (w.heap.size + 1) 33 zSt) (hb : Below w.heap.size w w5) (h1 : w.heap.size + 1 < lo) (h2 : lo ≤ r6) (hr6 : r6 < w5.heap.size)
    (oE : EnvsO (fun b => (Rng lo r6 b ∧ f b = 0) ∨ (r6 < b ∧ b < w5.heap.size)) w5 (.slice A9 d.envs.length c9) d.envs)
    (oP : PromisesO (fun b => Rng lo r6 b ∧ f b = 1) w5 (.slice A1 d.promises.length c1) d.promises) :
    ET w C0 r6 lo [.slice A9 d.envs.length c9, .slice A1 d.promises.length c1] d (w5.setCell ⟨r6, 0, none⟩ (.slice A9 d.envs.length c9)) := by
  have hne : ¬ ((Rng lo r6 r6 ∧ f r6 = 0) ∨ (r6 < r6 ∧ r6 < w5.heap.size)) := fun h => by
    rcases h with h | h
    · have := h.1.2; omega
    · omega
  have hnp : ¬ (Rng lo r6 r6 ∧ f r6 = 1) := fun h => by have := h.1.2; omega
  refine ⟨hb6.set_ 0 _, Blk.far hbx ⟨r6, 0, none⟩ (by simp <;> omega) _, ⟨_, _, Blk.far hbr ⟨r6, 0, none⟩ (by simp <;> omega) _⟩, below_sc hb (by omega) _,
    ⟨A9, c9, A1, c1, fun b => if b < r6 then f b else 0, rfl, EnvsO.mono (EnvsO.keeps oE ((Keeps.refl _ _).sc hne _)) (fun b h => ?_), PromisesO.mono (PromisesO.keeps oP ((Keeps.refl _ _).sc hnp _)) (fun b h => ?_)⟩⟩
  · rw [size_sc]
    rcases h with h | h
    · have h8 := h.1.2
      exact ⟨⟨h.1.1, by omega⟩, by dsimp only; rw [if_pos h8]; exact h.2⟩
    · exact ⟨⟨by omega, h.2⟩, by dsimp only; rw [if_neg (by omega)]⟩
  · rw [size_sc]
    have h8 := h.1.2
    exact ⟨⟨h.1.1, by omega⟩, by dsimp only; rw [if_pos h8]; exact h.2⟩
theorem parts_ok {s : StoreD} (h : storeOk s = true) : PartsOk s := by
  refine ⟨fun j hj k hk => ?_, fun j hj => ?_⟩
  · cases hu : envU s j
    · exfalso
      have h1 : envsOk s = true := by unfold storeOk at h; simp only [Bool.and_eq_true] at h; exact h.1.2
      have h2 : envOk s j s.envs[j] = true := of_decide_eq_true h1 j hj
      rw [envU_at j hj] at hu
      unfold envOk at h2
      rw [if_neg (by simp [hu])] at h2
      unfold enU at h2
      simp only [Bool.and_eq_true, decide_eq_true_eq, beq_iff_eq] at h2
      have : s.envs[j].slots.length = 0 := by first | exact h2.2 | simpa using h2.2
      omega
    · exact vecOk_okN (slot_val ((slots_ok h j hj hu).2 k hk)).1
  · have h1 : promsOk s = true := by unfold storeOk at h; simp only [Bool.and_eq_true] at h; exact h.2
    have h2 := of_decide_eq_true h1 j hj
    unfold prOk at h2
    by_cases hu : s.promises[j].used = true
    · rw [if_pos hu, Bool.and_eq_true] at h2
      exact vecOk_okN (by have := h2.1; unfold prA valFit at this; simp only [Bool.and_eq_true] at this; exact this.1.2.1)
    · rw [if_neg hu] at h2
      unfold prU at h2
      simp only [Bool.and_eq_true] at h2
      rw [zeroV_zD h2.2]
      exact okN_zD

set_option maxHeartbeats 8000000 in
theorem impl_ExtendStore (s : StoreD) (p : Int) (ss : List Value) (w : World) (hs : StoreR w ss s) (hz : szStore s ≤ 600000000000) :
    Calls Tryz.prog 26 #[.agg ss.toArray, .int .i64 p] w (RetSI (extS s p) w) := by
  have HS := Lib.hid hs
  obtain ⟨E0, e0, E1, e1, rfl, l0, l1, HE, HP⟩ := hs.open_
  clear hs HE HP
  have s1 := szS_length szEnv s.envs
  have hz1 : szS szEnv s.envs ≤ 600000000000 := by unfold szStore at hz; omega
  obtain ⟨G, g0, HG, BX, BY⟩ := good2 w 33 [.slice E0 s.envs.length e0, .slice E1 s.promises.length e1] 33 zSt
  have x0 := fun W (h : Ok G W) => (BX.out W h).cell 0 _ rfl
  have x1 := fun W (h : Ok G W) => (BX.out W h).cell 1 _ rfl
  go_enter Tryz.func26, Tryz.ntmps26
  go_upto_region 1 with fail
  refine gen_w g0 ?_
  clear g0
  intro W0 g0
  go_wp2_with fail
  refine Calls.mono (impl_IsStore s _ _ (HS.out.below (HG.out.below g0)) (by omega)) ?_
  rintro e w1 ⟨rfl, hb⟩
  replace g0 := HG.out.step g0 hb
  clear hb
  cases hok : storeOk s
  · have HN := Lib.hid (show extS s p = (stZ, -1) by unfold extS; rw [if_neg (by simp [hok])])
    have z0 := (BY.out _ g0).frozen 0
    have z1 := (BY.out _ g0).frozen 1
    have y0 := (BY.out _ g0).cell 0 _ rfl
    have y1 := (BY.out _ g0).cell 1 _ rfl
    have hltR := (BY.out _ g0).lt
    go_wp2_with fail
    refine gen_w (put2 (w := w) (d := stZ) (lo := w.heap.size + 2) (.slice none 0 0) (.slice none 0 0) (BY.out _ g0) (zeroSt _ _) (by omega) (by omega) (HG.out.below g0)) ?_
    clear z0 z1 y0 y1
    rintro V ⟨hblk, hv, hbv⟩
    have f0 := hblk.cell 0 _ rfl
    have f1 := hblk.cell 1 _ rfl
    refine bodyPost_ret (v := .tuple #[.agg #[.slice none 0 0, .slice none 0 0], .int .i64 (-1)]) (by simp [results, Tryz.results26, go_sem, f0, f1]) rfl ?_
    exact ⟨_, by rw [HN.out], by rw [HN.out]; exact hv, hbv⟩
  have HOK := Lib.hid hok
  clear hok
  go_wp2_with fail
  refine Calls.mono (impl_envUsed s p _ _ (HS.out.below (HG.out.below g0))) ?_
  rintro e w2 ⟨rfl, hb⟩
  replace g0 := HG.out.step g0 hb
  clear hb
  cases hu : envU s p
  · have HN := Lib.hid (show extS s p = (stZ, -1) by unfold extS; rw [if_neg (by simp [hu])])
    have z0 := (BY.out _ g0).frozen 0
    have z1 := (BY.out _ g0).frozen 1
    have y0 := (BY.out _ g0).cell 0 _ rfl
    have y1 := (BY.out _ g0).cell 1 _ rfl
    have hltR := (BY.out _ g0).lt
    go_wp2_with fail
    refine gen_w (put2 (w := w) (d := stZ) (lo := w.heap.size + 2) (.slice none 0 0) (.slice none 0 0) (BY.out _ g0) (zeroSt _ _) (by omega) (by omega) (HG.out.below g0)) ?_
    clear z0 z1 y0 y1
    rintro V ⟨hblk, hv, hbv⟩
    have f0 := hblk.cell 0 _ rfl
    have f1 := hblk.cell 1 _ rfl
    refine bodyPost_ret (v := .tuple #[.agg #[.slice none 0 0, .slice none 0 0], .int .i64 (-1)]) (by simp [results, Tryz.results26, go_sem, f0, f1]) rfl ?_
    exact ⟨_, by rw [HN.out], by rw [HN.out]; exact hv, hbv⟩
  have HN := Lib.hid (show extS s p = ((⟨s.envs ++ [⟨true, p, [], []⟩], s.promises⟩, (s.envs.length : Int)) : StoreD × Int) by unfold extS; rw [if_pos ⟨HOK.out, hu⟩])
  have hp64 : I64 p := by
    unfold envU at hu
    rw [Bool.and_eq_true, decide_eq_true_eq] at hu
    by_cases hlt : p.toNat < s.envs.length
    · unfold I64; omega
    · rw [List.getElem?_eq_none (by omega)] at hu
      simp at hu
  clear hu
  go_wp2_with fail
  refine Calls.mono (impl_copyStore s _ _ (HS.out.below (HG.out.below g0)) hz) ?_
  rintro e w3 ⟨cs3, rfl, ho, hb⟩
  obtain ⟨A0, c0, A1, c1, rfl⟩ := ho.shape2
  have hz3 := hb.size
  have hw2 := (BY.out _ g0).lt
  have g1 := HG.out.step g0 hb
  clear g0 hb
  obtain ⟨_, _, _, _, f, he, o0, o1⟩ := ho
  simp only [List.cons.injEq, Value.slice.injEq, and_true, true_and] at he
  obtain ⟨⟨rfl, rfl⟩, rfl, rfl⟩ := he
  obtain ⟨G3, g3, HG3, BP⟩ := good1 w3 33 [.slice A0 s.envs.length c0, .slice A1 s.promises.length c1]
  have hG3 := fun W (h : Ok G3 W) => HG.out.step g1 (HG3.out.below h)
  go_upto_region 4 with fail
  refine gen_w g3 ?_
  clear g3
  intro W4 g3
  have hw4 := (BP.out _ g3).lt
  obtain ⟨xs, hown, hvb, hpush⟩ := SlO.pushS (T := fun _ => False) (fun h k => h.keeps k) (fun h k => h.mono k) (show SlO (fun b => Rng w2.heap.size w3.heap.size b ∧ f b = 0) w3 71 4 EnvO _ s.envs from o0) (lo := w2.heap.size) (fun b h => h.1) hz3 (HG3.out.below g3) (⟨true, p, [], []⟩ : EnvD) [.bool true, .int .i64 p, .slice none 0 0, .slice none 0 0] rfl
    (show EnvO (fun _ => False) W4 [.bool true, .int .i64 p, .slice none 0 0, .slice none 0 0] ⟨true, p, [], []⟩ from ⟨none, 0, none, 0, fun _ => 0, rfl, trivial, hp64, ⟨FlO.nil_ _ _ _ _, fun _ h => by cases h⟩, SlO.nil_ _ _ _ _ _⟩) (fun b h => h.elim)
  have HPU := Lib.hid hpush
  have HVB := Lib.hid hvb
  have O1 := Lib.hid (PromisesO.keeps o1 (Keeps.of_below _ (Below.mono (HG3.out.below g3) (Nat.le_refl _))))
  clear hpush hvb o0 o1 x0 x1
  have y0 := (BP.out _ g3).cell 0 _ rfl
  have y1 := (BP.out _ g3).cell 1 _ rfl
  go_wp2_with (at_builtin; refine wpList_push rfl _ _ 30 rfl w2.heap.size 71 (.agg #[.bool false, .int .i64 0, .slice none 0 0, .slice none 0 0]) 4 64 Tryz.underlying30 info_Env rfl (by decide) _ _ _ _ _ rfl rfl (by exact hown) rfl (by simp [Value.oneCell']) (by omega) (by omega) (by omega) ?_; intro v1 w5 ho5 hg5 hbk5 hb5; obtain ⟨A9, c9, rfl⟩ := own_shapeC ho5; clear y0 y1; have hg5' : W4.grownBy w5 (Value.slice A0 s.envs.length c0).ownBlock := hg5; have BP5 := Lib.hid (show Blk w5 w3.heap.size 33 [.slice A0 s.envs.length c0, .slice A1 s.promises.length c1] from (hg5'.block _ hw4 (fun e9 => absurd (HVB.out _ e9.symm).1.2 (Nat.lt_irrefl _))).trans (BP.out _ g3)); have y0 := BP5.out.cell 0 _ rfl; have f0 := BP5.out.frozen 0)
  clear y0 f0
  have hp := HPU.out _ _ ho5 hg5' hbk5
  have hz5 := hg5'.size
  have hnb : ∀ b, (Value.slice A9 (s.envs.length + 1) c9).ownBlock = some b → (Rng w2.heap.size w3.heap.size b ∧ f b = 0) ∨ (w3.heap.size < b ∧ b < w5.heap.size) := fun b e9 => by
    have h8 := (ho5.lt b e9).2
    rcases hbk5 with e2 | e2
    · exact .inl (HVB.out b (e2 ▸ e9))
    · have e3 := e2.symm.trans e9
      injection e3 with e3
      exact .inr ⟨by omega, h8⟩
  have hp2 : EnvsO (fun b => (Rng w2.heap.size w3.heap.size b ∧ f b = 0) ∨ (w3.heap.size < b ∧ b < w5.heap.size)) w5 (.slice A9 (s.envs.length + 1) c9) (s.envs ++ [⟨true, p, [], []⟩]) := EnvsO.mono (show EnvsO _ _ _ _ from hp) (fun b h => h.elim .inl (fun h => h.elim (fun h => h.elim) (hnb b)))
  have OP2 := Lib.hid hp2
  have OP1 := Lib.hid (PromisesO.keeps O1.out (Keeps.grown hg5' fun b hb e9 => by have h8 := (HVB.out b e9.symm).2; have h9 := hb.2; omega))
  have HB5 := Lib.hid ((HG.out.below (hG3 _ g3)).trans (hb5.mono (by omega)))
  have BX5 := Lib.hid ((hb5.block _ (by omega)).trans (BX.out _ (hG3 _ g3)))
  have BY5 := Lib.hid ((hb5.block _ hw2).trans (BY.out _ (hG3 _ g3)))
  have hHN := HN
  clear hp hp2 hnb HPU HVB O1 ho5 hg5 hg5' hbk5 hb5 hown g3 hG3 HG3 BP BX BY HG g1
  go_upto_region 5 with fail
  refine gen_w (G := ET w [.slice E0 s.envs.length e0, .slice E1 s.promises.length e1] w3.heap.size w2.heap.size [.slice A9 (s.envs.length + 1) c9, .slice A1 s.promises.length c1] ⟨s.envs ++ [⟨true, p, [], []⟩], s.promises⟩)
    (show Ok _ _ from by have h9 := ET.make (f := f) (A9 := A9) (c9 := c9) (c1 := c1) ⟨s.envs ++ [⟨true, p, [], []⟩], s.promises⟩ BP5.out BX5.out BY5.out HB5.out hw2 hz3 (by omega) (by simpa using OP2.out) OP1.out; simp at h9; exact h9) ?_
  clear OP1 OP2 HB5 BX5 BY5 BP5
  intro W6 g6
  obtain ⟨T, hTdef⟩ : ∃ T : World → Prop, T = ET w [.slice E0 s.envs.length e0, .slice E1 s.promises.length e1] w3.heap.size w2.heap.size [.slice A9 (s.envs.length + 1) c9, .slice A1 s.promises.length c1] ⟨s.envs ++ [⟨true, p, [], []⟩], s.promises⟩ := ⟨_, rfl⟩
  have HTI := Lib.hid (fun (W' : World) (h : Ok T W') => show ET w [.slice E0 s.envs.length e0, .slice E1 s.promises.length e1] w3.heap.size w2.heap.size [.slice A9 (s.envs.length + 1) c9, .slice A1 s.promises.length c1] ⟨s.envs ++ [⟨true, p, [], []⟩], s.promises⟩ W' from by rw [hTdef] at h; exact h)
  have HTO := Lib.hid (fun (W' : World) (h : ET w [.slice E0 s.envs.length e0, .slice E1 s.promises.length e1] w3.heap.size w2.heap.size [.slice A9 (s.envs.length + 1) c9, .slice A1 s.promises.length c1] ⟨s.envs ++ [⟨true, p, [], []⟩], s.promises⟩ W') => show Ok T W' from by rw [hTdef]; exact h)
  clear hTdef
  have t0 := fun (W' : World) (h : Ok T W') => (HTI.out _ h).b6.cell 0 _ rfl
  have t1 := fun (W' : World) (h : Ok T W') => (HTI.out _ h).b6.cell 1 _ rfl
  have x0 := fun (W' : World) (h : Ok T W') => (HTI.out _ h).x.cell 0 _ rfl
  have g7 := HTO.out _ (ET.drew g6)
  clear g6
  refine wp_region_plan (S := Ok T) (by kernel_rfl) [(true, 0), (true, 1), (true, 2), (true, 3), (true, 4), (false, 5), (true, 6)] (by kernel_rfl) g7 ?_
  refine gen_w g7 ?_
  clear g7
  intro W7 g7
  repeat ((first | (refine dyn_take rfl rfl (fun W g => by go_simp; rfl) ?_) | (refine dyn_skip rfl rfl ?_)); go_simp)
  obtain ⟨a0, a1, hbl0⟩ := (HTI.out _ g7).r
  have m0 := hbl0.cell 0 _ rfl
  have m1 := hbl0.cell 1 _ rfl
  have z0 := hbl0.frozen 0
  have z1 := hbl0.frozen 1
  have HP2 := Lib.hid (put2 (w := w) (.slice A9 (s.envs.length + 1) c9) (.slice A1 s.promises.length c1) hbl0 (HTI.out _ g7).o (by omega) (by omega) (HTI.out _ g7).below)
  clear hbl0
  refine dyn_act rfl rfl (fun K hK => ?_)
  go_wp2_with fail
  refine hK.out _ _ (HTO.out _ ((HTI.out _ g7).put hw2 hz3 _ _)) ?_
  clear hK m0 m1 z0 z1
  repeat ((first | (refine dyn_take rfl rfl (fun W g => by go_simp; rfl) ?_) | (refine dyn_skip rfl rfl ?_)); go_simp)
  refine dyn_done ?_
  go_wp2_with fail
  refine gen_w HP2.out ?_
  rintro V ⟨hblk, hv, hbv⟩
  have f0 := hblk.cell 0 _ rfl
  have f1 := hblk.cell 1 _ rfl
  refine bodyPost_ret (v := .tuple #[.agg #[.slice A9 (s.envs.length + 1) c9, .slice A1 s.promises.length c1], .int .i64 s.envs.length]) (by simp [results, Tryz.results26, go_sem, f0, f1]) rfl ?_
  exact ⟨_, by rw [HN.out], by rw [HN.out]; exact hv, hbv⟩

set_option maxHeartbeats 8000000 in
theorem spec_ExtendStore (s : StoreD) (p : Int) (ss : List Value) (w : World) (hs : StoreR w ss s) (hz : szStore s ≤ 600000000000) :
    Calls Tryz.prog 25 #[.agg ss.toArray, .int .i64 p] w (RetSI (extS s p) w) := by
  have HS := Lib.hid hs
  obtain ⟨E0, e0, E1, e1, rfl, l0, l1, HE, HP⟩ := hs.open_
  clear hs HE HP
  have s1 := szS_length szEnv s.envs
  have hz1 : szS szEnv s.envs ≤ 600000000000 := by unfold szStore at hz; omega
  obtain ⟨G, g0, HG, BX, BY⟩ := good2 w 33 [.slice E0 s.envs.length e0, .slice E1 s.promises.length e1] 33 zSt
  have x0 := fun W (h : Ok G W) => (BX.out W h).cell 0 _ rfl
  have x1 := fun W (h : Ok G W) => (BX.out W h).cell 1 _ rfl
  go_enter Tryz.func25, Tryz.ntmps25
  go_upto_region 1 with fail
  refine gen_w g0 ?_
  clear g0
  intro W0 g0
  go_wp2_with fail
  refine Calls.mono (spec_l26Used s p _ _ (HS.out.below (HG.out.below g0)) (by omega)) ?_
  rintro e w2 ⟨rfl, hb⟩
  replace g0 := HG.out.step g0 hb
  clear hb
  cases hou : storeOk s && envU s p
  · have HN := Lib.hid (show extS s p = (stZ, -1) by unfold extS; rw [if_neg (fun h => by rw [h.1, h.2] at hou; cases hou)])
    have z0 := (BY.out _ g0).frozen 0
    have z1 := (BY.out _ g0).frozen 1
    have y0 := (BY.out _ g0).cell 0 _ rfl
    have y1 := (BY.out _ g0).cell 1 _ rfl
    have hltR := (BY.out _ g0).lt
    go_wp2_with fail
    refine gen_w (put2 (w := w) (d := stZ) (lo := w.heap.size + 2) (.slice none 0 0) (.slice none 0 0) (BY.out _ g0) (zeroSt _ _) (by omega) (by omega) (HG.out.below g0)) ?_
    clear z0 z1 y0 y1
    rintro V ⟨hblk, hv, hbv⟩
    have f0 := hblk.cell 0 _ rfl
    have f1 := hblk.cell 1 _ rfl
    refine bodyPost_ret (v := .tuple #[.agg #[.slice none 0 0, .slice none 0 0], .int .i64 (-1)]) (by simp [results, Tryz.results25, go_sem, f0, f1]) rfl ?_
    exact ⟨_, by rw [HN.out], by rw [HN.out]; exact hv, hbv⟩
  rw [Bool.and_eq_true] at hou
  have HOK := Lib.hid hou.1
  have hu := hou.2
  clear hou
  have HN := Lib.hid (show extS s p = ((⟨s.envs ++ [⟨true, p, [], []⟩], s.promises⟩, (s.envs.length : Int)) : StoreD × Int) by unfold extS; rw [if_pos ⟨HOK.out, hu⟩])
  have hp64 : I64 p := by
    unfold envU at hu
    rw [Bool.and_eq_true, decide_eq_true_eq] at hu
    by_cases hlt : p.toNat < s.envs.length
    · unfold I64; omega
    · rw [List.getElem?_eq_none (by omega)] at hu
      simp at hu
  clear hu
  go_wp2_with fail
  refine Calls.mono (spec_l26Copy s _ _ (HS.out.below (HG.out.below g0)) (parts_ok HOK.out) hz) ?_
  rintro e w3 ⟨cs3, rfl, ho, hb⟩
  obtain ⟨A0, c0, A1, c1, rfl⟩ := ho.shape2
  have hz3 := hb.size
  have hw2 := (BY.out _ g0).lt
  have g1 := HG.out.step g0 hb
  clear g0 hb
  obtain ⟨_, _, _, _, f, he, o0, o1⟩ := ho
  simp only [List.cons.injEq, Value.slice.injEq, and_true, true_and] at he
  obtain ⟨⟨rfl, rfl⟩, rfl, rfl⟩ := he
  obtain ⟨G3, g3, HG3, BP⟩ := good1 w3 33 [.slice A0 s.envs.length c0, .slice A1 s.promises.length c1]
  have hG3 := fun W (h : Ok G3 W) => HG.out.step g1 (HG3.out.below h)
  go_upto_region 4 with fail
  refine gen_w g3 ?_
  clear g3
  intro W4 g3
  have hw4 := (BP.out _ g3).lt
  obtain ⟨xs, hown, hvb, hpush⟩ := SlO.pushS (T := fun _ => False) (fun h k => h.keeps k) (fun h k => h.mono k) (show SlO (fun b => Rng w2.heap.size w3.heap.size b ∧ f b = 0) w3 71 4 EnvO _ s.envs from o0) (lo := w2.heap.size) (fun b h => h.1) hz3 (HG3.out.below g3) (⟨true, p, [], []⟩ : EnvD) [.bool true, .int .i64 p, .slice none 0 0, .slice none 0 0] rfl
    (show EnvO (fun _ => False) W4 [.bool true, .int .i64 p, .slice none 0 0, .slice none 0 0] ⟨true, p, [], []⟩ from ⟨none, 0, none, 0, fun _ => 0, rfl, trivial, hp64, ⟨FlO.nil_ _ _ _ _, fun _ h => by cases h⟩, SlO.nil_ _ _ _ _ _⟩) (fun b h => h.elim)
  have HPU := Lib.hid hpush
  have HVB := Lib.hid hvb
  have O1 := Lib.hid (PromisesO.keeps o1 (Keeps.of_below _ (Below.mono (HG3.out.below g3) (Nat.le_refl _))))
  clear hpush hvb o0 o1 x0 x1
  have y0 := (BP.out _ g3).cell 0 _ rfl
  have y1 := (BP.out _ g3).cell 1 _ rfl
  go_wp2_with (at_builtin; refine wpList_push rfl _ _ 30 rfl w2.heap.size 71 (.agg #[.bool false, .int .i64 0, .slice none 0 0, .slice none 0 0]) 4 64 Tryz.underlying30 info_Env rfl (by decide) _ _ _ _ _ rfl rfl (by exact hown) rfl (by simp [Value.oneCell']) (by omega) (by omega) (by omega) ?_; intro v1 w5 ho5 hg5 hbk5 hb5; obtain ⟨A9, c9, rfl⟩ := own_shapeC ho5; clear y0 y1; have hg5' : W4.grownBy w5 (Value.slice A0 s.envs.length c0).ownBlock := hg5; have BP5 := Lib.hid (show Blk w5 w3.heap.size 33 [.slice A0 s.envs.length c0, .slice A1 s.promises.length c1] from (hg5'.block _ hw4 (fun e9 => absurd (HVB.out _ e9.symm).1.2 (Nat.lt_irrefl _))).trans (BP.out _ g3)); have y0 := BP5.out.cell 0 _ rfl; have f0 := BP5.out.frozen 0)
  clear y0 f0
  have hp := HPU.out _ _ ho5 hg5' hbk5
  have hz5 := hg5'.size
  have hnb : ∀ b, (Value.slice A9 (s.envs.length + 1) c9).ownBlock = some b → (Rng w2.heap.size w3.heap.size b ∧ f b = 0) ∨ (w3.heap.size < b ∧ b < w5.heap.size) := fun b e9 => by
    have h8 := (ho5.lt b e9).2
    rcases hbk5 with e2 | e2
    · exact .inl (HVB.out b (e2 ▸ e9))
    · have e3 := e2.symm.trans e9
      injection e3 with e3
      exact .inr ⟨by omega, h8⟩
  have hp2 : EnvsO (fun b => (Rng w2.heap.size w3.heap.size b ∧ f b = 0) ∨ (w3.heap.size < b ∧ b < w5.heap.size)) w5 (.slice A9 (s.envs.length + 1) c9) (s.envs ++ [⟨true, p, [], []⟩]) := EnvsO.mono (show EnvsO _ _ _ _ from hp) (fun b h => h.elim .inl (fun h => h.elim (fun h => h.elim) (hnb b)))
  have OP2 := Lib.hid hp2
  have OP1 := Lib.hid (PromisesO.keeps O1.out (Keeps.grown hg5' fun b hb e9 => by have h8 := (HVB.out b e9.symm).2; have h9 := hb.2; omega))
  have HB5 := Lib.hid ((HG.out.below (hG3 _ g3)).trans (hb5.mono (by omega)))
  have BX5 := Lib.hid ((hb5.block _ (by omega)).trans (BX.out _ (hG3 _ g3)))
  have BY5 := Lib.hid ((hb5.block _ hw2).trans (BY.out _ (hG3 _ g3)))
  have hHN := HN
  clear hp hp2 hnb HPU HVB O1 ho5 hg5 hg5' hbk5 hb5 hown g3 hG3 HG3 BP BX BY HG g1
  go_upto_region 5 with fail
  refine gen_w (G := ET w [.slice E0 s.envs.length e0, .slice E1 s.promises.length e1] w3.heap.size w2.heap.size [.slice A9 (s.envs.length + 1) c9, .slice A1 s.promises.length c1] ⟨s.envs ++ [⟨true, p, [], []⟩], s.promises⟩)
    (show Ok _ _ from by have h9 := ET.make (f := f) (A9 := A9) (c9 := c9) (c1 := c1) ⟨s.envs ++ [⟨true, p, [], []⟩], s.promises⟩ BP5.out BX5.out BY5.out HB5.out hw2 hz3 (by omega) (by simpa using OP2.out) OP1.out; simp at h9; exact h9) ?_
  clear OP1 OP2 HB5 BX5 BY5 BP5
  intro W6 g6
  obtain ⟨T, hTdef⟩ : ∃ T : World → Prop, T = ET w [.slice E0 s.envs.length e0, .slice E1 s.promises.length e1] w3.heap.size w2.heap.size [.slice A9 (s.envs.length + 1) c9, .slice A1 s.promises.length c1] ⟨s.envs ++ [⟨true, p, [], []⟩], s.promises⟩ := ⟨_, rfl⟩
  have HTI := Lib.hid (fun (W' : World) (h : Ok T W') => show ET w [.slice E0 s.envs.length e0, .slice E1 s.promises.length e1] w3.heap.size w2.heap.size [.slice A9 (s.envs.length + 1) c9, .slice A1 s.promises.length c1] ⟨s.envs ++ [⟨true, p, [], []⟩], s.promises⟩ W' from by rw [hTdef] at h; exact h)
  have HTO := Lib.hid (fun (W' : World) (h : ET w [.slice E0 s.envs.length e0, .slice E1 s.promises.length e1] w3.heap.size w2.heap.size [.slice A9 (s.envs.length + 1) c9, .slice A1 s.promises.length c1] ⟨s.envs ++ [⟨true, p, [], []⟩], s.promises⟩ W') => show Ok T W' from by rw [hTdef]; exact h)
  clear hTdef
  have t0 := fun (W' : World) (h : Ok T W') => (HTI.out _ h).b6.cell 0 _ rfl
  have t1 := fun (W' : World) (h : Ok T W') => (HTI.out _ h).b6.cell 1 _ rfl
  have x0 := fun (W' : World) (h : Ok T W') => (HTI.out _ h).x.cell 0 _ rfl
  have g7 := HTO.out _ (ET.drew g6)
  clear g6
  refine wp_region_plan (S := Ok T) (by kernel_rfl) [(true, 0), (true, 1), (true, 2), (true, 3), (false, 4), (true, 5)] (by kernel_rfl) g7 ?_
  refine gen_w g7 ?_
  clear g7
  intro W7 g7
  repeat ((first | (refine dyn_take rfl rfl (fun W g => by go_simp; rfl) ?_) | (refine dyn_skip rfl rfl ?_)); go_simp)
  obtain ⟨a0, a1, hbl0⟩ := (HTI.out _ g7).r
  have m0 := hbl0.cell 0 _ rfl
  have m1 := hbl0.cell 1 _ rfl
  have z0 := hbl0.frozen 0
  have z1 := hbl0.frozen 1
  have HP2 := Lib.hid (put2 (w := w) (.slice A9 (s.envs.length + 1) c9) (.slice A1 s.promises.length c1) hbl0 (HTI.out _ g7).o (by omega) (by omega) (HTI.out _ g7).below)
  clear hbl0
  refine dyn_act rfl rfl (fun K hK => ?_)
  go_wp2_with fail
  refine hK.out _ _ (HTO.out _ ((HTI.out _ g7).put hw2 hz3 _ _)) ?_
  clear hK m0 m1 z0 z1
  repeat ((first | (refine dyn_take rfl rfl (fun W g => by go_simp; rfl) ?_) | (refine dyn_skip rfl rfl ?_)); go_simp)
  refine dyn_done ?_
  go_wp2_with fail
  refine gen_w HP2.out ?_
  rintro V ⟨hblk, hv, hbv⟩
  have f0 := hblk.cell 0 _ rfl
  have f1 := hblk.cell 1 _ rfl
  refine bodyPost_ret (v := .tuple #[.agg #[.slice A9 (s.envs.length + 1) c9, .slice A1 s.promises.length c1], .int .i64 s.envs.length]) (by simp [results, Tryz.results25, go_sem, f0, f1]) rfl ?_
  exact ⟨_, by rw [HN.out], by rw [HN.out]; exact hv, hbv⟩
end Go.Proofs.YtejieacdfjpfnaaGreat
