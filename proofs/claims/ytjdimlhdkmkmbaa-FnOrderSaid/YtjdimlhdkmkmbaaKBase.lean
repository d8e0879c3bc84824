/-
  Merged texts: Base, Find, Mem, Strs, Open, Own, SlOwn.
-/
import Derived.Test.YtjdimlhdkmkmbaaProg
import Derived.KernelRfl
import Derived.WalkKit
import Derived.WalkSpells
import Derived.WalkLawsBesides
import Derived.ProofKit
import Derived.OpenShut
import Derived.ShutString
import Derived.Lib.Hide
import Derived.Deep.QuietTactic
import Derived.BigQuiet
import Derived.Deep.LoopGhost
import Derived.Deep.Draws
import Derived.Deep.Slices
import Derived.Deep.Fields
import Derived.ChangeSame
import Derived.Maps.AppendAt
import Derived.Deep.AppendLies
import Derived.Deep.RegionHeld3
import Derived.StillTailTactics
namespace Go.Proofs.Ytjdimlhdkmkmbaa
set_option maxRecDepth 100000
set_option maxRecDepth 100000
open Go.ChangeShapes Go.WideShapes Go.ChangeAt Go.RowKit Go.Deep
open Go.ChangeMaps (open_string shut_string)

theorem own : ownKnob Try.prog.godebug = none := by kernel_rfl
theorem laidOut : laidOutB Try.prog = true := by kernel_rfl

/-! ### Strings as lists of bytes -/

def str (l : List UInt8) : ByteArray := ⟨l.toArray⟩
theorem str_toList (l : List UInt8) : (str l).toList = l := by rw [ByteArray.toList_eq]; simp [str]
theorem str_size (l : List UInt8) : (str l).size = l.length := by simp [str, ByteArray.size]
theorem str_append (a b : List UInt8) : str a ++ str b = str (a ++ b) := by apply ByteArray.ext; simp [str]
theorem str_append_lit (a : List UInt8) (d : Array UInt8) : str a ++ ⟨d⟩ = str (a ++ d.toList) := by apply ByteArray.ext; simp [str]
theorem lit_append_str (a : List UInt8) (d : Array UInt8) : (⟨d⟩ : ByteArray) ++ str a = str (d.toList ++ a) := by apply ByteArray.ext; simp [str]
attribute [go_sem] str_toList str_size str_append str_append_lit lit_append_str

theorem ret_int {k : IntKind} {a b : Int} (h : a = b) : Ending.returned (.int k a) = .returned (.int k b) := by rw [h]
theorem ret_bool {a b : Bool} (h : a = b) : Ending.returned (.bool a) = .returned (.bool b) := by rw [h]
/-! ### Cells -/

/-- the cells xs lie at block b from off on -/
def At (w : World) (b off : Nat) (xs : List Value) : Prop := ∀ j u, xs[j]? = some u → w.cell? ⟨b, off + j, none⟩ = some u

theorem At.keep {w w' : World} {b off : Nat} {xs : List Value} (h : At w b off xs) (hk : w'.heap[b]? = w.heap[b]?) : At w' b off xs :=
  fun j u hu => (World.cell?_of_block (a := ⟨b, off + j, none⟩) hk).trans (h j u hu)

/-- v is a slice whose elements, of 'size' cells each, read by R as l -/
def SlR {α : Type} (w : World) (size : Nat) (R : List Value → α → Prop) (v : Value) (l : List α) : Prop :=
  ∃ A c, v = .slice A l.length c ∧ l.length ≤ c ∧ c ≤ maxLen ∧
    (0 < l.length → ∃ b off, A = some ⟨b, off, none⟩ ∧ b < w.heap.size ∧ ∀ k (h : k < l.length), ∃ cs, cs.length = size ∧ At w b (off + k * size) cs ∧ R cs l[k])

theorem SlR.below {α : Type} {w w' : World} {size : Nat} {R R' : List Value → α → Prop} {v : Value} {l : List α} (h : SlR w size R v l) (hb : Below w.heap.size w w') (hR : ∀ cs x, R cs x → R' cs x) : SlR w' size R' v l := by
  obtain ⟨A, c, rfl, hn, hc, hx⟩ := h
  refine ⟨A, c, rfl, hn, hc, fun h0 => ?_⟩
  obtain ⟨b, off, rfl, hlt, hat⟩ := hx h0
  refine ⟨b, off, rfl, Nat.lt_of_lt_of_le hlt hb.size, fun k hk => ?_⟩
  obtain ⟨cs, h1, h2, h3⟩ := hat k hk
  exact ⟨cs, h1, h2.keep (hb.block b hlt), hR _ _ h3⟩

theorem SlR.length_le {α : Type} {w : World} {size : Nat} {R : List Value → α → Prop} {v : Value} {l : List α} (h : SlR w size R v l) : l.length ≤ maxLen := by
  obtain ⟨A, c, rfl, hn, hc, hx⟩ := h
  omega

theorem SlR.shape {α : Type} {w : World} {size : Nat} {R : List Value → α → Prop} {v : Value} {l : List α} (h : SlR w size R v l) : ∃ A c, v = .slice A l.length c := by
  obtain ⟨A, c, rfl, _⟩ := h
  exact ⟨A, c, rfl⟩

/-- what a walk needs of it -/
theorem SlR.open_ {α : Type} {w : World} {size : Nat} {R : List Value → α → Prop} {v : Value} {l : List α} (h : SlR w size R v l) : ∃ A c, v = .slice A l.length c ∧ l.length ≤ c ∧ c ≤ maxLen ∧
    Hid (∀ k (hk : k < l.length), ∃ b off cs, A = some ⟨b, off, none⟩ ∧ b < w.heap.size ∧ cs.length = size ∧ At w b (off + k * size) cs ∧ R cs l[k]) := by
  obtain ⟨A, c, rfl, hn, hc, hx⟩ := h
  refine ⟨A, c, rfl, hn, hc, fun k hk => ?_⟩
  obtain ⟨b, off, rfl, hlt, hat⟩ := hx (by omega)
  obtain ⟨cs, h1, h2, h3⟩ := hat k hk
  exact ⟨b, off, cs, rfl, hlt, h1, h2, h3⟩

theorem flat_at {α : Type} (f : α → List Value) (size : Nat) : ∀ (l : List α), (∀ x ∈ l, (f x).length = size) → ∀ (k j : Nat) (hk : k < l.length), j < size → (l.flatMap f)[k * size + j]? = (f l[k])[j]? := by
  intro l
  induction l with
  | nil => intro _ k j hk; simp at hk
  | cons x l ih =>
    intro hs k j hk hj
    have hx := hs x (by simp)
    rw [List.flatMap_cons]
    cases k with
    | zero => simp only [Nat.zero_mul, Nat.zero_add, List.getElem_cons_zero]; rw [List.getElem?_append_left (by omega)]
    | succ k =>
      rw [List.getElem?_append_right (by rw [hx, Nat.succ_mul]; omega), hx, show (k + 1) * size + j - size = k * size + j by rw [Nat.succ_mul]; omega]
      simpa using ih (fun y hy => hs y (by simp [hy])) k j (by simpa using hk) hj

theorem map_flat {α β : Type} (f : α → β) (l : List α) : l.map f = l.flatMap fun x => [f x] := by induction l <;> simp_all

theorem flat_length {α : Type} (f : α → List Value) (size : Nat) (l : List α) (h : ∀ x ∈ l, (f x).length = size) : (l.flatMap f).length = l.length * size := by
  induction l with
  | nil => simp
  | cons x l ih => rw [List.flatMap_cons, List.length_append, h x (by simp), ih (fun y hy => h y (by simp [hy])), List.length_cons, Nat.succ_mul]; omega

theorem SlR.of_own {α : Type} {w : World} {base : Nat} {e : TypeId} {size n : Nat} {v : Value} {xs : List Value} {R : List Value → α → Prop} (f : α → List Value) (l : List α)
    (h : w.ownsRow base e size v n xs) (hn : l.length = n) (hxs : xs = l.flatMap f) (hf : ∀ x ∈ l, (f x).length = size ∧ R (f x) x) : SlR w size R v l := by
  subst hn hxs
  rcases h.2 with ⟨rfl, h0⟩ | ⟨g, cap, cur, rfl, hb, hg, hn, hc, hs, ht⟩
  · exact ⟨none, 0, by rw [h0], by omega, by unfold maxLen; omega, fun h1 => absurd h1 (by omega)⟩
  · refine ⟨_, cap, rfl, hn, hc, fun _ => ⟨g, 0, rfl, (Array.getElem?_eq_some_iff.1 hg).1, fun k hk => ⟨f l[k], (hf _ (List.getElem_mem hk)).1, fun j u hu => ?_, (hf _ (List.getElem_mem hk)).2⟩⟩⟩
    have hj : j < size := by
      have := (List.getElem?_eq_some_iff.1 hu).1
      rw [(hf _ (List.getElem_mem hk)).1] at this
      exact this
    have h1 : (l.flatMap f)[k * size + j]? = some u := by rw [flat_at f size l (fun x hx => (hf x hx).1) k j hk hj]; exact hu
    rw [← ht, List.getElem?_take] at h1
    split at h1
    · simp only [World.cell?, hg, Nat.zero_add]
      simpa using h1
    · cases h1

theorem SlR.nil_ {α : Type} (w : World) (size : Nat) (R : List Value → α → Prop) : SlR w size R (.slice none 0 0) [] := ⟨none, 0, rfl, Nat.le_refl _, by unfold maxLen; omega, fun h => absurd h (by simp)⟩

def I64 (n : Int) : Prop := -9223372036854775808 ≤ n ∧ n ≤ 9223372036854775807
def StrR (cs : List Value) (s : List UInt8) : Prop := cs = [.string (str s)] ∧ s.length ≤ maxLen
def IntR (cs : List Value) (n : Int) : Prop := cs = [.int .i64 n] ∧ I64 n
/-- v is a slice of strings that reads as l -/
def Txts (w : World) (v : Value) (l : List (List UInt8)) : Prop := SlR w 1 StrR v l
def Ints (w : World) (v : Value) (l : List Int) : Prop := SlR w 1 IntR v l
theorem Txts.below {w w' : World} {v : Value} {l : List (List UInt8)} (h : Txts w v l) (hb : Below w.heap.size w w') : Txts w' v l := SlR.below h hb (fun _ _ h => h)
theorem Txts.open_ {w : World} {v : Value} {l : List (List UInt8)} (h : Txts w v l) : ∃ A c, v = .slice A l.length c ∧ l.length ≤ c ∧ c ≤ maxLen ∧
    Hid (∀ k (hk : k < l.length), ∃ b off, A = some ⟨b, off, none⟩ ∧ b < w.heap.size ∧ w.cell? ⟨b, off + k, none⟩ = some (.string (str l[k])) ∧ l[k].length ≤ maxLen) := by
  obtain ⟨A, c, rfl, hn, hc, hx⟩ := SlR.open_ h
  refine ⟨A, c, rfl, hn, hc, fun k hk => ?_⟩
  obtain ⟨b, off, cs, rfl, hlt, _, hat, rfl, hl⟩ := hx.out k hk
  exact ⟨b, off, rfl, hlt, by simpa using hat 0 _ rfl, hl⟩
theorem Ints.open_ {w : World} {v : Value} {l : List Int} (h : Ints w v l) : ∃ A c, v = .slice A l.length c ∧ l.length ≤ c ∧ c ≤ maxLen ∧
    Hid (∀ k (hk : k < l.length), ∃ b off, A = some ⟨b, off, none⟩ ∧ b < w.heap.size ∧ w.cell? ⟨b, off + k, none⟩ = some (.int .i64 l[k]) ∧ -9223372036854775808 ≤ l[k] ∧ l[k] ≤ 9223372036854775807) := by
  obtain ⟨A, c, rfl, hn, hc, hx⟩ := SlR.open_ h
  refine ⟨A, c, rfl, hn, hc, fun k hk => ?_⟩
  obtain ⟨b, off, cs, rfl, hlt, _, hat, rfl, hl⟩ := hx.out k hk
  exact ⟨b, off, rfl, hlt, by simpa using hat 0 _ rfl, hl⟩

theorem Txts.of_own {w : World} {base : Nat} {e : TypeId} {v : Value} {l : List (List UInt8)} (h : w.ownsRow base e 1 v l.length (l.map fun s => Value.string (str s))) (hs : ∀ s ∈ l, s.length ≤ maxLen) : Txts w v l :=
  SlR.of_own (fun s => [Value.string (str s)]) l h rfl (map_flat _ l) (fun x hx => ⟨rfl, rfl, hs x hx⟩)
theorem Ints.of_own {w : World} {base : Nat} {e : TypeId} {v : Value} {l : List Int} (h : w.ownsRow base e 1 v l.length (l.map fun n => Value.int .i64 n)) (hs : ∀ n ∈ l, I64 n) : Ints w v l :=
  SlR.of_own (fun n => [Value.int .i64 n]) l h rfl (map_flat _ l) (fun x hx => ⟨rfl, rfl, hs x hx⟩)

theorem owns_new (w : World) (e : TypeId) (size n : Nat) (cs : Array Value) (cap : Nat) (xs : List Value) (hx : xs.length = n * size) (h1 : n ≤ cap) (h2 : cap ≤ maxLen) (h3 : cs.size = cap * size) (h4 : cs.toList.take (n * size) = xs) :
    (w.alloc (.cells cs e)).ownsRow w.heap.size e size (.slice (some ⟨w.heap.size, 0, none⟩) n cap) n xs :=
  ⟨hx, .inr ⟨w.heap.size, cap, cs, rfl, Nat.le_refl _, heap_alloc_new w _, h1, h2, h3, h4⟩⟩

theorem txts_new (w : World) (e : TypeId) (l : List (List UInt8)) (cs : Array Value) (hcs : cs = (l.map fun s => Value.string (str s)).toArray) (h2 : l.length ≤ maxLen) (hs : ∀ s ∈ l, s.length ≤ maxLen) :
    Txts (w.alloc (.cells cs e)) (.slice (some ⟨w.heap.size, 0, none⟩) l.length l.length) l := by
  subst hcs
  exact Txts.of_own (owns_new w e 1 l.length _ l.length _ (by simp) (Nat.le_refl _) h2 (by simp) (by simp [List.take_of_length_le])) hs

theorem below_drewN {B : Nat} {a w : World} (h : Below B a w) (n : Nat) : Below B a (w.drewN n) := ⟨h.os, h.tape, h.output, h.size, h.block⟩
/-! ### The last step of a law's row -/
section
variable {H : Type} {enc : TypeId × Value → H} {P : Program}

theorem trodAll_stays (hl : laidOutB P = true) {W W' : World} (hb : Below W.heap.size W W') : ∀ {ts : List TypeId} {vs : List Value} {ds : List (DataW H)} {ps : List MemPlace},
    DataW.TrodAll enc P W 0 (fun _ => true) true ts vs ds ps → (∀ t ∈ ts, P.readableRec t = true ∧ t < P.types.size) → (∀ x ∈ ps, x.block < W.heap.size) →
    ∀ sp : Nat → Bool, (∀ p ∈ ps, sp p.block = true) → DataW.TrodAll enc P W' 0 sp true ts vs ds ps := by
  intro ts
  induction ts with
  | nil =>
    intro vs ds ps h _ _ sp _
    obtain ⟨rfl, rfl, rfl⟩ := trodAll_nil h
    exact trodAll_mk0
  | cons t ts ih =>
    intro vs ds ps h hr hlt sp hsp
    cases vs with
    | nil => exact absurd h (by simp [DataW.TrodAll])
    | cons v vs =>
      obtain ⟨v0, vs0, d0, ds0, p0, q0, hv, rfl, rfl, h0, r0⟩ := trodAll_cons h
      injection hv with e1 e2
      subst e1 e2
      refine trodAll_cons_mk (WideElems.Trod_stays hl (hr t (by simp)).1 (hr t (by simp)).2 h0 (fun x hx => hb.same (hlt x (by simp [hx]))) (fun x hx => hsp x (by simp [hx]))) ?_
      exact ih r0 (fun t' ht' => hr t' (by simp [ht'])) (fun x hx => hlt x (by simp [hx])) sp (fun x hx => hsp x (by simp [hx]))

/-- a law's post: it returns true, nothing that was there has changed -/
theorem law_post {f : Func} {s : ChangeSpec} {tb : TypeId} {apart fresh handsOn again : Bool} {W W' : World} {args : Array Value} {ds : List (DataW H)} {before : List MemPlace}
    (hl : laidOutB P = true) (hW : DataW.Whole enc P f.params.toList s.vars apart W args.toList ds [] before) (hvars : s.vars = [])
    (hrt : f.resultTypes = #[tb]) (htb : P.underlying tb = some .bool)
    (hs1 : (s.fn H (ds ++ [])).results = [.lit (.bool true)]) (hs2 : (s.fn H (ds ++ [])).args = ds) (hs3 : (s.fn H (ds ++ [])).vars = [])
    (hr : ∀ t ∈ f.params.toList, P.readableRec t = true ∧ t < P.types.size) (hb : Below W.heap.size W W') :
    s.post enc P f apart fresh handsOn again W args (.bool true) W' := by
  have hlt : ∀ p ∈ before, p.block < W.heap.size := fun p hp => hW.lt p hp
  have hold : ∀ p ∈ before, (fun b => decide (b < W.heap.size)) p.block = true := fun p hp => by simpa using hlt p hp
  have hres : ∀ (b : Nat) (sp : Nat → Bool) (hd : Bool), DataW.TrodAll enc P W' b sp hd f.resultTypes.toList ((Value.bool true).resultList f.resultTypes.size) (s.fn H (ds ++ [])).results [] := by
    intro b sp hd
    rw [hrt, hs1]
    exact trodAll_cons_mk (shut_bool htb true) trodAll_mk0
  have hW0 := hW
  obtain ⟨p, q, hA, hV, rfl, hz, hn⟩ := hW
  rw [hvars] at hV
  obtain ⟨-, rfl⟩ := trodVars_none hV
  simp only [List.append_nil] at hlt hold hz hn hW0
  have hargs : ∀ sp : Nat → Bool, (∀ x ∈ p, sp x.block = true) → DataW.TrodAll enc P W' 0 sp true f.params.toList args.toList (s.fn H (ds ++ [])).args p := by
    intro sp hsp
    rw [hs2]
    exact trodAll_stays hl hb hA hr hlt sp hsp
  have hvs : ∀ sp : Nat → Bool, DataW.TrodVars enc P W' sp s.vars (s.fn H (ds ++ [])).vars [] := by
    intro sp
    rw [hvars, hs3]
    rfl
  refine ⟨ds, [], p, [], p, [], hW0, hres _ _ _, hargs _ hold, hvs _, World.keptBut_mono (fun x hx => ⟨hx, Or.inr (Or.inl hx)⟩) (hb.frame (· ∈ p)), fun _ => ?_⟩
  refine ⟨ok_one hrt rfl (okWide_bool_mk htb true), _, _, ([] ++ p) ++ [], ⟨[] ++ p, [], trodAll_append (hargs _ (fun _ _ => rfl)) (hres _ _ _), hvs _, rfl, ?_, ?_⟩, ?_⟩
  · intro b off hp
    have hin : MemPlace.cell b off ∈ p := by simpa using hp
    rw [hb.frozen (hlt _ hin)]
    exact hz b off hin
  · intro ha
    simpa using hn ha
  · intro x hx _
    simpa using hx
end
end Go.Proofs.Ytjdimlhdkmkmbaa
namespace Go.Proofs.Ytjdimlhdkmkmbaa
set_option maxRecDepth 100000
open Go.ChangeShapes Go.WideShapes Go.ChangeAt Go.RowKit Go.Deep

/-- the first position of s in l, or -1 -/
def findB (l : List (List UInt8)) (s : List UInt8) : Int := match l.findIdx? (fun x => x == s) with | some i => i | none => -1

theorem findB_at (l : List (List UInt8)) (s : List UInt8) (k : Nat) (hk : k < l.length) (hn : ∀ j (h : j < l.length), j < k → (l[j] == s) = false) (he : (l[k] == s) = true) : findB l s = k := by
  unfold findB
  have : l.findIdx? (fun x => x == s) = some k := by
    rw [List.findIdx?_eq_some_iff_getElem]
    exact ⟨hk, he, fun j hj => by simp [hn j (by omega) hj]⟩
  rw [this]
theorem findB_no (l : List (List UInt8)) (s : List UInt8) (hn : ∀ j (h : j < l.length), (l[j] == s) = false) : findB l s = -1 := by
  unfold findB
  have : l.findIdx? (fun x => x == s) = none := by
    rw [List.findIdx?_eq_none_iff]
    intro x hx
    obtain ⟨j, hj, rfl⟩ := List.getElem_of_mem hx
    exact hn j hj
  rw [this]
/-- whether l holds s -/
def hasB (l : List (List UInt8)) (s : List UInt8) : Bool := l.contains s
theorem findB_nonneg (l : List (List UInt8)) (s : List UInt8) : decide (0 ≤ findB l s) = hasB l s := by
  show _ = l.contains s
  unfold findB
  cases h : l.findIdx? (fun x => x == s) with
  | none =>
    rw [List.findIdx?_eq_none_iff] at h
    have : l.contains s = false := by
      rw [Bool.eq_false_iff]
      intro hc
      have hm := List.contains_iff_mem.1 hc
      simpa using h s hm
    rw [this]
    rfl
  | some i =>
    rw [List.findIdx?_eq_some_iff_getElem] at h
    obtain ⟨hi, he, _⟩ := h
    have : l.contains s = true := List.contains_iff_mem.2 (by have := eq_of_beq he; rw [← this]; exact List.getElem_mem hi)
    rw [this]
    exact decide_eq_true (Int.natCast_nonneg i)
theorem impl_textIndex (l : List (List UInt8)) (s : List UInt8) (v : Value) (w : World) (h : Txts w v l) :
    Calls Try.prog 102 #[v, .string (str s)] w fun e w' => e = .returned (.int .i64 (findB l s)) ∧ w = w' := by
  obtain ⟨A, c, rfl, hlc, hm, HC⟩ := h.open_
  clear h
  unfold maxLen at hm
  go_enter Try.func102, Try.ntmps102
  go_wp2
  go_loop [9] (fun i => ∃ k : Nat, k ≤ l.length ∧ i = .int .i64 k ∧ Hid (∀ j (h : j < l.length), j < k → (l[j] == s) = false)) (fun i => l.length - (intOf i).toNat)
  case atStart => exact ⟨0, Nat.zero_le _, rfl, fun j h hj => absurd hj (by omega)⟩
  case round =>
    obtain ⟨k, hk, rfl, hn⟩ := hrel
    by_cases hlt : k < l.length
    · obtain ⟨b, off, rfl, _, hcell, _⟩ := HC.out k hlt
      go_wp2
      · go_ret
        exact ⟨ret_int (findB_at l s k hlt hn.out (by assumption)).symm, rfl⟩
      · have he : (l[k] == s) = false := by assumption
        go_round
        case rel => exact ⟨k + 1, by omega, by go_num, fun j h hj => by rcases Nat.lt_succ_iff_lt_or_eq.1 hj with h1 | rfl; exact hn j h h1; exact he⟩
        case measure => simp [intOf]; omega
    · go_wp2
      go_ret
      exact ⟨ret_int (findB_no l s fun j h => hn j h (by omega)).symm, rfl⟩

theorem spec_l1Find (l : List (List UInt8)) (s : List UInt8) (v : Value) (w : World) (h : Txts w v l) :
    Calls Try.prog 108 #[v, .string (str s)] w fun e w' => e = .returned (.int .i64 (findB l s)) ∧ w = w' := by
  obtain ⟨A, c, rfl, hlc, hm, HC⟩ := h.open_
  clear h
  unfold maxLen at hm
  go_enter Try.func108, Try.ntmps108
  go_wp2
  go_loop [5] (fun i => ∃ k : Nat, k ≤ l.length ∧ i = .int .i64 k ∧ Hid (∀ j (h : j < l.length), j < k → (l[j] == s) = false)) (fun i => l.length - (intOf i).toNat)
  case atStart => exact ⟨0, Nat.zero_le _, rfl, fun j h hj => absurd hj (by omega)⟩
  case round =>
    obtain ⟨k, hk, rfl, hn⟩ := hrel
    by_cases hlt : k < l.length
    · obtain ⟨b, off, rfl, _, hcell, _⟩ := HC.out k hlt
      go_wp2
      · go_ret
        exact ⟨ret_int (findB_at l s k hlt hn.out (by assumption)).symm, rfl⟩
      · have he : (l[k] == s) = false := by assumption
        go_round
        case rel => exact ⟨k + 1, by omega, by go_num, fun j h hj => by rcases Nat.lt_succ_iff_lt_or_eq.1 hj with h1 | rfl; exact hn j h h1; exact he⟩
        case measure => simp [intOf]; omega
    · go_wp2
      go_ret
      exact ⟨ret_int (findB_no l s fun j h => hn j h (by omega)).symm, rfl⟩

theorem impl_hasText (l : List (List UInt8)) (s : List UInt8) (v : Value) (w : World) (h : Txts w v l) :
    Calls Try.prog 52 #[v, .string (str s)] w fun e w' => e = .returned (.bool (hasB l s)) ∧ w = w' := by
  have hf := findB_nonneg l s
  have HF := Lib.hid hf
  clear hf
  go_enter Try.func52, Try.ntmps52
  go_wp2_with (go_at_call 102; refine (impl_textIndex l s v _ h).mono ?_; rintro e w' ⟨rfl, rfl⟩)
  go_ret
  exact ⟨ret_bool HF.out, rfl⟩

end Go.Proofs.Ytjdimlhdkmkmbaa
namespace Go.Proofs.Ytjdimlhdkmkmbaa
set_option maxRecDepth 100000
open Go.ChangeShapes Go.WideShapes Go.ChangeAt Go.RowKit Go.Deep

theorem grown_of_below {a w : World} (h : Below a.heap.size a w) (row : Option Nat) : a.grownBy w row := ⟨h.os, h.tape, h.output, h.size, fun i hi _ => h.block i hi⟩
theorem own_below {w w' : World} {base : Nat} {e : TypeId} {size n : Nat} {v : Value} {xs : List Value} (h : w.ownsRow base e size v n xs) (hb : Below w.heap.size w w') : w'.ownsRow base e size v n xs := by
  refine ⟨h.1, ?_⟩
  rcases h.2 with hn | ⟨g, cap, cur, rfl, hb0, hg, rest⟩
  · exact .inl hn
  · exact .inr ⟨g, cap, cur, rfl, hb0, (hb.block g (Array.getElem?_eq_some_iff.1 hg).1).trans hg, rest⟩
theorem own_base {w : World} {base base' : Nat} {e : TypeId} {size n : Nat} {v : Value} {xs : List Value} (h : w.ownsRow base e size v n xs) (hb : base' ≤ base) : w.ownsRow base' e size v n xs := by
  refine ⟨h.1, ?_⟩
  rcases h.2 with hn | ⟨g, cap, cur, rfl, hb0, rest⟩
  · exact .inl hn
  · exact .inr ⟨g, cap, cur, rfl, by omega, rest⟩

theorem grown_setCell (w : World) (p : Addr) (u : Value) : w.grownBy (w.setCell p u) (some p.block) :=
  ⟨rfl, rfl, rfl, by simp [World.setCell], fun k _ hk => Below.heap_setCell w p u k (fun e => hk (by rw [e]))⟩
theorem own_setCell {w : World} {base : Nat} {e : TypeId} {size n : Nat} {v : Value} {xs : List Value} (h : w.ownsRow base e size v n xs) (p : Addr) (u : Value) (hp : p.block < base) : (w.setCell p u).ownsRow base e size v n xs := by
  refine h.kept (grown_setCell w p u) ?_
  cases hv : v.ownBlock with
  | none => exact .inl rfl
  | some k =>
    right
    intro he
    have := (h.lt k hv).1
    injection he with he
    omega

/-- the new cells of one element, laid in a new block -/
theorem news_new (w : World) (cs : Array Value) (e : TypeId) : ∀ j u, cs.toList[j]? = some u → (w.alloc (.cells cs e)).cell? ((⟨w.heap.size, 0, none⟩ : Addr).add j) = some u :=
  World.news_of_block (heap_alloc_new w (.cells cs e))

section
variable {P : Program}

/-- 'out = append(out, x)': x lies in the block that was made last -/
theorem wpList_push {ops : Array Oper} {rest : List Oper} {o : Oper} {a : Act} {Q : Exit → Act → World → Prop} (hgd : o.guard = none) (s x : Operand) (t : TypeId)
    (ho : o.op = .call { callee := .builtin .append, args := #[s, x], argTypes := #[t, t] })
    (base : Nat) (e : TypeId) (z : Value) (size bytes : Nat) (ht : P.underlying t = some (.slice e)) (hi : (P.info? e).map (fun i => (i.zero, i.size, i.bytes)) = some (some z, size, bytes)) (hzs : z.cells.size = size) (hsz : 0 < size)
    (w : World) (v : Value) (n : Nat) (xs : List Value) (cs : Array Value) (hs : a.eval s = v) (hx : a.eval x = .slice (some ⟨w.heap.size, 0, none⟩) 1 1)
    (hown : w.ownsRow base e size v n xs) (hcs : cs.size = size) (h1 : ∀ u ∈ cs.toList, u.oneCell' = true)
    (h63 : n + 1 ≤ 1099511627776) (hbytes : (n + 1) * bytes ≤ 140737488355328) (hbase : base ≤ w.heap.size)
    (h : ∀ v' w', w'.ownsRow base e size v' (n + 1) (xs ++ cs.toList) → w.grownBy w' v.ownBlock → (v'.ownBlock = v.ownBlock ∨ v'.ownBlock = some (w.heap.size + 1)) → Below base w w' → wpList P ops Q rest (a.put o.dst v') w') :
    wpList P ops Q (o :: rest) a (w.alloc (.cells cs e)) := by
  obtain ⟨i, h2, h3, h4, h5⟩ := info_parts hi
  have hbl : Below w.heap.size w (w.alloc (.cells cs e)) := (Below.refl _ _).alloc (Nat.le_refl _) _
  refine wpList_append_own_at (P := P) (w.alloc (.cells cs e)) hgd s x t ho base e i z size bytes ht h2 h3 h4 h5 hzs hsz v n xs hs (own_below hown hbl) ⟨w.heap.size, 0, none⟩ 1 1 cs.toList hx (by simpa using hcs) (news_new w cs e) h1
    (by unfold maxLen; omega) hbytes (by simp; omega) ?_
  intro v' w' g1 g2 _ g3
  have hrow : ∀ k, v.ownBlock = some k → base ≤ k := fun k hk => (hown.lt k hk).1
  refine h v' w' g1 ?_ (by simpa using g3) ((hbl.mono hbase).grown g2 (by simp; omega) hrow)
  exact (grown_of_below hbl v.ownBlock).trans g2

/-- the cells of a slice that is appended from -/
def Src (w : World) (size : Nat) (A : Option Addr) (m : Nat) (news : List Value) : Prop :=
  news.length = m * size ∧ (∀ u ∈ news, u.oneCell' = true) ∧ (0 < m → ∃ b off, A = some ⟨b, off, none⟩ ∧ At w b off news)

theorem add_plain (b off j : Nat) : (⟨b, off, none⟩ : Addr).add j = ⟨b, off + j, none⟩ := by unfold Addr.add; split <;> simp_all

/-- 'out = append(out, xs...)' -/
theorem wpList_cat {ops : Array Oper} {rest : List Oper} {o : Oper} {a : Act} {Q : Exit → Act → World → Prop} (hgd : o.guard = none) (s x : Operand) (t : TypeId)
    (ho : o.op = .call { callee := .builtin .append, args := #[s, x], argTypes := #[t, t] })
    (base : Nat) (e : TypeId) (z : Value) (size bytes : Nat) (ht : P.underlying t = some (.slice e)) (hi : (P.info? e).map (fun i => (i.zero, i.size, i.bytes)) = some (some z, size, bytes)) (hzs : z.cells.size = size) (hsz : 0 < size)
    (w : World) (v : Value) (n : Nat) (xs : List Value) (hs : a.eval s = v) (hown : w.ownsRow base e size v n xs)
    (A : Option Addr) (m c : Nat) (news : List Value) (hx : a.eval x = .slice A m c) (hsrc : Src w size A m news)
    (h63 : n + m ≤ 1099511627776) (hbytes : (n + m) * bytes ≤ 140737488355328) (hbase : base ≤ w.heap.size)
    (h : ∀ v' w', w'.ownsRow base e size v' (n + m) (xs ++ news) → w.grownBy w' v.ownBlock → (v'.ownBlock = v.ownBlock ∨ v'.ownBlock = some w.heap.size) → Below base w w' → wpList P ops Q rest (a.put o.dst v') w') :
    wpList P ops Q (o :: rest) a w := by
  obtain ⟨i, h2, h3, h4, h5⟩ := info_parts hi
  have hrow : ∀ k, v.ownBlock = some k → base ≤ k := fun k hk => (hown.lt k hk).1
  rcases A with _ | ad
  · have hm : m = 0 := by
      rcases Nat.eq_zero_or_pos m with h0 | h0
      · exact h0
      · obtain ⟨b, off, h, _⟩ := hsrc.2.2 h0
        cases h
    subst hm
    have hn : news = [] := List.eq_nil_of_length_eq_zero (by simpa using hsrc.1)
    subst hn
    have hrun : (Builtin.append_ #[t, t] o.type #[v, .slice none 0 c]).run P w = .ok v w := by
      rcases hown.2 with ⟨rfl, rfl⟩ | ⟨g, cap, cur, rfl, _, _, hnc, _⟩
      · simp [Builtin.append_, run_underlying ht, sizeOf, typeInfo, h2, Builtin.lenOf, Builtin.firstCells]
      · simp [Builtin.append_, run_underlying ht, sizeOf, typeInfo, h2, Builtin.lenOf, Builtin.firstCells, hnc, storeCells]
    refine wpList_plain hgd fun K hK => ?_
    unfold Oper.wp execOp
    simp only [ho, resolve, invoke, builtin, Sem.run_bind, Sem.run_pure, Result.andThen_ok, List.map_toArray, List.map_cons, List.map_nil, hs, hx, hrun]
    exact hK _ _ (h v w (by simpa using hown) (World.grownBy.refl w _) (.inl rfl) (Below.refl _ _))
  · refine wpList_append_own_at (P := P) w hgd s x t ho base e i z size bytes ht h2 h3 h4 h5 hzs hsz v n xs hs hown ad m c news hx hsrc.1 ?_ hsrc.2.1 (by unfold maxLen; omega) hbytes hbase ?_
    · intro j u hu
      have hj := (List.getElem?_eq_some_iff.1 hu).1
      have hm : 0 < m := by
        rcases Nat.eq_zero_or_pos m with h0 | h0
        · have h9 := hsrc.1
          rw [h0, Nat.zero_mul] at h9
          omega
        · exact h0
      obtain ⟨b, off, hA, hat⟩ := hsrc.2.2 hm
      injection hA with hA
      subst hA
      rw [add_plain]
      exact hat j u hu
    · intro v' w' g1 g2 _ g3
      exact h v' w' g1 g2 g3 ((Below.refl _ _).grown g2 hbase hrow)
end

theorem flat_split {α : Type} (f : α → List Value) (size : Nat) (l : List α) (hf : ∀ x ∈ l, (f x).length = size) (hsz : 0 < size) (j : Nat) (u : Value) (hu : (l.flatMap f)[j]? = some u) :
    ∃ k i, ∃ hk : k < l.length, i < size ∧ j = k * size + i ∧ (f l[k])[i]? = some u := by
  have hj := (List.getElem?_eq_some_iff.1 hu).1
  rw [flat_length f size l hf] at hj
  have hk : j / size < l.length := (Nat.div_lt_iff_lt_mul hsz).2 hj
  have hi : j % size < size := Nat.mod_lt _ hsz
  have he : j = (j / size) * size + j % size := by rw [Nat.mul_comm]; exact (Nat.div_add_mod j size).symm
  refine ⟨j / size, j % size, hk, hi, he, ?_⟩
  rw [← flat_at f size l hf (j / size) (j % size) hk hi, ← he]
  exact hu

/-- a slice that reads by closed cells can be appended from -/
theorem SlR.src {α : Type} {w : World} {size : Nat} {R : List Value → α → Prop} {A : Option Addr} {m c : Nat} {l : List α} (h : SlR w size R (.slice A m c) l) (f : α → List Value) (hsz : 0 < size)
    (hf : ∀ cs x, R cs x → cs = f x) (h1 : ∀ x ∈ l, ∀ u ∈ f x, u.oneCell' = true) : m = l.length ∧ Src w size A l.length (l.flatMap f) := by
  obtain ⟨A', c', hv, hn, hc, hx⟩ := h
  injection hv with e1 e2 e3
  subst e1 e2 e3
  refine ⟨rfl, ?_⟩
  have hlen : ∀ x ∈ l, (f x).length = size := by
    intro x hx'
    obtain ⟨k, hk, rfl⟩ := List.getElem_of_mem hx'
    obtain ⟨b, off, _, _, hat⟩ := hx (by omega)
    obtain ⟨cs, g1, _, g3⟩ := hat k hk
    rw [← hf _ _ g3]
    exact g1
  refine ⟨flat_length f size l hlen, ?_, ?_⟩
  · intro u hu
    obtain ⟨x, hx', hu'⟩ := List.mem_flatMap.1 hu
    exact h1 x hx' u hu'
  · intro hm
    obtain ⟨b, off, rfl, _, hat⟩ := hx hm
    refine ⟨b, off, rfl, fun j u hu => ?_⟩
    obtain ⟨k, i, hk, hi, rfl, hu'⟩ := flat_split f size l hlen hsz j u hu
    obtain ⟨cs, g1, g2, g3⟩ := hat k hk
    rw [← hf _ _ g3] at hu'
    rw [← Nat.add_assoc]
    exact g2 i u hu'

theorem Txts.src {w : World} {A : Option Addr} {m c : Nat} {l : List (List UInt8)} (h : Txts w (.slice A m c) l) : m = l.length ∧ Src w 1 A l.length (l.map fun s => Value.string (str s)) := by
  rw [map_flat]
  exact SlR.src h (fun s => [Value.string (str s)]) (by omega) (fun cs x hc => hc.1) (fun x _ u hu => by simp at hu; subst hu; rfl)
end Go.Proofs.Ytjdimlhdkmkmbaa
namespace Go.Proofs.Ytjdimlhdkmkmbaa
set_option maxRecDepth 100000
open Go.ChangeShapes Go.WideShapes Go.ChangeAt Go.RowKit Go.Deep

def szL (l : List (List UInt8)) : Nat := l.length + (l.map List.length).sum

theorem szL_length (l : List (List UInt8)) : l.length ≤ szL l := by unfold szL; omega
theorem Txts.small {w : World} {v : Value} {l : List (List UInt8)} (h : Txts w v l) : ∀ s ∈ l, s.length ≤ maxLen := fun s hs => by
  obtain ⟨A, c, rfl, hlc, hm, HC⟩ := h.open_
  obtain ⟨k, hk, rfl⟩ := List.getElem_of_mem hs
  obtain ⟨_, _, _, _, _, h5⟩ := HC.out k hk
  exact h5

end Go.Proofs.Ytjdimlhdkmkmbaa
namespace Go.Proofs.Ytjdimlhdkmkmbaa
set_option maxRecDepth 100000
open Go.ChangeShapes Go.WideShapes Go.ChangeAt Go.RowKit Go.Deep
open Go.ChangeMaps (open_string shut_string)

section
variable {H : Type} {enc : TypeId × Value → H} {P : Program} {w : World} {base : Nat} {spare : Nat → Bool} {held : Bool}

theorem build_list {α : Type} (n : Nat) (p : Nat → α → Prop) (h : ∀ i, i < n → ∃ x, p i x) : ∃ l : List α, l.length = n ∧ ∀ i (hi : i < l.length), p i l[i] := by
  induction n with
  | zero => exact ⟨[], rfl, fun i hi => absurd hi (by simp)⟩
  | succ n ih =>
    obtain ⟨l, hl, hp⟩ := ih (fun i hi => h i (by omega))
    obtain ⟨x, hx⟩ := h n (by omega)
    refine ⟨l ++ [x], by simp [hl], fun i hi => ?_⟩
    by_cases hi' : i < l.length
    · rw [List.getElem_append_left hi']; exact hp i hi'
    · have : i = n := by simp at hi; omega
      subst this
      rw [List.getElem_append_right (by omega)]
      simpa using hx

theorem spot_none {w : World} {a : Addr} {v : Value} (h : w.cell? a = some v) : a.spot = none := by
  unfold World.cell? at h
  split at h
  · split at h
    · cases h
    · rename_i hs; simpa using hs
  · cases h

theorem open_slr {α : Type} {t e : TypeId} {size fuel : Nat} {cs : List Value} {x : DataW H × List MemPlace} (ht : P.underlying t = some (.slice e)) (hc : P.cellsOf e = size) (hsz : 0 < size) (R : List Value → α → Prop)
    (hR : ∀ n cs d pl, n < fuel → DataW.trod enc P w base spare held n e cs = some (d, pl) → ∃ x, R cs x)
    (h : DataW.trod enc P w base spare held fuel t cs = some x) : ∃ v l, cs = [v] ∧ SlR w size R v l := by
  rcases DataW.trod_slice ht h with ⟨rfl, _⟩ | ⟨a, len, cap, elems, rest, n, hfu, rfl, rfl, hb, hl, hm, hlen, hel, hsp, hns⟩
  · exact ⟨_, [], rfl, SlR.nil_ _ _ _⟩
  · have hcell : ∀ i, i < len → ∃ y : List Value × α, y.1.length = size ∧ R y.1 y.2 ∧ ∀ j, j < size → w.cell? ((a.add (i * size)).add j) = y.1[j]? := by
      intro i hi
      have h1 := hel i hi
      rw [hc] at h1
      have hy : elems[i]? = some (elems[i]'(by omega)) := List.getElem?_eq_getElem (by omega)
      rw [hy, Option.bind_eq_some_iff] at h1
      obtain ⟨cs', h2, h3⟩ := h1
      obtain ⟨x, hx⟩ := hR n cs' (elems[i]'(by omega)).1 (elems[i]'(by omega)).2 (by omega) h3
      obtain ⟨_, h4, h5⟩ := World.cells?_some h2
      exact ⟨(cs', x), h4, hx, h5⟩
    obtain ⟨l, hl', hp⟩ := build_list len _ hcell
    refine ⟨_, l.map (·.2), rfl, some a, cap, by simp [hl'], by simp; omega, hm, fun h0 => ?_⟩
    simp at h0
    obtain ⟨b, off, spot⟩ := a
    obtain ⟨g1, g2, g3⟩ := hp 0 h0
    have h6 := g3 0 hsz
    rw [List.getElem?_eq_getElem (by omega)] at h6
    have hsn : spot = none := by
      have := spot_none h6
      simpa [Addr.add] using this
    subst hsn
    rw [add_plain, add_plain] at h6
    refine ⟨b, off, rfl, World.block_lt_of_cell? w _ h6, fun k hk => ?_⟩
    simp at hk
    obtain ⟨q1, q2, q3⟩ := hp k hk
    refine ⟨l[k].1, q1, fun j u hu => ?_, by simpa using q2⟩
    have hj : j < size := by have := (List.getElem?_eq_some_iff.1 hu).1; omega
    have := q3 j hj
    rw [add_plain, add_plain, hu] at this
    exact this

end
end Go.Proofs.Ytjdimlhdkmkmbaa
namespace Go.Proofs.Ytjdimlhdkmkmbaa
set_option maxRecDepth 100000
open Go.ChangeShapes Go.WideShapes Go.ChangeAt Go.RowKit Go.Deep

/-- the blocks in S are as they were -/
def Keeps (S : Nat → Prop) (w w' : World) : Prop := w.heap.size ≤ w'.heap.size ∧ ∀ b, b < w.heap.size → S b → w'.heap[b]? = w.heap[b]?

theorem Keeps.refl (S : Nat → Prop) (w : World) : Keeps S w w := ⟨Nat.le_refl _, fun _ _ _ => rfl⟩
theorem Keeps.trans {S : Nat → Prop} {a b c : World} (h : Keeps S a b) (k : Keeps S b c) : Keeps S a c :=
  ⟨Nat.le_trans h.1 k.1, fun i hi hs => (k.2 i (Nat.lt_of_lt_of_le hi h.1) hs).trans (h.2 i hi hs)⟩
theorem Keeps.of_below (S : Nat → Prop) {w w' : World} (h : Below w.heap.size w w') : Keeps S w w' := ⟨h.size, fun b hb _ => h.block b hb⟩
theorem Keeps.setCell {S : Nat → Prop} (w : World) (p : Addr) (u : Value) (hp : ¬ S p.block) : Keeps S w (w.setCell p u) :=
  ⟨by simp [World.setCell], fun b _ hs => Below.heap_setCell w p u b (fun e => hp (e ▸ hs))⟩
theorem Keeps.sc {S : Nat → Prop} {a w : World} (h : Keeps S a w) {b o : Nat} (hp : ¬ S b) (u : Value) : Keeps S a (w.setCell ⟨b, o, none⟩ u) := h.trans (Keeps.setCell w ⟨b, o, none⟩ u hp)
theorem Keeps.mono {S S' : Nat → Prop} {w w' : World} (h : Keeps S w w') (hs : ∀ b, S' b → S b) : Keeps S' w w' := ⟨h.1, fun b hb hb' => h.2 b hb (hs b hb')⟩

theorem below_sc {B : Nat} {a w : World} (h : Below B a w) {b o : Nat} (hp : B ≤ b) (u : Value) : Below B a (w.setCell ⟨b, o, none⟩ u) := h.setCell (p := ⟨b, o, none⟩) hp u
theorem size_sc (w : World) (p : Addr) (u : Value) : (w.setCell p u).heap.size = w.heap.size := by simp [World.setCell]

/-- blocks from lo on, before hi -/
def Rng (lo hi : Nat) (b : Nat) : Prop := lo ≤ b ∧ b < hi

/-- a flat row of a value's own -/
def FlO (S : Nat → Prop) (w : World) (e : TypeId) (size : Nat) (v : Value) (n : Nat) (xs : List Value) : Prop :=
  w.ownsRow 0 e size v n xs ∧ ∀ k, v.ownBlock = some k → S k

theorem FlO.keeps {S : Nat → Prop} {w w' : World} {e : TypeId} {size n : Nat} {v : Value} {xs : List Value} (h : FlO S w e size v n xs) (hk : Keeps S w w') : FlO S w' e size v n xs := by
  refine ⟨⟨h.1.1, ?_⟩, h.2⟩
  rcases h.1.2 with hn | ⟨g, cap, cur, rfl, hb0, hg, rest⟩
  · exact .inl hn
  · exact .inr ⟨g, cap, cur, rfl, hb0, (hk.2 g (Array.getElem?_eq_some_iff.1 hg).1 (h.2 g rfl)).trans hg, rest⟩
theorem FlO.mono {S S' : Nat → Prop} {w : World} {e : TypeId} {size n : Nat} {v : Value} {xs : List Value} (h : FlO S w e size v n xs) (hs : ∀ b, S b → S' b) : FlO S' w e size v n xs := ⟨h.1, fun k hk => hs k (h.2 k hk)⟩
theorem FlO.of_own {w : World} {base : Nat} {e : TypeId} {size n : Nat} {v : Value} {xs : List Value} (h : w.ownsRow base e size v n xs) : FlO (Rng base w.heap.size) w e size v n xs :=
  ⟨own_base h (Nat.zero_le _), fun k hk => h.lt k hk⟩
theorem FlO.nil_ (S : Nat → Prop) (w : World) (e : TypeId) (size : Nat) : FlO S w e size (.slice none 0 0) 0 [] := ⟨World.ownsRow_nil _ _ _ _, fun k hk => by simp [Value.ownBlock] at hk⟩

/-- strings of a value's own -/
def TxtO (S : Nat → Prop) (w : World) (v : Value) (l : List (List UInt8)) : Prop := FlO S w 9 1 v l.length (l.map fun s => Value.string (str s)) ∧ ∀ s ∈ l, s.length ≤ maxLen
theorem TxtO.keeps {S : Nat → Prop} {w w' : World} {v : Value} {l : List (List UInt8)} (h : TxtO S w v l) (hk : Keeps S w w') : TxtO S w' v l := ⟨h.1.keeps hk, h.2⟩
theorem TxtO.mono {S S' : Nat → Prop} {w : World} {v : Value} {l : List (List UInt8)} (h : TxtO S w v l) (hs : ∀ b, S b → S' b) : TxtO S' w v l := ⟨h.1.mono hs, h.2⟩
theorem TxtO.read {S : Nat → Prop} {w : World} {v : Value} {l : List (List UInt8)} (h : TxtO S w v l) : Txts w v l := Txts.of_own h.1.1 h.2

/-- block g is just the cells cs -/
def Blk (w : World) (g : Nat) (t : TypeId) (cs : List Value) : Prop := w.heap[g]? = some (.cells cs.toArray t (0, 0))
theorem Blk.lt {w : World} {g : Nat} {t : TypeId} {cs : List Value} (h : Blk w g t cs) : g < w.heap.size := (Array.getElem?_eq_some_iff.1 h).1
theorem Blk.cell {w : World} {g : Nat} {t : TypeId} {cs : List Value} (h : Blk w g t cs) (j : Nat) (u : Value) (hj : cs[j]? = some u) : w.cell? ⟨g, j, none⟩ = some u := by
  unfold Blk at h
  simp [World.cell?, h, hj]
theorem Blk.frozen {w : World} {g : Nat} {t : TypeId} {cs : List Value} (h : Blk w g t cs) (j : Nat) : w.frozen? ⟨g, j, none⟩ = false := by
  unfold Blk at h
  simp [World.frozen?, h]
theorem Blk.new (w : World) (t : TypeId) (cs : List Value) : Blk (w.alloc (.cells cs.toArray t)) w.heap.size t cs := heap_alloc_new w _
theorem Blk.new_at (w : World) (t : TypeId) (cs : List Value) (g : Nat) (hg : g = w.heap.size) : Blk (w.alloc (.cells cs.toArray t)) g t cs := by
  subst hg
  exact Blk.new w t cs
theorem Blk.alloc {w : World} {g : Nat} {t : TypeId} {cs : List Value} (h : Blk w g t cs) (o : Obj) : Blk (w.alloc o) g t cs := (Below.heap_alloc w o g h.lt).trans h
theorem Blk.set_ {w : World} {g : Nat} {t : TypeId} {cs : List Value} (h : Blk w g t cs) (i : Nat) (u : Value) : Blk (w.setCell ⟨g, i, none⟩ u) g t (cs.set i u) := by
  unfold Blk at h ⊢
  rw [heap_setCell_same w g i _ t u h]
  simp
theorem Blk.below {w w' : World} {g : Nat} {t : TypeId} {cs : List Value} (h : Blk w g t cs) (hb : Below w.heap.size w w') : Blk w' g t cs := (hb.block g h.lt).trans h
theorem Blk.far {w : World} {g : Nat} {t : TypeId} {cs : List Value} (h : Blk w g t cs) (p : Addr) (hp : g ≠ p.block) (u : Value) : Blk (w.setCell p u) g t cs := (Below.heap_setCell w p u g hp).trans h

/-- two blocks known whole, and nothing below B has changed -/
def Ex2 (w : World) (B g t : Nat) (cs : List Value) (g' t' : Nat) (cs' : List Value) (W : World) : Prop := Blk W g t cs ∧ Blk W g' t' cs' ∧ Below B w W ∧ B ≤ W.heap.size
theorem Ex2.below {w W W' : World} {B g t g' t' : Nat} {cs cs' : List Value} (h : Ex2 w B g t cs g' t' cs' W) (hb : Below W.heap.size W W') : Ex2 w B g t cs g' t' cs' W' :=
  ⟨h.1.below hb, h.2.1.below hb, h.2.2.1.trans (hb.mono h.2.2.2), Nat.le_trans h.2.2.2 hb.size⟩
/-- some blocks known whole, and nothing below B has changed -/
def ExL (w : World) (B : Nat) (bs : List (Nat × Nat × List Value)) (W : World) : Prop := (∀ p ∈ bs, Blk W p.1 p.2.1 p.2.2) ∧ Below B w W ∧ B ≤ W.heap.size
theorem ExL.below {w W W' : World} {B : Nat} {bs : List (Nat × Nat × List Value)} (h : ExL w B bs W) (hb : Below W.heap.size W W') : ExL w B bs W' :=
  ⟨fun p hp => (h.1 p hp).below hb, h.2.1.trans (hb.mono h.2.2), Nat.le_trans h.2.2 hb.size⟩
theorem ExL.drew {w W : World} {B : Nat} {bs : List (Nat × Nat × List Value)} (h : ExL w B bs W) : ExL w B bs W.drew := ⟨h.1, h.2.1.drew, h.2.2⟩
theorem ExL.push {w W : World} {B : Nat} {bs : List (Nat × Nat × List Value)} (h : ExL w B bs W) (t : Nat) (cs : List Value) : ExL w B ((W.heap.size, t, cs) :: bs) (W.alloc (.cells cs.toArray t)) :=
  ⟨fun p hp => by
    rcases List.mem_cons.1 hp with rfl | hp
    · exact Blk.new W t cs
    · exact (h.1 p hp).alloc _, h.2.1.alloc h.2.2 _, by simp; have := h.2.2; omega⟩
theorem ExL.start (w : World) : ExL w w.heap.size [] w := ⟨fun p hp => by simp at hp, Below.refl _ _, Nat.le_refl _⟩
theorem ExL.b0 {w W : World} {B : Nat} {p : Nat × Nat × List Value} {bs : List (Nat × Nat × List Value)} (h : ExL w B (p :: bs) W) : Blk W p.1 p.2.1 p.2.2 := h.1 p (.head _)
theorem ExL.tail {w W : World} {B : Nat} {p : Nat × Nat × List Value} {bs : List (Nat × Nat × List Value)} (h : ExL w B (p :: bs) W) : ExL w B bs W := ⟨fun q hq => h.1 q (.tail _ hq), h.2⟩

/-- a call in a world of which only Q is known -/
theorem abs_w {P : Program} {f : FuncId} {args : Array Value} {W : World} {R : Ending → World → Prop} (Q : World → Prop) (hQ : Q W) (h : ∀ w', Q w' → Calls P f args w' R) : Calls P f args W R := h W hQ
end Go.Proofs.Ytjdimlhdkmkmbaa
namespace Go.Proofs.Ytjdimlhdkmkmbaa
set_option maxRecDepth 100000
open Go.ChangeShapes Go.WideShapes Go.ChangeAt Go.RowKit Go.Deep

/-! ### sizes -/
def szS {α : Type} (f : α → Nat) (l : List α) : Nat := l.length + (l.map f).sum
theorem szS_take_succ {α : Type} (f : α → Nat) (l : List α) (k : Nat) (h : k < l.length) : szS f (l.take (k + 1)) = szS f (l.take k) + 1 + f l[k] := by
  unfold szS
  rw [List.take_succ_eq_append_getElem h]
  simp only [List.map_append, List.length_append, List.sum_append, List.map_cons, List.map_nil, List.length_cons, List.length_nil, List.sum_cons, List.sum_nil]
  omega
theorem szS_take_le {α : Type} (f : α → Nat) (l : List α) (k : Nat) : szS f (l.take k) + (l.drop k).length ≤ szS f l := by
  unfold szS
  have h : l = l.take k ++ l.drop k := (List.take_append_drop k l).symm
  conv => rhs; rw [h]
  simp only [List.map_append, List.length_append, List.sum_append]
  omega
theorem szS_length {α : Type} (f : α → Nat) (l : List α) : l.length ≤ szS f l := by unfold szS; omega
theorem szS_at {α : Type} (f : α → Nat) (l : List α) (k : Nat) (h : k < l.length) : f l[k] ≤ szS f l := by
  have h1 := szS_take_succ f l k h
  have h2 := szS_take_le f l (k + 1)
  omega
/-! ### ownership -/
section
variable {α : Type}

def SlO (S : Nat → Prop) (w : World) (e : TypeId) (size : Nat) (RO : (Nat → Prop) → World → List Value → α → Prop) (v : Value) (l : List α) : Prop :=
  ∃ (xss : List (List Value)) (f : Nat → Nat), xss.length = l.length ∧
    (∀ k (h1 : k < xss.length) (h2 : k < l.length), xss[k].length = size ∧ RO (fun b => S b ∧ f b = k + 1) w xss[k] l[k]) ∧
    FlO (fun b => S b ∧ f b = 0) w e size v l.length xss.flatten

theorem SlO.keeps {S : Nat → Prop} {w w' : World} {e : TypeId} {size : Nat} {RO : (Nat → Prop) → World → List Value → α → Prop} {v : Value} {l : List α}
    (hRO : ∀ {T : Nat → Prop} {cs : List Value} {x : α}, x ∈ l → RO T w cs x → Keeps T w w' → RO T w' cs x) (h : SlO S w e size RO v l) (hk : Keeps S w w') : SlO S w' e size RO v l := by
  obtain ⟨xss, f, h1, h2, h3⟩ := h
  exact ⟨xss, f, h1, fun k a b => ⟨(h2 k a b).1, hRO (List.getElem_mem b) (h2 k a b).2 (hk.mono fun _ h => h.1)⟩, h3.keeps (hk.mono fun _ h => h.1)⟩

theorem SlO.mono {S S' : Nat → Prop} {w : World} {e : TypeId} {size : Nat} {RO : (Nat → Prop) → World → List Value → α → Prop} {v : Value} {l : List α}
    (hRO : ∀ {T T' : Nat → Prop} {cs : List Value} {x : α}, x ∈ l → RO T w cs x → (∀ b, T b → T' b) → RO T' w cs x) (h : SlO S w e size RO v l) (hs : ∀ b, S b → S' b) : SlO S' w e size RO v l := by
  obtain ⟨xss, f, h1, h2, h3⟩ := h
  exact ⟨xss, f, h1, fun k a b => ⟨(h2 k a b).1, hRO (List.getElem_mem b) (h2 k a b).2 (fun b h => ⟨hs b h.1, h.2⟩)⟩, h3.mono (fun b h => ⟨hs b h.1, h.2⟩)⟩

theorem flatten_at (size : Nat) : ∀ (xss : List (List Value)), (∀ x ∈ xss, x.length = size) → ∀ (k j : Nat) (hk : k < xss.length), j < size → xss.flatten[k * size + j]? = xss[k][j]? := by
  intro xss h k j hk hj
  have := flat_at (fun x : List Value => x) size xss h k j hk hj
  rwa [List.flatMap_id'] at this

theorem SlO.read {S : Nat → Prop} {w : World} {e : TypeId} {size : Nat} {RO : (Nat → Prop) → World → List Value → α → Prop} {R : List Value → α → Prop} {v : Value} {l : List α}
    (hR : ∀ {T : Nat → Prop} {cs : List Value} {x : α}, x ∈ l → RO T w cs x → R cs x) (h : SlO S w e size RO v l) : SlR w size R v l := by
  obtain ⟨xss, f, h1, h2, h3, _⟩ := h
  rcases h3.2 with ⟨rfl, h0⟩ | ⟨g, cap, cur, rfl, hb, hg, hn, hc, hs, ht⟩
  · exact ⟨none, 0, by rw [h0], by omega, by unfold maxLen; omega, fun h => absurd h (by omega)⟩
  · refine ⟨_, cap, rfl, hn, hc, fun _ => ⟨g, 0, rfl, (Array.getElem?_eq_some_iff.1 hg).1, fun k hk => ?_⟩⟩
    obtain ⟨q1, q2⟩ := h2 k (by omega) hk
    refine ⟨xss[k]'(by omega), q1, fun j u hu => ?_, hR (List.getElem_mem hk) q2⟩
    have hj : j < size := by have := (List.getElem?_eq_some_iff.1 hu).1; omega
    have h4 := flatten_at size xss (fun x hx => by
      obtain ⟨i, hi, rfl⟩ := List.getElem_of_mem hx
      exact (h2 i hi (by omega)).1) k j (by omega) hj
    rw [hu, ← ht, List.getElem?_take] at h4
    split at h4
    · simp only [World.cell?, hg, Nat.zero_add]
      simpa using h4
    · cases h4

theorem SlO.nil_ (S : Nat → Prop) (w : World) (e : TypeId) (size : Nat) (RO : (Nat → Prop) → World → List Value → α → Prop) : SlO S w e size RO (.slice none 0 0) [] :=
  ⟨[], fun _ => 0, rfl, fun k h => absurd h (by simp), FlO.nil_ _ _ _ _⟩

end
end Go.Proofs.Ytjdimlhdkmkmbaa
