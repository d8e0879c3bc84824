/-
  Merged texts: Base, Find, Mem, Strs, Open, Own, SlOwn.
-/
import Derived.Test.YtjdfancbmjnjfaaGreatProg
import Derived.KernelRfl
import Derived.WalkKit
import Derived.WalkSpells
import Derived.WalkLawsBesides
import Derived.ProofKit
import Derived.OpenShut
import Derived.ShutString
import Derived.Lib.Hide
import Derived.Deep.QuietTactic
import Derived.BigQuiet
import Derived.Deep.LoopGhost
import Derived.Deep.Draws
import Derived.Deep.Slices
import Derived.Deep.Fields
import Derived.ChangeSame
import Derived.Maps.AppendAt
import Derived.Deep.AppendLies
import Derived.Deep.RegionHeld3
import Derived.StillTailTactics
namespace Go.Proofs.YtjdfancbmjnjfaaGreat
set_option maxRecDepth 100000
set_option maxRecDepth 100000
open Go.ChangeShapes Go.WideShapes Go.ChangeAt Go.RowKit Go.Deep
open Go.ChangeMaps (open_string shut_string)

theorem own : ownKnob Tryz.prog.godebug = none := by kernel_rfl
theorem laidOut : laidOutB Tryz.prog = true := by kernel_rfl

/-! ### Strings as lists of bytes -/

def str (l : List UInt8) : ByteArray := ⟨l.toArray⟩
theorem str_toList (l : List UInt8) : (str l).toList = l := by rw [ByteArray.toList_eq]; simp [str]
theorem str_size (l : List UInt8) : (str l).size = l.length := by simp [str, ByteArray.size]
theorem str_append (a b : List UInt8) : str a ++ str b = str (a ++ b) := by apply ByteArray.ext; simp [str]
theorem str_append_lit (a : List UInt8) (d : Array UInt8) : str a ++ ⟨d⟩ = str (a ++ d.toList) := by apply ByteArray.ext; simp [str]
theorem lit_append_str (a : List UInt8) (d : Array UInt8) : (⟨d⟩ : ByteArray) ++ str a = str (d.toList ++ a) := by apply ByteArray.ext; simp [str]
theorem exists_str (s : ByteArray) : ∃ l, s = str l := ⟨s.data.toList, by simp [str]⟩
attribute [go_sem] str_toList str_size str_append str_append_lit lit_append_str

theorem ret_int {k : IntKind} {a b : Int} (h : a = b) : Ending.returned (.int k a) = .returned (.int k b) := by rw [h]
theorem ret_bool {a b : Bool} (h : a = b) : Ending.returned (.bool a) = .returned (.bool b) := by rw [h]
theorem ret_str {a b : List UInt8} (h : a = b) : Ending.returned (.string (str a)) = .returned (.string (str b)) := by rw [h]

/-! ### Cells -/

/-- the cells xs lie at block b from off on -/
def At (w : World) (b off : Nat) (xs : List Value) : Prop := ∀ j u, xs[j]? = some u → w.cell? ⟨b, off + j, none⟩ = some u

theorem At.keep {w w' : World} {b off : Nat} {xs : List Value} (h : At w b off xs) (hk : w'.heap[b]? = w.heap[b]?) : At w' b off xs :=
  fun j u hu => (World.cell?_of_block (a := ⟨b, off + j, none⟩) hk).trans (h j u hu)

/-- v is a slice whose elements, of 'size' cells each, read by R as l -/
def SlR {α : Type} (w : World) (size : Nat) (R : List Value → α → Prop) (v : Value) (l : List α) : Prop :=
  ∃ A c, v = .slice A l.length c ∧ l.length ≤ c ∧ c ≤ maxLen ∧
    (0 < l.length → ∃ b off, A = some ⟨b, off, none⟩ ∧ b < w.heap.size ∧ ∀ k (h : k < l.length), ∃ cs, cs.length = size ∧ At w b (off + k * size) cs ∧ R cs l[k])

theorem SlR.below {α : Type} {w w' : World} {size : Nat} {R R' : List Value → α → Prop} {v : Value} {l : List α} (h : SlR w size R v l) (hb : Below w.heap.size w w') (hR : ∀ cs x, R cs x → R' cs x) : SlR w' size R' v l := by
  obtain ⟨A, c, rfl, hn, hc, hx⟩ := h
  refine ⟨A, c, rfl, hn, hc, fun h0 => ?_⟩
  obtain ⟨b, off, rfl, hlt, hat⟩ := hx h0
  refine ⟨b, off, rfl, Nat.lt_of_lt_of_le hlt hb.size, fun k hk => ?_⟩
  obtain ⟨cs, h1, h2, h3⟩ := hat k hk
  exact ⟨cs, h1, h2.keep (hb.block b hlt), hR _ _ h3⟩

theorem SlR.length_le {α : Type} {w : World} {size : Nat} {R : List Value → α → Prop} {v : Value} {l : List α} (h : SlR w size R v l) : l.length ≤ maxLen := by
  obtain ⟨A, c, rfl, hn, hc, hx⟩ := h
  omega

theorem SlR.shape {α : Type} {w : World} {size : Nat} {R : List Value → α → Prop} {v : Value} {l : List α} (h : SlR w size R v l) : ∃ A c, v = .slice A l.length c := by
  obtain ⟨A, c, rfl, _⟩ := h
  exact ⟨A, c, rfl⟩

/-- what a walk needs of it -/
theorem SlR.open_ {α : Type} {w : World} {size : Nat} {R : List Value → α → Prop} {v : Value} {l : List α} (h : SlR w size R v l) : ∃ A c, v = .slice A l.length c ∧ l.length ≤ c ∧ c ≤ maxLen ∧
    Hid (∀ k (hk : k < l.length), ∃ b off cs, A = some ⟨b, off, none⟩ ∧ b < w.heap.size ∧ cs.length = size ∧ At w b (off + k * size) cs ∧ R cs l[k]) := by
  obtain ⟨A, c, rfl, hn, hc, hx⟩ := h
  refine ⟨A, c, rfl, hn, hc, fun k hk => ?_⟩
  obtain ⟨b, off, rfl, hlt, hat⟩ := hx (by omega)
  obtain ⟨cs, h1, h2, h3⟩ := hat k hk
  exact ⟨b, off, cs, rfl, hlt, h1, h2, h3⟩

theorem flat_at {α : Type} (f : α → List Value) (size : Nat) : ∀ (l : List α), (∀ x ∈ l, (f x).length = size) → ∀ (k j : Nat) (hk : k < l.length), j < size → (l.flatMap f)[k * size + j]? = (f l[k])[j]? := by
  intro l
  induction l with
  | nil => intro _ k j hk; simp at hk
  | cons x l ih =>
    intro hs k j hk hj
    have hx := hs x (by simp)
    rw [List.flatMap_cons]
    cases k with
    | zero => simp only [Nat.zero_mul, Nat.zero_add, List.getElem_cons_zero]; rw [List.getElem?_append_left (by omega)]
    | succ k =>
      rw [List.getElem?_append_right (by rw [hx, Nat.succ_mul]; omega), hx, show (k + 1) * size + j - size = k * size + j by rw [Nat.succ_mul]; omega]
      simpa using ih (fun y hy => hs y (by simp [hy])) k j (by simpa using hk) hj

theorem map_flat {α β : Type} (f : α → β) (l : List α) : l.map f = l.flatMap fun x => [f x] := by induction l <;> simp_all

theorem flat_length {α : Type} (f : α → List Value) (size : Nat) (l : List α) (h : ∀ x ∈ l, (f x).length = size) : (l.flatMap f).length = l.length * size := by
  induction l with
  | nil => simp
  | cons x l ih => rw [List.flatMap_cons, List.length_append, h x (by simp), ih (fun y hy => h y (by simp [hy])), List.length_cons, Nat.succ_mul]; omega

theorem SlR.of_own {α : Type} {w : World} {base : Nat} {e : TypeId} {size n : Nat} {v : Value} {xs : List Value} {R : List Value → α → Prop} (f : α → List Value) (l : List α)
    (h : w.ownsRow base e size v n xs) (hn : l.length = n) (hxs : xs = l.flatMap f) (hf : ∀ x ∈ l, (f x).length = size ∧ R (f x) x) : SlR w size R v l := by
  subst hn hxs
  rcases h.2 with ⟨rfl, h0⟩ | ⟨g, cap, cur, rfl, hb, hg, hn, hc, hs, ht⟩
  · exact ⟨none, 0, by rw [h0], by omega, by unfold maxLen; omega, fun h1 => absurd h1 (by omega)⟩
  · refine ⟨_, cap, rfl, hn, hc, fun _ => ⟨g, 0, rfl, (Array.getElem?_eq_some_iff.1 hg).1, fun k hk => ⟨f l[k], (hf _ (List.getElem_mem hk)).1, fun j u hu => ?_, (hf _ (List.getElem_mem hk)).2⟩⟩⟩
    have hj : j < size := by
      have := (List.getElem?_eq_some_iff.1 hu).1
      rw [(hf _ (List.getElem_mem hk)).1] at this
      exact this
    have h1 : (l.flatMap f)[k * size + j]? = some u := by rw [flat_at f size l (fun x hx => (hf x hx).1) k j hk hj]; exact hu
    rw [← ht, List.getElem?_take] at h1
    split at h1
    · simp only [World.cell?, hg, Nat.zero_add]
      simpa using h1
    · cases h1

theorem SlR.nil_ {α : Type} (w : World) (size : Nat) (R : List Value → α → Prop) : SlR w size R (.slice none 0 0) [] := ⟨none, 0, rfl, Nat.le_refl _, by unfold maxLen; omega, fun h => absurd h (by simp)⟩

def I64 (n : Int) : Prop := -9223372036854775808 ≤ n ∧ n ≤ 9223372036854775807
def StrR (cs : List Value) (s : List UInt8) : Prop := cs = [.string (str s)] ∧ s.length ≤ maxLen
def IntR (cs : List Value) (n : Int) : Prop := cs = [.int .i64 n] ∧ I64 n
def BoolR (cs : List Value) (b : Bool) : Prop := cs = [.bool b]

/-- v is a slice of strings that reads as l -/
def Txts (w : World) (v : Value) (l : List (List UInt8)) : Prop := SlR w 1 StrR v l
def Ints (w : World) (v : Value) (l : List Int) : Prop := SlR w 1 IntR v l
def Bools (w : World) (v : Value) (l : List Bool) : Prop := SlR w 1 BoolR v l

theorem Txts.below {w w' : World} {v : Value} {l : List (List UInt8)} (h : Txts w v l) (hb : Below w.heap.size w w') : Txts w' v l := SlR.below h hb (fun _ _ h => h)
theorem Ints.below {w w' : World} {v : Value} {l : List Int} (h : Ints w v l) (hb : Below w.heap.size w w') : Ints w' v l := SlR.below h hb (fun _ _ h => h)
theorem Bools.below {w w' : World} {v : Value} {l : List Bool} (h : Bools w v l) (hb : Below w.heap.size w w') : Bools w' v l := SlR.below h hb (fun _ _ h => h)

theorem Txts.open_ {w : World} {v : Value} {l : List (List UInt8)} (h : Txts w v l) : ∃ A c, v = .slice A l.length c ∧ l.length ≤ c ∧ c ≤ maxLen ∧
    Hid (∀ k (hk : k < l.length), ∃ b off, A = some ⟨b, off, none⟩ ∧ b < w.heap.size ∧ w.cell? ⟨b, off + k, none⟩ = some (.string (str l[k])) ∧ l[k].length ≤ maxLen) := by
  obtain ⟨A, c, rfl, hn, hc, hx⟩ := SlR.open_ h
  refine ⟨A, c, rfl, hn, hc, fun k hk => ?_⟩
  obtain ⟨b, off, cs, rfl, hlt, _, hat, rfl, hl⟩ := hx.out k hk
  exact ⟨b, off, rfl, hlt, by simpa using hat 0 _ rfl, hl⟩
theorem Ints.open_ {w : World} {v : Value} {l : List Int} (h : Ints w v l) : ∃ A c, v = .slice A l.length c ∧ l.length ≤ c ∧ c ≤ maxLen ∧
    Hid (∀ k (hk : k < l.length), ∃ b off, A = some ⟨b, off, none⟩ ∧ b < w.heap.size ∧ w.cell? ⟨b, off + k, none⟩ = some (.int .i64 l[k]) ∧ -9223372036854775808 ≤ l[k] ∧ l[k] ≤ 9223372036854775807) := by
  obtain ⟨A, c, rfl, hn, hc, hx⟩ := SlR.open_ h
  refine ⟨A, c, rfl, hn, hc, fun k hk => ?_⟩
  obtain ⟨b, off, cs, rfl, hlt, _, hat, rfl, hl⟩ := hx.out k hk
  exact ⟨b, off, rfl, hlt, by simpa using hat 0 _ rfl, hl⟩

theorem Txts.of_own {w : World} {base : Nat} {e : TypeId} {v : Value} {l : List (List UInt8)} (h : w.ownsRow base e 1 v l.length (l.map fun s => Value.string (str s))) (hs : ∀ s ∈ l, s.length ≤ maxLen) : Txts w v l :=
  SlR.of_own (fun s => [Value.string (str s)]) l h rfl (map_flat _ l) (fun x hx => ⟨rfl, rfl, hs x hx⟩)
theorem Ints.of_own {w : World} {base : Nat} {e : TypeId} {v : Value} {l : List Int} (h : w.ownsRow base e 1 v l.length (l.map fun n => Value.int .i64 n)) (hs : ∀ n ∈ l, I64 n) : Ints w v l :=
  SlR.of_own (fun n => [Value.int .i64 n]) l h rfl (map_flat _ l) (fun x hx => ⟨rfl, rfl, hs x hx⟩)

theorem owns_new (w : World) (e : TypeId) (size n : Nat) (cs : Array Value) (cap : Nat) (xs : List Value) (hx : xs.length = n * size) (h1 : n ≤ cap) (h2 : cap ≤ maxLen) (h3 : cs.size = cap * size) (h4 : cs.toList.take (n * size) = xs) :
    (w.alloc (.cells cs e)).ownsRow w.heap.size e size (.slice (some ⟨w.heap.size, 0, none⟩) n cap) n xs :=
  ⟨hx, .inr ⟨w.heap.size, cap, cs, rfl, Nat.le_refl _, heap_alloc_new w _, h1, h2, h3, h4⟩⟩

theorem txts_new (w : World) (e : TypeId) (l : List (List UInt8)) (cs : Array Value) (hcs : cs = (l.map fun s => Value.string (str s)).toArray) (h2 : l.length ≤ maxLen) (hs : ∀ s ∈ l, s.length ≤ maxLen) :
    Txts (w.alloc (.cells cs e)) (.slice (some ⟨w.heap.size, 0, none⟩) l.length l.length) l := by
  subst hcs
  exact Txts.of_own (owns_new w e 1 l.length _ l.length _ (by simp) (Nat.le_refl _) h2 (by simp) (by simp [List.take_of_length_le])) hs

theorem below_drewN {B : Nat} {a w : World} (h : Below B a w) (n : Nat) : Below B a (w.drewN n) := ⟨h.os, h.tape, h.output, h.size, h.block⟩
theorem below_quiet (B : Nat) (w : World) (n : Nat) : Below B w (w.drewN n) := below_drewN (Below.refl _ _) n

/-! ### The last step of a law's row -/
section
variable {H : Type} {enc : TypeId × Value → H} {P : Program}

theorem trodAll_stays (hl : laidOutB P = true) {W W' : World} (hb : Below W.heap.size W W') : ∀ {ts : List TypeId} {vs : List Value} {ds : List (DataW H)} {ps : List MemPlace},
    DataW.TrodAll enc P W 0 (fun _ => true) true ts vs ds ps → (∀ t ∈ ts, P.readableRec t = true ∧ t < P.types.size) → (∀ x ∈ ps, x.block < W.heap.size) →
    ∀ sp : Nat → Bool, (∀ p ∈ ps, sp p.block = true) → DataW.TrodAll enc P W' 0 sp true ts vs ds ps := by
  intro ts
  induction ts with
  | nil =>
    intro vs ds ps h _ _ sp _
    obtain ⟨rfl, rfl, rfl⟩ := trodAll_nil h
    exact trodAll_mk0
  | cons t ts ih =>
    intro vs ds ps h hr hlt sp hsp
    cases vs with
    | nil => exact absurd h (by simp [DataW.TrodAll])
    | cons v vs =>
      obtain ⟨v0, vs0, d0, ds0, p0, q0, hv, rfl, rfl, h0, r0⟩ := trodAll_cons h
      injection hv with e1 e2
      subst e1 e2
      refine trodAll_cons_mk (WideElems.Trod_stays hl (hr t (by simp)).1 (hr t (by simp)).2 h0 (fun x hx => hb.same (hlt x (by simp [hx]))) (fun x hx => hsp x (by simp [hx]))) ?_
      exact ih r0 (fun t' ht' => hr t' (by simp [ht'])) (fun x hx => hlt x (by simp [hx])) sp (fun x hx => hsp x (by simp [hx]))

/-- a law's post: it returns true, nothing that was there has changed -/
theorem law_post {f : Func} {s : ChangeSpec} {tb : TypeId} {apart fresh handsOn again : Bool} {W W' : World} {args : Array Value} {ds : List (DataW H)} {before : List MemPlace}
    (hl : laidOutB P = true) (hW : DataW.Whole enc P f.params.toList s.vars apart W args.toList ds [] before) (hvars : s.vars = [])
    (hrt : f.resultTypes = #[tb]) (htb : P.underlying tb = some .bool)
    (hs1 : (s.fn H (ds ++ [])).results = [.lit (.bool true)]) (hs2 : (s.fn H (ds ++ [])).args = ds) (hs3 : (s.fn H (ds ++ [])).vars = [])
    (hr : ∀ t ∈ f.params.toList, P.readableRec t = true ∧ t < P.types.size) (hb : Below W.heap.size W W') :
    s.post enc P f apart fresh handsOn again W args (.bool true) W' := by
  have hlt : ∀ p ∈ before, p.block < W.heap.size := fun p hp => hW.lt p hp
  have hold : ∀ p ∈ before, (fun b => decide (b < W.heap.size)) p.block = true := fun p hp => by simpa using hlt p hp
  have hres : ∀ (b : Nat) (sp : Nat → Bool) (hd : Bool), DataW.TrodAll enc P W' b sp hd f.resultTypes.toList ((Value.bool true).resultList f.resultTypes.size) (s.fn H (ds ++ [])).results [] := by
    intro b sp hd
    rw [hrt, hs1]
    exact trodAll_cons_mk (shut_bool htb true) trodAll_mk0
  have hW0 := hW
  obtain ⟨p, q, hA, hV, rfl, hz, hn⟩ := hW
  rw [hvars] at hV
  obtain ⟨-, rfl⟩ := trodVars_none hV
  simp only [List.append_nil] at hlt hold hz hn hW0
  have hargs : ∀ sp : Nat → Bool, (∀ x ∈ p, sp x.block = true) → DataW.TrodAll enc P W' 0 sp true f.params.toList args.toList (s.fn H (ds ++ [])).args p := by
    intro sp hsp
    rw [hs2]
    exact trodAll_stays hl hb hA hr hlt sp hsp
  have hvs : ∀ sp : Nat → Bool, DataW.TrodVars enc P W' sp s.vars (s.fn H (ds ++ [])).vars [] := by
    intro sp
    rw [hvars, hs3]
    rfl
  refine ⟨ds, [], p, [], p, [], hW0, hres _ _ _, hargs _ hold, hvs _, World.keptBut_mono (fun x hx => ⟨hx, Or.inr (Or.inl hx)⟩) (hb.frame (· ∈ p)), fun _ => ?_⟩
  refine ⟨ok_one hrt rfl (okWide_bool_mk htb true), _, _, ([] ++ p) ++ [], ⟨[] ++ p, [], trodAll_append (hargs _ (fun _ _ => rfl)) (hres _ _ _), hvs _, rfl, ?_, ?_⟩, ?_⟩
  · intro b off hp
    have hin : MemPlace.cell b off ∈ p := by simpa using hp
    rw [hb.frozen (hlt _ hin)]
    exact hz b off hin
  · intro ha
    simpa using hn ha
  · intro x hx _
    simpa using hx
end
end Go.Proofs.YtjdfancbmjnjfaaGreat
namespace Go.Proofs.YtjdfancbmjnjfaaGreat
set_option maxRecDepth 100000
open Go.ChangeShapes Go.WideShapes Go.ChangeAt Go.RowKit Go.Deep

/-- the first position of s in l, or -1 -/
def findB (l : List (List UInt8)) (s : List UInt8) : Int := match l.findIdx? (fun x => x == s) with | some i => i | none => -1

theorem findB_at (l : List (List UInt8)) (s : List UInt8) (k : Nat) (hk : k < l.length) (hn : ∀ j (h : j < l.length), j < k → (l[j] == s) = false) (he : (l[k] == s) = true) : findB l s = k := by
  unfold findB
  have : l.findIdx? (fun x => x == s) = some k := by
    rw [List.findIdx?_eq_some_iff_getElem]
    exact ⟨hk, he, fun j hj => by simp [hn j (by omega) hj]⟩
  rw [this]
theorem findB_no (l : List (List UInt8)) (s : List UInt8) (hn : ∀ j (h : j < l.length), (l[j] == s) = false) : findB l s = -1 := by
  unfold findB
  have : l.findIdx? (fun x => x == s) = none := by
    rw [List.findIdx?_eq_none_iff]
    intro x hx
    obtain ⟨j, hj, rfl⟩ := List.getElem_of_mem hx
    exact hn j hj
  rw [this]
/-- whether l holds s -/
def hasB (l : List (List UInt8)) (s : List UInt8) : Bool := l.contains s
theorem findB_nonneg (l : List (List UInt8)) (s : List UInt8) : decide (0 ≤ findB l s) = hasB l s := by
  show _ = l.contains s
  unfold findB
  cases h : l.findIdx? (fun x => x == s) with
  | none =>
    rw [List.findIdx?_eq_none_iff] at h
    have : l.contains s = false := by
      rw [Bool.eq_false_iff]
      intro hc
      have hm := List.contains_iff_mem.1 hc
      simpa using h s hm
    rw [this]
    rfl
  | some i =>
    rw [List.findIdx?_eq_some_iff_getElem] at h
    obtain ⟨hi, he, _⟩ := h
    have : l.contains s = true := List.contains_iff_mem.2 (by have := eq_of_beq he; rw [← this]; exact List.getElem_mem hi)
    rw [this]
    exact decide_eq_true (Int.natCast_nonneg i)
theorem findB_le (l : List (List UInt8)) (s : List UInt8) : -1 ≤ findB l s ∧ findB l s < l.length := by
  unfold findB
  cases h : l.findIdx? (fun x => x == s) with
  | none => simp; omega
  | some i =>
    rw [List.findIdx?_eq_some_iff_getElem] at h
    obtain ⟨hi, _⟩ := h
    constructor
    · show -1 ≤ (i : Int); omega
    · show (i : Int) < _; omega

theorem impl_textIndex (l : List (List UInt8)) (s : List UInt8) (v : Value) (w : World) (h : Txts w v l) :
    Calls Tryz.prog 89 #[v, .string (str s)] w fun e w' => e = .returned (.int .i64 (findB l s)) ∧ w = w' := by
  obtain ⟨A, c, rfl, hlc, hm, HC⟩ := h.open_
  clear h
  unfold maxLen at hm
  go_enter Tryz.func89, Tryz.ntmps89
  go_wp2
  go_loop [9] (fun i => ∃ k : Nat, k ≤ l.length ∧ i = .int .i64 k ∧ Hid (∀ j (h : j < l.length), j < k → (l[j] == s) = false)) (fun i => l.length - (intOf i).toNat)
  case atStart => exact ⟨0, Nat.zero_le _, rfl, fun j h hj => absurd hj (by omega)⟩
  case round =>
    obtain ⟨k, hk, rfl, hn⟩ := hrel
    by_cases hlt : k < l.length
    · obtain ⟨b, off, rfl, _, hcell, _⟩ := HC.out k hlt
      go_wp2
      · go_ret
        exact ⟨ret_int (findB_at l s k hlt hn.out (by assumption)).symm, rfl⟩
      · have he : (l[k] == s) = false := by assumption
        go_round
        case rel => exact ⟨k + 1, by omega, by go_num, fun j h hj => by rcases Nat.lt_succ_iff_lt_or_eq.1 hj with h1 | rfl; exact hn j h h1; exact he⟩
        case measure => simp [intOf]; omega
    · go_wp2
      go_ret
      exact ⟨ret_int (findB_no l s fun j h => hn j h (by omega)).symm, rfl⟩

theorem spec_l1Find (l : List (List UInt8)) (s : List UInt8) (v : Value) (w : World) (h : Txts w v l) :
    Calls Tryz.prog 50 #[v, .string (str s)] w fun e w' => e = .returned (.int .i64 (findB l s)) ∧ w = w' := by
  obtain ⟨A, c, rfl, hlc, hm, HC⟩ := h.open_
  clear h
  unfold maxLen at hm
  go_enter Tryz.func50, Tryz.ntmps50
  go_wp2
  go_loop [5] (fun i => ∃ k : Nat, k ≤ l.length ∧ i = .int .i64 k ∧ Hid (∀ j (h : j < l.length), j < k → (l[j] == s) = false)) (fun i => l.length - (intOf i).toNat)
  case atStart => exact ⟨0, Nat.zero_le _, rfl, fun j h hj => absurd hj (by omega)⟩
  case round =>
    obtain ⟨k, hk, rfl, hn⟩ := hrel
    by_cases hlt : k < l.length
    · obtain ⟨b, off, rfl, _, hcell, _⟩ := HC.out k hlt
      go_wp2
      · go_ret
        exact ⟨ret_int (findB_at l s k hlt hn.out (by assumption)).symm, rfl⟩
      · have he : (l[k] == s) = false := by assumption
        go_round
        case rel => exact ⟨k + 1, by omega, by go_num, fun j h hj => by rcases Nat.lt_succ_iff_lt_or_eq.1 hj with h1 | rfl; exact hn j h h1; exact he⟩
        case measure => simp [intOf]; omega
    · go_wp2
      go_ret
      exact ⟨ret_int (findB_no l s fun j h => hn j h (by omega)).symm, rfl⟩

theorem impl_hasText (l : List (List UInt8)) (s : List UInt8) (v : Value) (w : World) (h : Txts w v l) :
    Calls Tryz.prog 56 #[v, .string (str s)] w fun e w' => e = .returned (.bool (hasB l s)) ∧ w = w' := by
  have hf := findB_nonneg l s
  have HF := Lib.hid hf
  clear hf
  go_enter Tryz.func56, Tryz.ntmps56
  go_wp2_with (go_at_call 89; refine (impl_textIndex l s v _ h).mono ?_; rintro e w' ⟨rfl, rfl⟩)
  go_ret
  exact ⟨ret_bool HF.out, rfl⟩

theorem spec_l1Has (l : List (List UInt8)) (s : List UInt8) (v : Value) (w : World) (h : Txts w v l) :
    Calls Tryz.prog 114 #[v, .string (str s)] w fun e w' => e = .returned (.bool (hasB l s)) ∧ w = w' := by
  have hf := findB_nonneg l s
  have HF := Lib.hid hf
  clear hf
  go_enter Tryz.func114, Tryz.ntmps114
  go_wp2_with (go_at_call 50; refine (spec_l1Find l s v _ h).mono ?_; rintro e w' ⟨rfl, rfl⟩)
  go_ret
  exact ⟨ret_bool HF.out, rfl⟩
end Go.Proofs.YtjdfancbmjnjfaaGreat
namespace Go.Proofs.YtjdfancbmjnjfaaGreat
set_option maxRecDepth 100000
open Go.ChangeShapes Go.WideShapes Go.ChangeAt Go.RowKit Go.Deep

/-- make([]T, n), n a variable -/
theorem run_mk {P : Program} (w : World) (t e : TypeId) (z : Value) (size bytes : Nat) (ht : P.underlying t = some (.slice e))
    (hi : (P.info? e).map (fun i => (i.zero, i.size, i.bytes)) = some (some z, size, bytes)) (n : Nat) (hb : bytes * n ≤ 281474976710656) (h63 : n ≤ 9223372036854775807) :
    (Instr.makeSlice t (.int .i64 n) (.int .i64 n)).run P w = .ok (.slice (some ⟨w.heap.size, 0, none⟩) n n) (w.alloc (.cells (madeCells z.cells (n * size)) e)) := by
  obtain ⟨i, h1, h2, h3, h4⟩ := info_parts hi
  have h5 : (bytes : Int) * (n : Int) ≤ 281474976710656 := by
    rw [← Int.natCast_mul]
    omega
  have := run_make (P := P) w t e i z ht h1 h2 .i64 .i64 (n : Int) (n : Int) (by omega) (by omega) (by rw [h4]; exact h5) (by omega)
  rw [this, h3, Int.toNat_natCast]

/-- block g is a row of n elements of 'size' cells each, of which the first k hold xs -/
def Fill (w : World) (g : Nat) (e : TypeId) (size n k : Nat) (xs : List Value) : Prop :=
  ∃ cur, w.heap[g]? = some (.cells cur e (0, 0)) ∧ cur.size = n * size ∧ cur.toList.take (k * size) = xs

theorem Fill.lt {w : World} {g : Nat} {e : TypeId} {size n k : Nat} {xs : List Value} (h : Fill w g e size n k xs) : g < w.heap.size := by
  obtain ⟨cur, h1, _⟩ := h
  exact (Array.getElem?_eq_some_iff.1 h1).1

theorem Fill.start (w : World) (e : TypeId) (size n : Nat) (cs : Array Value) (h : cs.size = n * size) : Fill (w.alloc (.cells cs e)) w.heap.size e size n 0 [] :=
  ⟨_, heap_alloc_new w _, h, by simp⟩

theorem Fill.keep {w w' : World} {g : Nat} {e : TypeId} {size n k : Nat} {xs : List Value} (h : Fill w g e size n k xs) (hk : w'.heap[g]? = w.heap[g]?) : Fill w' g e size n k xs := by
  obtain ⟨cur, h1, h2, h3⟩ := h
  exact ⟨cur, hk.trans h1, h2, h3⟩

theorem Fill.cell {w : World} {g : Nat} {e : TypeId} {size n k : Nat} {xs : List Value} (h : Fill w g e size n k xs) (j : Nat) (hj : j < n * size) : ∃ u, w.cell? ⟨g, j, none⟩ = some u := by
  obtain ⟨cur, h1, h2, h3⟩ := h
  exact ⟨cur[j]'(by omega), by simp [World.cell?, h1, Array.getElem?_eq_getElem (show j < cur.size by omega)]⟩

theorem Fill.frozen {w : World} {g : Nat} {e : TypeId} {size n k : Nat} {xs : List Value} (h : Fill w g e size n k xs) (j : Nat) : w.frozen? ⟨g, j, none⟩ = false := by
  obtain ⟨cur, h1, h2, h3⟩ := h
  simp [World.frozen?, h1]

/-- the cells us stored at block g from off on -/
def putCells (w : World) (g : Nat) : Nat → List Value → World
  | _, [] => w
  | off, u :: us => putCells (w.setCell ⟨g, off, none⟩ u) g (off + 1) us

theorem putCells_block (g : Nat) (e : TypeId) (us : List Value) : ∀ (w : World) (off : Nat) (cur : Array Value), w.heap[g]? = some (.cells cur e (0, 0)) → off + us.length ≤ cur.size →
    ∃ cur', (putCells w g off us).heap[g]? = some (.cells cur' e (0, 0)) ∧ cur'.size = cur.size ∧ cur'.toList = cur.toList.take off ++ us ++ cur.toList.drop (off + us.length) := by
  induction us with
  | nil => intro w off cur h _; exact ⟨cur, h, rfl, by simp⟩
  | cons u us ih =>
    intro w off cur h hl
    simp only [List.length_cons] at hl
    obtain ⟨cur', h1, h2, h3⟩ := ih (w.setCell ⟨g, off, none⟩ u) (off + 1) (cur.setIfInBounds off u) (heap_setCell_same w g off cur e u h) (by simp; omega)
    refine ⟨cur', h1, by simpa using h2, h3.trans ?_⟩
    simp only [Array.toList_setIfInBounds, List.length_cons]
    apply List.ext_getElem?
    intro i
    rcases Nat.lt_trichotomy i off with hi | hi | hi
    · rw [List.getElem?_append_left (by simp; omega), List.getElem?_append_left (by simp; omega), List.getElem?_append_left (by simp; omega), List.getElem?_append_left (by simp; omega), List.getElem?_take_of_lt (by omega), List.getElem?_take_of_lt hi, List.getElem?_set_ne (by omega)]
    · subst hi
      rw [List.getElem?_append_left (by simp; omega), List.getElem?_append_left (by simp; omega), List.getElem?_take_of_lt (by omega), List.getElem?_set_self (by simp; omega), List.getElem?_append_left (by simp; omega), List.getElem?_append_right (by simp; omega)]
      simp [List.length_take, Nat.min_eq_left (show i ≤ cur.size by omega)]
    · by_cases hi2 : i < off + 1 + us.length
      · rw [List.getElem?_append_left (by simp; omega), List.getElem?_append_right (by simp; omega), List.getElem?_append_left (by simp; omega), List.getElem?_append_right (by simp; omega)]
        simp only [List.length_take, List.length_set, Array.length_toList]
        rw [Nat.min_eq_left (by omega), Nat.min_eq_left (by omega), show i - off = (i - (off + 1)) + 1 by omega, List.getElem?_cons_succ]
      · rw [List.getElem?_append_right (by simp; omega), List.getElem?_append_right (by simp; omega)]
        simp only [List.length_append, List.length_take, List.length_set, Array.length_toList, List.length_cons, List.getElem?_drop]
        rw [Nat.min_eq_left (by omega), Nat.min_eq_left (by omega), List.getElem?_set_ne (by omega)]
        congr 1
        omega

theorem putCells_other (g : Nat) (us : List Value) : ∀ (w : World) (off b : Nat), b ≠ g → (putCells w g off us).heap[b]? = w.heap[b]? := by
  induction us with
  | nil => intro w off b _; rfl
  | cons u us ih => intro w off b hb; exact (ih _ _ _ hb).trans (Below.heap_setCell w ⟨g, off, none⟩ u b hb)

theorem putCells_size {g : Nat} (us : List Value) : ∀ (w : World) (off : Nat), (putCells w g off us).heap.size = w.heap.size := by
  induction us with
  | nil => intro w off; rfl
  | cons u us ih => intro w off; exact (ih _ _).trans (by simp [World.setCell])

theorem Fill.step {w : World} {g : Nat} {e : TypeId} {size n k : Nat} {xs : List Value} (h : Fill w g e size n k xs) (hk : k < n) (us : List Value) (hu : us.length = size) :
    Fill (putCells w g (k * size) us) g e size n (k + 1) (xs ++ us) := by
  obtain ⟨cur, h1, h2, h3⟩ := h
  have hle : k * size + size ≤ n * size := by rw [← Nat.succ_mul]; exact Nat.mul_le_mul_right size hk
  obtain ⟨cur', g1, g2, g3⟩ := putCells_block g e us w (k * size) cur h1 (by omega)
  refine ⟨cur', g1, g2.trans h2, ?_⟩
  have hlen : (xs ++ us).length = (k + 1) * size := by
    rw [← h3, List.length_append, hu, List.length_take, Array.length_toList, Nat.min_eq_left (by omega), Nat.succ_mul]
  rw [g3, h3, ← hlen, List.take_left]

theorem Fill.own {w : World} {g base : Nat} {e : TypeId} {size n : Nat} {xs : List Value} (h : Fill w g e size n n xs) (hg : base ≤ g) (hn : n ≤ maxLen) : w.ownsRow base e size (.slice (some ⟨g, 0, none⟩) n n) n xs := by
  obtain ⟨cur, h1, h2, h3⟩ := h
  refine ⟨by rw [← h3, List.length_take, Array.length_toList, h2, Nat.min_self], .inr ⟨g, n, cur, rfl, hg, h1, Nat.le_refl _, hn, h2, h3⟩⟩

theorem grown_of_below {a w : World} (h : Below a.heap.size a w) (row : Option Nat) : a.grownBy w row := ⟨h.os, h.tape, h.output, h.size, fun i hi _ => h.block i hi⟩
theorem own_below {w w' : World} {base : Nat} {e : TypeId} {size n : Nat} {v : Value} {xs : List Value} (h : w.ownsRow base e size v n xs) (hb : Below w.heap.size w w') : w'.ownsRow base e size v n xs := by
  refine ⟨h.1, ?_⟩
  rcases h.2 with hn | ⟨g, cap, cur, rfl, hb0, hg, rest⟩
  · exact .inl hn
  · exact .inr ⟨g, cap, cur, rfl, hb0, (hb.block g (Array.getElem?_eq_some_iff.1 hg).1).trans hg, rest⟩
theorem own_base {w : World} {base base' : Nat} {e : TypeId} {size n : Nat} {v : Value} {xs : List Value} (h : w.ownsRow base e size v n xs) (hb : base' ≤ base) : w.ownsRow base' e size v n xs := by
  refine ⟨h.1, ?_⟩
  rcases h.2 with hn | ⟨g, cap, cur, rfl, hb0, rest⟩
  · exact .inl hn
  · exact .inr ⟨g, cap, cur, rfl, by omega, rest⟩

theorem grown_setCell (w : World) (p : Addr) (u : Value) : w.grownBy (w.setCell p u) (some p.block) :=
  ⟨rfl, rfl, rfl, by simp [World.setCell], fun k _ hk => Below.heap_setCell w p u k (fun e => hk (by rw [e]))⟩
theorem own_setCell {w : World} {base : Nat} {e : TypeId} {size n : Nat} {v : Value} {xs : List Value} (h : w.ownsRow base e size v n xs) (p : Addr) (u : Value) (hp : p.block < base) : (w.setCell p u).ownsRow base e size v n xs := by
  refine h.kept (grown_setCell w p u) ?_
  cases hv : v.ownBlock with
  | none => exact .inl rfl
  | some k =>
    right
    intro he
    have := (h.lt k hv).1
    injection he with he
    omega

/-- the new cells of one element, laid in a new block -/
theorem news_new (w : World) (cs : Array Value) (e : TypeId) : ∀ j u, cs.toList[j]? = some u → (w.alloc (.cells cs e)).cell? ((⟨w.heap.size, 0, none⟩ : Addr).add j) = some u :=
  World.news_of_block (heap_alloc_new w (.cells cs e))

section
variable {P : Program}

/-- 'out = append(out, x)': x lies in the block that was made last -/
theorem wpList_push {ops : Array Oper} {rest : List Oper} {o : Oper} {a : Act} {Q : Exit → Act → World → Prop} (hgd : o.guard = none) (s x : Operand) (t : TypeId)
    (ho : o.op = .call { callee := .builtin .append, args := #[s, x], argTypes := #[t, t] })
    (base : Nat) (e : TypeId) (z : Value) (size bytes : Nat) (ht : P.underlying t = some (.slice e)) (hi : (P.info? e).map (fun i => (i.zero, i.size, i.bytes)) = some (some z, size, bytes)) (hzs : z.cells.size = size) (hsz : 0 < size)
    (w : World) (v : Value) (n : Nat) (xs : List Value) (cs : Array Value) (hs : a.eval s = v) (hx : a.eval x = .slice (some ⟨w.heap.size, 0, none⟩) 1 1)
    (hown : w.ownsRow base e size v n xs) (hcs : cs.size = size) (h1 : ∀ u ∈ cs.toList, u.oneCell' = true)
    (h63 : n + 1 ≤ 1099511627776) (hbytes : (n + 1) * bytes ≤ 140737488355328) (hbase : base ≤ w.heap.size)
    (h : ∀ v' w', w'.ownsRow base e size v' (n + 1) (xs ++ cs.toList) → w.grownBy w' v.ownBlock → (v'.ownBlock = v.ownBlock ∨ v'.ownBlock = some (w.heap.size + 1)) → Below base w w' → wpList P ops Q rest (a.put o.dst v') w') :
    wpList P ops Q (o :: rest) a (w.alloc (.cells cs e)) := by
  obtain ⟨i, h2, h3, h4, h5⟩ := info_parts hi
  have hbl : Below w.heap.size w (w.alloc (.cells cs e)) := (Below.refl _ _).alloc (Nat.le_refl _) _
  refine wpList_append_own_at (P := P) (w.alloc (.cells cs e)) hgd s x t ho base e i z size bytes ht h2 h3 h4 h5 hzs hsz v n xs hs (own_below hown hbl) ⟨w.heap.size, 0, none⟩ 1 1 cs.toList hx (by simpa using hcs) (news_new w cs e) h1
    (by unfold maxLen; omega) hbytes (by simp; omega) ?_
  intro v' w' g1 g2 _ g3
  have hrow : ∀ k, v.ownBlock = some k → base ≤ k := fun k hk => (hown.lt k hk).1
  refine h v' w' g1 ?_ (by simpa using g3) ((hbl.mono hbase).grown g2 (by simp; omega) hrow)
  exact (grown_of_below hbl v.ownBlock).trans g2

/-- the cells of a slice that is appended from -/
def Src (w : World) (size : Nat) (A : Option Addr) (m : Nat) (news : List Value) : Prop :=
  news.length = m * size ∧ (∀ u ∈ news, u.oneCell' = true) ∧ (0 < m → ∃ b off, A = some ⟨b, off, none⟩ ∧ At w b off news)

theorem add_plain (b off j : Nat) : (⟨b, off, none⟩ : Addr).add j = ⟨b, off + j, none⟩ := by unfold Addr.add; split <;> simp_all

/-- 'out = append(out, xs...)' -/
theorem wpList_cat {ops : Array Oper} {rest : List Oper} {o : Oper} {a : Act} {Q : Exit → Act → World → Prop} (hgd : o.guard = none) (s x : Operand) (t : TypeId)
    (ho : o.op = .call { callee := .builtin .append, args := #[s, x], argTypes := #[t, t] })
    (base : Nat) (e : TypeId) (z : Value) (size bytes : Nat) (ht : P.underlying t = some (.slice e)) (hi : (P.info? e).map (fun i => (i.zero, i.size, i.bytes)) = some (some z, size, bytes)) (hzs : z.cells.size = size) (hsz : 0 < size)
    (w : World) (v : Value) (n : Nat) (xs : List Value) (hs : a.eval s = v) (hown : w.ownsRow base e size v n xs)
    (A : Option Addr) (m c : Nat) (news : List Value) (hx : a.eval x = .slice A m c) (hsrc : Src w size A m news)
    (h63 : n + m ≤ 1099511627776) (hbytes : (n + m) * bytes ≤ 140737488355328) (hbase : base ≤ w.heap.size)
    (h : ∀ v' w', w'.ownsRow base e size v' (n + m) (xs ++ news) → w.grownBy w' v.ownBlock → (v'.ownBlock = v.ownBlock ∨ v'.ownBlock = some w.heap.size) → Below base w w' → wpList P ops Q rest (a.put o.dst v') w') :
    wpList P ops Q (o :: rest) a w := by
  obtain ⟨i, h2, h3, h4, h5⟩ := info_parts hi
  have hrow : ∀ k, v.ownBlock = some k → base ≤ k := fun k hk => (hown.lt k hk).1
  rcases A with _ | ad
  · have hm : m = 0 := by
      rcases Nat.eq_zero_or_pos m with h0 | h0
      · exact h0
      · obtain ⟨b, off, h, _⟩ := hsrc.2.2 h0
        cases h
    subst hm
    have hn : news = [] := List.eq_nil_of_length_eq_zero (by simpa using hsrc.1)
    subst hn
    have hrun : (Builtin.append_ #[t, t] o.type #[v, .slice none 0 c]).run P w = .ok v w := by
      rcases hown.2 with ⟨rfl, rfl⟩ | ⟨g, cap, cur, rfl, _, _, hnc, _⟩
      · simp [Builtin.append_, run_underlying ht, sizeOf, typeInfo, h2, Builtin.lenOf, Builtin.firstCells]
      · simp [Builtin.append_, run_underlying ht, sizeOf, typeInfo, h2, Builtin.lenOf, Builtin.firstCells, hnc, storeCells]
    refine wpList_plain hgd fun K hK => ?_
    unfold Oper.wp execOp
    simp only [ho, resolve, invoke, builtin, Sem.run_bind, Sem.run_pure, Result.andThen_ok, List.map_toArray, List.map_cons, List.map_nil, hs, hx, hrun]
    exact hK _ _ (h v w (by simpa using hown) (World.grownBy.refl w _) (.inl rfl) (Below.refl _ _))
  · refine wpList_append_own_at (P := P) w hgd s x t ho base e i z size bytes ht h2 h3 h4 h5 hzs hsz v n xs hs hown ad m c news hx hsrc.1 ?_ hsrc.2.1 (by unfold maxLen; omega) hbytes hbase ?_
    · intro j u hu
      have hj := (List.getElem?_eq_some_iff.1 hu).1
      have hm : 0 < m := by
        rcases Nat.eq_zero_or_pos m with h0 | h0
        · have h9 := hsrc.1
          rw [h0, Nat.zero_mul] at h9
          omega
        · exact h0
      obtain ⟨b, off, hA, hat⟩ := hsrc.2.2 hm
      injection hA with hA
      subst hA
      rw [add_plain]
      exact hat j u hu
    · intro v' w' g1 g2 _ g3
      exact h v' w' g1 g2 g3 ((Below.refl _ _).grown g2 hbase hrow)
end

theorem flat_split {α : Type} (f : α → List Value) (size : Nat) (l : List α) (hf : ∀ x ∈ l, (f x).length = size) (hsz : 0 < size) (j : Nat) (u : Value) (hu : (l.flatMap f)[j]? = some u) :
    ∃ k i, ∃ hk : k < l.length, i < size ∧ j = k * size + i ∧ (f l[k])[i]? = some u := by
  have hj := (List.getElem?_eq_some_iff.1 hu).1
  rw [flat_length f size l hf] at hj
  have hk : j / size < l.length := (Nat.div_lt_iff_lt_mul hsz).2 hj
  have hi : j % size < size := Nat.mod_lt _ hsz
  have he : j = (j / size) * size + j % size := by rw [Nat.mul_comm]; exact (Nat.div_add_mod j size).symm
  refine ⟨j / size, j % size, hk, hi, he, ?_⟩
  rw [← flat_at f size l hf (j / size) (j % size) hk hi, ← he]
  exact hu

/-- a slice that reads by closed cells can be appended from -/
theorem SlR.src {α : Type} {w : World} {size : Nat} {R : List Value → α → Prop} {A : Option Addr} {m c : Nat} {l : List α} (h : SlR w size R (.slice A m c) l) (f : α → List Value) (hsz : 0 < size)
    (hf : ∀ cs x, R cs x → cs = f x) (h1 : ∀ x ∈ l, ∀ u ∈ f x, u.oneCell' = true) : m = l.length ∧ Src w size A l.length (l.flatMap f) := by
  obtain ⟨A', c', hv, hn, hc, hx⟩ := h
  injection hv with e1 e2 e3
  subst e1 e2 e3
  refine ⟨rfl, ?_⟩
  have hlen : ∀ x ∈ l, (f x).length = size := by
    intro x hx'
    obtain ⟨k, hk, rfl⟩ := List.getElem_of_mem hx'
    obtain ⟨b, off, _, _, hat⟩ := hx (by omega)
    obtain ⟨cs, g1, _, g3⟩ := hat k hk
    rw [← hf _ _ g3]
    exact g1
  refine ⟨flat_length f size l hlen, ?_, ?_⟩
  · intro u hu
    obtain ⟨x, hx', hu'⟩ := List.mem_flatMap.1 hu
    exact h1 x hx' u hu'
  · intro hm
    obtain ⟨b, off, rfl, _, hat⟩ := hx hm
    refine ⟨b, off, rfl, fun j u hu => ?_⟩
    obtain ⟨k, i, hk, hi, rfl, hu'⟩ := flat_split f size l hlen hsz j u hu
    obtain ⟨cs, g1, g2, g3⟩ := hat k hk
    rw [← hf _ _ g3] at hu'
    rw [← Nat.add_assoc]
    exact g2 i u hu'

theorem Txts.src {w : World} {A : Option Addr} {m c : Nat} {l : List (List UInt8)} (h : Txts w (.slice A m c) l) : m = l.length ∧ Src w 1 A l.length (l.map fun s => Value.string (str s)) := by
  rw [map_flat]
  exact SlR.src h (fun s => [Value.string (str s)]) (by omega) (fun cs x hc => hc.1) (fun x _ u hu => by simp at hu; subst hu; rfl)
theorem Ints.src {w : World} {A : Option Addr} {m c : Nat} {l : List Int} (h : Ints w (.slice A m c) l) : m = l.length ∧ Src w 1 A l.length (l.map fun n => Value.int .i64 n) := by
  rw [map_flat]
  exact SlR.src h (fun n => [Value.int .i64 n]) (by omega) (fun cs x hc => hc.1) (fun x _ u hu => by simp at hu; subst hu; rfl)
end Go.Proofs.YtjdfancbmjnjfaaGreat
namespace Go.Proofs.YtjdfancbmjnjfaaGreat
set_option maxRecDepth 100000
open Go.ChangeShapes Go.WideShapes Go.ChangeAt Go.RowKit Go.Deep

/-- what a size function answers: what is left of 'left', or -1 -/
def szR (left : Int) (n : Nat) : Int := if (n : Int) ≤ left then left - n else -1
def szL (l : List (List UInt8)) : Nat := l.length + (l.map List.length).sum

theorem sum_take_succ (l : List (List UInt8)) (k : Nat) (h : k < l.length) : ((l.take (k + 1)).map List.length).sum = ((l.take k).map List.length).sum + l[k].length := by
  rw [List.take_succ_eq_append_getElem h, List.map_append, List.sum_append]; simp
theorem sum_take_le (l : List (List UInt8)) (k : Nat) : ((l.take k).map List.length).sum ≤ (l.map List.length).sum := by
  have h : (l.map List.length).sum = ((l.take k).map List.length).sum + ((l.drop k).map List.length).sum := by
    rw [← List.sum_append, ← List.map_append, List.take_append_drop]
  omega
theorem sum_take_all (l : List (List UInt8)) (k : Nat) (h : l.length ≤ k) : ((l.take k).map List.length).sum = (l.map List.length).sum := by
  rw [List.take_of_length_le h]

theorem laws_szStringS (l : List (List UInt8)) (v : Value) (left : Int) (w : World) (h : Txts w v l) (h0 : 0 ≤ left) (h1 : left ≤ 1048576) :
    Calls Tryz.prog 78 #[v, .int .i64 left] w fun e w' => e = .returned (.int .i64 (szR left (szL l))) ∧ w = w' := by
  obtain ⟨A, c, rfl, hlc, hm, HC⟩ := h.open_
  clear h
  unfold maxLen at hm
  by_cases hle : (l.length : Int) ≤ left
  · go_enter Tryz.func78, Tryz.ntmps78
    go_wp2
    go_loop [1, 5] (fun x i => ∃ k : Nat, k ≤ l.length ∧ i = .int .i64 k ∧ ∃ y : Int, x = .int .i64 y ∧ 0 ≤ y ∧ y ≤ 1048576 ∧ Hid (y = left - l.length - ((l.take k).map List.length).sum)) (fun _ i => l.length - (intOf i).toNat)
    case atStart => exact ⟨0, Nat.zero_le _, rfl, _, rfl, by omega, by omega, by simp [Hid]⟩
    case round =>
      obtain ⟨k, hk, rfl, y, rfl, hy0, hy1, hy⟩ := hrel
      by_cases hlt : k < l.length
      · obtain ⟨b, off, rfl, _, hcell, hsz⟩ := HC.out k hlt
        unfold maxLen at hsz
        have hs := sum_take_succ l k hlt
        have HS := Lib.hid hs
        clear hs
        go_wp2
        · go_ret
          refine ⟨ret_int ?_, rfl⟩
          have := sum_take_le l (k + 1)
          have := hy.out
          have := HS.out
          unfold szR szL
          rw [if_neg (by omega)]
        · go_round
          case rel => exact ⟨k + 1, by omega, by go_num, _, rfl, by omega, by omega, by have := hy.out; have := HS.out; show _ = _; omega⟩
          case measure => simp [intOf]; omega
      · go_wp2
        go_ret
        refine ⟨ret_int ?_, rfl⟩
        have := sum_take_all l k (by omega)
        have := hy.out
        unfold szR szL
        rw [if_pos (by omega)]
        omega
  · go_enter Tryz.func78, Tryz.ntmps78
    go_wp2
    go_ret
    refine ⟨ret_int ?_, rfl⟩
    unfold szR szL
    rw [if_neg (by omega)]

theorem szR_neg {left : Int} {n : Nat} (h : ¬ (n : Int) ≤ left) : szR left n = -1 := by unfold szR; rw [if_neg h]
theorem szR_pos {left : Int} {n : Nat} (h : (n : Int) ≤ left) : szR left n = left - n := by unfold szR; rw [if_pos h]
theorem szL_length (l : List (List UInt8)) : l.length ≤ szL l := by unfold szL; omega
theorem szL_mem (l : List (List UInt8)) (s : List UInt8) (h : s ∈ l) : s.length ≤ szL l := by
  unfold szL
  induction l with
  | nil => simp at h
  | cons x l ih =>
    simp only [List.mem_cons] at h
    simp only [List.length_cons, List.map_cons, List.sum_cons]
    rcases h with rfl | h
    · omega
    · have := ih h; omega


set_option maxHeartbeats 400000 in
theorem laws_toStringS (l : List (List UInt8)) (v : Value) (w : World) (h : Txts w v l) (hl : l.length ≤ 1048576) :
    Calls Tryz.prog 87 #[v] w fun e w' => ∃ v', e = .returned v' ∧ w'.ownsRow w.heap.size 9 1 v' l.length (l.map fun s => Value.string (str s)) ∧ Txts w' v' l ∧ Below w.heap.size w w' := by
  have hS : ∀ s ∈ l, s.length ≤ maxLen := fun s hs => by
    obtain ⟨A, c, rfl, hlc, hm, HC⟩ := h.open_
    obtain ⟨k, hk, rfl⟩ := List.getElem_of_mem hs
    obtain ⟨_, _, _, _, _, h5⟩ := HC.out k hk
    exact h5
  have HSS := Lib.hid hS
  clear hS
  obtain ⟨A, c, rfl, hlc, hm, HC⟩ := h.open_
  clear h
  unfold maxLen at hm
  have hmk := run_mk (P := Tryz.prog) w 46 9 (.string ByteArray.empty) 1 16 Tryz.underlying46 (by kernel_rfl) l.length (by omega) (by omega)
  go_enter Tryz.func87, Tryz.ntmps87
  go_wp2
  clear hmk
  go_loopw [4] (fun i wr => ∃ k : Nat, k ≤ l.length ∧ i = .int .i64 k ∧ Fill wr w.heap.size 9 1 l.length k ((l.take k).map fun s => Value.string (str s)) ∧ Below w.heap.size w wr) (fun i _ => l.length - (intOf i).toNat)
  case atStart => exact ⟨0, Nat.zero_le _, rfl, Fill.start _ _ _ _ _ (by simp [size_madeCells]), (Below.refl _ _).alloc (Nat.le_refl _) _⟩
  case round =>
    obtain ⟨k, hk, rfl, hf, hb⟩ := hrel
    by_cases hlt : k < l.length
    · obtain ⟨b, off, rfl, hbl, hcell, hsz⟩ := HC.out k hlt
      obtain ⟨u, hu⟩ := hf.cell k (by omega)
      have hfr := hf.frozen k
      have hc1 := (hb.cell (p := ⟨b, off + k, none⟩) hbl).trans hcell
      clear hcell
      go_wp2
      go_roundw
      case rel =>
        refine ⟨k + 1, by omega, by go_num, ?_, ?_⟩
        · have := hf.step hlt [.string (str l[k])] rfl
          rw [List.take_succ_eq_append_getElem hlt, List.map_append]
          simpa [putCells] using this
        · exact hb.setCell (p := ⟨w.heap.size, k, none⟩) (Nat.le_refl _) _
      case measure => simp [intOf]; omega
    · go_wp2
      go_ret
      obtain rfl : k = l.length := by omega
      rw [List.take_length] at hf
      have ho := hf.own (Nat.le_refl w.heap.size) (by unfold maxLen; omega)
      exact ⟨_, rfl, ho, Txts.of_own ho HSS.out, hb⟩

/-- both lists are one -/
def eqL {α : Type} [DecidableEq α] (l m : List α) : Bool := decide (l = m)
theorem eqL_len {α : Type} [DecidableEq α] {l m : List α} (h : l.length ≠ m.length) : eqL l m = false := by simp [eqL]; rintro rfl; exact h rfl
theorem eqL_at {α : Type} [DecidableEq α] {l m : List α} (k : Nat) (h1 : k < l.length) (h2 : k < m.length) (h : l[k] ≠ m[k]) : eqL l m = false := by simp [eqL]; rintro rfl; exact h rfl
theorem eqL_all {α : Type} [DecidableEq α] {l m : List α} (hl : l.length = m.length) (h : ∀ j (h1 : j < l.length) (h2 : j < m.length), l[j] = m[j]) : eqL l m = true := by simp [eqL]; exact List.ext_getElem hl h

set_option maxHeartbeats 400000 in
theorem laws_eqStringS (l m : List (List UInt8)) (v u : Value) (w : World) (h : Txts w v l) (h' : Txts w u m) :
    Calls Tryz.prog 99 #[v, u] w fun e w' => e = .returned (.bool (eqL l m)) ∧ ∃ n, w' = w.drewN n := by
  obtain ⟨A, c, rfl, hlc, hm, HC⟩ := h.open_
  obtain ⟨A', c', rfl, hlc', hm', HC'⟩ := h'.open_
  clear h h'
  unfold maxLen at hm hm'
  by_cases hlen : l.length = m.length
  · have hL := Lib.hid hlen
    have hb1 : ((l.length : Int) != (m.length : Int)) = false := by simp [hlen]
    have hb2 : (l.length != m.length) = false := by simp [hlen]
    have hle : l.length ≤ m.length := by omega
    clear hlen
    go_enter Tryz.func99, Tryz.ntmps99
    go_wp2
    go_loopw [5] (fun i wr => ∃ k : Nat, k ≤ l.length ∧ i = .int .i64 k ∧ Hid (∀ j (h1 : j < l.length) (h2 : j < m.length), j < k → l[j] = m[j]) ∧ ∃ n, wr = w.drewN n) (fun i _ => l.length - (intOf i).toNat)
    case atStart => exact ⟨0, Nat.zero_le _, rfl, fun j h hj _ => absurd hj (by omega), 0, rfl⟩
    case round =>
      obtain ⟨k, hk, rfl, hn, n, rfl⟩ := hrel
      by_cases hlt : k < l.length
      · obtain ⟨b, off, rfl, hbl, hcell, hsz⟩ := HC.out k hlt
        have hlt' : k < m.length := by omega
        obtain ⟨b', off', rfl, hbl', hcell', hsz'⟩ := HC'.out k hlt'
        go_wp2
        go_quiet (fail)
        go_wp2
        · go_ret
          exact ⟨ret_bool (eqL_at k hlt hlt' (by have h9 : (!l[k] == m[k]) = true := by assumption
                                                 simpa using h9)).symm, n + nq, by rw [World.drewN_drewN]⟩
        · have h9 : (!l[k] == m[k]) = false := by assumption
          go_roundw
          case rel => exact ⟨k + 1, by omega, by go_num, fun j h1 h2 hj => by rcases Nat.lt_succ_iff_lt_or_eq.1 hj with h3 | rfl; exact hn.out j h1 h2 h3; simpa using h9, _, rfl⟩
          case measure => simp [intOf]; omega
      · go_wp2
        go_ret
        exact ⟨ret_bool (eqL_all hL.out (fun j h1 h2 => hn.out j h1 h2 (by omega))).symm, _, rfl⟩
  · have hb1 : ((l.length : Int) != (m.length : Int)) = true := by simp; omega
    have hb2 : (l.length != m.length) = true := by simp; omega
    go_enter Tryz.func99, Tryz.ntmps99
    go_wp2
    go_ret
    exact ⟨ret_bool (eqL_len hlen).symm, 0, rfl⟩

/-- string([]byte{x}) -/
theorem run_conv1 {P : Program} (src dst e : TypeId) (hs : P.underlying src = some (.slice e)) (he : P.underlying e = some (.int .u8)) (hd : P.underlying dst = some .string) (w : World) (x : Int) (h0 : 0 ≤ x) (h1 : x < 256) :
    (convert src dst (.slice (some ⟨w.heap.size, 0, none⟩) 1 1)).run P (w.alloc (.cells #[.int .u8 x] e)) = .ok (.string (str [UInt8.ofNat x.toNat])) (w.alloc (.cells #[.int .u8 x] e)) := by
  refine run_convert_bytes_back (P := P) (w.alloc (.cells #[.int .u8 x] e)) src dst e ⟨w.heap.size, 0, none⟩ 1 [UInt8.ofNat x.toNat] hs he hd (fun j hj => ?_)
  have : j = 0 := by simpa using hj
  subst this
  have hg : (w.alloc (.cells #[.int .u8 x] e)).heap[w.heap.size]? = some (.cells #[.int .u8 x] e) := heap_alloc_new w _
  have e1 : (UInt8.ofNat x.toNat).toNat = x.toNat := by rw [UInt8.toNat_ofNat']; omega
  simp only [List.getElem_cons_zero, e1, Int.toNat_of_nonneg h0]
  simp [World.cell?, Addr.add]
  rw [← Array.getElem?_eq_getElem, hg]
  rfl

def digs : Nat → Nat → List UInt8 → List UInt8
  | 0, _, out => out
  | f + 1, k, out => if k = 0 then out else digs f (k / 10) (UInt8.ofNat (48 + k % 10) :: out)
def markT (k : Nat) : List UInt8 := 109 :: digs k k []

theorem digs_step (f n : Nat) (o : List UInt8) (h : 0 < n) (hf : n ≤ f) : ∃ f', n / 10 ≤ f' ∧ digs f n o = digs f' (n / 10) (UInt8.ofNat (48 + n % 10) :: o) := by
  cases f with
  | zero => omega
  | succ f => exact ⟨f, by omega, by rw [digs, if_neg (by omega)]⟩
theorem digs_zero (f : Nat) (o : List UInt8) : digs f 0 o = o := by cases f <;> simp [digs]

set_option maxHeartbeats 400000 in
theorem laws_markText (k0 : Int) (w : World) (h0 : 0 < k0) (h1 : k0 ≤ 4611686018427387904) :
    Calls Tryz.prog 108 #[.int .i64 k0] w fun e w' => e = .returned (.string (str (markT k0.toNat))) ∧ Below w.heap.size w w' := by
  obtain ⟨k, rfl⟩ := Int.eq_ofNat_of_zero_le (show 0 ≤ k0 by omega)
  rw [Int.toNat_natCast]
  have hk0 : decide (k = 0) = false := by simp; omega
  go_enter Tryz.func108, Tryz.ntmps108
  go_wp2
  go_loopw [0, 3] (fun i s wr => ∃ (n f : Nat) (o : List UInt8), i = .int .i64 n ∧ o.length + n ≤ k ∧ n ≤ f ∧ s = .string (str o) ∧ Hid (digs f n o = digs k k []) ∧ Below w.heap.size w wr) (fun i _ _ => (intOf i).toNat)
  case atStart => exact ⟨k, k, [], rfl, by simp, Nat.le_refl _, rfl, rfl, Below.refl _ _⟩
  case round =>
    obtain ⟨n, f, o, rfl, hn, hf, rfl, hd, hb⟩ := hrel
    by_cases hlt : 0 < n
    · have hcv := run_conv1 (P := Tryz.prog) 123 9 5 Tryz.underlying123 Tryz.underlying5 Tryz.underlying9 wr (48 + (n : Int) % 10) (by omega) (by omega)
      go_wp2
      go_roundw
      case rel =>
        obtain ⟨f', hf', he⟩ := digs_step f n o hlt hf
        refine ⟨n / 10, f', UInt8.ofNat (48 + n % 10) :: o, by go_num, by simp; omega, hf', ?_, ?_, hb.alloc hb.size _⟩
        · simp
        · exact he ▸ hd
      case measure => simp [intOf]; omega
    · obtain rfl : n = 0 := by omega
      go_wp2
      go_ret
      refine ⟨ret_str ?_, hb⟩
      have := hd.out
      rw [digs_zero] at this
      rw [this]
      rfl
def markL (k n : Nat) : List (List UInt8) := (List.range n).map fun i => markT (k + i)
theorem markL_length (k n : Nat) : (markL k n).length = n := by simp [markL]
theorem markL_at (k n i : Nat) (h : i < (markL k n).length) : (markL k n)[i] = markT (k + i) := by simp [markL]
theorem markL_succ (k n : Nat) : markL k (n + 1) = markL k n ++ [markT (k + n)] := by simp [markL, List.range_succ]

theorem set_mid {α : Type} (l : List α) (xs : List α) (j : Nat) (u : α) (hl : l.length = j) (hj : j < xs.length) : (l ++ xs.drop j).set j u = (l ++ [u]) ++ xs.drop (j + 1) := by
  subst hl
  rw [List.set_append_right _ _ (Nat.le_refl _), Nat.sub_self, List.drop_eq_getElem_cons hj, List.set_cons_zero]
  simp [List.append_assoc]

set_option maxHeartbeats 400000 in
theorem laws_markStringS (xs : List Value) (base n : Nat) (v : Value) (k0 : Int) (e : TypeId) (w : World) (h : w.ownsRow base e 1 v n xs) (h0 : 0 < k0) (h1 : k0 + n ≤ 4611686018427387904) :
    Calls Tryz.prog 74 #[v, .int .i64 k0] w fun e' w' => e' = .returned (.int .i64 (k0 + n)) ∧ w'.ownsRow base e 1 v n ((markL k0.toNat n).map fun s => Value.string (str s)) ∧ w.grownBy w' v.ownBlock := by
  obtain ⟨k, rfl⟩ := Int.eq_ofNat_of_zero_le (show 0 ≤ k0 by omega)
  rw [Int.toNat_natCast]
  have hl := h.1
  rcases h.2 with ⟨rfl, rfl⟩ | ⟨g, cap, cur, rfl, hb, hg, hnc, hcm, hcs, htake⟩
  · go_enter Tryz.func74, Tryz.ntmps74
    go_wp2_with fail
    go_loop [1, 5] (fun x i => i = .int .i64 0 ∧ x = .int .i64 k) (fun _ i => 0)
    case atStart => exact ⟨rfl, rfl⟩
    case round =>
      obtain ⟨rfl, rfl⟩ := hrel
      go_wp2_with fail
      go_ret
      exact ⟨ret_int (by simp), by simp [markL]; exact World.ownsRow_nil _ _ _ _, World.grownBy.refl _ _⟩
  · unfold maxLen at hcm
    have hown := Lib.hid h
    have HL := Lib.hid hl
    clear h hl htake hg hcs cur
    show Calls Tryz.prog 74 #[Value.slice (some ⟨g, 0, none⟩) n cap, Value.int IntKind.i64 ↑k] w fun e' w' => e' = Ending.returned (Value.int IntKind.i64 (↑k + ↑n)) ∧ w'.ownsRow base e 1 (Value.slice (some ⟨g, 0, none⟩) n cap) n (List.map (fun s => Value.string (str s)) (markL k n)) ∧ w.grownBy w' (some g)
    go_enter Tryz.func74, Tryz.ntmps74
    go_wp2_with fail
    go_loopw [1, 5] (fun x i wr => ∃ j : Nat, j ≤ n ∧ i = .int .i64 j ∧ x = .int .i64 (k + j : Nat) ∧ w.grownBy wr (some g) ∧ Hid (wr.ownsRow base e 1 (.slice (some ⟨g, 0, none⟩) n cap) n (((markL k j).map fun s => Value.string (str s)) ++ xs.drop j))) (fun _ i _ => n - (intOf i).toNat)
    case atStart => exact ⟨0, Nat.zero_le _, rfl, rfl, World.grownBy.refl _ _, by have := hown.out; simpa [markL, Hid] using this⟩
    case round =>
      obtain ⟨j, hj, rfl, rfl, hgr, ho⟩ := hrel
      by_cases hlt : j < n
      · go_wp2_with fail
        refine (laws_markText _ _ (by omega) (by omega)).mono ?_
        rintro e1 w1 ⟨rfl, hb1⟩
        have ho1 := Lib.hid (own_below ho.out hb1)
        have hgr1 := hgr.trans (grown_of_below hb1 (some g))
        have hfr := ho1.out.frozenAt j
        have hcl := ho1.out.cellAt j (by omega)
        obtain ⟨u, hu⟩ : ∃ u, w1.cell? ⟨g, j, none⟩ = some u := ⟨_, hcl.trans (List.getElem?_eq_getElem (by have := ho1.out.1; omega))⟩
        clear hcl ho hb1
        go_wp2_with fail
        go_roundw
        case rel =>
          obtain ⟨h2, h3⟩ := ho1.out.stored j (Value.string (str (markT ((k : Int) + j).toNat)))
          refine ⟨j + 1, by omega, by go_num, by go_num, hgr1.trans h3, ?_⟩
          rw [set_mid _ _ _ _ (by simp [markL]) (by have := HL.out; omega)] at h2
          rw [markL_succ, List.map_append]
          exact h2
        case measure => simp [intOf]; omega
      · obtain rfl : j = n := by omega
        go_wp2_with fail
        go_ret
        refine ⟨ret_int (by omega), ?_, hgr⟩
        have := ho.out
        rw [List.drop_eq_nil_of_le (by have := HL.out; omega), List.append_nil] at this
        exact this

set_option maxHeartbeats 400000 in
theorem laws_heldStringS (n : Nat) (v : Value) (k0 : Int) (w : World) (h0 : 0 < k0) (h1 : k0 + n ≤ 4611686018427387904) (h : Txts w v (markL k0.toNat n)) :
    Calls Tryz.prog 76 #[v, .int .i64 k0] w fun e' w' => e' = .returned (.int .i64 (k0 + n)) ∧ Below w.heap.size w w' := by
  obtain ⟨k, rfl⟩ := Int.eq_ofNat_of_zero_le (show 0 ≤ k0 by omega)
  rw [Int.toNat_natCast] at h
  obtain ⟨A, c, rfl, hlc, hm, HC⟩ := h.open_
  clear h
  rw [markL_length] at *
  unfold maxLen at hm
  go_enter Tryz.func76, Tryz.ntmps76
  go_wp2_with fail
  go_loopw [1, 5] (fun x i wr => ∃ j : Nat, j ≤ n ∧ i = .int .i64 j ∧ x = .int .i64 (k + j : Nat) ∧ Below w.heap.size w wr) (fun _ i _ => n - (intOf i).toNat)
  case atStart => exact ⟨0, Nat.zero_le _, rfl, rfl, Below.refl _ _⟩
  case round =>
      obtain ⟨j, hj, rfl, rfl, hb⟩ := hrel
      by_cases hlt : j < n
      · obtain ⟨b, off, rfl, hbl, hcell, hsz⟩ := HC.out j (by rw [markL_length]; exact hlt)
        rw [markL_at] at hcell
        have hc1 := (hb.cell (p := ⟨b, off + j, none⟩) hbl).trans hcell
        clear hcell hsz
        have hbl1 : b < wr.heap.size := Nat.lt_of_lt_of_le hbl hb.size
        have he : (markT (k + j) == markT ((k : Int) + j).toNat) = true := by rw [show ((k : Int) + j).toNat = k + j by omega]; simp
        go_wp2_with fail
        go_region_held3 (fun w' => w'.cell? ⟨b, off + j, none⟩ = some (.string (str (markT (k + j)))) ∧ b < w'.heap.size ∧ Below w.heap.size w w') (first | exact ⟨hc1, hbl1, hb.drew⟩ | (go_split_ands; exact ⟨(hb1.cell (p := ⟨b, off + j, none⟩) (by assumption)).trans (by assumption), Nat.lt_of_lt_of_le (by assumption) hb1.size, Below.trans (by assumption) (hb1.mono (Below.size (by assumption)))⟩)) (first | (go_at_call 108; refine (laws_markText _ _ (by omega) (by omega)).mono ?_; rintro e w' ⟨rfl, hb1⟩))
        go_wp2_with fail
        go_roundw
        case rel => exact ⟨j + 1, by omega, by go_num, by go_num, hb.drew.trans (hb1.mono hb.size)⟩
        case measure => simp [intOf]; omega
      · obtain rfl : j = n := by omega
        go_wp2_with fail
        go_ret
        exact ⟨ret_int (by omega), hb⟩

theorem eqL_self {α : Type} [DecidableEq α] (l : List α) : eqL l l = true := by simp [eqL]

theorem laws_eqStringS_same (l : List (List UInt8)) (v u : Value) (w : World) (h : Txts w v l) (h' : Txts w u l) :
    Calls Tryz.prog 99 #[v, u] w fun e w' => e = .returned (.bool true) ∧ Below w.heap.size w w' :=
  (laws_eqStringS l l v u w h h').mono fun e w' ⟨he, n, hw⟩ => ⟨by rw [he, eqL_self], by rw [hw]; exact below_quiet _ _ _⟩

theorem markT_small (k : Nat) (h : k ≤ 4611686018427387904) : (markT k).length ≤ maxLen := by
  have : ∀ f n (o : List UInt8), n ≤ f → (digs f n o).length ≤ o.length + n := by
    intro f
    induction f with
    | zero => intro n o hn; simp [digs]
    | succ f ih =>
      intro n o hn
      rw [digs]
      split
      · omega
      · have := ih (n / 10) (UInt8.ofNat (48 + n % 10) :: o) (by omega)
        rw [List.length_cons] at this
        omega
  have h1 := this k k [] (Nat.le_refl _)
  simp at h1
  simp [markT]
  unfold maxLen
  omega
theorem Txts.small {w : World} {v : Value} {l : List (List UInt8)} (h : Txts w v l) : ∀ s ∈ l, s.length ≤ maxLen := fun s hs => by
  obtain ⟨A, c, rfl, hlc, hm, HC⟩ := h.open_
  obtain ⟨k, hk, rfl⟩ := List.getElem_of_mem hs
  obtain ⟨_, _, _, _, _, h5⟩ := HC.out k hk
  exact h5

end Go.Proofs.YtjdfancbmjnjfaaGreat
namespace Go.Proofs.YtjdfancbmjnjfaaGreat
set_option maxRecDepth 100000
open Go.ChangeShapes Go.WideShapes Go.ChangeAt Go.RowKit Go.Deep
open Go.ChangeMaps (open_string shut_string)

theorem cells_int : Tryz.prog.cellsOf 3 = 1 := by kernel_rfl
theorem cells_string : Tryz.prog.cellsOf 9 = 1 := by kernel_rfl
theorem cells_bool : Tryz.prog.cellsOf 4 = 1 := by kernel_rfl

section
variable {H : Type} {enc : TypeId × Value → H} {P : Program} {w : World} {base : Nat} {spare : Nat → Bool} {held : Bool}

theorem build_list {α : Type} (n : Nat) (p : Nat → α → Prop) (h : ∀ i, i < n → ∃ x, p i x) : ∃ l : List α, l.length = n ∧ ∀ i (hi : i < l.length), p i l[i] := by
  induction n with
  | zero => exact ⟨[], rfl, fun i hi => absurd hi (by simp)⟩
  | succ n ih =>
    obtain ⟨l, hl, hp⟩ := ih (fun i hi => h i (by omega))
    obtain ⟨x, hx⟩ := h n (by omega)
    refine ⟨l ++ [x], by simp [hl], fun i hi => ?_⟩
    by_cases hi' : i < l.length
    · rw [List.getElem_append_left hi']; exact hp i hi'
    · have : i = n := by simp at hi; omega
      subst this
      rw [List.getElem_append_right (by omega)]
      simpa using hx

theorem spot_none {w : World} {a : Addr} {v : Value} (h : w.cell? a = some v) : a.spot = none := by
  unfold World.cell? at h
  split at h
  · split at h
    · cases h
    · rename_i hs; simpa using hs
  · cases h

theorem open_slr {α : Type} {t e : TypeId} {size fuel : Nat} {cs : List Value} {x : DataW H × List MemPlace} (ht : P.underlying t = some (.slice e)) (hc : P.cellsOf e = size) (hsz : 0 < size) (R : List Value → α → Prop)
    (hR : ∀ n cs d pl, n < fuel → DataW.trod enc P w base spare held n e cs = some (d, pl) → ∃ x, R cs x)
    (h : DataW.trod enc P w base spare held fuel t cs = some x) : ∃ v l, cs = [v] ∧ SlR w size R v l := by
  rcases DataW.trod_slice ht h with ⟨rfl, _⟩ | ⟨a, len, cap, elems, rest, n, hfu, rfl, rfl, hb, hl, hm, hlen, hel, hsp, hns⟩
  · exact ⟨_, [], rfl, SlR.nil_ _ _ _⟩
  · have hcell : ∀ i, i < len → ∃ y : List Value × α, y.1.length = size ∧ R y.1 y.2 ∧ ∀ j, j < size → w.cell? ((a.add (i * size)).add j) = y.1[j]? := by
      intro i hi
      have h1 := hel i hi
      rw [hc] at h1
      have hy : elems[i]? = some (elems[i]'(by omega)) := List.getElem?_eq_getElem (by omega)
      rw [hy, Option.bind_eq_some_iff] at h1
      obtain ⟨cs', h2, h3⟩ := h1
      obtain ⟨x, hx⟩ := hR n cs' (elems[i]'(by omega)).1 (elems[i]'(by omega)).2 (by omega) h3
      obtain ⟨_, h4, h5⟩ := World.cells?_some h2
      exact ⟨(cs', x), h4, hx, h5⟩
    obtain ⟨l, hl', hp⟩ := build_list len _ hcell
    refine ⟨_, l.map (·.2), rfl, some a, cap, by simp [hl'], by simp; omega, hm, fun h0 => ?_⟩
    simp at h0
    obtain ⟨b, off, spot⟩ := a
    obtain ⟨g1, g2, g3⟩ := hp 0 h0
    have h6 := g3 0 hsz
    rw [List.getElem?_eq_getElem (by omega)] at h6
    have hsn : spot = none := by
      have := spot_none h6
      simpa [Addr.add] using this
    subst hsn
    rw [add_plain, add_plain] at h6
    refine ⟨b, off, rfl, World.block_lt_of_cell? w _ h6, fun k hk => ?_⟩
    simp at hk
    obtain ⟨q1, q2, q3⟩ := hp k hk
    refine ⟨l[k].1, q1, fun j u hu => ?_, by simpa using q2⟩
    have hj : j < size := by have := (List.getElem?_eq_some_iff.1 hu).1; omega
    have := q3 j hj
    rw [add_plain, add_plain, hu] at this
    exact this

theorem open_str {t : TypeId} {n : Nat} {cs : List Value} {x : DataW H × List MemPlace} (ht : P.underlying t = some .string) (h : DataW.trod enc P w base spare held n t cs = some x) : ∃ s, StrR cs s := by
  obtain ⟨s, rfl, _, hs⟩ := DataW.trod_string ht h
  obtain ⟨l, rfl⟩ := exists_str s
  exact ⟨l, rfl, by rwa [str_size] at hs⟩
theorem i64_of_wf {n : Int} (h : (Lit.int .i64 n).wf = true) : I64 n := by
  have h' : -9223372036854775808 ≤ n ∧ n ≤ 9223372036854775807 := by simpa [Lit.wf, IntKind.min, IntKind.max, IntKind.signed, IntKind.bits] using h
  exact h'
theorem open_i64 {t : TypeId} {n : Nat} {cs : List Value} {x : DataW H × List MemPlace} (ht : P.underlying t = some (.int .i64)) (h : DataW.trod enc P w base spare held n t cs = some x) : ∃ s, IntR cs s := by
  obtain ⟨s, rfl, _, hs⟩ := DataW.trod_int ht h
  exact ⟨s, rfl, i64_of_wf hs⟩
theorem open_boo {t : TypeId} {n : Nat} {cs : List Value} {x : DataW H × List MemPlace} (ht : P.underlying t = some .bool) (h : DataW.trod enc P w base spare held n t cs = some x) : ∃ s, BoolR cs s := by
  obtain ⟨s, rfl, _⟩ := DataW.trod_bool ht h
  exact ⟨s, rfl⟩

/-- the fields of a struct, each with its own cells -/
theorem open_field {t : TypeId} {fs : Array Field} {fuel : Nat} {cs : List Value} {x : DataW H × List MemPlace} (ht : P.underlying t = some (.struct fs)) (h : DataW.trod enc P w base spare held fuel t cs = some x) :
    cs.length = P.cellsOf t ∧ ∃ n, n + 1 = fuel ∧ ∀ (j : Nat) (f : Field), fs[j]? = some f → ∃ y, DataW.trod enc P w base spare held n f.type ((cs.drop f.offset).take (P.cellsOf f.type)) = some y := by
  obtain ⟨xs, n, hn, _, hlen, hxl, hg⟩ := DataW.trod_struct ht h
  refine ⟨hlen, n, hn.symm, fun j f hj => ?_⟩
  have hjl : j < fs.size := (Array.getElem?_eq_some_iff.1 hj).1
  exact ⟨_, (hg j f hj).trans (List.getElem?_eq_getElem (by omega))⟩

end
end Go.Proofs.YtjdfancbmjnjfaaGreat
namespace Go.Proofs.YtjdfancbmjnjfaaGreat
set_option maxRecDepth 100000
open Go.ChangeShapes Go.WideShapes Go.ChangeAt Go.RowKit Go.Deep

/-- the blocks in S are as they were -/
def Keeps (S : Nat → Prop) (w w' : World) : Prop := w.heap.size ≤ w'.heap.size ∧ ∀ b, b < w.heap.size → S b → w'.heap[b]? = w.heap[b]?

theorem Keeps.refl (S : Nat → Prop) (w : World) : Keeps S w w := ⟨Nat.le_refl _, fun _ _ _ => rfl⟩
theorem Keeps.trans {S : Nat → Prop} {a b c : World} (h : Keeps S a b) (k : Keeps S b c) : Keeps S a c :=
  ⟨Nat.le_trans h.1 k.1, fun i hi hs => (k.2 i (Nat.lt_of_lt_of_le hi h.1) hs).trans (h.2 i hi hs)⟩
theorem Keeps.of_below (S : Nat → Prop) {w w' : World} (h : Below w.heap.size w w') : Keeps S w w' := ⟨h.size, fun b hb _ => h.block b hb⟩
theorem Keeps.setCell {S : Nat → Prop} (w : World) (p : Addr) (u : Value) (hp : ¬ S p.block) : Keeps S w (w.setCell p u) :=
  ⟨by simp [World.setCell], fun b _ hs => Below.heap_setCell w p u b (fun e => hp (e ▸ hs))⟩
theorem Keeps.sc {S : Nat → Prop} {a w : World} (h : Keeps S a w) {b o : Nat} (hp : ¬ S b) (u : Value) : Keeps S a (w.setCell ⟨b, o, none⟩ u) := h.trans (Keeps.setCell w ⟨b, o, none⟩ u hp)
theorem Keeps.mono {S S' : Nat → Prop} {w w' : World} (h : Keeps S w w') (hs : ∀ b, S' b → S b) : Keeps S' w w' := ⟨h.1, fun b hb hb' => h.2 b hb (hs b hb')⟩

theorem below_sc {B : Nat} {a w : World} (h : Below B a w) {b o : Nat} (hp : B ≤ b) (u : Value) : Below B a (w.setCell ⟨b, o, none⟩ u) := h.setCell (p := ⟨b, o, none⟩) hp u
theorem size_sc (w : World) (p : Addr) (u : Value) : (w.setCell p u).heap.size = w.heap.size := by simp [World.setCell]

/-- blocks from lo on, before hi -/
def Rng (lo hi : Nat) (b : Nat) : Prop := lo ≤ b ∧ b < hi

/-- a flat row of a value's own -/
def FlO (S : Nat → Prop) (w : World) (e : TypeId) (size : Nat) (v : Value) (n : Nat) (xs : List Value) : Prop :=
  w.ownsRow 0 e size v n xs ∧ ∀ k, v.ownBlock = some k → S k

theorem FlO.keeps {S : Nat → Prop} {w w' : World} {e : TypeId} {size n : Nat} {v : Value} {xs : List Value} (h : FlO S w e size v n xs) (hk : Keeps S w w') : FlO S w' e size v n xs := by
  refine ⟨⟨h.1.1, ?_⟩, h.2⟩
  rcases h.1.2 with hn | ⟨g, cap, cur, rfl, hb0, hg, rest⟩
  · exact .inl hn
  · exact .inr ⟨g, cap, cur, rfl, hb0, (hk.2 g (Array.getElem?_eq_some_iff.1 hg).1 (h.2 g rfl)).trans hg, rest⟩
theorem FlO.mono {S S' : Nat → Prop} {w : World} {e : TypeId} {size n : Nat} {v : Value} {xs : List Value} (h : FlO S w e size v n xs) (hs : ∀ b, S b → S' b) : FlO S' w e size v n xs := ⟨h.1, fun k hk => hs k (h.2 k hk)⟩
theorem FlO.of_own {w : World} {base : Nat} {e : TypeId} {size n : Nat} {v : Value} {xs : List Value} (h : w.ownsRow base e size v n xs) : FlO (Rng base w.heap.size) w e size v n xs :=
  ⟨own_base h (Nat.zero_le _), fun k hk => h.lt k hk⟩
theorem FlO.nil_ (S : Nat → Prop) (w : World) (e : TypeId) (size : Nat) : FlO S w e size (.slice none 0 0) 0 [] := ⟨World.ownsRow_nil _ _ _ _, fun k hk => by simp [Value.ownBlock] at hk⟩

/-- strings of a value's own -/
def TxtO (S : Nat → Prop) (w : World) (v : Value) (l : List (List UInt8)) : Prop := FlO S w 9 1 v l.length (l.map fun s => Value.string (str s)) ∧ ∀ s ∈ l, s.length ≤ maxLen
theorem TxtO.keeps {S : Nat → Prop} {w w' : World} {v : Value} {l : List (List UInt8)} (h : TxtO S w v l) (hk : Keeps S w w') : TxtO S w' v l := ⟨h.1.keeps hk, h.2⟩
theorem TxtO.mono {S S' : Nat → Prop} {w : World} {v : Value} {l : List (List UInt8)} (h : TxtO S w v l) (hs : ∀ b, S b → S' b) : TxtO S' w v l := ⟨h.1.mono hs, h.2⟩
theorem TxtO.read {S : Nat → Prop} {w : World} {v : Value} {l : List (List UInt8)} (h : TxtO S w v l) : Txts w v l := Txts.of_own h.1.1 h.2

/-- block g is just the cells cs -/
def Blk (w : World) (g : Nat) (t : TypeId) (cs : List Value) : Prop := w.heap[g]? = some (.cells cs.toArray t (0, 0))
theorem Blk.lt {w : World} {g : Nat} {t : TypeId} {cs : List Value} (h : Blk w g t cs) : g < w.heap.size := (Array.getElem?_eq_some_iff.1 h).1
theorem Blk.cell {w : World} {g : Nat} {t : TypeId} {cs : List Value} (h : Blk w g t cs) (j : Nat) (u : Value) (hj : cs[j]? = some u) : w.cell? ⟨g, j, none⟩ = some u := by
  unfold Blk at h
  simp [World.cell?, h, hj]
theorem Blk.frozen {w : World} {g : Nat} {t : TypeId} {cs : List Value} (h : Blk w g t cs) (j : Nat) : w.frozen? ⟨g, j, none⟩ = false := by
  unfold Blk at h
  simp [World.frozen?, h]
theorem Blk.new (w : World) (t : TypeId) (cs : List Value) : Blk (w.alloc (.cells cs.toArray t)) w.heap.size t cs := heap_alloc_new w _
theorem Blk.new_at (w : World) (t : TypeId) (cs : List Value) (g : Nat) (hg : g = w.heap.size) : Blk (w.alloc (.cells cs.toArray t)) g t cs := by
  subst hg
  exact Blk.new w t cs
theorem Blk.alloc {w : World} {g : Nat} {t : TypeId} {cs : List Value} (h : Blk w g t cs) (o : Obj) : Blk (w.alloc o) g t cs := (Below.heap_alloc w o g h.lt).trans h
theorem Blk.set_ {w : World} {g : Nat} {t : TypeId} {cs : List Value} (h : Blk w g t cs) (i : Nat) (u : Value) : Blk (w.setCell ⟨g, i, none⟩ u) g t (cs.set i u) := by
  unfold Blk at h ⊢
  rw [heap_setCell_same w g i _ t u h]
  simp
theorem Blk.below {w w' : World} {g : Nat} {t : TypeId} {cs : List Value} (h : Blk w g t cs) (hb : Below w.heap.size w w') : Blk w' g t cs := (hb.block g h.lt).trans h
theorem Blk.far {w : World} {g : Nat} {t : TypeId} {cs : List Value} (h : Blk w g t cs) (p : Addr) (hp : g ≠ p.block) (u : Value) : Blk (w.setCell p u) g t cs := (Below.heap_setCell w p u g hp).trans h

theorem laws_toStringS_own (l : List (List UInt8)) (v : Value) (w : World) (h : Txts w v l) (hl : szL l ≤ 1048576) :
    Calls Tryz.prog 87 #[v] w fun e w' => ∃ A c, e = .returned (.slice A l.length c) ∧ TxtO (Rng w.heap.size w'.heap.size) w' (.slice A l.length c) l ∧ Below w.heap.size w w' :=
  (laws_toStringS l v w h (Nat.le_trans (szL_length l) hl)).mono fun e w' ⟨v', he, ho, ht, hb⟩ => by
    obtain ⟨A, c, rfl⟩ := SlR.shape ht
    exact ⟨A, c, he, ⟨FlO.of_own ho, ht.small⟩, hb⟩

theorem laws_szStringS_b (l : List (List UInt8)) (v : Value) (left : Int) (w : World) (h : Txts w v l) (h0 : 0 ≤ left) (h1 : left ≤ 1048576) :
    Calls Tryz.prog 78 #[v, .int .i64 left] w fun e w' => e = .returned (.int .i64 (szR left (szL l))) ∧ Below w.heap.size w w' :=
  (laws_szStringS l v left w h h0 h1).mono fun _ _ ⟨he, hw⟩ => ⟨he, by rw [← hw]; exact Below.refl _ _⟩
theorem cells_slice_string : Tryz.prog.cellsOf 46 = 1 := by kernel_rfl

/-- two blocks known whole, and nothing below B has changed -/
def Ex2 (w : World) (B g t : Nat) (cs : List Value) (g' t' : Nat) (cs' : List Value) (W : World) : Prop := Blk W g t cs ∧ Blk W g' t' cs' ∧ Below B w W ∧ B ≤ W.heap.size
theorem Ex2.below {w W W' : World} {B g t g' t' : Nat} {cs cs' : List Value} (h : Ex2 w B g t cs g' t' cs' W) (hb : Below W.heap.size W W') : Ex2 w B g t cs g' t' cs' W' :=
  ⟨h.1.below hb, h.2.1.below hb, h.2.2.1.trans (hb.mono h.2.2.2), Nat.le_trans h.2.2.2 hb.size⟩
/-- some blocks known whole, and nothing below B has changed -/
def ExL (w : World) (B : Nat) (bs : List (Nat × Nat × List Value)) (W : World) : Prop := (∀ p ∈ bs, Blk W p.1 p.2.1 p.2.2) ∧ Below B w W ∧ B ≤ W.heap.size
theorem ExL.below {w W W' : World} {B : Nat} {bs : List (Nat × Nat × List Value)} (h : ExL w B bs W) (hb : Below W.heap.size W W') : ExL w B bs W' :=
  ⟨fun p hp => (h.1 p hp).below hb, h.2.1.trans (hb.mono h.2.2), Nat.le_trans h.2.2 hb.size⟩
theorem ExL.drew {w W : World} {B : Nat} {bs : List (Nat × Nat × List Value)} (h : ExL w B bs W) : ExL w B bs W.drew := ⟨h.1, h.2.1.drew, h.2.2⟩
theorem ExL.push {w W : World} {B : Nat} {bs : List (Nat × Nat × List Value)} (h : ExL w B bs W) (t : Nat) (cs : List Value) : ExL w B ((W.heap.size, t, cs) :: bs) (W.alloc (.cells cs.toArray t)) :=
  ⟨fun p hp => by
    rcases List.mem_cons.1 hp with rfl | hp
    · exact Blk.new W t cs
    · exact (h.1 p hp).alloc _, h.2.1.alloc h.2.2 _, by simp; have := h.2.2; omega⟩
theorem ExL.start (w : World) : ExL w w.heap.size [] w := ⟨fun p hp => by simp at hp, Below.refl _ _, Nat.le_refl _⟩
theorem ExL.b0 {w W : World} {B : Nat} {p : Nat × Nat × List Value} {bs : List (Nat × Nat × List Value)} (h : ExL w B (p :: bs) W) : Blk W p.1 p.2.1 p.2.2 := h.1 p (.head _)
theorem ExL.tail {w W : World} {B : Nat} {p : Nat × Nat × List Value} {bs : List (Nat × Nat × List Value)} (h : ExL w B (p :: bs) W) : ExL w B bs W := ⟨fun q hq => h.1 q (.tail _ hq), h.2⟩

/-- a call in a world of which only Q is known -/
theorem abs_w {P : Program} {f : FuncId} {args : Array Value} {W : World} {R : Ending → World → Prop} (Q : World → Prop) (hQ : Q W) (h : ∀ w', Q w' → Calls P f args w' R) : Calls P f args W R := h W hQ
end Go.Proofs.YtjdfancbmjnjfaaGreat
namespace Go.Proofs.YtjdfancbmjnjfaaGreat
set_option maxRecDepth 100000
open Go.ChangeShapes Go.WideShapes Go.ChangeAt Go.RowKit Go.Deep

/-! ### sizes -/
def szS {α : Type} (f : α → Nat) (l : List α) : Nat := l.length + (l.map f).sum
theorem szS_take_succ {α : Type} (f : α → Nat) (l : List α) (k : Nat) (h : k < l.length) : szS f (l.take (k + 1)) = szS f (l.take k) + 1 + f l[k] := by
  unfold szS
  rw [List.take_succ_eq_append_getElem h]
  simp only [List.map_append, List.length_append, List.sum_append, List.map_cons, List.map_nil, List.length_cons, List.length_nil, List.sum_cons, List.sum_nil]
  omega
theorem szS_take_le {α : Type} (f : α → Nat) (l : List α) (k : Nat) : szS f (l.take k) + (l.drop k).length ≤ szS f l := by
  unfold szS
  have h : l = l.take k ++ l.drop k := (List.take_append_drop k l).symm
  conv => rhs; rw [h]
  simp only [List.map_append, List.length_append, List.sum_append]
  omega
theorem szS_length {α : Type} (f : α → Nat) (l : List α) : l.length ≤ szS f l := by unfold szS; omega
theorem szS_at {α : Type} (f : α → Nat) (l : List α) (k : Nat) (h : k < l.length) : f l[k] ≤ szS f l := by
  have h1 := szS_take_succ f l k h
  have h2 := szS_take_le f l (k + 1)
  omega
theorem szS_zero {α : Type} (f : α → Nat) (l : List α) : szS f (l.take 0) = 0 := by simp [szS]

/-! ### ownership -/
section
variable {α : Type}

def SlO (S : Nat → Prop) (w : World) (e : TypeId) (size : Nat) (RO : (Nat → Prop) → World → List Value → α → Prop) (v : Value) (l : List α) : Prop :=
  ∃ (xss : List (List Value)) (f : Nat → Nat), xss.length = l.length ∧
    (∀ k (h1 : k < xss.length) (h2 : k < l.length), xss[k].length = size ∧ RO (fun b => S b ∧ f b = k + 1) w xss[k] l[k]) ∧
    FlO (fun b => S b ∧ f b = 0) w e size v l.length xss.flatten

theorem SlO.keeps {S : Nat → Prop} {w w' : World} {e : TypeId} {size : Nat} {RO : (Nat → Prop) → World → List Value → α → Prop} {v : Value} {l : List α}
    (hRO : ∀ {T : Nat → Prop} {cs : List Value} {x : α}, x ∈ l → RO T w cs x → Keeps T w w' → RO T w' cs x) (h : SlO S w e size RO v l) (hk : Keeps S w w') : SlO S w' e size RO v l := by
  obtain ⟨xss, f, h1, h2, h3⟩ := h
  exact ⟨xss, f, h1, fun k a b => ⟨(h2 k a b).1, hRO (List.getElem_mem b) (h2 k a b).2 (hk.mono fun _ h => h.1)⟩, h3.keeps (hk.mono fun _ h => h.1)⟩

theorem SlO.mono {S S' : Nat → Prop} {w : World} {e : TypeId} {size : Nat} {RO : (Nat → Prop) → World → List Value → α → Prop} {v : Value} {l : List α}
    (hRO : ∀ {T T' : Nat → Prop} {cs : List Value} {x : α}, x ∈ l → RO T w cs x → (∀ b, T b → T' b) → RO T' w cs x) (h : SlO S w e size RO v l) (hs : ∀ b, S b → S' b) : SlO S' w e size RO v l := by
  obtain ⟨xss, f, h1, h2, h3⟩ := h
  exact ⟨xss, f, h1, fun k a b => ⟨(h2 k a b).1, hRO (List.getElem_mem b) (h2 k a b).2 (fun b h => ⟨hs b h.1, h.2⟩)⟩, h3.mono (fun b h => ⟨hs b h.1, h.2⟩)⟩

theorem flatten_at (size : Nat) : ∀ (xss : List (List Value)), (∀ x ∈ xss, x.length = size) → ∀ (k j : Nat) (hk : k < xss.length), j < size → xss.flatten[k * size + j]? = xss[k][j]? := by
  intro xss h k j hk hj
  have := flat_at (fun x : List Value => x) size xss h k j hk hj
  rwa [List.flatMap_id'] at this

theorem SlO.read {S : Nat → Prop} {w : World} {e : TypeId} {size : Nat} {RO : (Nat → Prop) → World → List Value → α → Prop} {R : List Value → α → Prop} {v : Value} {l : List α}
    (hR : ∀ {T : Nat → Prop} {cs : List Value} {x : α}, x ∈ l → RO T w cs x → R cs x) (h : SlO S w e size RO v l) : SlR w size R v l := by
  obtain ⟨xss, f, h1, h2, h3, _⟩ := h
  rcases h3.2 with ⟨rfl, h0⟩ | ⟨g, cap, cur, rfl, hb, hg, hn, hc, hs, ht⟩
  · exact ⟨none, 0, by rw [h0], by omega, by unfold maxLen; omega, fun h => absurd h (by omega)⟩
  · refine ⟨_, cap, rfl, hn, hc, fun _ => ⟨g, 0, rfl, (Array.getElem?_eq_some_iff.1 hg).1, fun k hk => ?_⟩⟩
    obtain ⟨q1, q2⟩ := h2 k (by omega) hk
    refine ⟨xss[k]'(by omega), q1, fun j u hu => ?_, hR (List.getElem_mem hk) q2⟩
    have hj : j < size := by have := (List.getElem?_eq_some_iff.1 hu).1; omega
    have h4 := flatten_at size xss (fun x hx => by
      obtain ⟨i, hi, rfl⟩ := List.getElem_of_mem hx
      exact (h2 i hi (by omega)).1) k j (by omega) hj
    rw [hu, ← ht, List.getElem?_take] at h4
    split at h4
    · simp only [World.cell?, hg, Nat.zero_add]
      simpa using h4
    · cases h4

theorem SlO.nil_ (S : Nat → Prop) (w : World) (e : TypeId) (size : Nat) (RO : (Nat → Prop) → World → List Value → α → Prop) : SlO S w e size RO (.slice none 0 0) [] :=
  ⟨[], fun _ => 0, rfl, fun k h => absurd h (by simp), FlO.nil_ _ _ _ _⟩

/-- the first k elements are copied -/
def CopyO (w : World) (g : Nat) (e : TypeId) (size n k : Nat) (RO : (Nat → Prop) → World → List Value → α → Prop) (l : List α) : Prop :=
  ∃ (xss : List (List Value)) (f : Nat → Nat), xss.length = k ∧ Fill w g e size n k xss.flatten ∧
    ∀ j (h1 : j < xss.length) (h2 : j < l.length), xss[j].length = size ∧ RO (fun b => Rng (g + 1) w.heap.size b ∧ f b = j + 1) w xss[j] l[j]

theorem CopyO.start (w : World) (e : TypeId) (size n : Nat) (RO : (Nat → Prop) → World → List Value → α → Prop) (l : List α) (cs : Array Value) (h : cs.size = n * size) : CopyO (w.alloc (.cells cs e)) w.heap.size e size n 0 RO l :=
  ⟨[], fun _ => 0, rfl, Fill.start w e size n cs h, fun j h => absurd h (by simp)⟩

theorem CopyO.step {w w1 : World} {g : Nat} {e : TypeId} {size n k : Nat} {RO : (Nat → Prop) → World → List Value → α → Prop} {l : List α}
    (hRK : ∀ {T : Nat → Prop} {w w' : World} {cs : List Value} {x : α}, x ∈ l → RO T w cs x → Keeps T w w' → RO T w' cs x)
    (hRM : ∀ {T T' : Nat → Prop} {w : World} {cs : List Value} {x : α}, x ∈ l → RO T w cs x → (∀ b, T b → T' b) → RO T' w cs x)
    (h : CopyO w g e size n k RO l) (hb : Below w.heap.size w w1) (hk : k < n) (hl : k < l.length) (cs : List Value) (hcs : cs.length = size)
    (hx : RO (Rng w.heap.size w1.heap.size) w1 cs l[k]) : CopyO (putCells w1 g (k * size) cs) g e size n (k + 1) RO l := by
  obtain ⟨xss, f, h1, h2, h3⟩ := h
  have hg := h2.lt
  have hf1 := h2.keep (hb.block g hg)
  have hsz : (putCells w1 g (k * size) cs).heap.size = w1.heap.size := putCells_size cs w1 _
  have hkp : ∀ T : Nat → Prop, ¬ T g → Keeps T w1 (putCells w1 g (k * size) cs) := fun T hT => ⟨by rw [hsz]; exact Nat.le_refl _, fun b _ hT' => putCells_other g cs w1 _ b (fun e => hT (e ▸ hT'))⟩
  refine ⟨xss ++ [cs], fun b => if b < w.heap.size then f b else k + 1, by simp [h1], ?_, fun j a b => ?_⟩
  · have := hf1.step hk cs hcs
    rw [List.flatten_append]
    simpa using this
  · by_cases hj : j < k
    · rw [List.getElem_append_left (by omega)]
      obtain ⟨q1, q2⟩ := h3 j (by omega) b
      refine ⟨q1, hRM (List.getElem_mem b) (hRK (List.getElem_mem b) (hRK (List.getElem_mem b) q2 (Keeps.of_below _ hb)) (hkp _ (fun h => by have := h.1.1; omega))) (fun x hx => ?_)⟩
      obtain ⟨⟨y1, y2⟩, y3⟩ := hx
      exact ⟨⟨y1, by rw [hsz]; exact Nat.lt_of_lt_of_le y2 hb.size⟩, by dsimp only; rw [if_pos y2]; exact y3⟩
    · have : j = k := by simp at a; omega
      subst this
      rw [List.getElem_append_right (by omega)]
      simp only [h1, Nat.sub_self, List.getElem_cons_zero]
      refine ⟨hcs, hRM (List.getElem_mem b) (hRK (List.getElem_mem b) hx (hkp _ (fun h => by have := h.1; omega))) (fun x hx => ?_)⟩
      obtain ⟨y1, y2⟩ := hx
      exact ⟨⟨by omega, by rw [hsz]; exact y2⟩, by rw [if_neg (by omega)]⟩

theorem CopyO.own {w : World} {g : Nat} {e : TypeId} {size : Nat} {RO : (Nat → Prop) → World → List Value → α → Prop} {l : List α}
    (hRM : ∀ {T T' : Nat → Prop} {w : World} {cs : List Value} {x : α}, x ∈ l → RO T w cs x → (∀ b, T b → T' b) → RO T' w cs x)
    (h : CopyO w g e size l.length l.length RO l) (hn : l.length ≤ maxLen) : SlO (Rng g w.heap.size) w e size RO (.slice (some ⟨g, 0, none⟩) l.length l.length) l := by
  obtain ⟨xss, f, h1, h2, h3⟩ := h
  have hg := h2.lt
  refine ⟨xss, fun b => if b = g then 0 else f b, h1, fun k a b => ?_, h2.own (Nat.zero_le _) hn, fun k hk => ?_⟩
  · obtain ⟨q1, q2⟩ := h3 k a b
    refine ⟨q1, hRM (List.getElem_mem b) q2 (fun x hx => ?_)⟩
    obtain ⟨⟨y1, y2⟩, y3⟩ := hx
    exact ⟨⟨by omega, y2⟩, by dsimp only; rw [if_neg (by omega)]; exact y3⟩
  · simp only [Value.ownBlock, Option.some.injEq] at hk
    subst hk
    exact ⟨⟨Nat.le_refl _, hg⟩, by dsimp only; rw [if_pos rfl]⟩
end
end Go.Proofs.YtjdfancbmjnjfaaGreat
