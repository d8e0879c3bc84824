/-
  Words for memory and strings that all later texts of this seat use: a slice that reads as a list of cells, strings as lists of bytes, and the last step of a law's row.
-/
import Derived.Test.YtconhpilbndpkaaProg
import Derived.KernelRfl
import Derived.WalkKit
import Derived.WalkSpells
import Derived.WalkLawsBesides
import Derived.ProofKit
import Derived.OpenShut
import Derived.ShutString
import Derived.Lib.Hide
import Derived.Deep.QuietTactic
import Derived.BigQuiet
import Derived.Deep.LoopGhost
import Derived.Deep.Draws
import Derived.Deep.Slices
import Derived.Deep.Fields
import Derived.ChangeSame
namespace Go.Proofs.Ytconhpilbndpkaa
set_option maxRecDepth 100000
open Go.ChangeShapes Go.WideShapes Go.ChangeAt Go.RowKit Go.Deep
open Go.ChangeMaps (open_string shut_string)

theorem own : ownKnob Try.prog.godebug = none := by kernel_rfl
theorem laidOut : laidOutB Try.prog = true := by kernel_rfl

/-! ### Strings as lists of bytes -/

def str (l : List UInt8) : ByteArray := ⟨l.toArray⟩
theorem str_toList (l : List UInt8) : (str l).toList = l := by rw [ByteArray.toList_eq]; simp [str]
theorem str_size (l : List UInt8) : (str l).size = l.length := by simp [str, ByteArray.size]
theorem str_append (a b : List UInt8) : str a ++ str b = str (a ++ b) := by apply ByteArray.ext; simp [str]
theorem str_append_lit (a : List UInt8) (d : Array UInt8) : str a ++ ⟨d⟩ = str (a ++ d.toList) := by apply ByteArray.ext; simp [str]
theorem lit_append_str (a : List UInt8) (d : Array UInt8) : (⟨d⟩ : ByteArray) ++ str a = str (d.toList ++ a) := by apply ByteArray.ext; simp [str]
theorem lit_str (d : Array UInt8) : (⟨d⟩ : ByteArray) = str d.toList := by simp [str]
theorem exists_str (s : ByteArray) : ∃ l, s = str l := ⟨s.data.toList, by simp [str]⟩
attribute [go_sem] str_toList str_size str_append str_append_lit lit_append_str

theorem ret_int {k : IntKind} {a b : Int} (h : a = b) : Ending.returned (.int k a) = .returned (.int k b) := by rw [h]
theorem ret_bool {a b : Bool} (h : a = b) : Ending.returned (.bool a) = .returned (.bool b) := by rw [h]
theorem ret_str {a b : List UInt8} (h : a = b) : Ending.returned (.string (str a)) = .returned (.string (str b)) := by rw [h]

/-! ### Cells -/

/-- the cells xs lie at block b from off on -/
def At (w : World) (b off : Nat) (xs : List Value) : Prop := ∀ j u, xs[j]? = some u → w.cell? ⟨b, off + j, none⟩ = some u

theorem At.keep {w w' : World} {b off : Nat} {xs : List Value} (h : At w b off xs) (hk : w'.heap[b]? = w.heap[b]?) : At w' b off xs :=
  fun j u hu => (World.cell?_of_block (a := ⟨b, off + j, none⟩) hk).trans (h j u hu)

/-- v is a slice whose elements, of 'size' cells each, read by R as l -/
def SlR {α : Type} (w : World) (size : Nat) (R : List Value → α → Prop) (v : Value) (l : List α) : Prop :=
  ∃ A c, v = .slice A l.length c ∧ l.length ≤ c ∧ c ≤ maxLen ∧
    (0 < l.length → ∃ b off, A = some ⟨b, off, none⟩ ∧ b < w.heap.size ∧ ∀ k (h : k < l.length), ∃ cs, cs.length = size ∧ At w b (off + k * size) cs ∧ R cs l[k])

theorem SlR.below {α : Type} {w w' : World} {size : Nat} {R R' : List Value → α → Prop} {v : Value} {l : List α} (h : SlR w size R v l) (hb : Below w.heap.size w w') (hR : ∀ cs x, R cs x → R' cs x) : SlR w' size R' v l := by
  obtain ⟨A, c, rfl, hn, hc, hx⟩ := h
  refine ⟨A, c, rfl, hn, hc, fun h0 => ?_⟩
  obtain ⟨b, off, rfl, hlt, hat⟩ := hx h0
  refine ⟨b, off, rfl, Nat.lt_of_lt_of_le hlt hb.size, fun k hk => ?_⟩
  obtain ⟨cs, h1, h2, h3⟩ := hat k hk
  exact ⟨cs, h1, h2.keep (hb.block b hlt), hR _ _ h3⟩

theorem SlR.length_le {α : Type} {w : World} {size : Nat} {R : List Value → α → Prop} {v : Value} {l : List α} (h : SlR w size R v l) : l.length ≤ maxLen := by
  obtain ⟨A, c, rfl, hn, hc, hx⟩ := h
  omega

theorem SlR.shape {α : Type} {w : World} {size : Nat} {R : List Value → α → Prop} {v : Value} {l : List α} (h : SlR w size R v l) : ∃ A c, v = .slice A l.length c := by
  obtain ⟨A, c, rfl, _⟩ := h
  exact ⟨A, c, rfl⟩

/-- what a walk needs of it -/
theorem SlR.open_ {α : Type} {w : World} {size : Nat} {R : List Value → α → Prop} {v : Value} {l : List α} (h : SlR w size R v l) : ∃ A c, v = .slice A l.length c ∧ l.length ≤ c ∧ c ≤ maxLen ∧
    Hid (∀ k (hk : k < l.length), ∃ b off cs, A = some ⟨b, off, none⟩ ∧ b < w.heap.size ∧ cs.length = size ∧ At w b (off + k * size) cs ∧ R cs l[k]) := by
  obtain ⟨A, c, rfl, hn, hc, hx⟩ := h
  refine ⟨A, c, rfl, hn, hc, fun k hk => ?_⟩
  obtain ⟨b, off, rfl, hlt, hat⟩ := hx (by omega)
  obtain ⟨cs, h1, h2, h3⟩ := hat k hk
  exact ⟨b, off, cs, rfl, hlt, h1, h2, h3⟩

theorem flat_at {α : Type} (f : α → List Value) (size : Nat) : ∀ (l : List α), (∀ x ∈ l, (f x).length = size) → ∀ (k j : Nat) (hk : k < l.length), j < size → (l.flatMap f)[k * size + j]? = (f l[k])[j]? := by
  intro l
  induction l with
  | nil => intro _ k j hk; simp at hk
  | cons x l ih =>
    intro hs k j hk hj
    have hx := hs x (by simp)
    rw [List.flatMap_cons]
    cases k with
    | zero => simp only [Nat.zero_mul, Nat.zero_add, List.getElem_cons_zero]; rw [List.getElem?_append_left (by omega)]
    | succ k =>
      rw [List.getElem?_append_right (by rw [hx, Nat.succ_mul]; omega), hx, show (k + 1) * size + j - size = k * size + j by rw [Nat.succ_mul]; omega]
      simpa using ih (fun y hy => hs y (by simp [hy])) k j (by simpa using hk) hj

theorem map_flat {α β : Type} (f : α → β) (l : List α) : l.map f = l.flatMap fun x => [f x] := by induction l <;> simp_all

theorem flat_length {α : Type} (f : α → List Value) (size : Nat) (l : List α) (h : ∀ x ∈ l, (f x).length = size) : (l.flatMap f).length = l.length * size := by
  induction l with
  | nil => simp
  | cons x l ih => rw [List.flatMap_cons, List.length_append, h x (by simp), ih (fun y hy => h y (by simp [hy])), List.length_cons, Nat.succ_mul]; omega

theorem SlR.of_own {α : Type} {w : World} {base : Nat} {e : TypeId} {size n : Nat} {v : Value} {xs : List Value} {R : List Value → α → Prop} (f : α → List Value) (l : List α)
    (h : w.ownsRow base e size v n xs) (hn : l.length = n) (hxs : xs = l.flatMap f) (hf : ∀ x ∈ l, (f x).length = size ∧ R (f x) x) : SlR w size R v l := by
  subst hn hxs
  rcases h.2 with ⟨rfl, h0⟩ | ⟨g, cap, cur, rfl, hb, hg, hn, hc, hs, ht⟩
  · exact ⟨none, 0, by rw [h0], by omega, by unfold maxLen; omega, fun h1 => absurd h1 (by omega)⟩
  · refine ⟨_, cap, rfl, hn, hc, fun _ => ⟨g, 0, rfl, (Array.getElem?_eq_some_iff.1 hg).1, fun k hk => ⟨f l[k], (hf _ (List.getElem_mem hk)).1, fun j u hu => ?_, (hf _ (List.getElem_mem hk)).2⟩⟩⟩
    have hj : j < size := by
      have := (List.getElem?_eq_some_iff.1 hu).1
      rw [(hf _ (List.getElem_mem hk)).1] at this
      exact this
    have h1 : (l.flatMap f)[k * size + j]? = some u := by rw [flat_at f size l (fun x hx => (hf x hx).1) k j hk hj]; exact hu
    rw [← ht, List.getElem?_take] at h1
    split at h1
    · simp only [World.cell?, hg, Nat.zero_add]
      simpa using h1
    · cases h1

theorem SlR.nil_ {α : Type} (w : World) (size : Nat) (R : List Value → α → Prop) : SlR w size R (.slice none 0 0) [] := ⟨none, 0, rfl, Nat.le_refl _, by unfold maxLen; omega, fun h => absurd h (by simp)⟩

def I64 (n : Int) : Prop := -9223372036854775808 ≤ n ∧ n ≤ 9223372036854775807
def StrR (cs : List Value) (s : List UInt8) : Prop := cs = [.string (str s)] ∧ s.length ≤ maxLen
def IntR (cs : List Value) (n : Int) : Prop := cs = [.int .i64 n] ∧ I64 n
def BoolR (cs : List Value) (b : Bool) : Prop := cs = [.bool b]

/-- v is a slice of strings that reads as l -/
def Txts (w : World) (v : Value) (l : List (List UInt8)) : Prop := SlR w 1 StrR v l
def Ints (w : World) (v : Value) (l : List Int) : Prop := SlR w 1 IntR v l
def Bools (w : World) (v : Value) (l : List Bool) : Prop := SlR w 1 BoolR v l

theorem Txts.below {w w' : World} {v : Value} {l : List (List UInt8)} (h : Txts w v l) (hb : Below w.heap.size w w') : Txts w' v l := SlR.below h hb (fun _ _ h => h)
theorem Txts.drewN {w : World} {v : Value} {l : List (List UInt8)} (h : Txts w v l) (k : Nat) : Txts (w.drewN k) v l := h
theorem Ints.below {w w' : World} {v : Value} {l : List Int} (h : Ints w v l) (hb : Below w.heap.size w w') : Ints w' v l := SlR.below h hb (fun _ _ h => h)
theorem Ints.drewN {w : World} {v : Value} {l : List Int} (h : Ints w v l) (k : Nat) : Ints (w.drewN k) v l := h
theorem Bools.below {w w' : World} {v : Value} {l : List Bool} (h : Bools w v l) (hb : Below w.heap.size w w') : Bools w' v l := SlR.below h hb (fun _ _ h => h)

theorem Txts.open_ {w : World} {v : Value} {l : List (List UInt8)} (h : Txts w v l) : ∃ A c, v = .slice A l.length c ∧ l.length ≤ c ∧ c ≤ maxLen ∧
    Hid (∀ k (hk : k < l.length), ∃ b off, A = some ⟨b, off, none⟩ ∧ b < w.heap.size ∧ w.cell? ⟨b, off + k, none⟩ = some (.string (str l[k])) ∧ l[k].length ≤ maxLen) := by
  obtain ⟨A, c, rfl, hn, hc, hx⟩ := SlR.open_ h
  refine ⟨A, c, rfl, hn, hc, fun k hk => ?_⟩
  obtain ⟨b, off, cs, rfl, hlt, _, hat, rfl, hl⟩ := hx.out k hk
  exact ⟨b, off, rfl, hlt, by simpa using hat 0 _ rfl, hl⟩
theorem Ints.open_ {w : World} {v : Value} {l : List Int} (h : Ints w v l) : ∃ A c, v = .slice A l.length c ∧ l.length ≤ c ∧ c ≤ maxLen ∧
    Hid (∀ k (hk : k < l.length), ∃ b off, A = some ⟨b, off, none⟩ ∧ b < w.heap.size ∧ w.cell? ⟨b, off + k, none⟩ = some (.int .i64 l[k]) ∧ -9223372036854775808 ≤ l[k] ∧ l[k] ≤ 9223372036854775807) := by
  obtain ⟨A, c, rfl, hn, hc, hx⟩ := SlR.open_ h
  refine ⟨A, c, rfl, hn, hc, fun k hk => ?_⟩
  obtain ⟨b, off, cs, rfl, hlt, _, hat, rfl, hl⟩ := hx.out k hk
  exact ⟨b, off, rfl, hlt, by simpa using hat 0 _ rfl, hl⟩

theorem Txts.of_own {w : World} {base : Nat} {e : TypeId} {v : Value} {l : List (List UInt8)} (h : w.ownsRow base e 1 v l.length (l.map fun s => Value.string (str s))) (hs : ∀ s ∈ l, s.length ≤ maxLen) : Txts w v l :=
  SlR.of_own (fun s => [Value.string (str s)]) l h rfl (map_flat _ l) (fun x hx => ⟨rfl, rfl, hs x hx⟩)
theorem Ints.of_own {w : World} {base : Nat} {e : TypeId} {v : Value} {l : List Int} (h : w.ownsRow base e 1 v l.length (l.map fun n => Value.int .i64 n)) (hs : ∀ n ∈ l, I64 n) : Ints w v l :=
  SlR.of_own (fun n => [Value.int .i64 n]) l h rfl (map_flat _ l) (fun x hx => ⟨rfl, rfl, hs x hx⟩)

theorem owns_new (w : World) (e : TypeId) (size n : Nat) (cs : Array Value) (cap : Nat) (xs : List Value) (hx : xs.length = n * size) (h1 : n ≤ cap) (h2 : cap ≤ maxLen) (h3 : cs.size = cap * size) (h4 : cs.toList.take (n * size) = xs) :
    (w.alloc (.cells cs e)).ownsRow w.heap.size e size (.slice (some ⟨w.heap.size, 0, none⟩) n cap) n xs :=
  ⟨hx, .inr ⟨w.heap.size, cap, cs, rfl, Nat.le_refl _, heap_alloc_new w _, h1, h2, h3, h4⟩⟩

theorem txts_new (w : World) (e : TypeId) (l : List (List UInt8)) (cs : Array Value) (hcs : cs = (l.map fun s => Value.string (str s)).toArray) (h2 : l.length ≤ maxLen) (hs : ∀ s ∈ l, s.length ≤ maxLen) :
    Txts (w.alloc (.cells cs e)) (.slice (some ⟨w.heap.size, 0, none⟩) l.length l.length) l := by
  subst hcs
  exact Txts.of_own (owns_new w e 1 l.length _ l.length _ (by simp) (Nat.le_refl _) h2 (by simp) (by simp [List.take_of_length_le])) hs

theorem below_drewN {B : Nat} {a w : World} (h : Below B a w) (n : Nat) : Below B a (w.drewN n) := ⟨h.os, h.tape, h.output, h.size, h.block⟩
theorem below_quiet (B : Nat) (w : World) (n : Nat) : Below B w (w.drewN n) := below_drewN (Below.refl _ _) n

/-! ### The last step of a law's row -/
section
variable {H : Type} {enc : TypeId × Value → H} {P : Program}

theorem trodAll_stays (hl : laidOutB P = true) {W W' : World} (hb : Below W.heap.size W W') : ∀ {ts : List TypeId} {vs : List Value} {ds : List (DataW H)} {ps : List MemPlace},
    DataW.TrodAll enc P W 0 (fun _ => true) true ts vs ds ps → (∀ t ∈ ts, P.readableRec t = true ∧ t < P.types.size) → (∀ x ∈ ps, x.block < W.heap.size) →
    ∀ sp : Nat → Bool, (∀ p ∈ ps, sp p.block = true) → DataW.TrodAll enc P W' 0 sp true ts vs ds ps := by
  intro ts
  induction ts with
  | nil =>
    intro vs ds ps h _ _ sp _
    obtain ⟨rfl, rfl, rfl⟩ := trodAll_nil h
    exact trodAll_mk0
  | cons t ts ih =>
    intro vs ds ps h hr hlt sp hsp
    cases vs with
    | nil => exact absurd h (by simp [DataW.TrodAll])
    | cons v vs =>
      obtain ⟨v0, vs0, d0, ds0, p0, q0, hv, rfl, rfl, h0, r0⟩ := trodAll_cons h
      injection hv with e1 e2
      subst e1 e2
      refine trodAll_cons_mk (WideElems.Trod_stays hl (hr t (by simp)).1 (hr t (by simp)).2 h0 (fun x hx => hb.same (hlt x (by simp [hx]))) (fun x hx => hsp x (by simp [hx]))) ?_
      exact ih r0 (fun t' ht' => hr t' (by simp [ht'])) (fun x hx => hlt x (by simp [hx])) sp (fun x hx => hsp x (by simp [hx]))

/-- a law's post: it returns true, nothing that was there has changed -/
theorem law_post {f : Func} {s : ChangeSpec} {tb : TypeId} {apart fresh handsOn again : Bool} {W W' : World} {args : Array Value} {ds : List (DataW H)} {before : List MemPlace}
    (hl : laidOutB P = true) (hW : DataW.Whole enc P f.params.toList s.vars apart W args.toList ds [] before) (hvars : s.vars = [])
    (hrt : f.resultTypes = #[tb]) (htb : P.underlying tb = some .bool)
    (hs1 : (s.fn H (ds ++ [])).results = [.lit (.bool true)]) (hs2 : (s.fn H (ds ++ [])).args = ds) (hs3 : (s.fn H (ds ++ [])).vars = [])
    (hr : ∀ t ∈ f.params.toList, P.readableRec t = true ∧ t < P.types.size) (hb : Below W.heap.size W W') :
    s.post enc P f apart fresh handsOn again W args (.bool true) W' := by
  have hlt : ∀ p ∈ before, p.block < W.heap.size := fun p hp => hW.lt p hp
  have hold : ∀ p ∈ before, (fun b => decide (b < W.heap.size)) p.block = true := fun p hp => by simpa using hlt p hp
  have hres : ∀ (b : Nat) (sp : Nat → Bool) (hd : Bool), DataW.TrodAll enc P W' b sp hd f.resultTypes.toList ((Value.bool true).resultList f.resultTypes.size) (s.fn H (ds ++ [])).results [] := by
    intro b sp hd
    rw [hrt, hs1]
    exact trodAll_cons_mk (shut_bool htb true) trodAll_mk0
  have hW0 := hW
  obtain ⟨p, q, hA, hV, rfl, hz, hn⟩ := hW
  rw [hvars] at hV
  obtain ⟨-, rfl⟩ := trodVars_none hV
  simp only [List.append_nil] at hlt hold hz hn hW0
  have hargs : ∀ sp : Nat → Bool, (∀ x ∈ p, sp x.block = true) → DataW.TrodAll enc P W' 0 sp true f.params.toList args.toList (s.fn H (ds ++ [])).args p := by
    intro sp hsp
    rw [hs2]
    exact trodAll_stays hl hb hA hr hlt sp hsp
  have hvs : ∀ sp : Nat → Bool, DataW.TrodVars enc P W' sp s.vars (s.fn H (ds ++ [])).vars [] := by
    intro sp
    rw [hvars, hs3]
    rfl
  refine ⟨ds, [], p, [], p, [], hW0, hres _ _ _, hargs _ hold, hvs _, World.keptBut_mono (fun x hx => ⟨hx, Or.inr (Or.inl hx)⟩) (hb.frame (· ∈ p)), fun _ => ?_⟩
  refine ⟨ok_one hrt rfl (okWide_bool_mk htb true), _, _, ([] ++ p) ++ [], ⟨[] ++ p, [], trodAll_append (hargs _ (fun _ _ => rfl)) (hres _ _ _), hvs _, rfl, ?_, ?_⟩, ?_⟩
  · intro b off hp
    have hin : MemPlace.cell b off ∈ p := by simpa using hp
    rw [hb.frozen (hlt _ hin)]
    exact hz b off hin
  · intro ha
    simpa using hn ha
  · intro x hx _
    simpa using hx
end
end Go.Proofs.Ytconhpilbndpkaa
