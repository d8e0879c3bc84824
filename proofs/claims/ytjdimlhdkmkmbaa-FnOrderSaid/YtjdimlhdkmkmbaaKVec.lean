/-
  Merged texts: GItem, VecData, GVector, VecAll.
-/
import Derived.Test.YtjdimlhdkmkmbaaKBase
namespace Go.Proofs.Ytjdimlhdkmkmbaa
set_option maxRecDepth 100000
set_option maxRecDepth 100000
open Go.ChangeShapes Go.WideShapes Go.ChangeAt Go.RowKit Go.Deep

structure ItemD where
  num : Int
  den : Int
  text : List UInt8

/-- the cells of a Item -/
def ItemR (_ : World) (cs : List Value) (d : ItemD) : Prop :=
  cs = [.int .i64 d.num, .int .i64 d.den, .string (str d.text)] ∧ I64 d.num ∧ I64 d.den ∧ d.text.length ≤ maxLen
theorem ItemR.below {w w' : World} {cs : List Value} {d : ItemD} (h : ItemR w cs d) (_hb : Below w.heap.size w w') : ItemR w' cs d := by
  obtain ⟨rfl, h0, h1, h2⟩ := h
  exact ⟨rfl, h0, h1, h2⟩
/-- the cells of a Item whose slices lie in blocks of its own, in S -/
def ItemO (_ : Nat → Prop) (_ : World) (cs : List Value) (d : ItemD) : Prop :=
  cs = [.int .i64 d.num, .int .i64 d.den, .string (str d.text)] ∧ I64 d.num ∧ I64 d.den ∧ d.text.length ≤ maxLen
theorem ItemO.read {S : Nat → Prop} {w : World} {cs : List Value} {d : ItemD} (h : ItemO S w cs d) : ItemR w cs d := by
  obtain ⟨rfl, h0, h1, h2⟩ := h
  exact ⟨rfl, h0, h1, h2⟩
theorem ItemO.keeps {S : Nat → Prop} {w w' : World} {cs : List Value} {d : ItemD} (h : ItemO S w cs d) (_hk : Keeps S w w') : ItemO S w' cs d := by
  obtain ⟨rfl, h0, h1, h2⟩ := h
  exact ⟨rfl, h0, h1, h2⟩
theorem ItemO.mono {S S' : Nat → Prop} {w : World} {cs : List Value} {d : ItemD} (h : ItemO S w cs d) (_hs : ∀ b, S b → S' b) : ItemO S' w cs d := by
  obtain ⟨rfl, h0, h1, h2⟩ := h
  exact ⟨rfl, h0, h1, h2⟩
def szItem (d : ItemD) : Nat := d.text.length

def Items (w : World) (v : Value) (l : List ItemD) : Prop := SlR w 3 (ItemR w) v l
theorem Items.below {w w' : World} {v : Value} {l : List ItemD} (h : Items w v l) (hb : Below w.heap.size w w') : Items w' v l := SlR.below h hb (fun _ _ h => h.below hb)
def ItemsO (S : Nat → Prop) (w : World) (v : Value) (l : List ItemD) : Prop := SlO S w 36 3 ItemO v l
theorem ItemsO.read {S : Nat → Prop} {w : World} {v : Value} {l : List ItemD} (h : ItemsO S w v l) : Items w v l := SlO.read (fun _ h => h.read) h
theorem ItemsO.keeps {S : Nat → Prop} {w w' : World} {v : Value} {l : List ItemD} (h : ItemsO S w v l) (hk : Keeps S w w') : ItemsO S w' v l := SlO.keeps (fun _ h k => h.keeps k) h hk
theorem ItemsO.mono {S S' : Nat → Prop} {w : World} {v : Value} {l : List ItemD} (h : ItemsO S w v l) (hs : ∀ b, S b → S' b) : ItemsO S' w v l := SlO.mono (fun _ h k => h.mono k) h hs
theorem info_Item : (Try.prog.info? 36).map (fun i => (i.zero, i.size, i.bytes)) = some (some (.agg #[.int .i64 0, .int .i64 0, .string ByteArray.empty]), 3, 32) := by kernel_rfl
end Go.Proofs.Ytjdimlhdkmkmbaa
namespace Go.Proofs.Ytjdimlhdkmkmbaa
set_option maxRecDepth 100000
open Go.ChangeShapes Go.WideShapes Go.ChangeAt Go.RowKit Go.Deep

inductive VecD where
  | mk (kind : Int) (items : List ItemD) (parts : List VecD) (names cls levels : List (List UInt8)) (code env : Int)

def VecD.kind : VecD → Int | .mk k _ _ _ _ _ _ _ => k
def VecD.items : VecD → List ItemD | .mk _ i _ _ _ _ _ _ => i
def VecD.parts : VecD → List VecD | .mk _ _ p _ _ _ _ _ => p
def VecD.names : VecD → List (List UInt8) | .mk _ _ _ n _ _ _ _ => n
def VecD.cls : VecD → List (List UInt8) | .mk _ _ _ _ c _ _ _ => c
def VecD.levels : VecD → List (List UInt8) | .mk _ _ _ _ _ l _ _ => l
def VecD.code : VecD → Int | .mk _ _ _ _ _ _ c _ => c
def VecD.env : VecD → Int | .mk _ _ _ _ _ _ _ e => e

mutual
def szVector : VecD → Nat
  | .mk _ i p n c l _ _ => szS szItem i + szVs p + szL n + szL c + szL l
def szVs : List VecD → Nat
  | [] => 0
  | d :: l => 1 + szVector d + szVs l
end
theorem szVs_eq (l : List VecD) : szVs l = szS szVector l := by
  induction l with
  | nil => rfl
  | cons d l ih => rw [szVs, ih]; simp [szS]; omega
theorem szVector_eq (d : VecD) : szVector d = szS szItem d.items + szS szVector d.parts + szL d.names + szL d.cls + szL d.levels := by
  cases d with
  | mk k i p n c l co en => rw [szVector, szVs_eq]; rfl

def VectorR : Nat → World → List Value → VecD → Prop
  | 0, _, _, _ => False
  | n + 1, w, cs, d => ∃ v1 v2 v3 v4 v5, cs = [.int .i64 d.kind, v1, v2, v3, v4, v5, .int .i64 d.code, .int .i64 d.env] ∧ I64 d.kind ∧ Items w v1 d.items ∧ SlR w 8 (VectorR n w) v2 d.parts ∧ Txts w v3 d.names ∧ Txts w v4 d.cls ∧ Txts w v5 d.levels ∧ I64 d.code ∧ I64 d.env
def Vectors (n : Nat) (w : World) (v : Value) (l : List VecD) : Prop := SlR w 8 (VectorR n w) v l

theorem VectorR.below {n : Nat} : ∀ {w w' : World} {cs : List Value} {d : VecD}, VectorR n w cs d → Below w.heap.size w w' → VectorR n w' cs d := by
  induction n with
  | zero => intro w w' cs d h; exact h.elim
  | succ n ih =>
    intro w w' cs d h hb
    obtain ⟨v1, v2, v3, v4, v5, rfl, h0, h1, h2, h3, h4, h5, h6, h7⟩ := h
    exact ⟨v1, v2, v3, v4, v5, rfl, h0, h1.below hb, SlR.below h2 hb (fun _ _ h => ih h hb), h3.below hb, h4.below hb, h5.below hb, h6, h7⟩
theorem VectorR.shape {n : Nat} {w : World} {cs : List Value} {d : VecD} (h : VectorR n w cs d) : ∃ v1 v2 v3 v4 v5, cs = [.int .i64 d.kind, v1, v2, v3, v4, v5, .int .i64 d.code, .int .i64 d.env] := by
  cases n with
  | zero => exact h.elim
  | succ n =>
    obtain ⟨v1, v2, v3, v4, v5, rfl, _⟩ := h
    exact ⟨v1, v2, v3, v4, v5, rfl⟩
theorem VectorR.length {n : Nat} {w : World} {cs : List Value} {d : VecD} (h : VectorR n w cs d) : cs.length = 8 := by
  obtain ⟨v1, v2, v3, v4, v5, rfl⟩ := h.shape
  rfl
theorem VectorR.succ {n : Nat} : ∀ {w : World} {cs : List Value} {d : VecD}, VectorR n w cs d → VectorR (n + 1) w cs d := by
  induction n with
  | zero => intro w cs d h; exact h.elim
  | succ n ih =>
    intro w cs d h
    obtain ⟨v1, v2, v3, v4, v5, rfl, h0, h1, h2, h3⟩ := h
    exact ⟨v1, v2, v3, v4, v5, rfl, h0, h1, SlR.below h2 (Below.refl _ _) (fun _ _ h => ih h), h3⟩
theorem VectorR.le {n m : Nat} {w : World} {cs : List Value} {d : VecD} (h : VectorR n w cs d) (hm : n ≤ m) : VectorR m w cs d := by
  induction hm with
  | refl => exact h
  | step _ ih => exact ih.succ

/-- the vector's slices lie in blocks of its own, in S -/
def VectorO : Nat → (Nat → Prop) → World → List Value → VecD → Prop
  | 0, _, _, _, _ => False
  | n + 1, S, w, cs, d => ∃ (A1 : Option Addr) (c1 : Nat) (A2 : Option Addr) (c2 : Nat) (A3 : Option Addr) (c3 : Nat) (A4 : Option Addr) (c4 : Nat) (A5 : Option Addr) (c5 : Nat), ∃ f : Nat → Nat,
      cs = [.int .i64 d.kind, .slice A1 d.items.length c1, .slice A2 d.parts.length c2, .slice A3 d.names.length c3, .slice A4 d.cls.length c4, .slice A5 d.levels.length c5, .int .i64 d.code, .int .i64 d.env] ∧ I64 d.kind ∧
      ItemsO (fun b => S b ∧ f b = 1) w (.slice A1 d.items.length c1) d.items ∧ SlO (fun b => S b ∧ f b = 2) w 28 8 (VectorO n) (.slice A2 d.parts.length c2) d.parts ∧
      TxtO (fun b => S b ∧ f b = 3) w (.slice A3 d.names.length c3) d.names ∧ TxtO (fun b => S b ∧ f b = 4) w (.slice A4 d.cls.length c4) d.cls ∧ TxtO (fun b => S b ∧ f b = 5) w (.slice A5 d.levels.length c5) d.levels ∧ I64 d.code ∧ I64 d.env
def VectorsO (n : Nat) (S : Nat → Prop) (w : World) (v : Value) (l : List VecD) : Prop := SlO S w 28 8 (VectorO n) v l

theorem VectorO.read {n : Nat} : ∀ {S : Nat → Prop} {w : World} {cs : List Value} {d : VecD}, VectorO n S w cs d → VectorR n w cs d := by
  induction n with
  | zero => intro S w cs d h; exact h.elim
  | succ n ih =>
    intro S w cs d h
    obtain ⟨A1, c1, A2, c2, A3, c3, A4, c4, A5, c5, f, rfl, h0, h1, h2, h3, h4, h5, h6, h7⟩ := h
    exact ⟨_, _, _, _, _, rfl, h0, h1.read, SlO.read (fun _ h => ih h) h2, h3.read, h4.read, h5.read, h6, h7⟩
theorem VectorO.keeps {n : Nat} : ∀ {S : Nat → Prop} {w w' : World} {cs : List Value} {d : VecD}, VectorO n S w cs d → Keeps S w w' → VectorO n S w' cs d := by
  induction n with
  | zero => intro S w w' cs d h; exact h.elim
  | succ n ih =>
    intro S w w' cs d h hk
    obtain ⟨A1, c1, A2, c2, A3, c3, A4, c4, A5, c5, f, rfl, h0, h1, h2, h3, h4, h5, h6, h7⟩ := h
    exact ⟨A1, c1, A2, c2, A3, c3, A4, c4, A5, c5, f, rfl, h0, h1.keeps (hk.mono fun _ h => h.1), SlO.keeps (fun _ h k => ih h k) h2 (hk.mono fun _ h => h.1), h3.keeps (hk.mono fun _ h => h.1), h4.keeps (hk.mono fun _ h => h.1), h5.keeps (hk.mono fun _ h => h.1), h6, h7⟩
theorem VectorsO.keeps {n : Nat} {S : Nat → Prop} {w w' : World} {v : Value} {l : List VecD} (h : VectorsO n S w v l) (hk : Keeps S w w') : VectorsO n S w' v l := SlO.keeps (fun _ h k => h.keeps k) h hk
theorem VectorO.mono {n : Nat} : ∀ {S S' : Nat → Prop} {w : World} {cs : List Value} {d : VecD}, VectorO n S w cs d → (∀ b, S b → S' b) → VectorO n S' w cs d := by
  induction n with
  | zero => intro S S' w cs d h; exact h.elim
  | succ n ih =>
    intro S S' w cs d h hs
    obtain ⟨A1, c1, A2, c2, A3, c3, A4, c4, A5, c5, f, rfl, h0, h1, h2, h3, h4, h5, h6, h7⟩ := h
    exact ⟨A1, c1, A2, c2, A3, c3, A4, c4, A5, c5, f, rfl, h0, h1.mono (fun b h => ⟨hs b h.1, h.2⟩), SlO.mono (fun _ h k => ih h k) h2 (fun b h => ⟨hs b h.1, h.2⟩), h3.mono (fun b h => ⟨hs b h.1, h.2⟩), h4.mono (fun b h => ⟨hs b h.1, h.2⟩), h5.mono (fun b h => ⟨hs b h.1, h.2⟩), h6, h7⟩
theorem VectorsO.mono {n : Nat} {S S' : Nat → Prop} {w : World} {v : Value} {l : List VecD} (h : VectorsO n S w v l) (hs : ∀ b, S b → S' b) : VectorsO n S' w v l := SlO.mono (fun _ h k => h.mono k) h hs
theorem VectorO.shape {n : Nat} {S : Nat → Prop} {w : World} {cs : List Value} {d : VecD} (h : VectorO n S w cs d) : ∃ (A1 : Option Addr) (c1 : Nat) (A2 : Option Addr) (c2 : Nat) (A3 : Option Addr) (c3 : Nat) (A4 : Option Addr) (c4 : Nat) (A5 : Option Addr) (c5 : Nat), cs = [.int .i64 d.kind, .slice A1 d.items.length c1, .slice A2 d.parts.length c2, .slice A3 d.names.length c3, .slice A4 d.cls.length c4, .slice A5 d.levels.length c5, .int .i64 d.code, .int .i64 d.env] := by
  cases n with
  | zero => exact h.elim
  | succ n =>
    obtain ⟨A1, c1, A2, c2, A3, c3, A4, c4, A5, c5, f, rfl, _⟩ := h
    exact ⟨A1, c1, A2, c2, A3, c3, A4, c4, A5, c5, rfl⟩
theorem VectorO.length {n : Nat} {S : Nat → Prop} {w : World} {cs : List Value} {d : VecD} (h : VectorO n S w cs d) : cs.length = 8 := h.read.length

def RetVector (n : Nat) (w : World) (d : VecD) (e : Ending) (w' : World) : Prop := ∃ cs, e = .returned (.agg cs.toArray) ∧ VectorO n (Rng w.heap.size w'.heap.size) w' cs d ∧ Below w.heap.size w w'

end Go.Proofs.Ytjdimlhdkmkmbaa
namespace Go.Proofs.Ytjdimlhdkmkmbaa
set_option maxRecDepth 100000
open Go.ChangeShapes Go.WideShapes Go.ChangeAt Go.RowKit Go.Deep

theorem info_Vector : (Try.prog.info? 28).map (fun i => (i.zero, i.size, i.bytes)) = some (some (.agg #[.int .i64 0, .slice none 0 0, .slice none 0 0, .slice none 0 0, .slice none 0 0, .slice none 0 0, .int .i64 0, .int .i64 0]), 8, 144) := by kernel_rfl
end Go.Proofs.Ytjdimlhdkmkmbaa
namespace Go.Proofs.Ytjdimlhdkmkmbaa
set_option maxRecDepth 100000
open Go.ChangeShapes Go.WideShapes Go.ChangeAt Go.RowKit Go.Deep

def VecR (w : World) (cs : List Value) (d : VecD) : Prop := ∃ n, VectorR n w cs d
def VecO (S : Nat → Prop) (w : World) (cs : List Value) (d : VecD) : Prop := ∃ n, VectorO n S w cs d
theorem VecR.below {w w' : World} {cs : List Value} {d : VecD} (h : VecR w cs d) (hb : Below w.heap.size w w') : VecR w' cs d := by
  obtain ⟨n, h⟩ := h
  exact ⟨n, h.below hb⟩
theorem VecR.shape {w : World} {cs : List Value} {d : VecD} (h : VecR w cs d) : ∃ v1 v2 v3 v4 v5, cs = [.int .i64 d.kind, v1, v2, v3, v4, v5, .int .i64 d.code, .int .i64 d.env] := by
  obtain ⟨n, h⟩ := h
  exact h.shape
theorem VecR.length {w : World} {cs : List Value} {d : VecD} (h : VecR w cs d) : cs.length = 8 := by
  obtain ⟨n, h⟩ := h
  exact h.length
theorem VecO.read {S : Nat → Prop} {w : World} {cs : List Value} {d : VecD} (h : VecO S w cs d) : VecR w cs d := by
  obtain ⟨n, h⟩ := h
  exact ⟨n, h.read⟩
theorem VecO.keeps {S : Nat → Prop} {w w' : World} {cs : List Value} {d : VecD} (h : VecO S w cs d) (hk : Keeps S w w') : VecO S w' cs d := by
  obtain ⟨n, h⟩ := h
  exact ⟨n, h.keeps hk⟩
theorem VecO.mono {S S' : Nat → Prop} {w : World} {cs : List Value} {d : VecD} (h : VecO S w cs d) (hs : ∀ b, S b → S' b) : VecO S' w cs d := by
  obtain ⟨n, h⟩ := h
  exact ⟨n, h.mono hs⟩
theorem VecO.shape {S : Nat → Prop} {w : World} {cs : List Value} {d : VecD} (h : VecO S w cs d) : ∃ (A1 : Option Addr) (c1 : Nat) (A2 : Option Addr) (c2 : Nat) (A3 : Option Addr) (c3 : Nat) (A4 : Option Addr) (c4 : Nat) (A5 : Option Addr) (c5 : Nat), cs = [.int .i64 d.kind, .slice A1 d.items.length c1, .slice A2 d.parts.length c2, .slice A3 d.names.length c3, .slice A4 d.cls.length c4, .slice A5 d.levels.length c5, .int .i64 d.code, .int .i64 d.env] := by
  obtain ⟨n, h⟩ := h
  exact h.shape
theorem VecO.length {S : Nat → Prop} {w : World} {cs : List Value} {d : VecD} (h : VecO S w cs d) : cs.length = 8 := h.read.length

def RetVec (w : World) (d : VecD) (e : Ending) (w' : World) : Prop := ∃ cs, e = .returned (.agg cs.toArray) ∧ VecO (Rng w.heap.size w'.heap.size) w' cs d ∧ Below w.heap.size w w'
end Go.Proofs.Ytjdimlhdkmkmbaa
