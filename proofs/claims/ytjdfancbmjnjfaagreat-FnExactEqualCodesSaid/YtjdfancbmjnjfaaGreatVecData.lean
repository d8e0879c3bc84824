/-
  Vectors: a tree of parts. What they read as (n: a bound on the depth), owned copies, and the contracts' statements for the laws' helpers on them.
-/
import Derived.Test.YtjdfancbmjnjfaaGreatGItem
namespace Go.Proofs.YtjdfancbmjnjfaaGreat
set_option maxRecDepth 100000
open Go.ChangeShapes Go.WideShapes Go.ChangeAt Go.RowKit Go.Deep

inductive VecD where
  | mk (kind : Int) (items : List ItemD) (parts : List VecD) (names cls levels : List (List UInt8)) (code env : Int)

def VecD.kind : VecD → Int | .mk k _ _ _ _ _ _ _ => k
def VecD.items : VecD → List ItemD | .mk _ i _ _ _ _ _ _ => i
def VecD.parts : VecD → List VecD | .mk _ _ p _ _ _ _ _ => p
def VecD.names : VecD → List (List UInt8) | .mk _ _ _ n _ _ _ _ => n
def VecD.cls : VecD → List (List UInt8) | .mk _ _ _ _ c _ _ _ => c
def VecD.levels : VecD → List (List UInt8) | .mk _ _ _ _ _ l _ _ => l
def VecD.code : VecD → Int | .mk _ _ _ _ _ _ c _ => c
def VecD.env : VecD → Int | .mk _ _ _ _ _ _ _ e => e

mutual
def szVector : VecD → Nat
  | .mk _ i p n c l _ _ => szS szItem i + szVs p + szL n + szL c + szL l
def szVs : List VecD → Nat
  | [] => 0
  | d :: l => 1 + szVector d + szVs l
end
theorem szVs_eq (l : List VecD) : szVs l = szS szVector l := by
  induction l with
  | nil => rfl
  | cons d l ih => rw [szVs, ih]; simp [szS]; omega
theorem szVector_eq (d : VecD) : szVector d = szS szItem d.items + szS szVector d.parts + szL d.names + szL d.cls + szL d.levels := by
  cases d with
  | mk k i p n c l co en => rw [szVector, szVs_eq]; rfl

def VectorR : Nat → World → List Value → VecD → Prop
  | 0, _, _, _ => False
  | n + 1, w, cs, d => ∃ v1 v2 v3 v4 v5, cs = [.int .i64 d.kind, v1, v2, v3, v4, v5, .int .i64 d.code, .int .i64 d.env] ∧ I64 d.kind ∧ Items w v1 d.items ∧ SlR w 8 (VectorR n w) v2 d.parts ∧ Txts w v3 d.names ∧ Txts w v4 d.cls ∧ Txts w v5 d.levels ∧ I64 d.code ∧ I64 d.env
def Vectors (n : Nat) (w : World) (v : Value) (l : List VecD) : Prop := SlR w 8 (VectorR n w) v l

theorem VectorR.below {n : Nat} : ∀ {w w' : World} {cs : List Value} {d : VecD}, VectorR n w cs d → Below w.heap.size w w' → VectorR n w' cs d := by
  induction n with
  | zero => intro w w' cs d h; exact h.elim
  | succ n ih =>
    intro w w' cs d h hb
    obtain ⟨v1, v2, v3, v4, v5, rfl, h0, h1, h2, h3, h4, h5, h6, h7⟩ := h
    exact ⟨v1, v2, v3, v4, v5, rfl, h0, h1.below hb, SlR.below h2 hb (fun _ _ h => ih h hb), h3.below hb, h4.below hb, h5.below hb, h6, h7⟩
theorem Vectors.below {n : Nat} {w w' : World} {v : Value} {l : List VecD} (h : Vectors n w v l) (hb : Below w.heap.size w w') : Vectors n w' v l := SlR.below h hb (fun _ _ h => h.below hb)
theorem VectorR.shape {n : Nat} {w : World} {cs : List Value} {d : VecD} (h : VectorR n w cs d) : ∃ v1 v2 v3 v4 v5, cs = [.int .i64 d.kind, v1, v2, v3, v4, v5, .int .i64 d.code, .int .i64 d.env] := by
  cases n with
  | zero => exact h.elim
  | succ n =>
    obtain ⟨v1, v2, v3, v4, v5, rfl, _⟩ := h
    exact ⟨v1, v2, v3, v4, v5, rfl⟩
theorem VectorR.length {n : Nat} {w : World} {cs : List Value} {d : VecD} (h : VectorR n w cs d) : cs.length = 8 := by
  obtain ⟨v1, v2, v3, v4, v5, rfl⟩ := h.shape
  rfl
theorem VectorR.succ {n : Nat} : ∀ {w : World} {cs : List Value} {d : VecD}, VectorR n w cs d → VectorR (n + 1) w cs d := by
  induction n with
  | zero => intro w cs d h; exact h.elim
  | succ n ih =>
    intro w cs d h
    obtain ⟨v1, v2, v3, v4, v5, rfl, h0, h1, h2, h3⟩ := h
    exact ⟨v1, v2, v3, v4, v5, rfl, h0, h1, SlR.below h2 (Below.refl _ _) (fun _ _ h => ih h), h3⟩
theorem VectorR.le {n m : Nat} {w : World} {cs : List Value} {d : VecD} (h : VectorR n w cs d) (hm : n ≤ m) : VectorR m w cs d := by
  induction hm with
  | refl => exact h
  | step _ ih => exact ih.succ

/-- the vector's slices lie in blocks of its own, in S -/
def VectorO : Nat → (Nat → Prop) → World → List Value → VecD → Prop
  | 0, _, _, _, _ => False
  | n + 1, S, w, cs, d => ∃ (A1 : Option Addr) (c1 : Nat) (A2 : Option Addr) (c2 : Nat) (A3 : Option Addr) (c3 : Nat) (A4 : Option Addr) (c4 : Nat) (A5 : Option Addr) (c5 : Nat), ∃ f : Nat → Nat,
      cs = [.int .i64 d.kind, .slice A1 d.items.length c1, .slice A2 d.parts.length c2, .slice A3 d.names.length c3, .slice A4 d.cls.length c4, .slice A5 d.levels.length c5, .int .i64 d.code, .int .i64 d.env] ∧ I64 d.kind ∧
      ItemsO (fun b => S b ∧ f b = 1) w (.slice A1 d.items.length c1) d.items ∧ SlO (fun b => S b ∧ f b = 2) w 61 8 (VectorO n) (.slice A2 d.parts.length c2) d.parts ∧
      TxtO (fun b => S b ∧ f b = 3) w (.slice A3 d.names.length c3) d.names ∧ TxtO (fun b => S b ∧ f b = 4) w (.slice A4 d.cls.length c4) d.cls ∧ TxtO (fun b => S b ∧ f b = 5) w (.slice A5 d.levels.length c5) d.levels ∧ I64 d.code ∧ I64 d.env
def VectorsO (n : Nat) (S : Nat → Prop) (w : World) (v : Value) (l : List VecD) : Prop := SlO S w 61 8 (VectorO n) v l

theorem VectorO.read {n : Nat} : ∀ {S : Nat → Prop} {w : World} {cs : List Value} {d : VecD}, VectorO n S w cs d → VectorR n w cs d := by
  induction n with
  | zero => intro S w cs d h; exact h.elim
  | succ n ih =>
    intro S w cs d h
    obtain ⟨A1, c1, A2, c2, A3, c3, A4, c4, A5, c5, f, rfl, h0, h1, h2, h3, h4, h5, h6, h7⟩ := h
    exact ⟨_, _, _, _, _, rfl, h0, h1.read, SlO.read (fun _ h => ih h) h2, h3.read, h4.read, h5.read, h6, h7⟩
theorem VectorsO.read {n : Nat} {S : Nat → Prop} {w : World} {v : Value} {l : List VecD} (h : VectorsO n S w v l) : Vectors n w v l := SlO.read (fun _ h => h.read) h
theorem VectorO.keeps {n : Nat} : ∀ {S : Nat → Prop} {w w' : World} {cs : List Value} {d : VecD}, VectorO n S w cs d → Keeps S w w' → VectorO n S w' cs d := by
  induction n with
  | zero => intro S w w' cs d h; exact h.elim
  | succ n ih =>
    intro S w w' cs d h hk
    obtain ⟨A1, c1, A2, c2, A3, c3, A4, c4, A5, c5, f, rfl, h0, h1, h2, h3, h4, h5, h6, h7⟩ := h
    exact ⟨A1, c1, A2, c2, A3, c3, A4, c4, A5, c5, f, rfl, h0, h1.keeps (hk.mono fun _ h => h.1), SlO.keeps (fun _ h k => ih h k) h2 (hk.mono fun _ h => h.1), h3.keeps (hk.mono fun _ h => h.1), h4.keeps (hk.mono fun _ h => h.1), h5.keeps (hk.mono fun _ h => h.1), h6, h7⟩
theorem VectorsO.keeps {n : Nat} {S : Nat → Prop} {w w' : World} {v : Value} {l : List VecD} (h : VectorsO n S w v l) (hk : Keeps S w w') : VectorsO n S w' v l := SlO.keeps (fun _ h k => h.keeps k) h hk
theorem VectorO.mono {n : Nat} : ∀ {S S' : Nat → Prop} {w : World} {cs : List Value} {d : VecD}, VectorO n S w cs d → (∀ b, S b → S' b) → VectorO n S' w cs d := by
  induction n with
  | zero => intro S S' w cs d h; exact h.elim
  | succ n ih =>
    intro S S' w cs d h hs
    obtain ⟨A1, c1, A2, c2, A3, c3, A4, c4, A5, c5, f, rfl, h0, h1, h2, h3, h4, h5, h6, h7⟩ := h
    exact ⟨A1, c1, A2, c2, A3, c3, A4, c4, A5, c5, f, rfl, h0, h1.mono (fun b h => ⟨hs b h.1, h.2⟩), SlO.mono (fun _ h k => ih h k) h2 (fun b h => ⟨hs b h.1, h.2⟩), h3.mono (fun b h => ⟨hs b h.1, h.2⟩), h4.mono (fun b h => ⟨hs b h.1, h.2⟩), h5.mono (fun b h => ⟨hs b h.1, h.2⟩), h6, h7⟩
theorem VectorsO.mono {n : Nat} {S S' : Nat → Prop} {w : World} {v : Value} {l : List VecD} (h : VectorsO n S w v l) (hs : ∀ b, S b → S' b) : VectorsO n S' w v l := SlO.mono (fun _ h k => h.mono k) h hs
theorem VectorO.shape {n : Nat} {S : Nat → Prop} {w : World} {cs : List Value} {d : VecD} (h : VectorO n S w cs d) : ∃ (A1 : Option Addr) (c1 : Nat) (A2 : Option Addr) (c2 : Nat) (A3 : Option Addr) (c3 : Nat) (A4 : Option Addr) (c4 : Nat) (A5 : Option Addr) (c5 : Nat), cs = [.int .i64 d.kind, .slice A1 d.items.length c1, .slice A2 d.parts.length c2, .slice A3 d.names.length c3, .slice A4 d.cls.length c4, .slice A5 d.levels.length c5, .int .i64 d.code, .int .i64 d.env] := by
  cases n with
  | zero => exact h.elim
  | succ n =>
    obtain ⟨A1, c1, A2, c2, A3, c3, A4, c4, A5, c5, f, rfl, _⟩ := h
    exact ⟨A1, c1, A2, c2, A3, c3, A4, c4, A5, c5, rfl⟩
theorem VectorO.length {n : Nat} {S : Nat → Prop} {w : World} {cs : List Value} {d : VecD} (h : VectorO n S w cs d) : cs.length = 8 := h.read.length

def RetVector (n : Nat) (w : World) (d : VecD) (e : Ending) (w' : World) : Prop := ∃ cs, e = .returned (.agg cs.toArray) ∧ VectorO n (Rng w.heap.size w'.heap.size) w' cs d ∧ Below w.heap.size w w'

def SzVectorC (n : Nat) : Prop := ∀ (d : VecD) (cs : List Value) (left : Int) (w : World), VectorR n w cs d → 0 ≤ left → left ≤ 1048576 →
    Calls Tryz.prog 132 #[.agg cs.toArray, .int .i64 left] w fun e w' => e = .returned (.int .i64 (szR left (szVector d))) ∧ Below w.heap.size w w'
def SzVectorsC (n : Nat) : Prop := ∀ (l : List VecD) (v : Value) (left : Int) (w : World), Vectors n w v l → 0 ≤ left → left ≤ 1048576 →
    Calls Tryz.prog 142 #[v, .int .i64 left] w fun e w' => e = .returned (.int .i64 (szR left (szS szVector l))) ∧ Below w.heap.size w w'
def ToVectorC (n : Nat) : Prop := ∀ (d : VecD) (cs : List Value) (w : World), VectorR n w cs d → szVector d ≤ 1048576 → Calls Tryz.prog 137 #[.agg cs.toArray] w (RetVector n w d)
def ToVectorsC (n : Nat) : Prop := ∀ (l : List VecD) (v : Value) (w : World), Vectors n w v l → szS szVector l ≤ 1048576 →
    Calls Tryz.prog 145 #[v] w fun e w' => ∃ A c, e = .returned (.slice A l.length c) ∧ VectorsO n (Rng w.heap.size w'.heap.size) w' (.slice A l.length c) l ∧ Below w.heap.size w w'
def EqVectorC (n : Nat) : Prop := ∀ (d : VecD) (cs cs' : List Value) (w : World), VectorR n w cs d → VectorR n w cs' d →
    Calls Tryz.prog 140 #[.agg cs.toArray, .agg cs'.toArray] w fun e w' => e = .returned (.bool true) ∧ Below w.heap.size w w'
def EqVectorsC (n : Nat) : Prop := ∀ (l : List VecD) (v u : Value) (w : World), Vectors n w v l → Vectors n w u l →
    Calls Tryz.prog 152 #[v, u] w fun e w' => e = .returned (.bool true) ∧ Below w.heap.size w w'
end Go.Proofs.YtjdfancbmjnjfaaGreat
