/-
  Merged texts: VmVec, VmOld, VmNum, VmSub, VmWhich.
-/
import Derived.Test.YtjdimlhdkmkmbaaVmTi
import Derived.Test.YtjdimlhdkmkmbaaDrawTwo
import Derived.Test.YtjdimlhdkmkmbaaKInh
import Derived.Test.YtjdimlhdkmkmbaaKCol
import Derived.Test.YtjdimlhdkmkmbaaAttrC
import Derived.Test.YtjdimlhdkmkmbaaVmC
namespace Go.Proofs.Ytjdimlhdkmkmbaa
set_option maxRecDepth 100000
set_option maxRecDepth 100000
open Go.ChangeShapes Go.WideShapes Go.ChangeAt Go.RowKit Go.Deep Go.Proofs.Ytjdimlhdkmkmbaa.Vm
set_option linter.unusedVariables false

def itK (x : ItemD) : List C := [.i .i64 x.num, .i .i64 x.den, .s x.text]
def txK (s : List UInt8) : List C := [.s s]
def inK (n : Int) : List C := [.i .i64 n]
def byK (b : Nat) : List C := [.i .u8 b]
mutual
def vK : VecD → List C
  | .mk k i p n c l co en => [.i .i64 k, .sl (i.map itK), .sl (vKs p), .sl (n.map txK), .sl (c.map txK), .sl (l.map txK), .i .i64 co, .i .i64 en]
def vKs : List VecD → List (List C)
  | [] => []
  | d :: l => vK d :: vKs l
end
theorem vKs_eq (l : List VecD) : vKs l = l.map vK := by
  induction l with
  | nil => rfl
  | cons d l ih => rw [vKs, ih]; rfl
theorem vK_eq (d : VecD) : vK d = [.i .i64 d.kind, .sl (d.items.map itK), .sl (d.parts.map vK), .sl (d.names.map txK), .sl (d.cls.map txK), .sl (d.levels.map txK), .i .i64 d.code, .i .i64 d.env] := by
  cases d with
  | mk k i p n c l co en => rw [vK, vKs_eq]; rfl
def vT (d : VecD) : T := .ag [.c (.i .i64 d.kind), .c (.sl (d.items.map itK)), .c (.sl (d.parts.map vK)), .c (.sl (d.names.map txK)), .c (.sl (d.cls.map txK)), .c (.sl (d.levels.map txK)), .c (.i .i64 d.code), .c (.i .i64 d.env)]

/-! ### sizes that a value of the language has -/
def TxWf (s : List UInt8) : Prop := s.length ≤ maxLen
def ItWf (x : ItemD) : Prop := I64 x.num ∧ I64 x.den ∧ x.text.length ≤ maxLen
mutual
def VecWf : VecD → Prop
  | .mk k i p n c l co en => I64 k ∧ (∀ x ∈ i, ItWf x) ∧ VecsWf p ∧ (∀ s ∈ n, TxWf s) ∧ (∀ s ∈ c, TxWf s) ∧ (∀ s ∈ l, TxWf s) ∧ I64 co ∧ I64 en
def VecsWf : List VecD → Prop
  | [] => True
  | d :: l => VecWf d ∧ VecsWf l
end
theorem VecsWf_mem {l : List VecD} : VecsWf l ↔ ∀ d ∈ l, VecWf d := by
  induction l with
  | nil => simp [VecsWf]
  | cons d l ih => rw [VecsWf, ih]; simp
theorem VecWf_eq (d : VecD) : VecWf d ↔ I64 d.kind ∧ (∀ x ∈ d.items, ItWf x) ∧ (∀ p ∈ d.parts, VecWf p) ∧ (∀ s ∈ d.names, TxWf s) ∧ (∀ s ∈ d.cls, TxWf s) ∧ (∀ s ∈ d.levels, TxWf s) ∧ I64 d.code ∧ I64 d.env := by
  cases d with
  | mk k i p n c l co en => rw [VecWf, VecsWf_mem]; rfl

/-! ### from trees -/
/-- values that read as cells -/
def RdCs (Z : Kn) (cs : List C) (vs : List Value) : Prop := cs.length = vs.length ∧ ∀ (i : Nat) (c : C) (v : Value), cs[i]? = some c → vs[i]? = some v → RdC Z c v
theorem RdCs.uncons {Z : Kn} {c : C} {cs : List C} {vs : List Value} (h : RdCs Z (c :: cs) vs) : ∃ v vs', vs = v :: vs' ∧ RdC Z c v ∧ RdCs Z cs vs' := by
  cases vs with
  | nil => have := h.1; simp at this
  | cons v vs => exact ⟨v, vs, rfl, h.2 0 c v rfl rfl, by have := h.1; simpa using this, fun i c' v' h1 h2 => h.2 (i + 1) c' v' (by simpa using h1) (by simpa using h2)⟩
theorem RdCs.unnil {Z : Kn} {vs : List Value} (h : RdCs Z [] vs) : vs = [] := List.eq_nil_of_length_eq_zero (by have := h.1; simpa using this.symm)
theorem slR_of {α : Type} {Z : Kn} {w : World} {f : α → List C} {l : List α} {v : Value} {size : Nat} {R : List Value → α → Prop} (h : RdC Z (.sl (l.map f)) v) (hK : KnOk Z w) (hs : ∀ x ∈ l, (f x).length = size) (hp : 0 < size)
    (hR : ∀ x ∈ l, ∀ vs, RdCs Z (f x) vs → R vs x) : SlR w size R v l := by
  obtain ⟨A, cap, rfl, hn, hc, hx⟩ := h.slI
  rw [List.length_map] at hn ⊢
  refine ⟨A, cap, rfl, hn, hc, fun h0 => ?_⟩
  rcases hx with h1 | ⟨b, off, sz, u, rfl, hx1, hx2⟩
  · rw [List.map_eq_nil_iff] at h1; subst h1; simp at h0
  · have hel : ∀ k (hk : k < l.length), (l.map f)[k]? = some (f l[k]) := fun k hk => by rw [List.getElem?_map, List.getElem?_eq_getElem hk]; rfl
    have hsz : sz = size := by rw [← hx1 0 _ (hel 0 h0), hs _ (List.getElem_mem h0)]
    subst hsz
    have at0 : ∀ k (hk : k < l.length) j (hj : j < (f l[k]).length), Z b (off + k * sz + j) = some (u k j) ∧ RdC Z (f l[k])[j] (u k j) := fun k hk j hj => hx2 k _ j _ (hel k hk) (List.getElem?_eq_getElem hj)
    refine ⟨b, off, rfl, ?_, fun k hk => ⟨(List.range sz).map (u k), by simp, fun j x hj => ?_, hR _ (List.getElem_mem hk) _ ⟨by rw [hs _ (List.getElem_mem hk)]; simp, fun i c v h1 h2 => ?_⟩⟩⟩
    · exact hK.lt (at0 0 h0 0 (by rw [hs _ (List.getElem_mem h0)]; exact hp)).1
    · rw [List.getElem?_map] at hj
      have hj' : j < sz := by
        cases hr : (List.range sz)[j]? with
        | none => rw [hr] at hj; cases hj
        | some i => have := (List.getElem?_eq_some_iff.1 hr).1; simpa using this
      rw [List.getElem?_range hj'] at hj
      injection hj with hj; subst hj
      exact hK _ _ _ (at0 k hk j (by rw [hs _ (List.getElem_mem hk)]; exact hj')).1
    · have hj' : i < sz := by have := (List.getElem?_eq_some_iff.1 h1).1; rw [hs _ (List.getElem_mem hk)] at this; exact this
      rw [List.getElem?_map, List.getElem?_range hj'] at h2
      injection h2 with h2; subst h2
      exact (hx2 k _ i c (hel k hk) h1).2
theorem strI' {Z : Kn} {s : List UInt8} {v : Value} (h : RdC Z (.s s) v) : v = .string (str s) := h.strI
theorem itemR_of {Z : Kn} {w : World} {x : ItemD} {vs : List Value} (h : RdCs Z (itK x) vs) (hx : ItWf x) : ItemR w vs x := by
  obtain ⟨v1, vs1, rfl, h1, h⟩ := h.uncons
  obtain ⟨v2, vs2, rfl, h2, h⟩ := h.uncons
  obtain ⟨v3, vs3, rfl, h3, h⟩ := h.uncons
  obtain rfl := h.unnil
  rw [h1.intI, h2.intI, strI' h3]
  exact ⟨rfl, hx⟩
theorem items_of {Z : Kn} {w : World} {l : List ItemD} {v : Value} (h : RdC Z (.sl (l.map itK)) v) (hK : KnOk Z w) (hl : ∀ x ∈ l, ItWf x) : Items w v l :=
  slR_of h hK (fun _ _ => rfl) (by decide) fun x hx vs hv => itemR_of hv (hl x hx)
theorem txts_of {Z : Kn} {w : World} {l : List (List UInt8)} {v : Value} (h : RdC Z (.sl (l.map txK)) v) (hK : KnOk Z w) (hl : ∀ x ∈ l, TxWf x) : Txts w v l :=
  slR_of h hK (fun _ _ => rfl) (by decide) fun x hx vs hv => by
    obtain ⟨v1, vs1, rfl, h1, h2⟩ := hv.uncons
    obtain rfl := h2.unnil
    rw [strI' h1]
    exact ⟨rfl, hl x hx⟩
theorem ints_of {Z : Kn} {w : World} {l : List Int} {v : Value} (h : RdC Z (.sl (l.map inK)) v) (hK : KnOk Z w) (hl : ∀ x ∈ l, I64 x) : Ints w v l :=
  slR_of h hK (fun _ _ => rfl) (by decide) fun x hx vs hv => by
    obtain ⟨v1, vs1, rfl, h1, h2⟩ := hv.uncons
    obtain rfl := h2.unnil
    rw [h1.intI]
    exact ⟨rfl, hl x hx⟩
theorem vK_length (d : VecD) : (vK d).length = 8 := by rw [vK_eq]; rfl
mutual
def dpV : VecD → Nat
  | .mk _ _ p _ _ _ _ _ => dpVs p + 1
def dpVs : List VecD → Nat
  | [] => 0
  | d :: l => max (dpV d) (dpVs l)
end
theorem dpVs_mem {l : List VecD} {d : VecD} (h : d ∈ l) : dpV d ≤ dpVs l := by
  induction l with
  | nil => cases h
  | cons x l ih =>
    rw [dpVs]
    rcases List.mem_cons.1 h with rfl | h
    · omega
    · have := ih h; omega
theorem dpV_eq (d : VecD) : dpV d = dpVs d.parts + 1 := by cases d; rw [dpV]; rfl
theorem vectorR_of {Z : Kn} {w : World} (hK : KnOk Z w) : ∀ (n : Nat) (d : VecD) (vs : List Value), dpV d ≤ n → RdCs Z (vK d) vs → VecWf d → VectorR n w vs d := by
  intro n
  induction n with
  | zero => intro d vs hd; rw [dpV_eq] at hd; omega
  | succ n ih =>
    intro d vs hd h hw
    rw [vK_eq] at h
    rw [dpV_eq] at hd
    obtain ⟨k0, k1, k2, k3, k4, k5, k6, k7⟩ := (VecWf_eq d).1 hw
    obtain ⟨v0, vs0, rfl, h0, h⟩ := h.uncons
    obtain ⟨v1, vs1, rfl, h1, h⟩ := h.uncons
    obtain ⟨v2, vs2, rfl, h2, h⟩ := h.uncons
    obtain ⟨v3, vs3, rfl, h3, h⟩ := h.uncons
    obtain ⟨v4, vs4, rfl, h4, h⟩ := h.uncons
    obtain ⟨v5, vs5, rfl, h5, h⟩ := h.uncons
    obtain ⟨v6, vs6, rfl, h6, h⟩ := h.uncons
    obtain ⟨v7, vs7, rfl, h7, h⟩ := h.uncons
    obtain rfl := h.unnil
    exact ⟨v1, v2, v3, v4, v5, by rw [h0.intI, h6.intI, h7.intI], k0, items_of h1 hK k1, slR_of h2 hK (fun p _ => vK_length p) (by decide) (fun p hp vs hv => ih p vs (by have := dpVs_mem hp; omega) hv (k2 p hp)), txts_of h3 hK k3, txts_of h4 hK k4, txts_of h5 hK k5, k6, k7⟩
/-- a tree's vector, as the elder texts have it -/
theorem vecR_of {Z : Kn} {ρ : Rho} {w : World} {d : VecD} {v : Value} (h : RdT Z ρ (vT d) v) (hK : KnOk Z w) (hw : VecWf d) : ∃ cs, v = .agg cs.toArray ∧ VecR w cs d := by
  obtain ⟨vs, rfl, h1, _⟩ := h.agI
  refine ⟨vs, rfl, dpV d, vectorR_of hK _ d vs (Nat.le_refl _) ?_ hw⟩
  rw [vK_eq]
  refine ⟨h1.1, fun i c v e1 e2 => ?_⟩
  have : (([.i .i64 d.kind, .sl (d.items.map itK), .sl (d.parts.map vK), .sl (d.names.map txK), .sl (d.cls.map txK), .sl (d.levels.map txK), .i .i64 d.code, .i .i64 d.env] : List C).map T.c)[i]? = some (.c c) := by rw [List.getElem?_map, e1]; rfl
  exact (h1.2 i (.c c) v this e2).cI

/-! ### to trees -/
/-- all that lies in blocks from a bound on is known -/
def knNew (Z : Kn) (n : Nat) (w : World) : Kn := fun b o => if b < n then Z b o else w.cell? ⟨b, o, none⟩
theorem knNew_ok {Z : Kn} {w w' : World} (hK : KnOk Z w) (hb : Below w.heap.size w w') : KnOk (knNew Z w.heap.size w') w' := fun b o u e => by
  unfold knNew at e
  by_cases h : b < w.heap.size
  · rw [if_pos h] at e
    exact (hb.cell (p := ⟨b, o, none⟩) h).trans (hK b o u e)
  · rw [if_neg h] at e; exact e
theorem knNew_old (Z : Kn) (n : Nat) (w : World) : ∀ b o, b < n → knNew Z n w b o = Z b o := fun b o h => if_pos h
/-- a slice of one's own, in new blocks, reads as a tree -/
theorem flO_rd {α : Type} {Z : Kn} {S : Nat → Prop} {w : World} {n : Nat} {e : TypeId} {size : Nat} {v : Value} {l : List α} {xss : List (List Value)} {f : α → List C} (h : FlO S w e size v l.length xss.flatten) (hS : ∀ b, S b → n ≤ b)
    (hl : xss.length = l.length) (hx : ∀ k (h1 : k < xss.length) (h2 : k < l.length), xss[k].length = size ∧ RdCs (knNew Z n w) (f l[k]) xss[k]) : RdC (knNew Z n w) (.sl (l.map f)) v := by
  rcases h.1.2 with ⟨rfl, h0⟩ | ⟨g, cap, cur, rfl, hb, hg, hn, hc, hs, ht⟩
  · obtain rfl := List.eq_nil_of_length_eq_zero h0
    exact .nl none 0 (Nat.zero_le _)
  · have hgn : n ≤ g := hS g (h.2 g rfl)
    have hcell : ∀ o, knNew Z n w g o = cur[o]? := fun o => by
      unfold knNew
      rw [if_neg (by omega)]
      simp [World.cell?, hg]
    have hel : ∀ k (h2 : k < l.length) j u, (xss[k]'(by omega))[j]? = some u → cur[k * size + j]? = some u := fun k h2 j u e => by
      have hj : j < size := by have := (List.getElem?_eq_some_iff.1 e).1; have := (hx k (by omega) h2).1; omega
      have h4 := flatten_at size xss (fun x hx' => by
        obtain ⟨i, hi, rfl⟩ := List.getElem_of_mem hx'
        exact (hx i hi (by omega)).1) k j (by omega) hj
      rw [e, ← ht, List.getElem?_take] at h4
      split at h4
      · simpa using h4
      · cases h4
    have := RdC.sl (Z := knNew Z n w) (l.map f) g 0 size cap (fun k j => (cur[k * size + j]?).getD undef) (by simpa using hn) hc (fun k cs e => ?_) (fun k cs j c e ej => ?_) (fun k cs j c e ej => ?_)
    · rw [List.length_map] at this; exact this
    all_goals
      rw [List.getElem?_map] at e
      obtain ⟨x, hxk, rfl⟩ := Option.map_eq_some_iff.1 e
      obtain ⟨hk, rfl⟩ := List.getElem?_eq_some_iff.1 hxk
      obtain ⟨q1, q2⟩ := hx k (by omega) hk
    · rw [q2.1, q1]
    · have hj : j < (xss[k]'(by omega)).length := by rw [← q2.1]; exact (List.getElem?_eq_some_iff.1 ej).1
      have := hel k hk j _ (List.getElem?_eq_getElem hj)
      rw [Nat.zero_add, hcell, this]; rfl
    · have hj : j < (xss[k]'(by omega)).length := by rw [← q2.1]; exact (List.getElem?_eq_some_iff.1 ej).1
      have h9 := List.getElem?_eq_getElem hj
      have := hel k hk j _ h9
      rw [this]
      exact q2.2 j c _ ej h9
theorem RdCs.mk3 {Z : Kn} {x : ItemD} : RdCs Z (itK x) [.int .i64 x.num, .int .i64 x.den, .string (str x.text)] := ⟨rfl, fun i c v h1 h2 => by
  match i with
  | 0 => simp [itK] at h1 h2; subst h1 h2; exact .i _ _
  | 1 => simp [itK] at h1 h2; subst h1 h2; exact .i _ _
  | 2 => simp [itK] at h1 h2; subst h1 h2; exact .s _
  | i + 3 => simp [itK] at h1⟩
theorem itemsO_rd {Z : Kn} {S : Nat → Prop} {w : World} {n : Nat} {v : Value} {l : List ItemD} (h : ItemsO S w v l) (hS : ∀ b, S b → n ≤ b) : RdC (knNew Z n w) (.sl (l.map itK)) v := by
  obtain ⟨xss, f, h1, h2, h3⟩ := h
  refine flO_rd h3 (fun b hb => hS b hb.1) h1 fun k a b => ⟨(h2 k a b).1, ?_⟩
  rw [(h2 k a b).2.1]
  exact RdCs.mk3
theorem txtO_rd {Z : Kn} {S : Nat → Prop} {w : World} {n : Nat} {v : Value} {l : List (List UInt8)} (h : TxtO S w v l) (hS : ∀ b, S b → n ≤ b) : RdC (knNew Z n w) (.sl (l.map txK)) v := by
  have h1 := h.1
  rw [show (l.map fun s => Value.string (str s)) = (l.map fun s => [Value.string (str s)]).flatten from (by rw [← List.flatMap_def]; exact map_flat _ l)] at h1
  refine flO_rd h1 hS (by simp) fun k a b => ⟨by simp, ?_⟩
  rw [List.getElem_map]
  exact ⟨rfl, fun i c v h1 h2 => by
    match i with
    | 0 => simp [txK] at h1 h2; subst h1 h2; exact .s _
    | i + 1 => simp [txK] at h1⟩
theorem vectorO_rd {Z : Kn} {w : World} {n : Nat} : ∀ (k : Nat) {S : Nat → Prop} {d : VecD} {cs : List Value}, (∀ b, S b → n ≤ b) → VectorO k S w cs d → RdCs (knNew Z n w) (vK d) cs ∧ VecWf d := by
  intro k
  induction k with
  | zero => intro S d cs _ h; exact h.elim
  | succ k ih =>
    intro S d cs hS h
    have hR := h.read
    obtain ⟨A1, c1, A2, c2, A3, c3, A4, c4, A5, c5, f, rfl, k0, k1, k2, k3, k4, k5, k6, k7⟩ := h
    have hparts : RdC (knNew Z n w) (.sl (d.parts.map vK)) (.slice A2 d.parts.length c2) := by
      obtain ⟨xss, f', h1, h2, h3⟩ := k2
      exact flO_rd h3 (fun b hb => hS b hb.1.1) h1 fun j a b => ⟨(h2 j a b).1, (ih (fun b hb => hS b hb.1.1) (h2 j a b).2).1⟩
    refine ⟨⟨by rw [vK_length]; rfl, fun i c v e1 e2 => ?_⟩, (VecWf_eq d).2 ⟨k0, fun x hx => ?_, fun p hp => ?_, k3.2, k4.2, k5.2, k6, k7⟩⟩
    · rw [vK_eq] at e1
      match i with
      | 0 => simp at e1 e2; subst e1 e2; exact .i _ _
      | 1 => simp at e1 e2; subst e1 e2; exact itemsO_rd k1 fun b hb => hS b hb.1
      | 2 => simp at e1 e2; subst e1 e2; exact hparts
      | 3 => simp at e1 e2; subst e1 e2; exact txtO_rd k3 fun b hb => hS b hb.1
      | 4 => simp at e1 e2; subst e1 e2; exact txtO_rd k4 fun b hb => hS b hb.1
      | 5 => simp at e1 e2; subst e1 e2; exact txtO_rd k5 fun b hb => hS b hb.1
      | 6 => simp at e1 e2; subst e1 e2; exact .i _ _
      | 7 => simp at e1 e2; subst e1 e2; exact .i _ _
      | i + 8 => simp at e1
    · obtain ⟨xss, f', h1, h2, h3⟩ := k1
      obtain ⟨j, hj, rfl⟩ := List.getElem_of_mem hx
      exact (h2 j (by omega) hj).2.2
    · obtain ⟨xss, f', h1, h2, h3⟩ := k2
      obtain ⟨j, hj, rfl⟩ := List.getElem_of_mem hp
      exact (ih (fun b hb => hS b hb.1.1) (h2 j (by omega) hj).2).2
theorem vecO_rd {Z : Kn} {w : World} {n : Nat} {S : Nat → Prop} {d : VecD} {cs : List Value} (hS : ∀ b, S b → n ≤ b) (h : VecO S w cs d) : RdT (knNew Z n w) rho0 (vT d) (.agg cs.toArray) ∧ VecWf d := by
  obtain ⟨k, h⟩ := h
  obtain ⟨h1, h2⟩ := vectorO_rd (Z := Z) (n := n) k hS h
  refine ⟨RdT.mkAg ?_ ?_, h2⟩
  · rw [vK_eq] at h1
    refine ⟨h1.1, fun i t v e1 e2 => ?_⟩
    have : t ∈ (([.i .i64 d.kind, .sl (d.items.map itK), .sl (d.parts.map vK), .sl (d.names.map txK), .sl (d.cls.map txK), .sl (d.levels.map txK), .i .i64 d.code, .i .i64 d.env] : List C).map T.c) := List.mem_of_getElem? e1
    have e3 : (([.i .i64 d.kind, .sl (d.items.map itK), .sl (d.parts.map vK), .sl (d.names.map txK), .sl (d.cls.map txK), .sl (d.levels.map txK), .i .i64 d.code, .i .i64 d.env] : List C).map T.c)[i]? = some t := e1
    rw [List.getElem?_map] at e3
    obtain ⟨c, hc, rfl⟩ := Option.map_eq_some_iff.1 e3
    exact .c c v (h1.2 i c v hc e2)
  · intro t ht
    simp only [List.mem_cons, List.not_mem_nil, or_false] at ht
    rcases ht with rfl | rfl | rfl | rfl | rfl | rfl | rfl | rfl <;> rfl
end Go.Proofs.Ytjdimlhdkmkmbaa
namespace Go.Proofs.Ytjdimlhdkmkmbaa
set_option maxRecDepth 100000
open Go.ChangeShapes Go.WideShapes Go.ChangeAt Go.RowKit Go.Deep Go.Proofs.Ytjdimlhdkmkmbaa.Vm
set_option linter.unusedVariables false

theorem mixedB : Try.prog.follows .mixedOrders = true := by kernel_rfl
theorem kn_keep {Z : Kn} {w w' : World} (hK : KnOk Z w) (hb : Below w.heap.size w w') : KnOk Z w' := fun b o u e => (hb.cell (p := ⟨b, o, none⟩) (hK.lt e)).trans (hK b o u e)
/-- a contract that gives back a value without memory -/
theorem Ct_scalar {P : Program} {f : FuncId} {args : List T} {t : T} {v0 : Value} (hv : ∀ Z, RdT Z rho0 t v0)
    (h : ∀ w Z vs, KnOk Z w → RdTs Z rho0 args vs → Calls P f vs.toArray w fun e w' => e = .returned v0 ∧ Below w.heap.size w w') : Ct P f args (fun x => x = t) := fun w Z vs hK hr =>
  Calls.mono (h w Z vs hK hr) fun e w' ⟨he, hb⟩ => ⟨v0, t, Z, he, rfl, hb, kn_keep hK hb, fun _ _ _ => rfl, hv Z⟩
def itT (x : ItemD) : T := .ag [.c (.i .i64 x.num), .c (.i .i64 x.den), .c (.s x.text)]
theorem itemR_ofT {Z : Kn} {ρ : Rho} {w : World} {x : ItemD} {v : Value} (h : RdT Z ρ (itT x) v) (hx : ItWf x) : ∃ cs, v = .agg cs.toArray ∧ ItemR w cs x := by
  obtain ⟨vs, rfl, h1, _⟩ := h.agI
  obtain ⟨v1, vs1, rfl, a1, h1⟩ := h1.uncons
  obtain ⟨v2, vs2, rfl, a2, h1⟩ := h1.uncons
  obtain ⟨v3, vs3, rfl, a3, h1⟩ := h1.uncons
  obtain rfl := h1.unnil
  refine ⟨_, rfl, ?_⟩
  rw [a1.cI.intI, a2.cI.intI, strI' a3.cI]
  exact ⟨rfl, hx⟩
theorem one_arg {Z : Kn} {ρ : Rho} {t : T} {vs : List Value} (h : RdTs Z ρ [t] vs) : ∃ v, vs = [v] ∧ RdT Z ρ t v := by
  obtain ⟨v, vs', rfl, h1, h2⟩ := h.uncons
  obtain rfl := h2.unnil
  exact ⟨v, rfl, h1⟩
theorem two_args {Z : Kn} {ρ : Rho} {t u : T} {vs : List Value} (h : RdTs Z ρ [t, u] vs) : ∃ v x, vs = [v, x] ∧ RdT Z ρ t v ∧ RdT Z ρ u x := by
  obtain ⟨v, vs', rfl, h1, h2⟩ := h.uncons
  obtain ⟨x, rfl, h3⟩ := one_arg h2
  exact ⟨v, x, rfl, h1, h3⟩
theorem ct_isMissing (x : ItemD) (hx : ItWf x) : Ct Try.prog 69 [itT x] (fun t => t = .q (missing x)) :=
  Ct_scalar (fun Z => .q (missing x)) fun w Z vs hK hr => by
    obtain ⟨v, rfl, h1⟩ := one_arg hr
    obtain ⟨cs, rfl, h2⟩ := itemR_ofT (w := w) h1 hx
    exact impl_isMissing x cs w h2
theorem ct_IsVector (d : VecD) (hd : VecWf d) (hz : szVector d ≤ 1000000000000) : Ct Try.prog 40 [vT d] (fun t => t = .q (vecOk d)) :=
  Ct_scalar (fun Z => .q (vecOk d)) fun w Z vs hK hr => by
    obtain ⟨v, rfl, h1⟩ := one_arg hr
    obtain ⟨cs, rfl, h2⟩ := vecR_of h1 hK hd
    exact impl_IsVector d cs w h2 hz
theorem ct_length (d : VecD) (hd : VecWf d) (hz : d.items.length + d.parts.length ≤ 4611686018427387904) : Ct Try.prog 41 [vT d] (fun t => t = .c (.i .i64 (lenV d : Int))) :=
  Ct_scalar (fun Z => .c _ _ (.i .i64 _)) fun w Z vs hK hr => by
    obtain ⟨v, rfl, h1⟩ := one_arg hr
    obtain ⟨cs, rfl, h2⟩ := vecR_of h1 hK hd
    exact impl_length d cs w h2 hz
theorem ct_EqualSame (d : VecD) (hd : VecWf d) (hv : vecOk d = true) (hz : szVector d ≤ 1000000000000) : Ct Try.prog 13 [vT d, vT d] (fun t => t = .q true) :=
  Ct_scalar (fun Z => .q true) fun w Z vs hK hr => by
    obtain ⟨v, x, rfl, h1, h2⟩ := two_args hr
    obtain ⟨cs, rfl, h3⟩ := vecR_of h1 hK hd
    obtain ⟨cs', rfl, h4⟩ := vecR_of h2 hK hd
    exact spec_EqualVectors_same d cs cs' w h3 h4 hv hz
theorem ct_has (l : List Int) (x : Int) (hl : ∀ y ∈ l, I64 y) : Ct Try.prog 23 [.c (.sl (l.map inK)), .c (.i .i64 x)] (fun t => t = .q (decide (x ∈ l))) :=
  Ct_scalar (fun Z => .q _) fun w Z vs hK hr => by
    obtain ⟨v, u, rfl, h1, h2⟩ := two_args hr
    rw [h2.cI.intI]
    exact (laws_hasB l x v w (ints_of h1.cI hK hl)).mono fun e w' ⟨he, hw⟩ => ⟨he, by rw [← hw]; exact Below.refl _ _⟩
theorem ct_sameSame (l : List Int) (hl : ∀ y ∈ l, I64 y) : Ct Try.prog 25 [.c (.sl (l.map inK)), .c (.sl (l.map inK))] (fun t => t = .q true) :=
  Ct_scalar (fun Z => .q true) fun w Z vs hK hr => by
    obtain ⟨v, u, rfl, h1, h2⟩ := two_args hr
    exact laws_sameInts_same l v u w (ints_of h1.cI hK hl) (ints_of h2.cI hK hl)
end Go.Proofs.Ytjdimlhdkmkmbaa
namespace Go.Proofs.Ytjdimlhdkmkmbaa
set_option maxRecDepth 100000
open Go.ChangeShapes Go.WideShapes Go.ChangeAt Go.RowKit Go.Deep Go.Proofs.Ytjdimlhdkmkmbaa.Vm
set_option linter.unusedVariables false

theorem ct_gcd (a b : Int) (ha : lo64 a) (hb : lo64 b) : Ct Try.prog 114 [.c (.i .i64 a), .c (.i .i64 b)] (fun t => t = .c (.i .i64 (Int.gcd a b : Int))) :=
  Ct_scalar (fun Z => .c _ _ (.i .i64 _)) fun w Z vs hK hr => by
    obtain ⟨v, u, rfl, h1, h2⟩ := two_args hr
    rw [h1.cI.intI, h2.cI.intI]
    exact impl_gcd a b w ha hb
theorem ct_IsNumber (x : ItemD) (hx : ItWf x) : Ct Try.prog 115 [itT x] (fun t => t = .q (isNum x)) :=
  Ct_scalar (fun Z => .q (isNum x)) fun w Z vs hK hr => by
    obtain ⟨v, rfl, h1⟩ := one_arg hr
    obtain ⟨cs, rfl, h2⟩ := itemR_ofT (w := w) h1 hx
    exact impl_IsNumber x cs w h2
/-- a whole number -/
def wh (n : Int) : ItemD := ⟨n, 1, []⟩
end Go.Proofs.Ytjdimlhdkmkmbaa
namespace Go.Proofs.Ytjdimlhdkmkmbaa
set_option maxRecDepth 100000
open Go.ChangeShapes Go.WideShapes Go.ChangeAt Go.RowKit Go.Deep Go.Proofs.Ytjdimlhdkmkmbaa.Vm
set_option linter.unusedVariables false

/-- a value of one's own, as a tree -/
theorem Ct_vec {P : Program} {f : FuncId} {args : List T} {d : VecD} (h : ∀ w Z vs, KnOk Z w → RdTs Z rho0 args vs → Calls P f vs.toArray w (RetVec w d)) : Ct P f args (fun t => t = vT d ∧ VecWf d) := fun w Z vs hK hr =>
  Calls.mono (h w Z vs hK hr) fun e w' ⟨cs, he, hv, hb⟩ => by
    obtain ⟨h1, h2⟩ := vecO_rd (n := w.heap.size) (fun b hb => hb.1) hv
    exact ⟨_, vT d, knNew Z w.heap.size w', he, ⟨rfl, h2⟩, hb, knNew_ok hK hb, knNew_old Z _ w', h1⟩
theorem ct_copyVector (d : VecD) (hd : VecWf d) (hz : szVector d ≤ 900000000000) : Ct Try.prog 42 [vT d] (fun t => t = vT d ∧ VecWf d) :=
  Ct_vec fun w Z vs hK hr => by
    obtain ⟨v, rfl, h1⟩ := one_arg hr
    obtain ⟨cs, rfl, h2⟩ := vecR_of h1 hK hd
    obtain ⟨n, h2⟩ := h2
    refine Calls.mono (impl_copyVector_all n d cs w h2 hz) ?_
    rintro e w' ⟨cs', he, ho, hb⟩
    exact ⟨cs', he, ⟨n, ho⟩, hb⟩
theorem ct_copyTexts (l : List (List UInt8)) (hl : ∀ s ∈ l, TxWf s) (hn : l.length ≤ 1000000000000) : Ct Try.prog 82 [.c (.sl (l.map txK))] (fun t => t = .c (.sl (l.map txK))) := fun w Z vs hK hr => by
  obtain ⟨v, rfl, h1⟩ := one_arg hr
  refine Calls.mono (impl_copyTexts l v w (txts_of h1.cI hK hl) hn) fun e w' h => ?_
  obtain ⟨A, c, he, ho, hb⟩ := h
  exact ⟨_, _, knNew Z w.heap.size w', he, rfl, hb, knNew_ok hK hb, knNew_old Z _ w', .c _ _ (txtO_rd ho fun b hb => hb.1)⟩
theorem ct_allEmpty (l : List (List UInt8)) (hl : ∀ s ∈ l, TxWf s) : Ct Try.prog 96 [.c (.sl (l.map txK))] (fun t => t = .q (allE l)) :=
  Ct_scalar (fun Z => .q _) fun w Z vs hK hr => by
    obtain ⟨v, rfl, h1⟩ := one_arg hr
    exact (impl_allEmpty l v w (txts_of h1.cI hK hl)).mono fun e w' ⟨he, hw⟩ => ⟨he, by rw [← hw]; exact Below.refl _ _⟩
/-- a vector's fields, under names -/
theorem vT_hide (d : VecD) : ∃ (k : Int) (I P N Q L : List (List C)) (cd en : Int), vT d = .ag [.c (.i .i64 k), .c (.sl I), .c (.sl P), .c (.sl N), .c (.sl Q), .c (.sl L), .c (.i .i64 cd), .c (.i .i64 en)] ∧
    k = d.kind ∧ I = d.items.map itK ∧ P = d.parts.map vK ∧ N = d.names.map txK ∧ Q = d.cls.map txK ∧ L = d.levels.map txK ∧ cd = d.code ∧ en = d.env :=
  ⟨_, _, _, _, _, _, _, _, rfl, rfl, rfl, rfl, rfl, rfl, rfl, rfl, rfl⟩
def clsOf (d : VecD) : List (List UInt8) := if d.levels = [] then [] else d.cls
def vKd (k : Int) (d : VecD) : T := .ag [.c (.i .i64 k), .nil, .nil, .nil, .c (.sl ((clsOf d).map txK)), .c (.sl (d.levels.map txK)), .c (.i .i64 0), .c (.i .i64 0)]
set_option maxHeartbeats 4000000 in
theorem ct_withLevels (k : Int) (d : VecD) (hd : VecWf d) (hn : d.cls.length ≤ 1000000000000 ∧ d.levels.length ≤ 1000000000000) : Ct Try.prog 103 [.ag [.c (.i .i64 k), .nil, .nil, .nil, .nil, .nil, .c (.i .i64 0), .c (.i .i64 0)], vT d] (fun t => t = vKd k d) := by
  obtain ⟨zb, zc, zs, zl, zn, zt, zp, zg, zv, zx, zm, hz⟩ := Vm.zE
  obtain ⟨h0, h1, h2, h3, h4, h5, h6, h7⟩ := (VecWf_eq d).1 hd
  have c1 := ct_copyTexts d.cls h4 hn.1
  have c2 := ct_copyTexts d.levels h5 hn.2
  obtain ⟨kd, I, P, N, Q, L, cd, en, hT, hk, hI, hP, hN, hQ, hL, hcd, hen⟩ := vT_hide d
  unfold vKd clsOf
  have hlen : L.length = d.levels.length := by rw [hL]; simp
  rw [hT]
  rw [← hQ] at c1
  rw [← hL] at c2
  have hC' : (if d.levels = [] then [] else d.cls).map txK = if d.levels = [] then [] else Q := by rw [hQ]; split <;> rfl
  rw [hC', ← hL]
  refine Ct.weak (R := fun t => if d.levels = [] then t = .ag [.c (.i .i64 k), .nil, .nil, .nil, .nil, .nil, .c (.i .i64 0), .c (.i .i64 0)] else t = .ag [.c (.i .i64 k), .nil, .nil, .nil, .c (.sl Q), .c (.sl L), .c (.i .i64 0), .c (.i .i64 0)]) ?_ fun t h => ?_
  · refine Ct_of_W Try.func103 rfl (Nat.le_of_ble_eq_true rfl) fun w0 Z0 => ?_
    refine W_run ti_ok hz 400 (by cbv) ?_
    refine W_cond (by cbv) (fun h => ?_) (fun h => ?_)
    · refine W_run ti_ok hz 400 (by cbv) ?_
      refine W_call (by cbv) (by kernel_rfl) (c1) ?_
      rintro t rfl
      refine W_run ti_ok hz 400 (by cbv) ?_
      refine W_call (by cbv) (by kernel_rfl) (c2) ?_
      rintro t rfl
      refine W_run ti_ok hz 400 (by cbv) ?_
      refine W_ret ti_ok rfl (by cbv) ?_
      rw [if_neg fun h' => ?_]
      rw [z_gtr hz, z_len hz, hlen, h'] at h
      simp at h
    · refine W_run ti_ok hz 400 (by cbv) ?_
      refine W_ret ti_ok rfl (by cbv) ?_
      rw [if_pos]
      rw [z_gtr hz, z_len hz, hlen] at h
      have h := of_decide_eq_false h
      exact List.eq_nil_of_length_eq_zero (by omega)
  · split at h
    · rename_i he
      refine ⟨_, rfl, ?_⟩
      rw [h, hL, if_pos he, he]
      exact Le.ag ⟨Le.refl _, Le.refl _, Le.refl _, Le.refl _, Le.nil, Le.nil, Le.refl _, Le.refl _, trivial⟩ (by simp [T.one])
    · rename_i he
      refine ⟨_, rfl, ?_⟩
      rw [h, if_neg he]
      exact Le.refl _
def tidyD (d : VecD) : VecD := if allE d.names then setN d [] else d
set_option maxHeartbeats 4000000 in
theorem ct_tidyNames (d : VecD) (hd : VecWf d) : Ct Try.prog 43 [vT d] (fun t => t = vT (tidyD d)) := by
  obtain ⟨zb, zc, zs, zl, zn, zt, zp, zg, zv, zx, zm, hz⟩ := Vm.zE
  obtain ⟨h0, h1, h2, h3, h4, h5, h6, h7⟩ := (VecWf_eq d).1 hd
  have c1 := ct_allEmpty d.names h3
  obtain ⟨kd, I, P, N, Q, L, cd, en, hT, hk, hI, hP, hN, hQ, hL, hcd, hen⟩ := vT_hide d
  have hT2 : allE d.names = true → vT (tidyD d) = .ag [.c (.i .i64 kd), .c (.sl I), .c (.sl P), .c (.sl []), .c (.sl Q), .c (.sl L), .c (.i .i64 cd), .c (.i .i64 en)] := fun h => by
    unfold tidyD
    rw [if_pos h, hk, hI, hP, hQ, hL, hcd, hen]; rfl
  have hT3 : allE d.names = false → vT (tidyD d) = vT d := fun h => by unfold tidyD; rw [h]; rfl
  rw [← hN] at c1
  generalize allE d.names = b at *
  rw [hT] at hT3 ⊢
  refine Ct.weak (R := fun t => if b then t = .ag [.c (.i .i64 kd), .c (.sl I), .c (.sl P), .nil, .c (.sl Q), .c (.sl L), .c (.i .i64 cd), .c (.i .i64 en)] else t = .ag [.c (.i .i64 kd), .c (.sl I), .c (.sl P), .c (.sl N), .c (.sl Q), .c (.sl L), .c (.i .i64 cd), .c (.i .i64 en)]) ?_ fun t h => ?_
  · refine Ct_of_W Try.func43 rfl (Nat.le_of_ble_eq_true rfl) fun w0 Z0 => ?_
    refine W_run ti_ok hz 400 (by cbv) ?_
    refine W_call (by cbv) (by kernel_rfl) (c1) ?_
    rintro t rfl
    refine W_run ti_ok hz 400 (by cbv) ?_
    refine W_cond (by cbv) (fun h => ?_) (fun h => ?_)
    · refine W_run ti_ok hz 400 (by cbv) ?_
      refine W_ret ti_ok rfl (by cbv) ?_
      rw [h, if_pos rfl]
    · refine W_run ti_ok hz 400 (by cbv) ?_
      refine W_ret ti_ok rfl (by cbv) ?_
      rw [h, if_neg (by decide)]
  · cases b with
    | true =>
      refine ⟨_, rfl, ?_⟩
      rw [hT2 rfl, h]
      exact Le.ag ⟨Le.refl _, Le.refl _, Le.refl _, Le.nil, Le.refl _, Le.refl _, Le.refl _, Le.refl _, trivial⟩ (by simp [T.one])
    | false =>
      refine ⟨_, rfl, ?_⟩
      rw [hT3 rfl, h]
      exact Le.refl _
end Go.Proofs.Ytjdimlhdkmkmbaa
namespace Go.Proofs.Ytjdimlhdkmkmbaa
set_option maxRecDepth 100000
open Go.ChangeShapes Go.WideShapes Go.ChangeAt Go.RowKit Go.Deep Go.Proofs.Ytjdimlhdkmkmbaa.Vm
set_option linter.unusedVariables false

def itemsV (k : Int) (l : List ItemD) : VecD := .mk k l [] [] [] [] 0 0
end Go.Proofs.Ytjdimlhdkmkmbaa
