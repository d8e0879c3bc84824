/-
  Merged texts: Draw, RandHas, RandDraw, Handlers, DrawCond.
-/
import Derived.Test.YtjdimlhdkmkmbaaKBase
import Derived.Test.YtjdimlhdkmkmbaaKRand
import Derived.StillTailTactics
namespace Go.Proofs.Ytjdimlhdkmkmbaa
set_option maxRecDepth 100000
set_option maxRecDepth 100000
open Go.ChangeShapes Go.WideShapes Go.ChangeAt Go.RowKit Go.Deep

def ByteR (cs : List Value) (n : Nat) : Prop := cs = [.int .u8 n] ∧ n < 256
def Bytes (w : World) (v : Value) (l : List Nat) : Prop := SlR w 1 ByteR v l

theorem open_bytes {H : Type} {enc : TypeId × Value → H} {P : Program} {w : World} {base : Nat} {spare : Nat → Bool} {held : Bool} {t e : TypeId} {v : Value} {d : DataW H} {p : List MemPlace} (ht : P.underlying t = some (.slice e)) (he : P.underlying e = some (.int .u8)) (hc : P.cellsOf e = 1) {r : Reach} {b0 : Nat} (hv : Value.okWide P w r b0 t v) (h : DataW.Trod enc P w base spare held t v d p) : ∃ l, Bytes w v l := by
  obtain ⟨a, len, cap, rfl⟩ := okWide_slice ht hv
  obtain ⟨fuel, hf⟩ := h
  obtain ⟨v, l, hcs, hl⟩ := open_slr ht hc (by omega) ByteR (fun _ _ _ _ _ h => by
    obtain ⟨n, rfl, _, hw⟩ := DataW.trod_int he h
    have hx : 0 ≤ n ∧ n ≤ 255 := by simpa [Lit.wf, IntKind.min, IntKind.max, IntKind.signed, IntKind.bits] using hw
    obtain ⟨k, rfl⟩ := Int.eq_ofNat_of_zero_le hx.1
    exact ⟨k, rfl, by omega⟩) hf
  have : v = .slice a len cap := by simpa [Value.cells] using hcs.symm
  subst this
  exact ⟨l, hl⟩

theorem bits_mask (x m : Int) (h0 : 0 ≤ m) (h1 : m < 4611686018427387904) : 0 ≤ bits .and .i64 x m ∧ bits .and .i64 x m ≤ m := by
  obtain ⟨k, rfl⟩ := Int.eq_ofNat_of_zero_le h0
  have e : bits .and .i64 x (k : Int) = IntKind.i64.wrap ((BitVec.ofInt 64 x &&& BitVec.ofInt 64 (k : Int)).toNat : Int) := rfl
  have hk : (BitVec.ofInt 64 (k : Int)).toNat = k := by
    rw [BitVec.ofInt_natCast, BitVec.toNat_ofNat]
    exact Nat.mod_eq_of_lt (by omega)
  have hle : (BitVec.ofInt 64 x &&& BitVec.ofInt 64 (k : Int)).toNat ≤ k := by
    rw [BitVec.toNat_and, hk]
    exact Nat.and_le_right
  rw [e, IntKind.wrap_i64]
  omega

/-- block g is a cursor over the bytes l, which lie in v -/
def Cur (w : World) (g : Nat) (v : Value) (l : List Nat) : Prop := ∃ i h : Int, Blk w g 87 [v, .int .i64 i, .int .i64 h] ∧ 0 ≤ i ∧ i ≤ l.length ∧ Bytes w v l

/-- only block g, and what is new, has changed -/
def Only (g : Nat) (w w' : World) : Prop := w.grownBy w' (some g)
theorem Only.refl (g : Nat) (w : World) : Only g w w := World.grownBy.refl _ _
theorem Only.trans {g : Nat} {a b c : World} (h : Only g a b) (k : Only g b c) : Only g a c := World.grownBy.trans h k
theorem Only.of_below {g : Nat} {a b : World} (h : Below a.heap.size a b) : Only g a b := grown_of_below h _
theorem Only.setCell {g : Nat} {a w : World} (h : Only g a w) (o : Nat) (u : Value) : Only g a (w.setCell ⟨g, o, none⟩ u) :=
  ⟨h.os, h.tape, h.output, by simpa [World.setCell] using h.size, fun i hi hne => (Below.heap_setCell w ⟨g, o, none⟩ u i (fun e => hne (by rw [e]))).trans (h.block i hi hne)⟩
theorem Only.below {g B : Nat} {a w w' : World} (hb : Below B a w) (h : Only g w w') (hg : B ≤ g) (hB : B ≤ w.heap.size) : Below B a w' := hb.grown h hB (fun k hk => by injection hk with hk; omega)

/-- the elements (k of them) do not lie in the block g -/
def Apart (k g : Nat) (v : Value) : Prop := 0 < k → ∀ a n c, v = .slice (some a) n c → a.block ≠ g

theorem Bytes.only {g : Nat} {w w' : World} {v : Value} {l : List Nat} (h : Bytes w v l) (ha : Apart l.length g v) (ho : Only g w w') : Bytes w' v l := by
  obtain ⟨A, c, rfl, hn, hc, hx⟩ := h
  refine ⟨A, c, rfl, hn, hc, fun h0 => ?_⟩
  obtain ⟨b, off, rfl, hlt, hat⟩ := hx h0
  refine ⟨b, off, rfl, Nat.lt_of_lt_of_le hlt ho.size, fun k hk => ?_⟩
  obtain ⟨cs, h1, h2, h3⟩ := hat k hk
  exact ⟨cs, h1, h2.keep (ho.block b hlt (fun e => ha h0 _ _ _ rfl (by injection e))), h3⟩

/-- a draw: some number from 0 to m; only the cursor's block has changed -/
def Draws (g : Nat) (v : Value) (l : List Nat) (m : Int) (w : World) (e : Ending) (w' : World) : Prop := ∃ x : Int, e = .returned (.int .i64 x) ∧ 0 ≤ x ∧ x ≤ m ∧ Cur w' g v l ∧ Only g w w'

set_option maxHeartbeats 1000000 in
theorem spec_l1Byte (g : Nat) (v : Value) (l : List Nat) (w : World) (hC : Cur w g v l) (ha : Apart l.length g v) :
    Calls Try.prog 91 #[.pointer (some ⟨g, 0, none⟩)] w (Draws g v l 255 w) := by
  obtain ⟨i, h, hB, hi0, hi1, hb⟩ := hC
  have HB := Lib.hid hB
  have HY := Lib.hid hb
  have HA := Lib.hid ha
  obtain ⟨A, c, rfl, hlc, hm, HC⟩ := SlR.open_ hb
  unfold maxLen at hm
  have c0 := hB.cell 0 _ rfl
  have c1 := hB.cell 1 _ rfl
  have c2 := hB.cell 2 _ rfl
  have fz := hB.frozen
  clear hB hb ha
  obtain ⟨k, rfl⟩ := Int.eq_ofNat_of_zero_le hi0
  by_cases hlt : k < l.length
  · obtain ⟨b, off, cs, rfl, hbl, _, hat, rfl, hn⟩ := HC.out k hlt
    have hne : ¬ b = g := HA.out (by omega) ⟨b, off, none⟩ _ _ rfl
    have cb : w.cell? ⟨b, off + k, none⟩ = some (.int .u8 (l[k] : Nat)) := by simpa using hat 0 _ rfl
    clear hat HC
    go_enter Try.func91, Try.ntmps91
    go_wp2
    go_quiet (fail)
    go_wp2
    go_quiet (fail)
    go_wp2
    go_quiet (fail)
    go_wp2
    go_ret
    have ho : Only g w ((w.setCell ⟨g, 2, none⟩ (.int .i64 (wrap64 (wrap64 (h * 6364136223846793005) + 1442695040888963407)))).setCell ⟨g, 1, none⟩ (.int .i64 ((k : Int) + 1))) := ((Only.refl g w).setCell 2 _).setCell 1 _
    refine ⟨_, rfl, (bits_mask _ 255 (by omega) (by omega)).1, (bits_mask _ 255 (by omega) (by omega)).2, ⟨(k : Int) + 1, wrap64 (wrap64 (h * 6364136223846793005) + 1442695040888963407), ?_, by omega, by omega, ?_⟩, ?_⟩
    · exact (HB.out.set_ 2 _).set_ 1 _
    · exact HY.out.only HA.out ⟨ho.os, ho.tape, ho.output, ho.size, ho.block⟩
    · exact ⟨ho.os, ho.tape, ho.output, ho.size, ho.block⟩
  · go_enter Try.func91, Try.ntmps91
    go_wp2
    go_quiet (fail)
    go_wp2
    go_quiet (fail)
    go_wp2
    go_ret
    have ho : Only g w (w.setCell ⟨g, 2, none⟩ (.int .i64 (wrap64 (wrap64 (h * 6364136223846793005) + 1442695040888963407)))) := (Only.refl g w).setCell 2 _
    refine ⟨_, rfl, (bits_mask _ 255 (by omega) (by omega)).1, (bits_mask _ 255 (by omega) (by omega)).2, ⟨(k : Int), wrap64 (wrap64 (h * 6364136223846793005) + 1442695040888963407), ?_, by omega, by omega, ?_⟩, ?_⟩
    · exact HB.out.set_ 2 _
    · exact HY.out.only HA.out ⟨ho.os, ho.tape, ho.output, ho.size, ho.block⟩
    · exact ⟨ho.os, ho.tape, ho.output, ho.size, ho.block⟩

set_option maxHeartbeats 1000000 in
theorem spec_l1Below (g : Nat) (v : Value) (l : List Nat) (m : Int) (w : World) (hC : Cur w g v l) (ha : Apart l.length g v) (h0 : 1 ≤ m) (h1 : m ≤ 256) :
    Calls Try.prog 39 #[.pointer (some ⟨g, 0, none⟩), .int .i64 m] w (Draws g v l (m - 1) w) := by
  have HC := Lib.hid hC
  have HA := Lib.hid ha
  clear hC ha
  go_enter Try.func39, Try.ntmps39
  go_wp2_with fail
  refine (spec_l1Byte g v l _ HC.out HA.out).mono ?_
  rintro e w1 ⟨x, rfl, hx0, hx1, hc, ho⟩
  have HC1 := Lib.hid hc
  have HO := Lib.hid ho
  clear hc ho
  go_wp2_with fail
  go_ret
  exact ⟨_, rfl, Int.emod_nonneg _ (by omega), by have := Int.emod_lt_of_pos x (show 0 < m by omega); omega, HC1.out, HO.out⟩

theorem Apart.of_lt {w : World} {v : Value} {l : List Nat} (h : Bytes w v l) : Apart l.length w.heap.size v := by
  intro hl
  obtain ⟨A, c, rfl, hn, hc, hx⟩ := h
  intro a n c' hv
  obtain ⟨b, off, hA, hlt, _⟩ := hx hl
  injection hv with e1 e2 e3
  rw [hA] at e1
  injection e1 with e1
  subst e1
  show b ≠ _
  omega

set_option maxHeartbeats 1000000 in
set_option maxRecDepth 100000 in
theorem spec_l1New (v : Value) (l : List Nat) (w : World) (h : Bytes w v l) (hl : l.length ≤ 1048576) :
    Calls Try.prog 35 #[v] w fun e w' => e = .returned (.pointer (some ⟨w.heap.size, 0, none⟩)) ∧ Cur w' w.heap.size v l ∧ Apart l.length w.heap.size v ∧ Below w.heap.size w w' ∧ w'.heap.size = w.heap.size + 1 := by
  have HH := Lib.hid h
  have HA := Lib.hid (Apart.of_lt h)
  obtain ⟨A, c, rfl, hlc, hm, HC⟩ := SlR.open_ h
  clear h
  unfold maxLen at hm
  go_enter Try.func35, Try.ntmps35
  go_wp2
  go_loop [3, 4] (fun x i => ∃ (k : Nat) (y : Int), k ≤ l.length ∧ i = .int .i64 k ∧ x = .int .i64 y) (fun _ i => l.length - (intOf i).toNat)
  case atStart => exact ⟨0, _, Nat.zero_le _, rfl, rfl⟩
  case round =>
    obtain ⟨k, y, hk, rfl, rfl⟩ := hrel
    by_cases hlt : k < l.length
    · by_cases hlt2 : k < 4000
      · obtain ⟨b, off, cs, rfl, hbl, _, hat, rfl, hn⟩ := HC.out k hlt
        have cb : w.cell? ⟨b, off + k, none⟩ = some (.int .u8 (l[k] : Nat)) := by simpa using hat 0 _ rfl
        clear hat
        go_wp2
        go_round
        case rel => exact ⟨k + 1, _, by omega, by go_num, rfl⟩
        case measure => simp [intOf]; omega
      · go_wp2
        go_ret
        exact ⟨rfl, ⟨0, _, by exact Blk.new _ _ _, by omega, by omega, by exact SlR.below HH.out ((Below.refl _ _).alloc (Nat.le_refl _) _) (fun _ _ h => h)⟩, HA.out, (Below.refl _ _).alloc (Nat.le_refl _) _, by simp⟩
    · go_wp2
      go_ret
      exact ⟨rfl, ⟨0, _, by exact Blk.new _ _ _, by omega, by omega, by exact SlR.below HH.out ((Below.refl _ _).alloc (Nat.le_refl _) _) (fun _ _ h => h)⟩, HA.out, (Below.refl _ _).alloc (Nat.le_refl _) _, by simp⟩

/-- a draw out of a list of strings -/
def Picks (g : Nat) (v : Value) (l : List Nat) (ss : List (List UInt8)) (w : World) (e : Ending) (w' : World) : Prop := ∃ s, e = .returned (.string (str s)) ∧ s ∈ ss ∧ Cur w' g v l ∧ Only g w w'

theorem Txts.only {g : Nat} {w w' : World} {v : Value} {l : List (List UInt8)} (h : Txts w v l) (ha : Apart l.length g v) (ho : Only g w w') : Txts w' v l := by
  obtain ⟨A, c, rfl, hn, hc, hx⟩ := h
  refine ⟨A, c, rfl, hn, hc, fun h0 => ?_⟩
  obtain ⟨b, off, rfl, hlt, hat⟩ := hx h0
  refine ⟨b, off, rfl, Nat.lt_of_lt_of_le hlt ho.size, fun k hk => ?_⟩
  obtain ⟨cs, h1, h2, h3⟩ := hat k hk
  exact ⟨cs, h1, h2.keep (ho.block b hlt (fun e => ha h0 _ _ _ rfl (by injection e))), h3⟩

set_option maxHeartbeats 1000000 in
theorem spec_l1Pick (g : Nat) (v : Value) (l : List Nat) (u : Value) (ss : List (List UInt8)) (w : World) (hC : Cur w g v l) (ha : Apart l.length g v) (hs : Txts w u ss) (hu : Apart ss.length g u) (h0 : 1 ≤ ss.length) (h1 : ss.length ≤ 256) :
    Calls Try.prog 117 #[.pointer (some ⟨g, 0, none⟩), u] w (Picks g v l ss w) := by
  have HC := Lib.hid hC
  have HA := Lib.hid ha
  have HS := Lib.hid hs
  have HU := Lib.hid hu
  obtain ⟨A, c, rfl, hlc, hm, _⟩ := hs.open_
  clear hC ha hs hu
  unfold maxLen at hm
  go_enter Try.func117, Try.ntmps117
  go_wp2_with fail
  refine (spec_l1Below g v l _ _ HC.out HA.out (by omega) (by omega)).mono ?_
  rintro e w1 ⟨x, rfl, hx0, hx1, hc, ho⟩
  obtain ⟨k, rfl⟩ := Int.eq_ofNat_of_zero_le hx0
  have hk : k < ss.length := by omega
  obtain ⟨_, _, hv, _, _, HQ⟩ := (HS.out.only HU.out ho).open_
  injection hv with e1 e2 e3
  subst e1 e3
  obtain ⟨b, off, rfl, _, hcell, _⟩ := HQ.out k hk
  have HC1 := Lib.hid hc
  have HO := Lib.hid ho
  clear hc ho HQ e2
  go_wp2_with fail
  go_ret
  exact ⟨_, rfl, List.getElem_mem hk, HC1.out, HO.out⟩
end Go.Proofs.Ytjdimlhdkmkmbaa
namespace Go.Proofs.Ytjdimlhdkmkmbaa
set_option maxRecDepth 100000
open Go.ChangeShapes Go.WideShapes Go.ChangeAt Go.RowKit Go.Deep

/-- a state, or a number that is none -/
def DrawsSt (g : Nat) (v : Value) (l : List Nat) (w : World) (e : Ending) (w' : World) : Prop := ∃ s : Int, e = .returned (.int .i64 s) ∧ I64 s ∧ Cur w' g v l ∧ Only g w w'
end Go.Proofs.Ytjdimlhdkmkmbaa
namespace Go.Proofs.Ytjdimlhdkmkmbaa
set_option maxRecDepth 100000
open Go.ChangeShapes Go.WideShapes Go.ChangeAt Go.RowKit Go.Deep

theorem Cur.lt_ {w : World} {g : Nat} {v : Value} {l : List Nat} (h : Cur w g v l) : g < w.heap.size := by
  obtain ⟨i, k, h1, _⟩ := h
  exact h1.lt
theorem Cur.below_ {w w' : World} {g : Nat} {v : Value} {l : List Nat} (h : Cur w g v l) (hb : Below w.heap.size w w') : Cur w' g v l := by
  obtain ⟨i, k, h1, h2, h3, h4⟩ := h
  exact ⟨i, k, h1.below hb, h2, h3, SlR.below h4 hb (fun _ _ h => h)⟩
theorem Ints.only {g : Nat} {w w' : World} {v : Value} {l : List Int} (h : Ints w v l) (ha : Apart l.length g v) (ho : Only g w w') : Ints w' v l := by
  obtain ⟨A, c, rfl, hn, hc, hx⟩ := h
  refine ⟨A, c, rfl, hn, hc, fun h0 => ?_⟩
  obtain ⟨b, off, rfl, hlt, hat⟩ := hx h0
  refine ⟨b, off, rfl, Nat.lt_of_lt_of_le hlt ho.size, fun k hk => ?_⟩
  obtain ⟨cs, h1, h2, h3⟩ := hat k hk
  exact ⟨cs, h1, h2.keep (ho.block b hlt (fun e => ha h0 _ _ _ rfl (by injection e))), h3⟩

def DrawsB (g : Nat) (v : Value) (l : List Nat) (w : World) (e : Ending) (w' : World) : Prop := ∃ b : Bool, e = .returned (.bool b) ∧ Cur w' g v l ∧ Only g w w'
set_option maxHeartbeats 1000000 in
theorem spec_l1Once (g : Nat) (v : Value) (l : List Nat) (m : Int) (w : World) (hC : Cur w g v l) (ha : Apart l.length g v) (h0 : 1 ≤ m) (h1 : m ≤ 256) :
    Calls Try.prog 36 #[.pointer (some ⟨g, 0, none⟩), .int .i64 m] w (DrawsB g v l w) := by
  have HC := Lib.hid hC
  have HA := Lib.hid ha
  clear hC ha
  go_enter Try.func36, Try.ntmps36
  go_wp2_with fail
  refine (spec_l1Below g v l m _ HC.out HA.out h0 h1).mono ?_
  rintro e w1 ⟨x, rfl, hx0, hx1, hc, ho⟩
  go_wp2_with fail
  go_ret
  exact ⟨_, rfl, hc, ho⟩

set_option maxHeartbeats 1000000 in
theorem spec_l1PickInt (g : Nat) (v : Value) (l : List Nat) (u : Value) (ss : List Int) (w : World) (hC : Cur w g v l) (ha : Apart l.length g v) (hs : Ints w u ss) (hu : Apart ss.length g u) (h0 : 1 ≤ ss.length) (h1 : ss.length ≤ 256) :
    Calls Try.prog 86 #[.pointer (some ⟨g, 0, none⟩), u] w (DrawsSt g v l w) := by
  have HC := Lib.hid hC
  have HA := Lib.hid ha
  have HS := Lib.hid hs
  have HU := Lib.hid hu
  obtain ⟨A, c, rfl, hlc, hm, _⟩ := hs.open_
  clear hC ha hs hu
  unfold maxLen at hm
  go_enter Try.func86, Try.ntmps86
  go_wp2_with fail
  refine (spec_l1Below g v l _ _ HC.out HA.out (by omega) (by omega)).mono ?_
  rintro e w1 ⟨x, rfl, hx0, hx1, hc, ho⟩
  obtain ⟨k, rfl⟩ := Int.eq_ofNat_of_zero_le hx0
  have hk : k < ss.length := by omega
  obtain ⟨_, _, hv, _, _, HQ⟩ := (HS.out.only HU.out ho).open_
  injection hv with e1 e2 e3
  subst e1 e3
  obtain ⟨b, off, rfl, _, hcell, hi⟩ := HQ.out k hk
  have HC1 := Lib.hid hc
  have HO := Lib.hid ho
  clear hc ho HQ e2
  go_wp2_with fail
  go_ret
  exact ⟨_, rfl, hi, HC1.out, HO.out⟩
end Go.Proofs.Ytjdimlhdkmkmbaa
namespace Go.Proofs.Ytjdimlhdkmkmbaa
set_option maxRecDepth 100000
open Go.ChangeShapes Go.WideShapes Go.ChangeAt Go.RowKit Go.Deep

end Go.Proofs.Ytjdimlhdkmkmbaa
namespace Go.Proofs.Ytjdimlhdkmkmbaa
set_option maxRecDepth 100000
open Go.ChangeShapes Go.WideShapes Go.ChangeAt Go.RowKit Go.Deep
set_option linter.unusedVariables false

theorem Cur.next {w w3 w4 : World} {g : Nat} {v : Value} {l : List Nat} (h : Cur w3 g v l) (hb : Below w.heap.size w3 w4) (hg : g < w.heap.size) (hy : Bytes w4 v l) : Cur w4 g v l := by
  obtain ⟨i, k, h1, h2, h3, _⟩ := h
  exact ⟨i, k, (hb.block g hg).trans h1, h2, h3, hy⟩
theorem Only.belowB {g : Nat} {a w w' : World} (h : Only g a w) (hb : Below a.heap.size w w') : Only g a w' :=
  ⟨hb.os.trans h.os, hb.tape.trans h.tape, hb.output.trans h.output, Nat.le_trans h.size hb.size, fun k hk hne => (hb.block k hk).trans (h.block k hk hne)⟩
theorem own_only {g : Nat} {w w' : World} {base : Nat} {e : TypeId} {size n : Nat} {v : Value} {xs : List Value} (h : w.ownsRow base e size v n xs) (ho : Only g w w') (hg : g < base) : w'.ownsRow base e size v n xs := by
  refine h.kept ho ?_
  cases hv : v.ownBlock with
  | none => exact .inl rfl
  | some k =>
    right
    intro he
    have := (h.lt k hv).1
    injection he with he
    omega

end Go.Proofs.Ytjdimlhdkmkmbaa
