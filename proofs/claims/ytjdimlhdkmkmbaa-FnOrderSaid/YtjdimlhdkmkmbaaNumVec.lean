/-
  Contracts: a vector of numbers; what the laws draw of vectors: one kind, with some elements.
-/
import Derived.Test.YtjdimlhdkmkmbaaDrawNum
import Derived.Test.YtjdimlhdkmkmbaaKVecMk
namespace Go.Proofs.Ytjdimlhdkmkmbaa
set_option maxRecDepth 100000
open Go.ChangeShapes Go.WideShapes Go.ChangeAt Go.RowKit Go.Deep
set_option linter.unusedVariables false

/-- an item's cells -/
def itC (x : ItemD) : List Value := [.int .i64 x.num, .int .i64 x.den, .string (str x.text)]
def ItOk (x : ItemD) : Prop := I64 x.num ∧ I64 x.den ∧ x.text.length ≤ 100
theorem itemsO_flat {S : Nat → Prop} {w : World} {v : Value} {its : List ItemD} (h : FlO S w 36 3 v its.length (its.flatMap itC)) (hi : ∀ x ∈ its, ItOk x) : ItemsO S w v its := by
  refine ⟨its.map itC, fun _ => 0, by simp, fun k h1 h2 => ?_, ?_⟩
  · rw [List.getElem_map]
    have := hi _ (List.getElem_mem h2)
    exact ⟨rfl, rfl, this.1, this.2.1, by have := this.2.2; unfold maxLen; omega⟩
  · rw [← List.flatMap_def]
    exact h.mono fun b hb => ⟨hb, rfl⟩
def atV (kd : Int) (its : List ItemD) : VecD := .mk kd its [] [] [] [] 0 0
theorem i64z_ : I64 0 := ⟨by decide, by decide⟩
theorem i64o_ : I64 1 := ⟨by decide, by decide⟩
theorem vecO_items {S : Nat → Prop} {w : World} {U : Option Addr} {q : Nat} {kd : Int} {its : List ItemD} (h : FlO S w 36 3 (.slice U its.length q) its.length (its.flatMap itC)) (hi : ∀ x ∈ its, ItOk x) (hk : I64 kd) :
    VecO S w [.int .i64 kd, .slice U its.length q, .slice none 0 0, .slice none 0 0, .slice none 0 0, .slice none 0 0, .int .i64 0, .int .i64 0] (atV kd its) :=
  ⟨1, U, q, none, 0, none, 0, none, 0, none, 0, fun _ => 1, rfl, hk, (itemsO_flat h hi).mono fun b hb => ⟨hb, rfl⟩, SlO.nil_ _ _ _ _ _, ⟨FlO.nil_ _ _ _ _, fun _ h => by cases h⟩, ⟨FlO.nil_ _ _ _ _, fun _ h => by cases h⟩, ⟨FlO.nil_ _ _ _ _, fun _ h => by cases h⟩, i64z_, i64z_⟩
theorem sz_atV {kd : Int} {its : List ItemD} (hi : ∀ x ∈ its, ItOk x) : szVector (atV kd its) ≤ 101 * its.length := by
  have h : (its.map szItem).sum ≤ 100 * its.length := by
    induction its with
    | nil => simp
    | cons x l ih =>
      have h1 := ih fun y hy => hi y (List.mem_cons_of_mem _ hy)
      have h2 := (hi x List.mem_cons_self).2.2
      simp only [List.map_cons, List.sum_cons, List.length_cons, szItem]
      omega
  rw [szVector_eq]
  simp only [atV, VecD.items, VecD.parts, VecD.names, VecD.cls, VecD.levels, szS, szL, List.length_nil, List.map_nil, List.sum_nil]
  omega

def nvZ : List Value := [.int .i64 0, .slice none 0 0, .slice none 0 0, .slice none 0 0, .slice none 0 0, .slice none 0 0, .int .i64 0, .int .i64 0]
def boxV (kd : Int) (u : Value) : List Value := [.int .i64 kd, u, .slice none 0 0, .slice none 0 0, .slice none 0 0, .slice none 0 0, .int .i64 0, .int .i64 0]
theorem own_shapeN {w : World} {base n : Nat} {e : TypeId} {size : Nat} {v : Value} {xs : List Value} (h : w.ownsRow base e size v n xs) : ∃ A c, v = .slice A n c := by
  rcases h.2 with ⟨rfl, rfl⟩ | ⟨g, cap, cur, rfl, _⟩
  · exact ⟨none, 0, rfl⟩
  · exact ⟨_, cap, rfl⟩

/-! ### numbers -/
def numItem (n : Int) : ItemD := ⟨(mkN n 1).1, (mkN n 1).2, []⟩
theorem numItem_ok (n : Int) : ItOk (numItem n) := ⟨(mkN_i64 n 1).1, (mkN_i64 n 1).2, Nat.zero_le _⟩
def numV (l : List Int) : VecD := atV 2 (l.map numItem)
structure NC (w : World) (u : Value) (W : World) : Prop where
  r : Blk W w.heap.size 28 nvZ
  o : Blk W (w.heap.size + 1) 28 (boxV 2 u)
  below : Below w.heap.size w W
theorem NC.step {w : World} {u : Value} {W W' : World} (h : Ok (NC w u) W) (hb : Below W.heap.size W W') : Ok (NC w u) W' := ⟨(NC.r h).below hb, (NC.o h).below hb, (NC.below h).trans (hb.mono (NC.below h).size)⟩
theorem NC.step2 {w : World} {u : Value} {W W' : World} (h : Ok (NC w u) W) (hb : Below (w.heap.size + 2) W W') : Ok (NC w u) W' :=
  have h2 : w.heap.size + 1 < W.heap.size := (NC.o h).lt
  ⟨(hb.block _ (by omega)).trans (NC.r h), (hb.block _ (by omega)).trans (NC.o h), (NC.below h).trans (hb.mono (by omega))⟩
theorem NC.push {w : World} {u u' : Value} {W : World} (h : Ok (NC w u) W) : Ok (NC w u') (W.setCell ⟨w.heap.size + 1, 1, none⟩ u') :=
  ⟨(NC.r h).far ⟨w.heap.size + 1, 1, none⟩ (by simp) u', (NC.o h).set_ 1 u', (NC.below h).setCell (by simp) u'⟩
theorem NC.vec {w : World} {kd : Int} {U : Option Addr} {q n : Nat} {its : List ItemD} {W W' : World} (hn : its.length = n) (h : W.ownsRow (w.heap.size + 2) 36 3 (.slice U n q) n (its.flatMap itC)) (hi : ∀ x ∈ its, ItOk x) (hkd : I64 kd) (hk : Keeps (fun b => b ≠ w.heap.size) W W') :
    VecO (Rng w.heap.size W'.heap.size) W' [.int .i64 kd, .slice U n q, .slice none 0 0, .slice none 0 0, .slice none 0 0, .slice none 0 0, .int .i64 0, .int .i64 0] (atV kd its) := by
  subst hn
  have hz := hk.1
  have h5 := ((FlO.of_own h).keeps (hk.mono fun b hb => by have := hb.1; omega)).mono (S' := Rng w.heap.size W'.heap.size) fun b hb => ⟨by have := hb.1; omega, by have := hb.2; omega⟩
  exact vecO_items h5 hi hkd

set_option maxHeartbeats 2000000 in
theorem spec_NumberVector (l : List Int) (hl : l.length ≤ 40) (v : Value) (w : World) (h : Ints w v l) :
    Calls Try.prog 22 #[v] w (RetVec w (numV l)) := by
  obtain ⟨A, c, rfl, hlc, hm, HC⟩ := h.open_
  clear h
  unfold maxLen at hm
  go_enter Try.func22, Try.ntmps22
  go_wp2_with fail
  go_loopw [4] (fun i wr => ∃ (k : Nat) (U : Option Addr) (q : Nat), k ≤ l.length ∧ i = .int .i64 k ∧ Hid (Ok (NC w (.slice U k q)) wr) ∧ Hid (wr.ownsRow (w.heap.size + 2) 36 3 (.slice U k q) k (((l.take k).map numItem).flatMap itC))) (fun i _ => l.length - (intOf i).toNat)
  case atStart =>
    refine ⟨0, none, 0, Nat.zero_le _, rfl, ⟨?_, ?_, ?_⟩, World.ownsRow_nil _ _ _ _⟩
    · exact (Blk.new w 28 nvZ).alloc _
    · exact Blk.new_at _ 28 (boxV 2 (.slice none 0 0)) _ (by simp)
    · exact ((Below.refl _ _).alloc (Nat.le_refl _) _).alloc (by simp) _
  case round =>
    obtain ⟨k, U, q, hk, rfl, HT, HO⟩ := hrel
    by_cases hlt : k < l.length
    · obtain ⟨b, off, rfl, hbl, hcell, hi⟩ := HC.out k hlt
      have y0 := fun W (h : Ok (NC w (.slice U k q)) W) => ((NC.below h).cell (p := ⟨b, off + k, none⟩) hbl).trans hcell
      have t1 := fun W (h : Ok (NC w (.slice U k q)) W) => (NC.o h).cell 1 _ rfl
      have HI := Lib.hid hi
      clear hcell hi
      have hw2 : w.heap.size + 2 ≤ wr.heap.size := (NC.o HT.out).lt
      go_wp2_with fail
      have g1 : Ok (NC w (.slice U k q)) wr.drew := NC.step HT.out (Below.drew (Below.refl _ _))
      refine wp_region_phase (T := Ok (NC w (.slice U k q))) (by kernel_rfl) [(2, 0), (1, 1), (2, 2), (2, 3), (2, 4), (1, 5), (0, 6), (0, 7), (0, 8), (2, 9), (0, 10)] [10] (by kernel_rfl) g1 ?_
      repeat ((first | (refine dynL_take rfl rfl (fun W g => by go_simp; rfl) ?_) | (refine dynL_pure rfl rfl (fun W => by go_simp; rfl) ?_)); go_simp)
      refine dynL_act rfl rfl (fun K hK => ?_)
      go_wp2_with fail
      refine (spec_MakeNumberX _ 1 _ HI.out ⟨by decide, by decide⟩).mono ?_
      rintro e w2 ⟨rfl, hb⟩
      have HO2 := Lib.hid (own_below (own_below HO.out (Below.drew (Below.refl wr.heap.size wr))) hb)
      have hs2 : wr.heap.size ≤ w2.heap.size := hb.size
      replace g1 := NC.step g1 hb
      clear hb
      simp only []
      refine hK.out _ _ g1 ?_
      clear hK
      repeat ((first | (refine dynL_take rfl rfl (fun W g => by go_simp; rfl) ?_) | (refine dynL_pure rfl rfl (fun W => by go_simp; rfl) ?_)); go_simp)
      refine dynL_act rfl rfl (fun K hK => ?_)
      go_wp2_with fail
      refine hK.out _ _ (NC.step g1 ((Below.refl _ _).alloc (Nat.le_refl _) _)) ?_
      clear hK
      refine dynL_act rfl rfl (fun K hK => ?_)
      refine wp_push (.tmp 18) (.tmp 24) 24 rfl (w.heap.size + 2) 36 (.agg #[.int .i64 0, .int .i64 0, .string ByteArray.empty]) 3 32 Try.underlying24 info_Item rfl (by decide) w2 (.slice U k q) k _ (itC (numItem l[k])).toArray rfl rfl HO2.out rfl (by simp [itC, Value.oneCell']) (by omega) (by omega) (by omega) ?_
      intro v1 w3 ho3 _ _ hb3
      have g3 := NC.step2 g1 hb3
      obtain ⟨A3, c3, rfl⟩ := own_shapeN ho3
      have HO3 := Lib.hid ho3
      clear ho3 hb3
      refine hK.out _ _ g3 ?_
      clear hK
      go_simp
      repeat ((first | (refine dynL_take rfl rfl (fun W g => by go_simp; rfl) ?_) | (refine dynL_pure rfl rfl (fun W => by go_simp; rfl) ?_)); go_simp)
      have y1 := (NC.o g3).cell 1 _ rfl
      have f1 := (NC.o g3).frozen 1
      refine dynL_last rfl (by simp) rfl (fun K hK => ?_)
      go_wp2_with fail
      refine hK.out _ _ ?_
      clear hK
      refine dynL_done ?_
      go_wp2_with fail
      refine ⟨⟨k + 1, A3, c3, hlt, by go_num, NC.push g3, ?_⟩, by simp [intOf]; omega⟩
      have h7 := own_setCell HO3.out ⟨w.heap.size + 1, 1, none⟩ (.slice A3 (k + 1) c3) (by simp)
      show World.ownsRow _ _ _ _ _ _ _
      rw [List.take_succ_eq_append_getElem hlt, List.map_append, List.flatMap_append]
      simpa using h7
    · obtain rfl : k = l.length := by omega
      have y0 := HT.out.o.cell 0 _ rfl
      have y1 := HT.out.o.cell 1 _ rfl
      have y2 := HT.out.o.cell 2 _ rfl
      have y3 := HT.out.o.cell 3 _ rfl
      have y4 := HT.out.o.cell 4 _ rfl
      have y5 := HT.out.o.cell 5 _ rfl
      have y6 := HT.out.o.cell 6 _ rfl
      have y7 := HT.out.o.cell 7 _ rfl
      have r0 : wr.cell? ⟨w.heap.size, 0, none⟩ = some (.int .i64 0) := HT.out.r.cell 0 _ rfl
      have r1 : wr.cell? ⟨w.heap.size, 1, none⟩ = some (.slice none 0 0) := HT.out.r.cell 1 _ rfl
      have r2 : wr.cell? ⟨w.heap.size, 2, none⟩ = some (.slice none 0 0) := HT.out.r.cell 2 _ rfl
      have r3 : wr.cell? ⟨w.heap.size, 3, none⟩ = some (.slice none 0 0) := HT.out.r.cell 3 _ rfl
      have r4 : wr.cell? ⟨w.heap.size, 4, none⟩ = some (.slice none 0 0) := HT.out.r.cell 4 _ rfl
      have r5 : wr.cell? ⟨w.heap.size, 5, none⟩ = some (.slice none 0 0) := HT.out.r.cell 5 _ rfl
      have r6 : wr.cell? ⟨w.heap.size, 6, none⟩ = some (.int .i64 0) := HT.out.r.cell 6 _ rfl
      have r7 : wr.cell? ⟨w.heap.size, 7, none⟩ = some (.int .i64 0) := HT.out.r.cell 7 _ rfl
      have z0 := HT.out.r.frozen 0
      have z1 := HT.out.r.frozen 1
      have z2 := HT.out.r.frozen 2
      have z3 := HT.out.r.frozen 3
      have z4 := HT.out.r.frozen 4
      have z5 := HT.out.r.frozen 5
      have z6 := HT.out.r.frozen 6
      have z7 := HT.out.r.frozen 7
      have HL := Lib.hid (show l.length = (l.map numItem).length by simp)
      have hng : ¬ (40 : Int) < l.length := by omega
      go_wp2_with fail
      refine bodyPost_ret (v := .agg #[.int .i64 2, .slice U l.length q, .slice none 0 0, .slice none 0 0, .slice none 0 0, .slice none 0 0, .int .i64 0, .int .i64 0]) (by simp [results, Try.results22, go_sem, r0, r1, r2, r3, r4, r5, r6, r7]) rfl ?_
      have hkF := Keeps.sc (b := w.heap.size) (o := 7) (Keeps.sc (b := w.heap.size) (o := 6) (Keeps.sc (b := w.heap.size) (o := 5) (Keeps.sc (b := w.heap.size) (o := 4) (Keeps.sc (b := w.heap.size) (o := 3) (Keeps.sc (b := w.heap.size) (o := 2) (Keeps.sc (b := w.heap.size) (o := 1) (Keeps.sc (b := w.heap.size) (o := 0) (Keeps.refl (fun b => b ≠ w.heap.size) wr) (by simp) (.int .i64 2)) (by simp) (.slice U l.length q)) (by simp) (.slice none 0 0)) (by simp) (.slice none 0 0)) (by simp) (.slice none 0 0)) (by simp) (.slice none 0 0)) (by simp) (.int .i64 0)) (by simp) (.int .i64 0)
      have hbF := below_sc (b := w.heap.size) (o := 7) (below_sc (b := w.heap.size) (o := 6) (below_sc (b := w.heap.size) (o := 5) (below_sc (b := w.heap.size) (o := 4) (below_sc (b := w.heap.size) (o := 3) (below_sc (b := w.heap.size) (o := 2) (below_sc (b := w.heap.size) (o := 1) (below_sc (b := w.heap.size) (o := 0) (HT.out.below) (Nat.le_refl _) (.int .i64 2)) (Nat.le_refl _) (.slice U l.length q)) (Nat.le_refl _) (.slice none 0 0)) (Nat.le_refl _) (.slice none 0 0)) (Nat.le_refl _) (.slice none 0 0)) (Nat.le_refl _) (.slice none 0 0)) (Nat.le_refl _) (.int .i64 0)) (Nat.le_refl _) (.int .i64 0)
      have h8 := HO.out
      rw [List.take_length] at h8
      have hi2 : I64 2 := ⟨by decide, by decide⟩
      have hV := NC.vec (kd := 2) HL.out.symm h8 (fun x hx => by obtain ⟨n, _, rfl⟩ := List.mem_map.1 hx; exact numItem_ok n) hi2 hkF
      exact ⟨_, rfl, hV, hbF⟩

/-! ### elements that are drawn -/
def words21 : List (List UInt8) := [[97], [98], [120], [121], [97, 108, 112, 104, 97], [97, 108], [], [110, 32, 49], [34], [92], [10], [128], [102, 60, 45], [105, 102], [46, 46, 46], [46, 49], [95, 97], [97, 46, 98], [97, 114, 101, 97, 46, 115, 113, 117, 97, 114, 101], [116, 119, 101, 110, 116, 121, 46, 98, 121, 116, 101, 115, 46, 105, 110, 46, 104, 101, 114, 101], [116, 119, 101, 110, 116, 121, 49, 46, 98, 121, 116, 101, 115, 46, 105, 110, 46, 104, 101, 114, 101]]
theorem words21_len : ∀ s ∈ words21, s.length ≤ 100 := by decide
theorem Txts.lit {W : World} (ss : List (List UInt8)) (n : Nat) (hn : ss.length = n) (h1 : n ≤ 256) (h2 : ∀ s ∈ ss, s.length ≤ 100) : Txts (W.alloc (.cells (ss.map fun s => Value.string (str s)).toArray 9)) (.slice (some ⟨W.heap.size, 0, none⟩) n n) ss := by
  subst hn
  exact txts_new W 9 ss _ rfl (by unfold maxLen; omega) (fun s hs => by have := h2 s hs; unfold maxLen; omega)

set_option maxHeartbeats 1000000 in
theorem spec_l1Word (g : Nat) (v : Value) (l : List Nat) (w : World) (hC : Cur w g v l) (ha : Apart l.length g v) :
    Calls Try.prog 90 #[.pointer (some ⟨g, 0, none⟩)] w (Picks g v l words21 w) := by
  have hgl := Cur.lt_ hC
  have HA := Lib.hid ha
  have hb := (Below.refl w.heap.size w).alloc (Nat.le_refl _) (.cells (words21.map fun s => Value.string (str s)).toArray 9)
  have HC := Lib.hid (Cur.below_ hC hb)
  have HO := Lib.hid (Only.of_below (g := g) hb)
  have HT := Lib.hid (Txts.lit (W := w) words21 21 rfl (by decide) words21_len)
  have HAP := Lib.hid (show Apart 21 g (.slice (some ⟨w.heap.size, 0, none⟩) 21 21) from fun _ a n c hv => by injection hv with e1; injection e1 with e1; subst e1; show w.heap.size ≠ _; omega)
  clear hC ha hb
  go_enter Try.func90, Try.ntmps90
  go_wp2_with fail
  refine Calls.mono (spec_l1Pick g v l _ words21 _ (by exact HC.out) HA.out (by exact HT.out) (by exact HAP.out) (by decide) (by decide)) ?_
  rintro e w3 ⟨s, rfl, hs, hc, ho⟩
  have HC2 := Lib.hid hc
  have HO2 := Lib.hid (HO.out.trans ho)
  have HS := Lib.hid hs
  clear hc ho hs
  go_wp2_with fail
  go_ret
  exact ⟨s, rfl, HS.out, HC2.out, HO2.out⟩

theorem own_setNe {w : World} {base : Nat} {e : TypeId} {size n : Nat} {v : Value} {xs : List Value} (h : w.ownsRow base e size v n xs) (p : Addr) (u : Value) (hp : ∀ c, v.ownBlock = some c → c < p.block) : (w.setCell p u).ownsRow base e size v n xs := by
  refine h.kept (grown_setCell w p u) ?_
  cases hv : v.ownBlock with
  | none => exact .inl rfl
  | some k =>
    right
    intro he
    have := hp k hv
    injection he with he
    omega
structure AC (g : Nat) (v : Value) (l : List Nat) (w : World) (kd : Int) (u : Value) (W : World) : Prop where
  cur : Cur W g v l
  r : Blk W w.heap.size 28 nvZ
  o : Blk W (w.heap.size + 1) 28 (boxV kd u)
  only : Only g w W
section
variable {g : Nat} {v : Value} {l : List Nat} {w : World} {kd : Int} {u : Value} {W W' : World}
theorem AC.lt (h : Ok (AC g v l w kd u) W) : w.heap.size + 2 ≤ W.heap.size := by have := (AC.o h).lt; omega
theorem AC.next (h : Ok (AC g v l w kd u) W) (hg : g < w.heap.size) (hc : Cur W' g v l) (ho : Only g W W') : Ok (AC g v l w kd u) W' :=
  ⟨hc, (ho.block _ (AC.r h).lt (fun e => by injection e with e; omega)).trans (AC.r h), (ho.block _ (AC.o h).lt (fun e => by injection e with e; omega)).trans (AC.o h), (AC.only h).trans ho⟩
theorem AC.step (h : Ok (AC g v l w kd u) W) (hb : Below W.heap.size W W') : Ok (AC g v l w kd u) W' :=
  ⟨Cur.below_ (AC.cur h) hb, (AC.r h).below hb, (AC.o h).below hb, (AC.only h).trans (Only.of_below hb)⟩
theorem AC.step2 (h : Ok (AC g v l w kd u) W) (hg : g < w.heap.size) (hy : Bytes w v l) (ha : Apart l.length g v) (hb : Below (w.heap.size + 2) W W') : Ok (AC g v l w kd u) W' :=
  have h2 := AC.lt h
  have ho := (AC.only h).belowB (hb.mono (by omega))
  ⟨Cur.next (AC.cur h) (hb.mono (B' := w.heap.size) (by omega)) hg (hy.only ha ho), (hb.block _ (by omega)).trans (AC.r h), (hb.block _ (by omega)).trans (AC.o h), ho⟩
theorem AC.push (h : Ok (AC g v l w kd u) W) (hg : g < w.heap.size) (hy : Bytes w v l) (ha : Apart l.length g v) (u' : Value) : Ok (AC g v l w kd u') (W.setCell ⟨w.heap.size + 1, 1, none⟩ u') :=
  have hb : Below w.heap.size W (W.setCell ⟨w.heap.size + 1, 1, none⟩ u') := (Below.refl _ _).setCell (by simp) u'
  have ho := (AC.only h).belowB hb
  ⟨Cur.next (AC.cur h) hb hg (hy.only ha ho), (AC.r h).far ⟨w.heap.size + 1, 1, none⟩ (by simp) u', (AC.o h).set_ 1 u', ho⟩
end
def RetAtom (g : Nat) (v : Value) (l : List Nat) (kd : Int) (m : Nat) (w : World) (e : Ending) (w' : World) : Prop :=
  ∃ (U : Option Addr) (q : Nat) (its : List ItemD), e = .returned (.agg #[.int .i64 kd, .slice U m q, .slice none 0 0, .slice none 0 0, .slice none 0 0, .slice none 0 0, .int .i64 0, .int .i64 0]) ∧
    VecO (Rng w.heap.size w'.heap.size) w' [.int .i64 kd, .slice U m q, .slice none 0 0, .slice none 0 0, .slice none 0 0, .slice none 0 0, .int .i64 0, .int .i64 0] (atV kd its) ∧ its.length = m ∧ (∀ x ∈ its, ItOk x) ∧ Cur w' g v l ∧ Only g w w'
/-- an element's box -/
structure XB (g : Nat) (v : Value) (l : List Nat) (w : World) (kd : Int) (u : Value) (k : Nat) (its : List ItemD) (b : Nat) (x : ItemD) (W : World) : Prop where
  c : Ok (AC g v l w kd u) W
  own : W.ownsRow (w.heap.size + 2) 36 3 u k (its.flatMap itC)
  xb : Blk W b 36 (itC x)
  hb : w.heap.size + 2 ≤ b
  ne : ∀ c, u.ownBlock = some c → c < b
  ok : ItOk x
section
variable {g : Nat} {v : Value} {l : List Nat} {w : World} {kd : Int} {u : Value} {k : Nat} {its : List ItemD} {b : Nat} {x : ItemD} {W W' : World}
theorem XB.next (h : XB g v l w kd u k its b x W) (hg : g < w.heap.size) (hc : Cur W' g v l) (ho : Only g W W') : XB g v l w kd u k its b x W' :=
  ⟨AC.next h.c hg hc ho, own_only h.own ho (by omega), (ho.block _ h.xb.lt (fun e => by injection e with e; have := h.hb; omega)).trans h.xb, h.hb, h.ne, h.ok⟩
theorem XB.step (h : XB g v l w kd u k its b x W) (hb : Below W.heap.size W W') : XB g v l w kd u k its b x W' :=
  ⟨AC.step h.c hb, own_below h.own hb, h.xb.below hb, h.hb, h.ne, h.ok⟩
/-- a box of its own is made -/
theorem XB.make (hc : Ok (AC g v l w kd u) W) (ho : W.ownsRow (w.heap.size + 2) 36 3 u k (its.flatMap itC)) (x : ItemD) (hx : ItOk x) (hb : b = W.heap.size) :
    XB g v l w kd u k its b x (W.alloc (.cells #[.int .i64 x.num, .int .i64 x.den, .string (str x.text)] 36)) := by
  subst hb
  have h2 := AC.lt hc
  have hbl : Below W.heap.size W (W.alloc (.cells #[.int .i64 x.num, .int .i64 x.den, .string (str x.text)] 36)) := (Below.refl _ _).alloc (Nat.le_refl _) _
  exact ⟨AC.step hc hbl, own_below ho hbl, Blk.new W 36 (itC x), h2, fun c hc => (ho.lt c hc).2, hx⟩
/-- the box is written anew -/
theorem XB.put (h : XB g v l w kd u k its b x W) (hg : g < w.heap.size) (hy : Bytes w v l) (ha : Apart l.length g v) (y : ItemD) (hx : ItOk y) :
    XB g v l w kd u k its b y (((W.setCell ⟨b, 0, none⟩ (.int .i64 y.num)).setCell ⟨b, 1, none⟩ (.int .i64 y.den)).setCell ⟨b, 2, none⟩ (.string (str y.text))) := by
  have hb := h.hb
  have hbl : Below (w.heap.size + 2) W (((W.setCell ⟨b, 0, none⟩ (.int .i64 y.num)).setCell ⟨b, 1, none⟩ (.int .i64 y.den)).setCell ⟨b, 2, none⟩ (.string (str y.text))) :=
    below_sc (below_sc (below_sc (Below.refl _ _) hb _) hb _) hb _
  exact ⟨AC.step2 h.c hg hy ha hbl, own_setNe (own_setNe (own_setNe h.own ⟨b, 0, none⟩ _ h.ne) ⟨b, 1, none⟩ _ h.ne) ⟨b, 2, none⟩ _ h.ne, ((h.xb.set_ 0 _).set_ 1 _).set_ 2 _, hb, h.ne, hx⟩
end

set_option maxHeartbeats 4000000 in
theorem spec_l4Atom (g : Nat) (v : Value) (l : List Nat) (kd : Int) (m : Nat) (w : World) (hC : Cur w g v l) (ha : Apart l.length g v) (hkd : I64 kd) (hm : m ≤ 41) :
    Calls Try.prog 38 #[.pointer (some ⟨g, 0, none⟩), .int .i64 kd, .int .i64 m] w (RetAtom g v l kd m w) := by
  have hgl := Cur.lt_ hC
  have HA := Lib.hid ha
  have HY := Lib.hid (show Bytes w v l from by obtain ⟨_, _, _, _, _, h⟩ := hC; exact h)
  have HC := Lib.hid hC
  have HK := Lib.hid hkd
  clear hC ha hkd
  go_enter Try.func38, Try.ntmps38
  go_wp2_with fail
  go_loopw [8] (fun i wr => ∃ (k : Nat) (U : Option Addr) (q : Nat) (its : List ItemD), k ≤ m ∧ i = .int .i64 k ∧ Hid (its.length = k) ∧ Hid (∀ x ∈ its, ItOk x) ∧ Hid (Ok (AC g v l w kd (.slice U k q)) wr) ∧ Hid (wr.ownsRow (w.heap.size + 2) 36 3 (.slice U k q) k (its.flatMap itC))) (fun i _ => m - (intOf i).toNat)
  case atStart =>
    have hb : Below w.heap.size w ((w.alloc (.cells nvZ.toArray 28)).alloc (.cells (boxV kd (.slice none 0 0)).toArray 28)) := ((Below.refl _ _).alloc (Nat.le_refl _) _).alloc (by simp) _
    refine ⟨0, none, 0, [], Nat.zero_le _, rfl, rfl, fun x h => (by cases h), ⟨Cur.below_ HC.out hb, ?_, ?_, Only.of_below hb⟩, World.ownsRow_nil _ _ _ _⟩
    · exact (Blk.new w 28 nvZ).alloc _
    · exact Blk.new_at _ 28 (boxV kd (.slice none 0 0)) _ (by simp)
  case round =>
    obtain ⟨k, U, q, its, hk, rfl, HL, HI, HT, HO⟩ := hrel
    by_cases hlt : k < m
    · go_wp2_with fail
      refine Calls.mono (spec_l2Draw g v l _ (AC.cur HT.out) HA.out) ?_
      rintro e w1 ⟨n, d, rfl, hn, hd, hc, ho⟩
      have hb2 := AC.lt HT.out
      have hs1 := ho.size
      have HX := Lib.hid (XB.make (b := w1.heap.size) (AC.next HT.out hgl hc ho) (own_only HO.out ho (by omega)) ⟨n, d, []⟩ ⟨hn.i64, hd.i64, Nat.zero_le _⟩ rfl)
      have HN := Lib.hid hn
      have HD := Lib.hid hd
      clear hc ho hn hd
      go_upto_region 6 with fail
      generalize hbx : w1.heap.size = bx at HX ⊢
      clear hbx
      refine gen_w (G := XB g v l w kd (.slice U k q) k its bx ⟨n, d, []⟩) HX.out ?_
      intro w2 HX2
      have hX2 := Lib.hid (show XB g v l w kd (.slice U k q) k its bx ⟨n, d, []⟩ w2 from HX2)
      clear HX HX2 HT HO
      have e0 := hX2.out.xb.cell 0 _ rfl
      have e1 := hX2.out.xb.cell 1 _ rfl
      have e2 := hX2.out.xb.cell 2 _ rfl
      by_cases c1 : kd = 1 ∧ d ≠ 0
      · obtain ⟨rfl, hd0⟩ := c1
        have hnb := HN.out
        unfold NB at hnb
        have HAB := Lib.hid (show -9223372036854775808 < n ∧ n ≤ 9223372036854775807 by omega)
        go_wp2_with (go_at_call 89; refine (spec_l2Abs _ _ (by exact HAB.out.1) (by exact HAB.out.2)).mono ?_; rintro e w' ⟨rfl, rfl⟩)
        refine Calls.mono (spec_l2Num _ _ (by unfold NB; omega)) ?_
        rintro e w3 ⟨n3, d3, rfl, hn3, hd3, hb3⟩
        have HX3 := Lib.hid (hX2.out.step hb3)
        clear e0 e1 e2
        have e0 := HX3.out.xb.cell 0 _ rfl
        have e1 := HX3.out.xb.cell 1 _ rfl
        have e2 := HX3.out.xb.cell 2 _ rfl
        have z0 := HX3.out.xb.frozen 0
        have z1 := HX3.out.xb.frozen 1
        have z2 := HX3.out.xb.frozen 2
        have HX4 := Lib.hid (HX3.out.put hgl HY.out HA.out ⟨n3, d3, []⟩ ⟨hn3.i64, hd3.i64, Nat.zero_le _⟩)
        clear hb3 hn3 hd3
        go_upto_region 10 with fail
        clear e0 e1 e2 z0 z1 z2 HX3 hX2
        refine gen_w (G := XB g v l w 1 (.slice U k q) k its bx ⟨n3, d3, []⟩) HX4.out ?_
        intro w4 HX5
        have HX := Lib.hid (show XB g v l w 1 (.slice U k q) k its bx ⟨n3, d3, []⟩ w4 from HX5)
        clear HX5 HX4
        have e0 := HX.out.xb.cell 0 _ rfl
        have e1 := HX.out.xb.cell 1 _ rfl
        have e2 := HX.out.xb.cell 2 _ rfl
        have y1 := (AC.o HX.out.c).cell 1 _ rfl
        have hw3 := AC.lt HX.out.c
        go_wp2_with (at_builtin; go_must (refine wpList_push rfl _ _ 24 rfl (w.heap.size + 2) 36 (.agg #[.int .i64 0, .int .i64 0, .string ByteArray.empty]) 3 32 Try.underlying24 info_Item rfl (by decide) _ _ _ _ _ rfl rfl (by exact HX.out.own) rfl (by simp [Value.oneCell']) (by omega) (by omega) hw3 ?_); intro v1 w6 ho1 _ _ hb1; obtain ⟨A6, c6, rfl⟩ := own_shapeN ho1; have y6 := (AC.o (AC.step2 HX.out.c hgl HY.out HA.out hb1)).cell 1 _ rfl; have f6 := (AC.o (AC.step2 HX.out.c hgl HY.out HA.out hb1)).frozen 1)
        go_roundw
        case rel =>
          refine ⟨k + 1, A6, c6, its ++ [⟨n3, d3, []⟩], hlt, by go_num, ?_, ?_, AC.push (AC.step2 HX.out.c hgl HY.out HA.out hb1) hgl HY.out HA.out _, ?_⟩
          · show _ = _
            rw [List.length_append, HL.out]; rfl
          · intro y hy
            rcases List.mem_append.1 hy with hy | hy
            · exact HI.out y hy
            · rw [List.mem_singleton.1 hy]
              exact HX.out.ok
          · show World.ownsRow _ _ _ _ _ _ _
            rw [List.flatMap_append]
            exact own_setCell (by simpa [itC] using ho1) ⟨w.heap.size + 1, 1, none⟩ _ (by simp)
        case measure => simp [intOf]; omega
      by_cases c2 : kd = 3 ∧ d ≠ 0
      · obtain ⟨rfl, hd0⟩ := c2
        go_wp2_with fail
        refine Calls.mono (spec_l1Word g v l _ (AC.cur hX2.out.c) HA.out) ?_
        rintro e w3 ⟨s, rfl, hs, hc3, ho3⟩
        have HX3 := Lib.hid (hX2.out.next hgl hc3 ho3)
        have HS := Lib.hid (words21_len s hs)
        clear hc3 ho3 hs e0 e1 e2
        go_wp2_with fail
        refine Calls.mono (spec_l4Text s _) ?_
        rintro e w4 ⟨rfl, hb4⟩
        have HX4 := Lib.hid (HX3.out.step hb4)
        have e0 := HX4.out.xb.cell 0 _ rfl
        have e1 := HX4.out.xb.cell 1 _ rfl
        have e2 := HX4.out.xb.cell 2 _ rfl
        have z0 := HX4.out.xb.frozen 0
        have z1 := HX4.out.xb.frozen 1
        have z2 := HX4.out.xb.frozen 2
        have HX6 := Lib.hid (HX4.out.put hgl HY.out HA.out ⟨0, 1, s⟩ ⟨i64z_, i64o_, HS.out⟩)
        clear hb4
        go_upto_region 10 with fail
        clear e0 e1 e2 z0 z1 z2 HX3 hX2 HX4
        refine gen_w (G := XB g v l w 3 (.slice U k q) k its bx ⟨0, 1, s⟩) HX6.out ?_
        intro w5 HX5
        have HX := Lib.hid (show XB g v l w 3 (.slice U k q) k its bx ⟨0, 1, s⟩ w5 from HX5)
        clear HX5 HX6
        have e0 := HX.out.xb.cell 0 _ rfl
        have e1 := HX.out.xb.cell 1 _ rfl
        have e2 := HX.out.xb.cell 2 _ rfl
        have y1 := (AC.o HX.out.c).cell 1 _ rfl
        have hw3 := AC.lt HX.out.c
        go_wp2_with (at_builtin; go_must (refine wpList_push rfl _ _ 24 rfl (w.heap.size + 2) 36 (.agg #[.int .i64 0, .int .i64 0, .string ByteArray.empty]) 3 32 Try.underlying24 info_Item rfl (by decide) _ _ _ _ _ rfl rfl (by exact HX.out.own) rfl (by simp [Value.oneCell']) (by omega) (by omega) hw3 ?_); intro v1 w6 ho1 _ _ hb1; obtain ⟨A6, c6, rfl⟩ := own_shapeN ho1; have y6 := (AC.o (AC.step2 HX.out.c hgl HY.out HA.out hb1)).cell 1 _ rfl; have f6 := (AC.o (AC.step2 HX.out.c hgl HY.out HA.out hb1)).frozen 1)
        go_roundw
        case rel =>
          refine ⟨k + 1, A6, c6, its ++ [⟨0, 1, s⟩], hlt, by go_num, ?_, ?_, AC.push (AC.step2 HX.out.c hgl HY.out HA.out hb1) hgl HY.out HA.out _, ?_⟩
          · show _ = _
            rw [List.length_append, HL.out]; rfl
          · intro y hy
            rcases List.mem_append.1 hy with hy | hy
            · exact HI.out y hy
            · rw [List.mem_singleton.1 hy]
              exact HX.out.ok
          · show World.ownsRow _ _ _ _ _ _ _
            rw [List.flatMap_append]
            exact own_setCell (by simpa [itC] using ho1) ⟨w.heap.size + 1, 1, none⟩ _ (by simp)
        case measure => simp [intOf]; omega
      have HX := hX2
      have h1 : kd = 1 → d = 0 := fun h => Classical.byContradiction fun h2 => c1 ⟨h, h2⟩
      have h3 : kd = 3 → d = 0 := fun h => Classical.byContradiction fun h2 => c2 ⟨h, h2⟩
      by_cases k1 : kd = 1
      · obtain rfl := k1
        obtain rfl := h1 rfl
        clear h1 h3 c1 c2
        go_upto_region 10 with fail
        clear e0 e1 e2 hX2
        have e0 := HX.out.xb.cell 0 _ rfl
        have e1 := HX.out.xb.cell 1 _ rfl
        have e2 := HX.out.xb.cell 2 _ rfl
        have y1 := (AC.o HX.out.c).cell 1 _ rfl
        have hw3 := AC.lt HX.out.c
        go_wp2_with (at_builtin; go_must (refine wpList_push rfl _ _ 24 rfl (w.heap.size + 2) 36 (.agg #[.int .i64 0, .int .i64 0, .string ByteArray.empty]) 3 32 Try.underlying24 info_Item rfl (by decide) _ _ _ _ _ rfl rfl (by exact HX.out.own) rfl (by simp [Value.oneCell']) (by omega) (by omega) hw3 ?_); intro v1 w6 ho1 _ _ hb1; obtain ⟨A6, c6, rfl⟩ := own_shapeN ho1; have y6 := (AC.o (AC.step2 HX.out.c hgl HY.out HA.out hb1)).cell 1 _ rfl; have f6 := (AC.o (AC.step2 HX.out.c hgl HY.out HA.out hb1)).frozen 1)
        go_roundw
        case rel =>
          refine ⟨k + 1, A6, c6, its ++ [⟨n, 0, []⟩], hlt, by go_num, ?_, ?_, AC.push (AC.step2 HX.out.c hgl HY.out HA.out hb1) hgl HY.out HA.out _, ?_⟩
          · show _ = _
            rw [List.length_append, HL.out]; rfl
          · intro y hy
            rcases List.mem_append.1 hy with hy | hy
            · exact HI.out y hy
            · rw [List.mem_singleton.1 hy]
              exact HX.out.ok
          · show World.ownsRow _ _ _ _ _ _ _
            rw [List.flatMap_append]
            exact own_setCell (by simpa [itC] using ho1) ⟨w.heap.size + 1, 1, none⟩ _ (by simp)
        case measure => simp [intOf]; omega
      by_cases k3 : kd = 3
      · obtain rfl := k3
        obtain rfl := h3 rfl
        clear h1 h3 c1 c2
        go_upto_region 10 with fail
        clear e0 e1 e2 hX2
        have e0 := HX.out.xb.cell 0 _ rfl
        have e1 := HX.out.xb.cell 1 _ rfl
        have e2 := HX.out.xb.cell 2 _ rfl
        have y1 := (AC.o HX.out.c).cell 1 _ rfl
        have hw3 := AC.lt HX.out.c
        go_wp2_with (at_builtin; go_must (refine wpList_push rfl _ _ 24 rfl (w.heap.size + 2) 36 (.agg #[.int .i64 0, .int .i64 0, .string ByteArray.empty]) 3 32 Try.underlying24 info_Item rfl (by decide) _ _ _ _ _ rfl rfl (by exact HX.out.own) rfl (by simp [Value.oneCell']) (by omega) (by omega) hw3 ?_); intro v1 w6 ho1 _ _ hb1; obtain ⟨A6, c6, rfl⟩ := own_shapeN ho1; have y6 := (AC.o (AC.step2 HX.out.c hgl HY.out HA.out hb1)).cell 1 _ rfl; have f6 := (AC.o (AC.step2 HX.out.c hgl HY.out HA.out hb1)).frozen 1)
        go_roundw
        case rel =>
          refine ⟨k + 1, A6, c6, its ++ [⟨n, 0, []⟩], hlt, by go_num, ?_, ?_, AC.push (AC.step2 HX.out.c hgl HY.out HA.out hb1) hgl HY.out HA.out _, ?_⟩
          · show _ = _
            rw [List.length_append, HL.out]; rfl
          · intro y hy
            rcases List.mem_append.1 hy with hy | hy
            · exact HI.out y hy
            · rw [List.mem_singleton.1 hy]
              exact HX.out.ok
          · show World.ownsRow _ _ _ _ _ _ _
            rw [List.flatMap_append]
            exact own_setCell (by simpa [itC] using ho1) ⟨w.heap.size + 1, 1, none⟩ _ (by simp)
        case measure => simp [intOf]; omega
      · clear h1 h3 c1 c2
        go_upto_region 10 with fail
        clear e0 e1 e2 hX2
        have e0 := HX.out.xb.cell 0 _ rfl
        have e1 := HX.out.xb.cell 1 _ rfl
        have e2 := HX.out.xb.cell 2 _ rfl
        have y1 := (AC.o HX.out.c).cell 1 _ rfl
        have hw3 := AC.lt HX.out.c
        go_wp2_with (at_builtin; go_must (refine wpList_push rfl _ _ 24 rfl (w.heap.size + 2) 36 (.agg #[.int .i64 0, .int .i64 0, .string ByteArray.empty]) 3 32 Try.underlying24 info_Item rfl (by decide) _ _ _ _ _ rfl rfl (by exact HX.out.own) rfl (by simp [Value.oneCell']) (by omega) (by omega) hw3 ?_); intro v1 w6 ho1 _ _ hb1; obtain ⟨A6, c6, rfl⟩ := own_shapeN ho1; have y6 := (AC.o (AC.step2 HX.out.c hgl HY.out HA.out hb1)).cell 1 _ rfl; have f6 := (AC.o (AC.step2 HX.out.c hgl HY.out HA.out hb1)).frozen 1)
        go_roundw
        case rel =>
          refine ⟨k + 1, A6, c6, its ++ [⟨n, d, []⟩], hlt, by go_num, ?_, ?_, AC.push (AC.step2 HX.out.c hgl HY.out HA.out hb1) hgl HY.out HA.out _, ?_⟩
          · show _ = _
            rw [List.length_append, HL.out]; rfl
          · intro y hy
            rcases List.mem_append.1 hy with hy | hy
            · exact HI.out y hy
            · rw [List.mem_singleton.1 hy]
              exact HX.out.ok
          · show World.ownsRow _ _ _ _ _ _ _
            rw [List.flatMap_append]
            exact own_setCell (by simpa [itC] using ho1) ⟨w.heap.size + 1, 1, none⟩ _ (by simp)
        case measure => simp [intOf]; omega
    · obtain rfl : k = m := by omega
      have y0 := (AC.o HT.out).cell 0 _ rfl
      have y1 := (AC.o HT.out).cell 1 _ rfl
      have y2 := (AC.o HT.out).cell 2 _ rfl
      have y3 := (AC.o HT.out).cell 3 _ rfl
      have y4 := (AC.o HT.out).cell 4 _ rfl
      have y5 := (AC.o HT.out).cell 5 _ rfl
      have y6 := (AC.o HT.out).cell 6 _ rfl
      have y7 := (AC.o HT.out).cell 7 _ rfl
      have r0 : wr.cell? ⟨w.heap.size, 0, none⟩ = some (.int .i64 0) := (AC.r HT.out).cell 0 _ rfl
      have r1 : wr.cell? ⟨w.heap.size, 1, none⟩ = some (.slice none 0 0) := (AC.r HT.out).cell 1 _ rfl
      have r2 : wr.cell? ⟨w.heap.size, 2, none⟩ = some (.slice none 0 0) := (AC.r HT.out).cell 2 _ rfl
      have r3 : wr.cell? ⟨w.heap.size, 3, none⟩ = some (.slice none 0 0) := (AC.r HT.out).cell 3 _ rfl
      have r4 : wr.cell? ⟨w.heap.size, 4, none⟩ = some (.slice none 0 0) := (AC.r HT.out).cell 4 _ rfl
      have r5 : wr.cell? ⟨w.heap.size, 5, none⟩ = some (.slice none 0 0) := (AC.r HT.out).cell 5 _ rfl
      have r6 : wr.cell? ⟨w.heap.size, 6, none⟩ = some (.int .i64 0) := (AC.r HT.out).cell 6 _ rfl
      have r7 : wr.cell? ⟨w.heap.size, 7, none⟩ = some (.int .i64 0) := (AC.r HT.out).cell 7 _ rfl
      have z0 := (AC.r HT.out).frozen 0
      have z1 := (AC.r HT.out).frozen 1
      have z2 := (AC.r HT.out).frozen 2
      have z3 := (AC.r HT.out).frozen 3
      have z4 := (AC.r HT.out).frozen 4
      have z5 := (AC.r HT.out).frozen 5
      have z6 := (AC.r HT.out).frozen 6
      have z7 := (AC.r HT.out).frozen 7
      go_wp2_with fail
      refine bodyPost_ret (v := .agg #[.int .i64 kd, .slice U k q, .slice none 0 0, .slice none 0 0, .slice none 0 0, .slice none 0 0, .int .i64 0, .int .i64 0]) (by simp [results, Try.results38, go_sem, r0, r1, r2, r3, r4, r5, r6, r7]) rfl ?_
      have hkF := Keeps.sc (b := w.heap.size) (o := 7) (Keeps.sc (b := w.heap.size) (o := 6) (Keeps.sc (b := w.heap.size) (o := 5) (Keeps.sc (b := w.heap.size) (o := 4) (Keeps.sc (b := w.heap.size) (o := 3) (Keeps.sc (b := w.heap.size) (o := 2) (Keeps.sc (b := w.heap.size) (o := 1) (Keeps.sc (b := w.heap.size) (o := 0) (Keeps.refl (fun b => b ≠ w.heap.size) wr) (by simp) (.int .i64 kd)) (by simp) (.slice U k q)) (by simp) (.slice none 0 0)) (by simp) (.slice none 0 0)) (by simp) (.slice none 0 0)) (by simp) (.slice none 0 0)) (by simp) (.int .i64 0)) (by simp) (.int .i64 0)
      have hbF := below_sc (b := w.heap.size) (o := 7) (below_sc (b := w.heap.size) (o := 6) (below_sc (b := w.heap.size) (o := 5) (below_sc (b := w.heap.size) (o := 4) (below_sc (b := w.heap.size) (o := 3) (below_sc (b := w.heap.size) (o := 2) (below_sc (b := w.heap.size) (o := 1) (below_sc (b := w.heap.size) (o := 0) (Below.refl w.heap.size wr) (Nat.le_refl _) (.int .i64 kd)) (Nat.le_refl _) (.slice U k q)) (Nat.le_refl _) (.slice none 0 0)) (Nat.le_refl _) (.slice none 0 0)) (Nat.le_refl _) (.slice none 0 0)) (Nat.le_refl _) (.slice none 0 0)) (Nat.le_refl _) (.int .i64 0)) (Nat.le_refl _) (.int .i64 0)
      have h8 := HO.out
      exact ⟨U, q, its, rfl, NC.vec HL.out h8 HI.out HK.out hkF, HL.out, HI.out, Cur.next (AC.cur HT.out) hbF hgl (HY.out.only HA.out ((AC.only HT.out).belowB hbF)), (AC.only HT.out).belowB hbF⟩
end Go.Proofs.Ytjdimlhdkmkmbaa
