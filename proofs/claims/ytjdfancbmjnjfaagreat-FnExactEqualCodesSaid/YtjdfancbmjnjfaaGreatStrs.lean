/-
  Contracts of the laws' helpers on slices of strings: sizes, copies, comparisons, marks.
-/
import Derived.Test.YtjdfancbmjnjfaaGreatFind
import Derived.Test.YtjdfancbmjnjfaaGreatMem
import Derived.Deep.RegionHeld3
namespace Go.Proofs.YtjdfancbmjnjfaaGreat
set_option maxRecDepth 100000
open Go.ChangeShapes Go.WideShapes Go.ChangeAt Go.RowKit Go.Deep

/-- what a size function answers: what is left of 'left', or -1 -/
def szR (left : Int) (n : Nat) : Int := if (n : Int) ≤ left then left - n else -1
def szL (l : List (List UInt8)) : Nat := l.length + (l.map List.length).sum

theorem sum_take_succ (l : List (List UInt8)) (k : Nat) (h : k < l.length) : ((l.take (k + 1)).map List.length).sum = ((l.take k).map List.length).sum + l[k].length := by
  rw [List.take_succ_eq_append_getElem h, List.map_append, List.sum_append]; simp
theorem sum_take_le (l : List (List UInt8)) (k : Nat) : ((l.take k).map List.length).sum ≤ (l.map List.length).sum := by
  have h : (l.map List.length).sum = ((l.take k).map List.length).sum + ((l.drop k).map List.length).sum := by
    rw [← List.sum_append, ← List.map_append, List.take_append_drop]
  omega
theorem sum_take_all (l : List (List UInt8)) (k : Nat) (h : l.length ≤ k) : ((l.take k).map List.length).sum = (l.map List.length).sum := by
  rw [List.take_of_length_le h]

theorem laws_szStringS (l : List (List UInt8)) (v : Value) (left : Int) (w : World) (h : Txts w v l) (h0 : 0 ≤ left) (h1 : left ≤ 1048576) :
    Calls Tryz.prog 78 #[v, .int .i64 left] w fun e w' => e = .returned (.int .i64 (szR left (szL l))) ∧ w = w' := by
  obtain ⟨A, c, rfl, hlc, hm, HC⟩ := h.open_
  clear h
  unfold maxLen at hm
  by_cases hle : (l.length : Int) ≤ left
  · go_enter Tryz.func78, Tryz.ntmps78
    go_wp2
    go_loop [1, 5] (fun x i => ∃ k : Nat, k ≤ l.length ∧ i = .int .i64 k ∧ ∃ y : Int, x = .int .i64 y ∧ 0 ≤ y ∧ y ≤ 1048576 ∧ Hid (y = left - l.length - ((l.take k).map List.length).sum)) (fun _ i => l.length - (intOf i).toNat)
    case atStart => exact ⟨0, Nat.zero_le _, rfl, _, rfl, by omega, by omega, by simp [Hid]⟩
    case round =>
      obtain ⟨k, hk, rfl, y, rfl, hy0, hy1, hy⟩ := hrel
      by_cases hlt : k < l.length
      · obtain ⟨b, off, rfl, _, hcell, hsz⟩ := HC.out k hlt
        unfold maxLen at hsz
        have hs := sum_take_succ l k hlt
        have HS := Lib.hid hs
        clear hs
        go_wp2
        · go_ret
          refine ⟨ret_int ?_, rfl⟩
          have := sum_take_le l (k + 1)
          have := hy.out
          have := HS.out
          unfold szR szL
          rw [if_neg (by omega)]
        · go_round
          case rel => exact ⟨k + 1, by omega, by go_num, _, rfl, by omega, by omega, by have := hy.out; have := HS.out; show _ = _; omega⟩
          case measure => simp [intOf]; omega
      · go_wp2
        go_ret
        refine ⟨ret_int ?_, rfl⟩
        have := sum_take_all l k (by omega)
        have := hy.out
        unfold szR szL
        rw [if_pos (by omega)]
        omega
  · go_enter Tryz.func78, Tryz.ntmps78
    go_wp2
    go_ret
    refine ⟨ret_int ?_, rfl⟩
    unfold szR szL
    rw [if_neg (by omega)]

theorem szR_neg {left : Int} {n : Nat} (h : ¬ (n : Int) ≤ left) : szR left n = -1 := by unfold szR; rw [if_neg h]
theorem szR_pos {left : Int} {n : Nat} (h : (n : Int) ≤ left) : szR left n = left - n := by unfold szR; rw [if_pos h]
theorem szL_length (l : List (List UInt8)) : l.length ≤ szL l := by unfold szL; omega
theorem szL_mem (l : List (List UInt8)) (s : List UInt8) (h : s ∈ l) : s.length ≤ szL l := by
  unfold szL
  induction l with
  | nil => simp at h
  | cons x l ih =>
    simp only [List.mem_cons] at h
    simp only [List.length_cons, List.map_cons, List.sum_cons]
    rcases h with rfl | h
    · omega
    · have := ih h; omega


set_option maxHeartbeats 400000 in
theorem laws_toStringS (l : List (List UInt8)) (v : Value) (w : World) (h : Txts w v l) (hl : l.length ≤ 1048576) :
    Calls Tryz.prog 87 #[v] w fun e w' => ∃ v', e = .returned v' ∧ w'.ownsRow w.heap.size 9 1 v' l.length (l.map fun s => Value.string (str s)) ∧ Txts w' v' l ∧ Below w.heap.size w w' := by
  have hS : ∀ s ∈ l, s.length ≤ maxLen := fun s hs => by
    obtain ⟨A, c, rfl, hlc, hm, HC⟩ := h.open_
    obtain ⟨k, hk, rfl⟩ := List.getElem_of_mem hs
    obtain ⟨_, _, _, _, _, h5⟩ := HC.out k hk
    exact h5
  have HSS := Lib.hid hS
  clear hS
  obtain ⟨A, c, rfl, hlc, hm, HC⟩ := h.open_
  clear h
  unfold maxLen at hm
  have hmk := run_mk (P := Tryz.prog) w 46 9 (.string ByteArray.empty) 1 16 Tryz.underlying46 (by kernel_rfl) l.length (by omega) (by omega)
  go_enter Tryz.func87, Tryz.ntmps87
  go_wp2
  clear hmk
  go_loopw [4] (fun i wr => ∃ k : Nat, k ≤ l.length ∧ i = .int .i64 k ∧ Fill wr w.heap.size 9 1 l.length k ((l.take k).map fun s => Value.string (str s)) ∧ Below w.heap.size w wr) (fun i _ => l.length - (intOf i).toNat)
  case atStart => exact ⟨0, Nat.zero_le _, rfl, Fill.start _ _ _ _ _ (by simp [size_madeCells]), (Below.refl _ _).alloc (Nat.le_refl _) _⟩
  case round =>
    obtain ⟨k, hk, rfl, hf, hb⟩ := hrel
    by_cases hlt : k < l.length
    · obtain ⟨b, off, rfl, hbl, hcell, hsz⟩ := HC.out k hlt
      obtain ⟨u, hu⟩ := hf.cell k (by omega)
      have hfr := hf.frozen k
      have hc1 := (hb.cell (p := ⟨b, off + k, none⟩) hbl).trans hcell
      clear hcell
      go_wp2
      go_roundw
      case rel =>
        refine ⟨k + 1, by omega, by go_num, ?_, ?_⟩
        · have := hf.step hlt [.string (str l[k])] rfl
          rw [List.take_succ_eq_append_getElem hlt, List.map_append]
          simpa [putCells] using this
        · exact hb.setCell (p := ⟨w.heap.size, k, none⟩) (Nat.le_refl _) _
      case measure => simp [intOf]; omega
    · go_wp2
      go_ret
      obtain rfl : k = l.length := by omega
      rw [List.take_length] at hf
      have ho := hf.own (Nat.le_refl w.heap.size) (by unfold maxLen; omega)
      exact ⟨_, rfl, ho, Txts.of_own ho HSS.out, hb⟩

theorem eq_of_all {α : Type} {l m : List α} (hl : l.length = m.length) (h : ∀ j (h1 : j < l.length) (h2 : j < m.length), l[j] = m[j]) : l = m := List.ext_getElem hl h

/-- both lists are one -/
def eqL {α : Type} [DecidableEq α] (l m : List α) : Bool := decide (l = m)
theorem eqL_len {α : Type} [DecidableEq α] {l m : List α} (h : l.length ≠ m.length) : eqL l m = false := by simp [eqL]; rintro rfl; exact h rfl
theorem eqL_at {α : Type} [DecidableEq α] {l m : List α} (k : Nat) (h1 : k < l.length) (h2 : k < m.length) (h : l[k] ≠ m[k]) : eqL l m = false := by simp [eqL]; rintro rfl; exact h rfl
theorem eqL_all {α : Type} [DecidableEq α] {l m : List α} (hl : l.length = m.length) (h : ∀ j (h1 : j < l.length) (h2 : j < m.length), l[j] = m[j]) : eqL l m = true := by simp [eqL]; exact List.ext_getElem hl h

set_option maxHeartbeats 400000 in
theorem laws_eqStringS (l m : List (List UInt8)) (v u : Value) (w : World) (h : Txts w v l) (h' : Txts w u m) :
    Calls Tryz.prog 99 #[v, u] w fun e w' => e = .returned (.bool (eqL l m)) ∧ ∃ n, w' = w.drewN n := by
  obtain ⟨A, c, rfl, hlc, hm, HC⟩ := h.open_
  obtain ⟨A', c', rfl, hlc', hm', HC'⟩ := h'.open_
  clear h h'
  unfold maxLen at hm hm'
  by_cases hlen : l.length = m.length
  · have hL := Lib.hid hlen
    have hb1 : ((l.length : Int) != (m.length : Int)) = false := by simp [hlen]
    have hb2 : (l.length != m.length) = false := by simp [hlen]
    have hle : l.length ≤ m.length := by omega
    clear hlen
    go_enter Tryz.func99, Tryz.ntmps99
    go_wp2
    go_loopw [5] (fun i wr => ∃ k : Nat, k ≤ l.length ∧ i = .int .i64 k ∧ Hid (∀ j (h1 : j < l.length) (h2 : j < m.length), j < k → l[j] = m[j]) ∧ ∃ n, wr = w.drewN n) (fun i _ => l.length - (intOf i).toNat)
    case atStart => exact ⟨0, Nat.zero_le _, rfl, fun j h hj _ => absurd hj (by omega), 0, rfl⟩
    case round =>
      obtain ⟨k, hk, rfl, hn, n, rfl⟩ := hrel
      by_cases hlt : k < l.length
      · obtain ⟨b, off, rfl, hbl, hcell, hsz⟩ := HC.out k hlt
        have hlt' : k < m.length := by omega
        obtain ⟨b', off', rfl, hbl', hcell', hsz'⟩ := HC'.out k hlt'
        go_wp2
        go_quiet (fail)
        go_wp2
        · go_ret
          exact ⟨ret_bool (eqL_at k hlt hlt' (by have h9 : (!l[k] == m[k]) = true := by assumption
                                                 simpa using h9)).symm, n + nq, by rw [World.drewN_drewN]⟩
        · have h9 : (!l[k] == m[k]) = false := by assumption
          go_roundw
          case rel => exact ⟨k + 1, by omega, by go_num, fun j h1 h2 hj => by rcases Nat.lt_succ_iff_lt_or_eq.1 hj with h3 | rfl; exact hn.out j h1 h2 h3; simpa using h9, _, rfl⟩
          case measure => simp [intOf]; omega
      · go_wp2
        go_ret
        exact ⟨ret_bool (eqL_all hL.out (fun j h1 h2 => hn.out j h1 h2 (by omega))).symm, _, rfl⟩
  · have hb1 : ((l.length : Int) != (m.length : Int)) = true := by simp; omega
    have hb2 : (l.length != m.length) = true := by simp; omega
    go_enter Tryz.func99, Tryz.ntmps99
    go_wp2
    go_ret
    exact ⟨ret_bool (eqL_len hlen).symm, 0, rfl⟩

/-- string([]byte{x}) -/
theorem run_conv1 {P : Program} (src dst e : TypeId) (hs : P.underlying src = some (.slice e)) (he : P.underlying e = some (.int .u8)) (hd : P.underlying dst = some .string) (w : World) (x : Int) (h0 : 0 ≤ x) (h1 : x < 256) :
    (convert src dst (.slice (some ⟨w.heap.size, 0, none⟩) 1 1)).run P (w.alloc (.cells #[.int .u8 x] e)) = .ok (.string (str [UInt8.ofNat x.toNat])) (w.alloc (.cells #[.int .u8 x] e)) := by
  refine run_convert_bytes_back (P := P) (w.alloc (.cells #[.int .u8 x] e)) src dst e ⟨w.heap.size, 0, none⟩ 1 [UInt8.ofNat x.toNat] hs he hd (fun j hj => ?_)
  have : j = 0 := by simpa using hj
  subst this
  have hg : (w.alloc (.cells #[.int .u8 x] e)).heap[w.heap.size]? = some (.cells #[.int .u8 x] e) := heap_alloc_new w _
  have e1 : (UInt8.ofNat x.toNat).toNat = x.toNat := by rw [UInt8.toNat_ofNat']; omega
  simp only [List.getElem_cons_zero, e1, Int.toNat_of_nonneg h0]
  simp [World.cell?, Addr.add]
  rw [← Array.getElem?_eq_getElem, hg]
  rfl

def digs : Nat → Nat → List UInt8 → List UInt8
  | 0, _, out => out
  | f + 1, k, out => if k = 0 then out else digs f (k / 10) (UInt8.ofNat (48 + k % 10) :: out)
def markT (k : Nat) : List UInt8 := 109 :: digs k k []

theorem digs_step (f n : Nat) (o : List UInt8) (h : 0 < n) (hf : n ≤ f) : ∃ f', n / 10 ≤ f' ∧ digs f n o = digs f' (n / 10) (UInt8.ofNat (48 + n % 10) :: o) := by
  cases f with
  | zero => omega
  | succ f => exact ⟨f, by omega, by rw [digs, if_neg (by omega)]⟩
theorem digs_zero (f : Nat) (o : List UInt8) : digs f 0 o = o := by cases f <;> simp [digs]

set_option maxHeartbeats 400000 in
theorem laws_markText (k0 : Int) (w : World) (h0 : 0 < k0) (h1 : k0 ≤ 4611686018427387904) :
    Calls Tryz.prog 108 #[.int .i64 k0] w fun e w' => e = .returned (.string (str (markT k0.toNat))) ∧ Below w.heap.size w w' := by
  obtain ⟨k, rfl⟩ := Int.eq_ofNat_of_zero_le (show 0 ≤ k0 by omega)
  rw [Int.toNat_natCast]
  have hk0 : decide (k = 0) = false := by simp; omega
  go_enter Tryz.func108, Tryz.ntmps108
  go_wp2
  go_loopw [0, 3] (fun i s wr => ∃ (n f : Nat) (o : List UInt8), i = .int .i64 n ∧ o.length + n ≤ k ∧ n ≤ f ∧ s = .string (str o) ∧ Hid (digs f n o = digs k k []) ∧ Below w.heap.size w wr) (fun i _ _ => (intOf i).toNat)
  case atStart => exact ⟨k, k, [], rfl, by simp, Nat.le_refl _, rfl, rfl, Below.refl _ _⟩
  case round =>
    obtain ⟨n, f, o, rfl, hn, hf, rfl, hd, hb⟩ := hrel
    by_cases hlt : 0 < n
    · have hcv := run_conv1 (P := Tryz.prog) 123 9 5 Tryz.underlying123 Tryz.underlying5 Tryz.underlying9 wr (48 + (n : Int) % 10) (by omega) (by omega)
      go_wp2
      go_roundw
      case rel =>
        obtain ⟨f', hf', he⟩ := digs_step f n o hlt hf
        refine ⟨n / 10, f', UInt8.ofNat (48 + n % 10) :: o, by go_num, by simp; omega, hf', ?_, ?_, hb.alloc hb.size _⟩
        · simp
        · exact he ▸ hd
      case measure => simp [intOf]; omega
    · obtain rfl : n = 0 := by omega
      go_wp2
      go_ret
      refine ⟨ret_str ?_, hb⟩
      have := hd.out
      rw [digs_zero] at this
      rw [this]
      rfl
def markL (k n : Nat) : List (List UInt8) := (List.range n).map fun i => markT (k + i)
theorem markL_length (k n : Nat) : (markL k n).length = n := by simp [markL]
theorem markL_at (k n i : Nat) (h : i < (markL k n).length) : (markL k n)[i] = markT (k + i) := by simp [markL]
theorem markL_succ (k n : Nat) : markL k (n + 1) = markL k n ++ [markT (k + n)] := by simp [markL, List.range_succ]

theorem set_mid {α : Type} (l : List α) (xs : List α) (j : Nat) (u : α) (hl : l.length = j) (hj : j < xs.length) : (l ++ xs.drop j).set j u = (l ++ [u]) ++ xs.drop (j + 1) := by
  subst hl
  rw [List.set_append_right _ _ (Nat.le_refl _), Nat.sub_self, List.drop_eq_getElem_cons hj, List.set_cons_zero]
  simp [List.append_assoc]

set_option maxHeartbeats 400000 in
theorem laws_markStringS (xs : List Value) (base n : Nat) (v : Value) (k0 : Int) (e : TypeId) (w : World) (h : w.ownsRow base e 1 v n xs) (h0 : 0 < k0) (h1 : k0 + n ≤ 4611686018427387904) :
    Calls Tryz.prog 74 #[v, .int .i64 k0] w fun e' w' => e' = .returned (.int .i64 (k0 + n)) ∧ w'.ownsRow base e 1 v n ((markL k0.toNat n).map fun s => Value.string (str s)) ∧ w.grownBy w' v.ownBlock := by
  obtain ⟨k, rfl⟩ := Int.eq_ofNat_of_zero_le (show 0 ≤ k0 by omega)
  rw [Int.toNat_natCast]
  have hl := h.1
  rcases h.2 with ⟨rfl, rfl⟩ | ⟨g, cap, cur, rfl, hb, hg, hnc, hcm, hcs, htake⟩
  · go_enter Tryz.func74, Tryz.ntmps74
    go_wp2_with fail
    go_loop [1, 5] (fun x i => i = .int .i64 0 ∧ x = .int .i64 k) (fun _ i => 0)
    case atStart => exact ⟨rfl, rfl⟩
    case round =>
      obtain ⟨rfl, rfl⟩ := hrel
      go_wp2_with fail
      go_ret
      exact ⟨ret_int (by simp), by simp [markL]; exact World.ownsRow_nil _ _ _ _, World.grownBy.refl _ _⟩
  · unfold maxLen at hcm
    have hown := Lib.hid h
    have HL := Lib.hid hl
    clear h hl htake hg hcs cur
    show Calls Tryz.prog 74 #[Value.slice (some ⟨g, 0, none⟩) n cap, Value.int IntKind.i64 ↑k] w fun e' w' => e' = Ending.returned (Value.int IntKind.i64 (↑k + ↑n)) ∧ w'.ownsRow base e 1 (Value.slice (some ⟨g, 0, none⟩) n cap) n (List.map (fun s => Value.string (str s)) (markL k n)) ∧ w.grownBy w' (some g)
    go_enter Tryz.func74, Tryz.ntmps74
    go_wp2_with fail
    go_loopw [1, 5] (fun x i wr => ∃ j : Nat, j ≤ n ∧ i = .int .i64 j ∧ x = .int .i64 (k + j : Nat) ∧ w.grownBy wr (some g) ∧ Hid (wr.ownsRow base e 1 (.slice (some ⟨g, 0, none⟩) n cap) n (((markL k j).map fun s => Value.string (str s)) ++ xs.drop j))) (fun _ i _ => n - (intOf i).toNat)
    case atStart => exact ⟨0, Nat.zero_le _, rfl, rfl, World.grownBy.refl _ _, by have := hown.out; simpa [markL, Hid] using this⟩
    case round =>
      obtain ⟨j, hj, rfl, rfl, hgr, ho⟩ := hrel
      by_cases hlt : j < n
      · go_wp2_with fail
        refine (laws_markText _ _ (by omega) (by omega)).mono ?_
        rintro e1 w1 ⟨rfl, hb1⟩
        have ho1 := Lib.hid (own_below ho.out hb1)
        have hgr1 := hgr.trans (grown_of_below hb1 (some g))
        have hfr := ho1.out.frozenAt j
        have hcl := ho1.out.cellAt j (by omega)
        obtain ⟨u, hu⟩ : ∃ u, w1.cell? ⟨g, j, none⟩ = some u := ⟨_, hcl.trans (List.getElem?_eq_getElem (by have := ho1.out.1; omega))⟩
        clear hcl ho hb1
        go_wp2_with fail
        go_roundw
        case rel =>
          obtain ⟨h2, h3⟩ := ho1.out.stored j (Value.string (str (markT ((k : Int) + j).toNat)))
          refine ⟨j + 1, by omega, by go_num, by go_num, hgr1.trans h3, ?_⟩
          rw [set_mid _ _ _ _ (by simp [markL]) (by have := HL.out; omega)] at h2
          rw [markL_succ, List.map_append]
          exact h2
        case measure => simp [intOf]; omega
      · obtain rfl : j = n := by omega
        go_wp2_with fail
        go_ret
        refine ⟨ret_int (by omega), ?_, hgr⟩
        have := ho.out
        rw [List.drop_eq_nil_of_le (by have := HL.out; omega), List.append_nil] at this
        exact this

set_option maxHeartbeats 400000 in
theorem laws_heldStringS (n : Nat) (v : Value) (k0 : Int) (w : World) (h0 : 0 < k0) (h1 : k0 + n ≤ 4611686018427387904) (h : Txts w v (markL k0.toNat n)) :
    Calls Tryz.prog 76 #[v, .int .i64 k0] w fun e' w' => e' = .returned (.int .i64 (k0 + n)) ∧ Below w.heap.size w w' := by
  obtain ⟨k, rfl⟩ := Int.eq_ofNat_of_zero_le (show 0 ≤ k0 by omega)
  rw [Int.toNat_natCast] at h
  obtain ⟨A, c, rfl, hlc, hm, HC⟩ := h.open_
  clear h
  rw [markL_length] at *
  unfold maxLen at hm
  go_enter Tryz.func76, Tryz.ntmps76
  go_wp2_with fail
  go_loopw [1, 5] (fun x i wr => ∃ j : Nat, j ≤ n ∧ i = .int .i64 j ∧ x = .int .i64 (k + j : Nat) ∧ Below w.heap.size w wr) (fun _ i _ => n - (intOf i).toNat)
  case atStart => exact ⟨0, Nat.zero_le _, rfl, rfl, Below.refl _ _⟩
  case round =>
      obtain ⟨j, hj, rfl, rfl, hb⟩ := hrel
      by_cases hlt : j < n
      · obtain ⟨b, off, rfl, hbl, hcell, hsz⟩ := HC.out j (by rw [markL_length]; exact hlt)
        rw [markL_at] at hcell
        have hc1 := (hb.cell (p := ⟨b, off + j, none⟩) hbl).trans hcell
        clear hcell hsz
        have hbl1 : b < wr.heap.size := Nat.lt_of_lt_of_le hbl hb.size
        have he : (markT (k + j) == markT ((k : Int) + j).toNat) = true := by rw [show ((k : Int) + j).toNat = k + j by omega]; simp
        go_wp2_with fail
        go_region_held3 (fun w' => w'.cell? ⟨b, off + j, none⟩ = some (.string (str (markT (k + j)))) ∧ b < w'.heap.size ∧ Below w.heap.size w w') (first | exact ⟨hc1, hbl1, hb.drew⟩ | (go_split_ands; exact ⟨(hb1.cell (p := ⟨b, off + j, none⟩) (by assumption)).trans (by assumption), Nat.lt_of_lt_of_le (by assumption) hb1.size, Below.trans (by assumption) (hb1.mono (Below.size (by assumption)))⟩)) (first | (go_at_call 108; refine (laws_markText _ _ (by omega) (by omega)).mono ?_; rintro e w' ⟨rfl, hb1⟩))
        go_wp2_with fail
        go_roundw
        case rel => exact ⟨j + 1, by omega, by go_num, by go_num, hb.drew.trans (hb1.mono hb.size)⟩
        case measure => simp [intOf]; omega
      · obtain rfl : j = n := by omega
        go_wp2_with fail
        go_ret
        exact ⟨ret_int (by omega), hb⟩

theorem eqL_self {α : Type} [DecidableEq α] (l : List α) : eqL l l = true := by simp [eqL]

theorem laws_eqStringS_same (l : List (List UInt8)) (v u : Value) (w : World) (h : Txts w v l) (h' : Txts w u l) :
    Calls Tryz.prog 99 #[v, u] w fun e w' => e = .returned (.bool true) ∧ Below w.heap.size w w' :=
  (laws_eqStringS l l v u w h h').mono fun e w' ⟨he, n, hw⟩ => ⟨by rw [he, eqL_self], by rw [hw]; exact below_quiet _ _ _⟩

theorem own_kept {w w' : World} {base : Nat} {e : TypeId} {size n : Nat} {v : Value} {xs : List Value} {row : Option Nat} (h : w.ownsRow base e size v n xs) (hg : w.grownBy w' row) (hne : v.ownBlock = none ∨ v.ownBlock ≠ row) : w'.ownsRow base e size v n xs := h.kept hg hne

theorem below_mark {B : Nat} {a w w' : World} {base : Nat} {e : TypeId} {size n : Nat} {v : Value} {xs : List Value} (hb : Below B a w) (h : w.ownsRow base e size v n xs) (hB : B ≤ base) (hBw : B ≤ w.heap.size) (hg : w.grownBy w' v.ownBlock) : Below B a w' :=
  hb.grown hg hBw (fun k hk => Nat.le_trans hB (h.lt k hk).1)

theorem markT_small (k : Nat) (h : k ≤ 4611686018427387904) : (markT k).length ≤ maxLen := by
  have : ∀ f n (o : List UInt8), n ≤ f → (digs f n o).length ≤ o.length + n := by
    intro f
    induction f with
    | zero => intro n o hn; simp [digs]
    | succ f ih =>
      intro n o hn
      rw [digs]
      split
      · omega
      · have := ih (n / 10) (UInt8.ofNat (48 + n % 10) :: o) (by omega)
        rw [List.length_cons] at this
        omega
  have h1 := this k k [] (Nat.le_refl _)
  simp at h1
  simp [markT]
  unfold maxLen
  omega
theorem markL_small (k n : Nat) (h : k + n ≤ 4611686018427387904) : ∀ s ∈ markL k n, s.length ≤ maxLen := by
  intro s hs
  simp only [markL, List.mem_map, List.mem_range] at hs
  obtain ⟨i, hi, rfl⟩ := hs
  exact markT_small _ (by omega)
theorem txts_marked {w : World} {base n k : Nat} {e : TypeId} {v : Value} (h : w.ownsRow base e 1 v n ((markL k n).map fun s => Value.string (str s))) (hk : k + n ≤ 4611686018427387904) : Txts w v (markL k n) :=
  Txts.of_own (by rw [markL_length]; exact h) (markL_small k n hk)
theorem Txts.small {w : World} {v : Value} {l : List (List UInt8)} (h : Txts w v l) : ∀ s ∈ l, s.length ≤ maxLen := fun s hs => by
  obtain ⟨A, c, rfl, hlc, hm, HC⟩ := h.open_
  obtain ⟨k, hk, rfl⟩ := List.getElem_of_mem hs
  obtain ⟨_, _, _, _, _, h5⟩ := HC.out k hk
  exact h5

end Go.Proofs.YtjdfancbmjnjfaaGreat
