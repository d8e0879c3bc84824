/-
  Handlers: what a slice of them reads as; contracts of the laws' helpers on them.
-/
import Derived.Test.YtlhffbahepmclaaStrs
import Derived.Test.YtlhffbahepmclaaOpen
import Derived.StillTailTactics
namespace Go.Proofs.Ytlhffbahepmclaa
set_option maxRecDepth 100000
open Go.ChangeShapes Go.WideShapes Go.ChangeAt Go.RowKit Go.Deep

structure HandD where
  kind : Int
  name : List UInt8
  deriving DecidableEq

def HandR (cs : List Value) (d : HandD) : Prop := cs = [.int .i64 d.kind, .string (str d.name)] ∧ I64 d.kind ∧ d.name.length ≤ maxLen
def Hands (w : World) (v : Value) (l : List HandD) : Prop := SlR w 2 HandR v l
def HandD.cells (d : HandD) : List Value := [.int .i64 d.kind, .string (str d.name)]

theorem Hands.below {w w' : World} {v : Value} {l : List HandD} (h : Hands w v l) (hb : Below w.heap.size w w') : Hands w' v l := SlR.below h hb (fun _ _ h => h)
theorem Hands.open_ {w : World} {v : Value} {l : List HandD} (h : Hands w v l) : ∃ A c, v = .slice A l.length c ∧ l.length ≤ c ∧ c ≤ maxLen ∧
    Hid (∀ k (hk : k < l.length), ∃ b off, A = some ⟨b, off, none⟩ ∧ b < w.heap.size ∧ w.cell? ⟨b, off + k * 2, none⟩ = some (.int .i64 l[k].kind) ∧ w.cell? ⟨b, off + k * 2 + 1, none⟩ = some (.string (str l[k].name)) ∧ I64 l[k].kind ∧ l[k].name.length ≤ maxLen) := by
  obtain ⟨A, c, rfl, hn, hc, hx⟩ := SlR.open_ h
  refine ⟨A, c, rfl, hn, hc, fun k hk => ?_⟩
  obtain ⟨b, off, cs, rfl, hlt, _, hat, rfl, hl⟩ := hx.out k hk
  exact ⟨b, off, rfl, hlt, by simpa using hat 0 _ rfl, by simpa using hat 1 _ rfl, hl⟩

theorem open_handlers {H : Type} {enc : TypeId × Value → H} {w : World} {base : Nat} {spare : Nat → Bool} {held : Bool} {v : Value} {d : DataW H} {p : List MemPlace} {r : Reach} {b0 : Nat} (hv : Value.okWide Try.prog w r b0 22 v) (h : DataW.Trod enc Try.prog w base spare held 22 v d p) : ∃ l, Hands w v l := by
  obtain ⟨a, len, cap, rfl⟩ := okWide_slice Try.underlying22 hv
  obtain ⟨fuel, hf⟩ := h
  obtain ⟨v, l, hcs, hl⟩ := open_slr Try.underlying22 (size := 2) (by kernel_rfl) (by decide) HandR (fun n cs d pl _ h => by
    obtain ⟨hlen, n', hn, hg⟩ := open_field Try.underlying45 h
    match cs, hlen.trans (show Try.prog.cellsOf 45 = 2 by kernel_rfl) with
    | [c0, c1], _ =>
      obtain ⟨y0, g0⟩ := hg 0 _ rfl
      obtain ⟨y1, g1⟩ := hg 1 _ rfl
      obtain ⟨k, hk⟩ := open_i64 Try.underlying3 g0
      obtain ⟨s, hs⟩ := open_str Try.underlying9 g1
      rw [show List.take (Try.prog.cellsOf _) (List.drop _ [c0, c1]) = [c0] by simp [cells_int]] at hk
      rw [show List.take (Try.prog.cellsOf _) (List.drop _ [c0, c1]) = [c1] by simp [cells_string]] at hs
      obtain ⟨e0, hk⟩ := hk
      obtain ⟨e1, hs⟩ := hs
      exact ⟨⟨k, s⟩, by simp at e0 e1; simp [e0, e1], hk, hs⟩) hf
  have : v = .slice a len cap := by simpa [Value.cells] using hcs.symm
  subst this
  exact ⟨l, hl⟩

def szH (l : List HandD) : Nat := szL (l.map HandD.name)
theorem szH_cons (d : HandD) (l : List HandD) : szH (d :: l) = szH l + 1 + d.name.length := by simp [szH, szL]; omega

theorem laws_szHandler (d : HandD) (left : Int) (w : World) (hd : d.name.length ≤ maxLen) (h0 : 0 ≤ left) (h1 : left ≤ 1048576) :
    Calls Try.prog 25 #[.agg #[.int .i64 d.kind, .string (str d.name)], .int .i64 left] w fun e w' => e = .returned (.int .i64 (szR left d.name.length)) ∧ Below w.heap.size w w' := by
  unfold maxLen at hd
  by_cases hle : (d.name.length : Int) ≤ left
  · have HZ := Lib.hid (szR_pos hle)
    go_enter Try.func25, Try.ntmps25
    go_wp2
    go_ret
    exact ⟨ret_int HZ.out.symm, (Below.refl _ _).alloc (Nat.le_refl _) _⟩
  · have HZ := Lib.hid (szR_neg hle)
    go_enter Try.func25, Try.ntmps25
    go_wp2
    go_ret
    exact ⟨ret_int HZ.out.symm, (Below.refl _ _).alloc (Nat.le_refl _) _⟩

theorem laws_toHandler (d : HandD) (w : World) :
    Calls Try.prog 26 #[.agg #[.int .i64 d.kind, .string (str d.name)]] w fun e w' => e = .returned (.agg #[.int .i64 d.kind, .string (str d.name)]) ∧ Below w.heap.size w w' := by
  go_enter Try.func26, Try.ntmps26
  go_wp2
  exact bodyPost_ret (v := .agg #[.int .i64 d.kind, .string (str d.name)]) (by simp [results, Try.results26, go_sem]) rfl ⟨rfl, (((Below.refl _ _).alloc (Nat.le_refl _) _).alloc (by simp) _).alloc (by simp; omega) _⟩

theorem laws_eqHandler (d d' : HandD) (w : World) :
    Calls Try.prog 27 #[.agg #[.int .i64 d.kind, .string (str d.name)], .agg #[.int .i64 d'.kind, .string (str d'.name)]] w fun e w' => e = .returned (.bool (decide (d = d'))) ∧ Below w.heap.size w w' := by
  have hbw : ∀ o1 o2, Below w.heap.size w ((w.alloc o1).alloc o2) := fun o1 o2 => ((Below.refl _ _).alloc (Nat.le_refl _) _).alloc (by simp) _
  have HBW := Lib.hid hbw
  clear hbw
  obtain ⟨k, n⟩ := d
  obtain ⟨k', n'⟩ := d'
  by_cases hk : k = k'
  · have hkb : (k != k') = false := by simp [hk]
    have HK := Lib.hid hk
    clear hk
    by_cases hn : n = n'
    · have hnb : (n == n') = true := by simp [hn]
      have HR := Lib.hid (show decide ((⟨k, n⟩ : HandD) = ⟨k', n'⟩) = true by simp [HK.out, hn])
      clear hn HK
      go_enter Try.func27, Try.ntmps27
      go_wp2
      go_ret
      exact ⟨ret_bool HR.out.symm, HBW.out _ _⟩
    · have hnb : (n == n') = false := by simp [hn]
      have HR := Lib.hid (show decide ((⟨k, n⟩ : HandD) = ⟨k', n'⟩) = false by simp [hn])
      clear hn HK
      go_enter Try.func27, Try.ntmps27
      go_wp2
      go_ret
      exact ⟨ret_bool HR.out.symm, HBW.out _ _⟩
  · have hkb : (k != k') = true := by simp [hk]
    have HR := Lib.hid (show decide ((⟨k, n⟩ : HandD) = ⟨k', n'⟩) = false by simp [hk])
    clear hk
    go_enter Try.func27, Try.ntmps27
    go_wp2
    go_ret
    exact ⟨ret_bool HR.out.symm, HBW.out _ _⟩

theorem szH_take_succ (l : List HandD) (k : Nat) (h : k < l.length) : szH (l.take (k + 1)) = szH (l.take k) + 1 + l[k].name.length := by
  unfold szH szL
  rw [List.take_succ_eq_append_getElem h]
  simp only [List.map_append, List.length_append, List.sum_append, List.map_cons, List.map_nil, List.length_cons, List.length_nil, List.sum_cons, List.sum_nil]
  omega
theorem szH_take_le (l : List HandD) (k : Nat) : szH (l.take k) + (l.drop k).length ≤ szH l := by
  unfold szH szL
  have h : l.map HandD.name = (l.take k).map HandD.name ++ (l.drop k).map HandD.name := by rw [← List.map_append, List.take_append_drop]
  rw [h]
  simp only [List.map_append, List.length_append, List.sum_append, List.length_map]
  omega

set_option maxHeartbeats 400000 in
theorem laws_szHandlerS (l : List HandD) (v : Value) (left : Int) (w : World) (h : Hands w v l) (h0 : 0 ≤ left) (h1 : left ≤ 1048576) :
    Calls Try.prog 5 #[v, .int .i64 left] w fun e w' => e = .returned (.int .i64 (szR left (szH l))) ∧ Below w.heap.size w w' := by
  obtain ⟨A, c, rfl, hlc, hm, HC⟩ := h.open_
  clear h
  unfold maxLen at hm
  by_cases hle : (l.length : Int) ≤ left
  · go_enter Try.func5, Try.ntmps5
    go_wp2_with fail
    go_loopw [1, 5] (fun x i wr => ∃ k : Nat, k ≤ l.length ∧ i = .int .i64 k ∧ ∃ y : Int, x = .int .i64 y ∧ 0 ≤ y ∧ y ≤ 1048576 ∧ Hid (y = left - l.length - (szH (l.take k) - k : Int)) ∧ Below w.heap.size w wr) (fun _ i _ => l.length - (intOf i).toNat)
    case atStart => exact ⟨0, Nat.zero_le _, rfl, _, rfl, by omega, by omega, by show _ = _; simp [szH, szL], Below.refl _ _⟩
    case round =>
      obtain ⟨k, hk, rfl, y, rfl, hy0, hy1, hy, hb⟩ := hrel
      by_cases hlt : k < l.length
      · obtain ⟨b, off, rfl, hbl, hc0, hc1, hkk, hsz⟩ := HC.out k hlt
        have hd0 := (hb.cell (p := ⟨b, off + k * 2, none⟩) hbl).trans hc0
        have hd1 := (hb.cell (p := ⟨b, off + k * 2 + 1, none⟩) hbl).trans hc1
        clear hc0 hc1
        have HS := Lib.hid (szH_take_succ l k hlt)
        go_wp2_with fail
        refine (laws_szHandler l[k] y _ hsz hy0 hy1).mono ?_
        rintro e w1 ⟨rfl, hb1⟩
        have HB1 := Lib.hid (hb.trans (hb1.mono hb.size))
        clear hb1
        by_cases hle2 : (l[k].name.length : Int) ≤ y
        · rw [szR_pos hle2]
          go_wp2_with fail
          go_roundw
          case rel => exact ⟨k + 1, by omega, by go_num, _, rfl, by omega, by omega, by have := hy.out; have := HS.out; show _ = _; omega, HB1.out⟩
          case measure => simp [intOf]; omega
        · rw [szR_neg hle2]
          go_wp2_with fail
          go_ret
          refine ⟨ret_int ?_, HB1.out⟩
          have h9 := szH_take_le l (k + 1)
          rw [List.length_drop] at h9
          have := hy.out
          have := HS.out
          rw [szR_neg (by omega)]
      · obtain rfl : k = l.length := by omega
        rw [List.take_length] at hy
        go_wp2_with fail
        go_ret
        refine ⟨ret_int ?_, hb⟩
        have := hy.out
        rw [szR_pos (by omega)]
        omega
  · have h9 := szH_take_le l 0
    rw [List.length_drop] at h9
    have HR := Lib.hid (szR_neg (left := left) (n := szH l) (by omega))
    go_enter Try.func5, Try.ntmps5
    go_wp2
    go_ret
    exact ⟨ret_int HR.out.symm, Below.refl _ _⟩

theorem take_flat_succ {α β : Type} (f : α → List β) (l : List α) (k : Nat) (h : k < l.length) : (l.take (k + 1)).flatMap f = (l.take k).flatMap f ++ f l[k] := by
  rw [List.take_succ_eq_append_getElem h, List.flatMap_append]; simp

theorem info_hand : (Try.prog.info? 46).map (fun i => (i.zero, i.size, i.bytes)) = some (some (.agg #[.int .i64 0, .string ByteArray.empty]), 2, 24) := by kernel_rfl

theorem Hands.of_own {w : World} {base : Nat} {e : TypeId} {v : Value} {l : List HandD} (h : w.ownsRow base e 2 v l.length (l.flatMap HandD.cells)) (hs : ∀ d ∈ l, I64 d.kind ∧ d.name.length ≤ maxLen) : Hands w v l :=
  SlR.of_own HandD.cells l h rfl rfl (fun x hx => ⟨rfl, rfl, hs x hx⟩)
theorem Hands.small {w : World} {v : Value} {l : List HandD} (h : Hands w v l) : ∀ d ∈ l, I64 d.kind ∧ d.name.length ≤ maxLen := fun d hd => by
  obtain ⟨A, c, rfl, hlc, hm, HC⟩ := h.open_
  obtain ⟨k, hk, rfl⟩ := List.getElem_of_mem hd
  obtain ⟨_, _, _, _, _, _, h5⟩ := HC.out k hk
  exact h5

set_option maxHeartbeats 400000 in
theorem laws_toHandlerS (l : List HandD) (v : Value) (w : World) (h : Hands w v l) (hl : l.length ≤ 1048576) :
    Calls Try.prog 7 #[v] w fun e w' => ∃ v', e = .returned v' ∧ w'.ownsRow w.heap.size 46 2 v' l.length (l.flatMap HandD.cells) ∧ Hands w' v' l ∧ Below w.heap.size w w' := by
  have HSS := Lib.hid h.small
  obtain ⟨A, c, rfl, hlc, hm, HC⟩ := h.open_
  clear h
  unfold maxLen at hm
  have hmk := run_mk (P := Try.prog) w 26 46 _ 2 24 Try.underlying26 info_hand l.length (by omega) (by omega)
  go_enter Try.func7, Try.ntmps7
  go_wp2
  clear hmk
  go_loopw [4] (fun i wr => ∃ k : Nat, k ≤ l.length ∧ i = .int .i64 k ∧ Fill wr w.heap.size 46 2 l.length k ((l.take k).flatMap HandD.cells) ∧ Below w.heap.size w wr) (fun i _ => l.length - (intOf i).toNat)
  case atStart => exact ⟨0, Nat.zero_le _, rfl, Fill.start _ _ _ _ _ (by simp [size_madeCells]), (Below.refl _ _).alloc (Nat.le_refl _) _⟩
  case round =>
    obtain ⟨k, hk, rfl, hf, hb⟩ := hrel
    by_cases hlt : k < l.length
    · obtain ⟨b, off, rfl, hbl, hc0, hc1, _, _⟩ := HC.out k hlt
      have hd0 := (hb.cell (p := ⟨b, off + k * 2, none⟩) hbl).trans hc0
      have hd1 := (hb.cell (p := ⟨b, off + k * 2 + 1, none⟩) hbl).trans hc1
      clear hc0 hc1
      go_wp2_with fail
      refine (laws_toHandler l[k] _).mono ?_
      rintro e w1 ⟨rfl, hb1⟩
      have hf1 := hf.keep (hb1.block _ hf.lt)
      have HB1 := Lib.hid (hb.trans (hb1.mono hb.size))
      clear hb1
      obtain ⟨u0, hu0⟩ := hf1.cell (k * 2) (by omega)
      obtain ⟨u1, hu1⟩ := hf1.cell (k * 2 + 1) (by omega)
      have hf0 := hf1.frozen (k * 2)
      have hf2 := hf1.frozen (k * 2 + 1)
      have HF1 := Lib.hid hf1
      clear hf1
      go_wp2_with fail
      go_roundw
      case rel =>
        refine ⟨k + 1, by omega, by go_num, ?_, (HB1.out.setCell (p := ⟨w.heap.size, _, none⟩) (Nat.le_refl _) _).setCell (p := ⟨w.heap.size, _, none⟩) (Nat.le_refl _) _⟩
        rw [take_flat_succ _ _ _ hlt]
        exact HF1.out.step hlt (HandD.cells l[k]) rfl
      case measure => simp [intOf]; omega
    · obtain rfl : k = l.length := by omega
      rw [List.take_length] at hf
      have ho := Lib.hid (hf.own (Nat.le_refl w.heap.size) (by unfold maxLen; omega))
      clear hf
      go_wp2_with fail
      go_ret
      exact ⟨_, rfl, ho.out, Hands.of_own ho.out HSS.out, hb⟩

set_option maxHeartbeats 400000 in
theorem laws_eqHandlerS_same (l : List HandD) (v u : Value) (w : World) (h : Hands w v l) (h' : Hands w u l) :
    Calls Try.prog 10 #[v, u] w fun e w' => e = .returned (.bool true) ∧ Below w.heap.size w w' := by
  obtain ⟨A, c, rfl, hlc, hm, HC⟩ := h.open_
  obtain ⟨A', c', rfl, hlc', hm', HC'⟩ := h'.open_
  clear h h'
  unfold maxLen at hm hm'
  go_enter Try.func10, Try.ntmps10
  go_wp2
  go_loopw [5] (fun i wr => ∃ k : Nat, k ≤ l.length ∧ i = .int .i64 k ∧ Below w.heap.size w wr) (fun i _ => l.length - (intOf i).toNat)
  case atStart => exact ⟨0, Nat.zero_le _, rfl, Below.refl _ _⟩
  case round =>
    obtain ⟨k, hk, rfl, hb⟩ := hrel
    by_cases hlt : k < l.length
    · obtain ⟨b, off, rfl, hbl, hc0, hc1, _, _⟩ := HC.out k hlt
      have hd0 := (hb.cell (p := ⟨b, off + k * 2, none⟩) hbl).trans hc0
      have hd1 := (hb.cell (p := ⟨b, off + k * 2 + 1, none⟩) hbl).trans hc1
      clear hc0 hc1
      obtain ⟨b', off', rfl, hbl', hc0, hc1, _, _⟩ := HC'.out k hlt
      have he0 := (hb.cell (p := ⟨b', off' + k * 2, none⟩) hbl').trans hc0
      have he1 := (hb.cell (p := ⟨b', off' + k * 2 + 1, none⟩) hbl').trans hc1
      clear hc0 hc1
      go_wp2_with fail
      go_still_tail 8, (by kernel_rfl)
      change wpList _ _ _ _ _ wr.drew
      have hb2 : Below w.heap.size w wr.drew := hb.drew
      generalize wr.drew = w2 at *
      go_wp2_with fail
      refine (laws_eqHandler l[k] l[k] _).mono ?_
      rintro e w3 ⟨rfl, hb3⟩
      have HB3 := Lib.hid (hb2.trans (hb3.mono hb2.size))
      clear hb3
      rw [show decide (l[k] = l[k]) = true by simp]
      go_wp2_with fail
      go_roundw
      case rel => exact ⟨k + 1, by omega, by go_num, HB3.out⟩
      case measure => simp [intOf]; omega
    · go_wp2_with fail
      go_ret
      exact ⟨rfl, hb⟩
end Go.Proofs.Ytlhffbahepmclaa
