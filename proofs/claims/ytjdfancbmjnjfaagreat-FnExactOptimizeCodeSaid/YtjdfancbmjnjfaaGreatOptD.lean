/-
  Contracts: jumps to jumps are threaded in place (impl.thread, spec.l34Thread).
-/
import Derived.Test.YtjdfancbmjnjfaaGreatKJump
import Derived.Test.YtjdfancbmjnjfaaGreatKGood
import Derived.Deep.LoopGhost
namespace Go.Proofs.YtjdfancbmjnjfaaGreat
set_option maxRecDepth 100000
open Go.ChangeShapes Go.WideShapes Go.ChangeAt Go.RowKit Go.Deep
set_option linter.unusedVariables false
set_option linter.unusedSimpArgs false

/-- code of one's own whose arguments are changed, beside a row of truth values -/
structure Th (S : Nat -> Prop) (w0 : World) (g cap K n : Nat) (bk : Nat -> Bool) (cur : List InstrD) (W : World) : Prop where
 mid : ∃ f post ys, MidO S f W 63 13 InstrO g post ys cur /\ cur.length * 13 + post.length = cap * 13
 row : Blk W K 4 (boolsL bk (n + 1))
 keeps : Keeps (fun b => ¬ S b) w0 W
 below : Below 0 w0 W
 lo : w0.heap.size <= K
 hi : g < w0.heap.size
section
variable {S : Nat -> Prop} {w0 : World} {g cap K n : Nat} {bk : Nat -> Bool} {cur : List InstrD} {W : World}
theorem mid_cell {f : Nat -> Nat} {post : List Value} {ys : List (List Value)} (h : MidO S f W 63 13 InstrO g post ys cur) (i : Nat) (hi : i < cur.length) :
  W.cell? ⟨g, i * 13, none⟩ = some (.int .i64 cur[i].op) /\ W.cell? ⟨g, i * 13 + 1, none⟩ = some (.int .i64 cur[i].arg) /\ W.frozen? ⟨g, i * 13 + 1, none⟩ = false := by
 obtain ⟨hy, pre, rest, h1, h2, _, h4⟩ := h.at_ i hi
 obtain ⟨A4, c4, A51, c51, A52, c52, A53, c53, A54, c54, A55, c55, hs⟩ := h4.shape
 refine ⟨by simpa using h2.mid h1 0 (.int .i64 cur[i].op) (by rw [hs]; rfl), h2.mid h1 1 (.int .i64 cur[i].arg) (by rw [hs]; rfl), h2.frozen _⟩
theorem InstrO.setArg {T : Nat -> Prop} {cs : List Value} {x : InstrD} (h : InstrO T W cs x) (a : Int) (ha : I64 a) : InstrO T W (cs.set 1 (.int .i64 a)) { x with arg := a } := by
 obtain ⟨A4, c4, A51, c51, A52, c52, A53, c53, A54, c54, A55, c55, f, rfl, h0, h1, h2, h3, h4, h5⟩ := h
 exact ⟨A4, c4, A51, c51, A52, c52, A53, c53, A54, c54, A55, c55, f, rfl, h0, ha, h2, h3, h4, h5⟩
theorem setArg_eq (cur : List InstrD) (i : Nat) (a : Int) (hi : i < cur.length) : setArg cur i a = cur.set i { cur[i] with arg := a } := by
 unfold setArg
 rw [List.getElem?_eq_getElem hi]
theorem Th.cells (h : Th S w0 g cap K n bk cur W) (i : Nat) (hi : i < cur.length) :
  W.cell? ⟨g, i * 13, none⟩ = some (.int .i64 cur[i].op) /\ W.cell? ⟨g, i * 13 + 1, none⟩ = some (.int .i64 cur[i].arg) /\ W.frozen? ⟨g, i * 13 + 1, none⟩ = false := by
 obtain ⟨f, post, ys, hm, _⟩ := h.mid
 exact mid_cell hm i hi
theorem Th.set (h : Th S w0 g cap K n bk cur W) (i : Nat) (hi : i < cur.length) (a : Int) (ha : I64 a) : Th S w0 g cap K n bk (setArg cur i a) (W.setCell ⟨g, i * 13 + 1, none⟩ (.int .i64 a)) := by
 obtain ⟨f, post, ys, hm, hl⟩ := h.mid
 obtain ⟨hy, pre, rest, h1, h2, h3, h4⟩ := hm.at_ i hi
 have hlen := (hm.elem i hy hi).1
 have hS := hm.own.1
 have hK : K ≠ g := by have := h.lo; have := h.hi; omega
 have hk1 : ∀ T : Nat -> Prop, ¬ T g -> Keeps T W (W.setCell ⟨g, i * 13 + 1, none⟩ (.int .i64 a)) := fun T hT => Keeps.setCell W ⟨g, i * 13 + 1, none⟩ _ hT
 refine ⟨⟨f, post, ys.set i (ys[i].set 1 (.int .i64 a)), ?_, by rw [setArg_len]; exact hl⟩, h.row.far _ hK _, h.keeps.trans (hk1 _ (fun hn => hn hS)), below_sc h.below (Nat.zero_le _) _, h.lo, h.hi⟩
 rw [setArg_eq cur i a hi]
 refine hm.update (fun hr hk => hr.keeps hk) i hi _ _ (by simp [hlen]) ?_ ((h4.setArg a ha).keeps (hk1 _ (fun hx => by have := hx.2; have := hm.own.2; omega))) (hk1 _ (fun hx => hx.1 rfl))
 have h5 := h2.mid_set h1 1 (.int .i64 a) (by omega)
 rw [h3] at h5
 exact h5
theorem Th.step (h : Th S w0 g cap K n bk cur W) {W' : World} (hb : Below W.heap.size W W') : Th S w0 g cap K n bk cur W' := by
 obtain ⟨f, post, ys, hm, hl⟩ := h.mid
 refine ⟨⟨f, post, ys, ⟨hm.own, hm.blk.below hb, hm.len, fun k a b => ⟨(hm.elem k a b).1, (hm.elem k a b).2.keeps (Keeps.of_below _ hb)⟩⟩, hl⟩, h.row.below hb, h.keeps.trans (Keeps.of_below _ hb), h.below.trans (hb.mono (Nat.zero_le _)), h.lo, h.hi⟩
theorem Th.back (h : Th S w0 g cap K n bk cur W) (hn : cur.length <= cap) (hc : cap <= maxLen) : InstrsO S W (.slice (some ⟨g, 0, none⟩) cur.length cap) cur := by
 obtain ⟨f, post, ys, hm, hl⟩ := h.mid
 exact hm.back hn hc hl
end
theorem ArgOk.next {bk : Nat -> Bool} {cur : List InstrD} (h : ArgOk cur) {p : Nat} (hp : p < cur.length) (hg : goB bk cur p = true) : ArgOk (setArg cur p (argAt cur (argAt cur p).toNat)) /\ (argAt cur p).toNat < (argAt cur (argAt cur p).toNat).toNat /\ (argAt cur (argAt cur p).toNat) <= cur.length := by
 rw [goB_eq _ _ _ hp] at hg
 simp only [Bool.and_eq_true, decide_eq_true_eq] at hg
 obtain ⟨⟨hj, hlt⟩, hs⟩ := hg
 obtain ⟨ht, h13, h2, h3⟩ := (skipB_iff _ _ _).1 hs
 have a1 := h p hp hj
 have a2 := h _ ht (by rw [h13]; decide)
 rw [argAt_eq cur p hp, argAt_eq cur _ ht]
 have h4 : (cur[p].arg.toNat : Int) = cur[p].arg := Int.toNat_of_nonneg a1.1
 refine ⟨fun q hq hjq => ?_, by omega, a2.2.1⟩
 have hq' : q < cur.length := by rw [setArg_len] at hq; exact hq
 rw [setArg_get cur p q _ hq'] at hjq ⊢
 rw [setArg_len]
 by_cases e : q = p
 ·subst e
  rw [if_pos rfl] at hjq ⊢
  exact ⟨a2.1, a2.2.1, fun _ => by show (q : Int) < cur[cur[q].arg.toNat].arg; omega⟩
 ·rw [if_neg e] at hjq ⊢
  exact h q hq' hjq
theorem goB_no {bk : Nat -> Bool} {cur : List InstrD} {p : Nat} (hp : p < cur.length) (h : ¬ (jmpOp cur[p].op = true /\ (p : Int) < cur[p].arg /\ ∃ ht : cur[p].arg.toNat < cur.length, cur[cur[p].arg.toNat].op = 13 /\ cur[p].arg < cur[cur[p].arg.toNat].arg /\ bk cur[p].arg.toNat = false)) (ha : ArgOk cur) : goB bk cur p = false := by
 rw [Bool.eq_false_iff]
 intro hg
 rw [goB_eq _ _ _ hp] at hg
 simp only [Bool.and_eq_true, decide_eq_true_eq] at hg
 obtain ⟨⟨hj, hlt⟩, hs⟩ := hg
 obtain ⟨ht, h13, h2, h3⟩ := (skipB_iff _ _ _).1 hs
 have h4 : (cur[p].arg.toNat : Int) = cur[p].arg := Int.toNat_of_nonneg (ha p hp hj).1
 exact h ⟨hj, hlt, ht, h13, by omega, h3⟩
theorem goB_yes {bk : Nat -> Bool} {cur : List InstrD} {p : Nat} (hp : p < cur.length) (hj : jmpOp cur[p].op = true) (hlt : (p : Int) < cur[p].arg) (ht : cur[p].arg.toNat < cur.length) (h13 : cur[cur[p].arg.toNat].op = 13) (h2 : cur[p].arg < cur[cur[p].arg.toNat].arg) (h3 : bk cur[p].arg.toNat = false) : goB bk cur p = true := by
 rw [goB_eq _ _ _ hp]
 simp only [Bool.and_eq_true, decide_eq_true_eq]
 exact ⟨⟨hj, hlt⟩, (skipB_iff _ _ _).2 ⟨ht, h13, by omega, h3⟩⟩
theorem follow_go {bk : Nat -> Bool} {cur : List InstrD} {p f : Nat} (hg : goB bk cur p = true) : follow bk p (f + 1) cur = follow bk p f (setArg cur p (argAt cur (argAt cur p).toNat)) := by
 rw [follow, if_pos hg]
theorem thrN_succ (l : List InstrD) (k : Nat) : thrN l (k + 1) = follow (backB l) (l.length - (k + 1)) (l.length + 1) (thrN l k) := rfl
/-- what threading gives back -/
def RetThr (S : Nat -> Prop) (v : Value) (l : List InstrD) (w : World) (e : Ending) (w' : World) : Prop := e = .returned (.tuple #[]) /\ InstrsO S w' v (thrF l) /\ Keeps (fun b => ¬ S b) w w' /\ Below 0 w w'
set_option maxHeartbeats 16000000 in
theorem impl_thread (S : Nat -> Prop) (l : List InstrD) (v : Value) (w : World) (h : InstrsO S w v l) (ha : ArgOk l) (hl : l.length <= 1000) :
  Calls Tryz.prog 40 #[v] w (RetThr S v l w) := by
 have HR := Lib.hid (impl_backTargets l v w h.read ha hl)
 have HI := Lib.hid h
 have HA := Lib.hid ha
 have hap0 := h
 rcases SlO.mid hap0 with ⟨rfl, rfl⟩ | ⟨g, cap, f, post, ys, rfl, hn, hc, hp, hM⟩
 ·clear h ha hap0
  go_enter Tryz.func40, Tryz.ntmps40
  go_wp2_with fail
  refine Calls.mono HR.out ?_
  rintro e w1 ⟨K, rfl, hB, hlo, hb⟩
  have HF := Lib.hid (show InstrsO S w1 (.slice none 0 0) (thrF []) /\ Keeps (fun b => ¬ S b) w w1 /\ Below 0 w w1 from ⟨HI.out.keeps (Keeps.of_below _ hb), Keeps.of_below _ hb, hb.mono (Nat.zero_le _)⟩)
  clear hB hlo hb
  go_wp2_with fail
  go_loopg [3] 0 (fun gk i wr => i = .int .i64 (-1) /\ wr = w1)
  case atStart => exact ⟨rfl, rfl⟩
  case round =>
   obtain ⟨rfl, rfl⟩ := hrel
   go_wp2_with fail
   refine bodyPost_end (v := .tuple #[]) (by kernel_rfl) rfl ?_
   exact ⟨rfl, HF.out⟩
 ·have hgs := hM.blk.lt
  have HM := Lib.hid hM
  unfold maxLen at hc
  clear h ha hap0 hM
  go_enter Tryz.func40, Tryz.ntmps40
  go_wp2_with fail
  refine Calls.mono HR.out ?_
  rintro e w1 ⟨K, rfl, hB, hlo, hb⟩
  have F : Ok (Th S w g cap K l.length (backB l) (thrN l 0)) w1 :=
   ⟨⟨f, post, ys, ⟨HM.out.own, HM.out.blk.below hb, HM.out.len, fun k a b => ⟨(HM.out.elem k a b).1, (HM.out.elem k a b).2.keeps (Keeps.of_below _ hb)⟩⟩, hp⟩, hB, Keeps.of_below _ hb, hb.mono (Nat.zero_le _), hlo, hgs⟩
  have HA0 := Lib.hid (show ArgOk (thrN l 0) from HA.out)
  have HC := Lib.hid (show InstrsO S w (.slice (some ⟨g, 0, none⟩) l.length cap) l from HI.out)
  clear hB hlo hb HM HR
  go_wp2_with fail
  go_loopw [3] (fun i wr => ∃ (m : Nat) (z : Int), m <= l.length /\ z = (l.length : Int) - 1 - m /\ i = .int .i64 z /\ Hid (ArgOk (thrN l m)) /\ Ok (Th S w g cap K l.length (backB l) (thrN l m)) wr) (fun i _ => (intOf i + 1).toNat)
  case atStart => exact ⟨0, _, Nat.zero_le _, by omega, rfl, HA0.out, F⟩
  case round =>
   clear F HA0
   obtain ⟨m, z, hm, hz, rfl, HAm, F⟩ := hrel
   by_cases hlt : m < l.length
   ·obtain ⟨p, rfl⟩ := Int.eq_ofNat_of_zero_le (show 0 <= z by omega)
    have hpe : p = l.length - (m + 1) := by omega
    have hpl : p < l.length := by omega
    have HTN := Lib.hid (show thrN l (m + 1) = follow (backB l) p (l.length + 1) (thrN l m) by rw [hpe]; exact thrN_succ l m)
    have HCL := Lib.hid (thrN_len l m)
    have HPE := Lib.hid hpe
    clear hz hpe
    generalize thrN l m = c0 at HAm F HTN HCL
    have hpc : p < c0.length := by have := HCL.out; omega
    obtain ⟨z0, z1, z2⟩ := F.cells p hpc
    obtain ⟨op, hop⟩ : ∃ x, c0[p].op = x := ⟨_, rfl⟩
    rw [hop] at z0
    have HOP := Lib.hid hop
    clear hop z1 z2
    go_wp2_with fail
    refine Calls.mono (impl_isJumping op _) ?_
    rintro e w3 ⟨rfl, rfl⟩
    rw [isJ_jmp]
    cases J : jmpOp op
    ·have HN := Lib.hid (show thrN l (m + 1) = c0 by rw [HTN.out]; exact follow_stop _ _ _ _ (goB_no hpc (fun h => by have := h.1; rw [HOP.out, J] at this; cases this) HAm.out))
     clear J z0
     go_wp2_with fail
     go_roundw
     case rel => exact ⟨m + 1, (p : Int) - 1, by omega, by have := HPE.out; omega, rfl, show ArgOk _ by rw [HN.out]; exact HAm.out, show Th _ _ _ _ _ _ _ _ _ by rw [HN.out]; exact F⟩
     case measure => simp [intOf] <;> omega
    have HJ := Lib.hid (show jmpOp c0[p].op = true by rw [HOP.out]; exact J)
    clear J z0 HOP
    go_wp2_with fail
    go_loopg [4] (l.length) (fun gk t wr => ∃ cur, Hid (follow (backB l) p (l.length + 1) c0 = follow (backB l) p (gk + 1) cur) /\ Hid (l.length - (argAt cur p).toNat <= gk) /\ Hid (ArgOk cur) /\ Hid (cur.length = l.length) /\ Hid (jmpOp c0[p].op = true -> ∀ h : p < cur.length, jmpOp cur[p].op = true) /\ Ok (Th S w g cap K l.length (backB l) cur) wr)
    case atStart => exact ⟨c0, rfl, Nat.sub_le _ _, HAm.out, HCL.out, fun h _ => h, F⟩
    case round =>
     clear F
     obtain ⟨cur, HFO, HME, HAC, HLC, HJC, F⟩ := hrel
     have hpc2 : p < cur.length := by have := HLC.out; omega
     have HAT := Lib.hid (argAt_eq cur p hpc2)
     have HGO := Lib.hid (fun (hg : goB (backB l) cur p = true) => ArgOk.next HAC.out hpc2 hg)
     have HNO := Lib.hid (fun h => goB_no (bk := backB l) hpc2 h HAC.out)
     have HST := Lib.hid (fun (h : goB (backB l) cur p = false) => show thrN l (m + 1) = cur by rw [HTN.out, HFO.out]; exact follow_stop _ _ _ _ h)
     have HAP := Lib.hid (HAC.out p hpc2)
     have HYE := Lib.hid (goB_yes (bk := backB l) hpc2)
     have HFA := Lib.hid (fun (t : Nat) (ht : t < cur.length) => F.cells t ht)
     obtain ⟨z0, z1, z2⟩ := F.cells p hpc2
     obtain ⟨op, hop⟩ : ∃ x, cur[p].op = x := ⟨_, rfl⟩
     obtain ⟨arg, harg⟩ : ∃ x, cur[p].arg = x := ⟨_, rfl⟩
     rw [hop] at z0 HAP HNO HYE
     rw [harg] at z1 HAT HAP HNO HYE
     have HOP := Lib.hid hop
     have HARG := Lib.hid harg
     clear hop harg
     have HJ2 := Lib.hid (show jmpOp op = true by rw [<- HOP.out]; exact HJC.out HJ.out hpc2)
     obtain ⟨a, rfl⟩ := Int.eq_ofNat_of_zero_le (HAP.out HJ2.out).1
     have hal : a <= l.length := by have := (HAP.out HJ2.out).2.1; have := HLC.out; omega
     by_cases c1 : a <= p
     ·have b1 : decide ((a : Int) <= (p : Int)) = true := by simp; omega
      have b2 : decide (a <= p) = true := by simp [c1]
      have C1 := Lib.hid c1
      clear c1
      have HN := Lib.hid (HST.out (HNO.out (fun h => by have h1 := h.2.1; have := C1.out; omega)))
      go_wp2_with fail
      go_roundw
      case rel => exact ⟨m + 1, (p : Int) - 1, by omega, by have := HPE.out; omega, rfl, show ArgOk _ by rw [HN.out]; exact HAC.out, show Th _ _ _ _ _ _ _ _ _ by rw [HN.out]; exact F⟩
      case measure => simp [intOf] <;> omega
     have b1 : decide ((a : Int) <= (p : Int)) = false := by simp; omega
     have b2 : decide (a <= p) = false := by simp; omega
     have C1 := Lib.hid c1
     clear c1
     by_cases c2 : a < l.length
     rotate_left
     ·have b3 : decide ((l.length : Int) <= (a : Int)) = true := by simp; omega
      have b4 : decide (l.length <= a) = true := by simp; omega
      have C2 := Lib.hid c2
      clear c2
      have HN := Lib.hid (HST.out (HNO.out (fun h => by obtain ⟨_, _, h1, _⟩ := h; have h2 := C2.out; have h3 := HLC.out; rw [Int.toNat_natCast] at h1; omega)))
      go_wp2_with fail
      go_roundw
      case rel => exact ⟨m + 1, (p : Int) - 1, by omega, by have := HPE.out; omega, rfl, show ArgOk _ by rw [HN.out]; exact HAC.out, show Th _ _ _ _ _ _ _ _ _ by rw [HN.out]; exact F⟩
      case measure => simp [intOf] <;> omega
     have b3 : decide ((l.length : Int) <= (a : Int)) = false := by simp; omega
     have b4 : decide (l.length <= a) = false := by simp; omega
     have hac : a < cur.length := by have := HLC.out; omega
     have han2 : (a : Int) < (l.length : Int) := by omega
     have han3 : (a : Int) < (l.length : Int) + 1 := by omega
     have han4 : a < l.length + 1 := by omega
     have han5 : a < l.length := by omega
     obtain ⟨y0, y1, y2⟩ := HFA.out a hac
     have r0 := F.row.cell a _ (boolsL_at _ (l.length + 1) a (by omega))
     have HAA := Lib.hid (HAC.out a hac)
     have HI6 := Lib.hid (show I64 cur[a].arg from by
      obtain ⟨f, post, ys, hm, _⟩ := F.mid
      obtain ⟨hy, _, _, _, _, _, h4⟩ := hm.at_ a hac
      obtain ⟨A4, c4, A51, c51, A52, c52, A53, c53, A54, c54, A55, c55, f2, _, _, h1', _⟩ := h4
      exact h1')
     have HAT2 := Lib.hid (argAt_eq cur a hac)
     have HN2 := Lib.hid (show ∀ h : (a : Int).toNat < cur.length, cur[(a : Int).toNat] = cur[a] from fun h => by congr 1)
     obtain ⟨op2, hop2⟩ : ∃ x, cur[a].op = x := ⟨_, rfl⟩
     obtain ⟨arg2, harg2⟩ : ∃ x, cur[a].arg = x := ⟨_, rfl⟩
     rw [hop2] at y0 HAA
     rw [harg2] at y1 HAA HI6 HAT2
     have HOP2 := Lib.hid hop2
     have HARG2 := Lib.hid harg2
     clear hop2 harg2
     cases c3 : (op2 == 13)
     ·have c3' : (op2 != 13) = true := by simp [bne, c3]
      have C3 := Lib.hid (show op2 ≠ 13 by simpa using c3)
      have HN := Lib.hid (HST.out (HNO.out (fun h => by obtain ⟨_, _, h1, h2, _⟩ := h; rw [HN2.out h1, HOP2.out] at h2; exact C3.out h2)))
      go_wp2_with fail
      go_roundw
      case rel => exact ⟨m + 1, (p : Int) - 1, by omega, by have := HPE.out; omega, rfl, show ArgOk _ by rw [HN.out]; exact HAC.out, show Th _ _ _ _ _ _ _ _ _ by rw [HN.out]; exact F⟩
      case measure => simp [intOf] <;> omega
     have c3' : (op2 != 13) = false := by simp [bne, c3]
     have C3 := Lib.hid (show op2 = 13 by simpa using c3)
     by_cases c4 : arg2 <= (a : Int)
     ·have b5 : decide (arg2 <= (a : Int)) = true := by simp [c4]
      have C4 := Lib.hid c4
      clear c4
      have HN := Lib.hid (HST.out (HNO.out (fun h => by obtain ⟨_, _, h1, _, h2, _⟩ := h; rw [HN2.out h1, HARG2.out] at h2; have := C4.out; omega)))
      go_wp2_with fail
      go_roundw
      case rel => exact ⟨m + 1, (p : Int) - 1, by omega, by have := HPE.out; omega, rfl, show ArgOk _ by rw [HN.out]; exact HAC.out, show Th _ _ _ _ _ _ _ _ _ by rw [HN.out]; exact F⟩
      case measure => simp [intOf] <;> omega
     have b5 : decide (arg2 <= (a : Int)) = false := by simp; omega
     have C4 := Lib.hid c4
     clear c4
     cases c5 : backB l a
     rotate_left
     ·have C5 := Lib.hid c5
      rw [c5] at r0
      clear c5
      have HN := Lib.hid (HST.out (HNO.out (fun h => by obtain ⟨_, _, h1, _, _, h2⟩ := h; rw [Int.toNat_natCast, C5.out] at h2; cases h2)))
      go_wp2_with fail
      go_roundw
      case rel => exact ⟨m + 1, (p : Int) - 1, by omega, by have := HPE.out; omega, rfl, show ArgOk _ by rw [HN.out]; exact HAC.out, show Th _ _ _ _ _ _ _ _ _ by rw [HN.out]; exact F⟩
      case measure => simp [intOf] <;> omega
     have C5 := Lib.hid c5
     rw [c5] at r0
     clear c5
     have HG := Lib.hid (HYE.out HJ2.out (by have := C1.out; omega) (by rw [Int.toNat_natCast]; exact hac) (by rw [HN2.out (by rw [Int.toNat_natCast]; exact hac), HOP2.out]; exact C3.out) (by rw [HN2.out (by rw [Int.toNat_natCast]; exact hac), HARG2.out]; have := C4.out; omega) (by rw [Int.toNat_natCast]; exact C5.out))
     have HNX := Lib.hid (HGO.out HG.out)
     have HFG := Lib.hid (fun f => follow_go (f := f) HG.out)
     rw [HAT.out, Int.toNat_natCast, HAT2.out] at HNX HFG
     have HF2 := Lib.hid (Th.set F p hpc2 arg2 HI6.out)
     have HKK := Lib.hid (show 1 <= gk by have h1 := HNX.out.2.1; have h2 := HNX.out.2.2; have h3 := HME.out; have h4 := HLC.out; rw [HAT.out, Int.toNat_natCast] at h3; omega)
     clear F
     go_wp2_with fail
     go_roundg (gk - 1)
     case measure => have := HKK.out; omega
     case rel => exact ⟨setArg cur p arg2, by
       show follow (backB l) p (l.length + 1) c0 = _
       rw [HFO.out, HFG.out]
       congr 1
       have := HKK.out
       omega, by
       show l.length - (argAt (setArg cur p arg2) p).toNat <= gk - 1
       rw [argAt_eq _ p (by rw [setArg_len]; exact hpc2), setArg_get cur p p _ hpc2, if_pos rfl]
       have h1 := HNX.out.2.1
       have h2 := HME.out
       rw [HAT.out, Int.toNat_natCast] at h2
       show l.length - arg2.toNat <= gk - 1
       omega, HNX.out.1, show _ = _ by rw [setArg_len]; exact HLC.out, fun h3 h4 => by
       rw [setArg_get cur p p _ hpc2, if_pos rfl]
       show jmpOp cur[p].op = true
       rw [HOP.out]
       exact HJ2.out, HF2.out⟩
   ·obtain rfl : m = l.length := by omega
    obtain rfl : z = -1 := by omega
    have HB := Lib.hid (show InstrsO S wr (.slice (some ⟨g, 0, none⟩) l.length cap) (thrF l) by
     have h9 := Th.back F (by rw [thrN_len]; exact hn) (by unfold maxLen; omega)
     rw [thrN_len] at h9
     exact h9)
    have HK := Lib.hid F.keeps
    have HW := Lib.hid F.below
    clear F hm hz hlt
    go_wp2_with fail
    refine bodyPost_end (v := .tuple #[]) (by kernel_rfl) rfl ?_
    exact ⟨rfl, HB.out, HK.out, HW.out⟩

set_option maxHeartbeats 16000000 in
theorem spec_l34Thread (S : Nat -> Prop) (l : List InstrD) (v : Value) (w : World) (h : InstrsO S w v l) (ha : ArgOk l) (hl : l.length <= 1000) :
  Calls Tryz.prog 102 #[v] w (RetThr S v l w) := by
 have HR := Lib.hid (spec_l34Back l v w h.read ha hl)
 have HI := Lib.hid h
 have HA := Lib.hid ha
 have hap0 := h
 rcases SlO.mid hap0 with ⟨rfl, rfl⟩ | ⟨g, cap, f, post, ys, rfl, hn, hc, hp, hM⟩
 ·clear h ha hap0
  go_enter Tryz.func102, Tryz.ntmps102
  go_wp2_with fail
  refine Calls.mono HR.out ?_
  rintro e w1 ⟨K, rfl, hB, hlo, hb⟩
  have HF := Lib.hid (show InstrsO S w1 (.slice none 0 0) (thrF []) /\ Keeps (fun b => ¬ S b) w w1 /\ Below 0 w w1 from ⟨HI.out.keeps (Keeps.of_below _ hb), Keeps.of_below _ hb, hb.mono (Nat.zero_le _)⟩)
  clear hB hlo hb
  go_wp2_with fail
  go_loopg [3] 0 (fun gk i wr => i = .int .i64 (-1) /\ wr = w1)
  case atStart => exact ⟨rfl, rfl⟩
  case round =>
   obtain ⟨rfl, rfl⟩ := hrel
   go_wp2_with fail
   refine bodyPost_end (v := .tuple #[]) (by kernel_rfl) rfl ?_
   exact ⟨rfl, HF.out⟩
 ·have hgs := hM.blk.lt
  have HM := Lib.hid hM
  unfold maxLen at hc
  clear h ha hap0 hM
  go_enter Tryz.func102, Tryz.ntmps102
  go_wp2_with fail
  refine Calls.mono HR.out ?_
  rintro e w1 ⟨K, rfl, hB, hlo, hb⟩
  have F : Ok (Th S w g cap K l.length (backB l) (thrN l 0)) w1 :=
   ⟨⟨f, post, ys, ⟨HM.out.own, HM.out.blk.below hb, HM.out.len, fun k a b => ⟨(HM.out.elem k a b).1, (HM.out.elem k a b).2.keeps (Keeps.of_below _ hb)⟩⟩, hp⟩, hB, Keeps.of_below _ hb, hb.mono (Nat.zero_le _), hlo, hgs⟩
  have HA0 := Lib.hid (show ArgOk (thrN l 0) from HA.out)
  have HC := Lib.hid (show InstrsO S w (.slice (some ⟨g, 0, none⟩) l.length cap) l from HI.out)
  clear hB hlo hb HM HR
  go_wp2_with fail
  go_loopw [3] (fun i wr => ∃ (m : Nat) (z : Int), m <= l.length /\ z = (l.length : Int) - 1 - m /\ i = .int .i64 z /\ Hid (ArgOk (thrN l m)) /\ Ok (Th S w g cap K l.length (backB l) (thrN l m)) wr) (fun i _ => (intOf i + 1).toNat)
  case atStart => exact ⟨0, _, Nat.zero_le _, by omega, rfl, HA0.out, F⟩
  case round =>
   clear F HA0
   obtain ⟨m, z, hm, hz, rfl, HAm, F⟩ := hrel
   by_cases hlt : m < l.length
   ·obtain ⟨p, rfl⟩ := Int.eq_ofNat_of_zero_le (show 0 <= z by omega)
    have hpe : p = l.length - (m + 1) := by omega
    have hpl : p < l.length := by omega
    have HTN := Lib.hid (show thrN l (m + 1) = follow (backB l) p (l.length + 1) (thrN l m) by rw [hpe]; exact thrN_succ l m)
    have HCL := Lib.hid (thrN_len l m)
    have HPE := Lib.hid hpe
    clear hz hpe
    generalize thrN l m = c0 at HAm F HTN HCL
    have hpc : p < c0.length := by have := HCL.out; omega
    go_wp2_with fail
    go_loopg [] (l.length) (fun gk wr => ∃ cur, Hid (follow (backB l) p (l.length + 1) c0 = follow (backB l) p (gk + 1) cur) /\ Hid (l.length - (argAt cur p).toNat <= gk) /\ Hid (ArgOk cur) /\ Hid (cur.length = l.length) /\ Hid (jmpOp c0[p].op = true -> ∀ h : p < cur.length, jmpOp cur[p].op = true) /\ Ok (Th S w g cap K l.length (backB l) cur) wr)
    case atStart => exact ⟨c0, rfl, Nat.sub_le _ _, HAm.out, HCL.out, fun h _ => h, F⟩
    case round =>
     clear F
     obtain ⟨cur, HFO, HME, HAC, HLC, HJC, F⟩ := hrel
     have hpc2 : p < cur.length := by have := HLC.out; omega
     have HAT := Lib.hid (argAt_eq cur p hpc2)
     have HGO := Lib.hid (fun (hg : goB (backB l) cur p = true) => ArgOk.next HAC.out hpc2 hg)
     have HNO := Lib.hid (fun h => goB_no (bk := backB l) hpc2 h HAC.out)
     have HST := Lib.hid (fun (h : goB (backB l) cur p = false) => show thrN l (m + 1) = cur by rw [HTN.out, HFO.out]; exact follow_stop _ _ _ _ h)
     have HAP := Lib.hid (HAC.out p hpc2)
     have HYE := Lib.hid (goB_yes (bk := backB l) hpc2)
     have HFA := Lib.hid (fun (t : Nat) (ht : t < cur.length) => F.cells t ht)
     obtain ⟨z0, z1, z2⟩ := F.cells p hpc2
     obtain ⟨op, hop⟩ : ∃ x, cur[p].op = x := ⟨_, rfl⟩
     obtain ⟨arg, harg⟩ : ∃ x, cur[p].arg = x := ⟨_, rfl⟩
     rw [hop] at z0 HAP HNO HYE
     rw [harg] at z1 HAT HAP HNO HYE
     have HOP := Lib.hid hop
     have HARG := Lib.hid harg
     clear hop harg
     cases J : jmpOp op
     ·have J2 := Lib.hid J
      clear J z2
      obtain ⟨GX, hGX⟩ : ∃ GX : World -> Prop, GX = fun V => V.cell? ⟨g, p * 13, none⟩ = some (.int .i64 op) /\ V.cell? ⟨g, p * 13 + 1, none⟩ = some (.int .i64 arg) := ⟨_, rfl⟩
      have e0 := fun V (h : Ok GX V) => (show V.cell? ⟨g, p * 13, none⟩ = some (.int .i64 op) by rw [hGX] at h; exact h.1)
      have e1 := fun V (h : Ok GX V) => (show V.cell? ⟨g, p * 13 + 1, none⟩ = some (.int .i64 arg) by rw [hGX] at h; exact h.2)
      have gX : Ok GX wr.drew := by rw [hGX]; exact ⟨z0, z1⟩
      clear hGX z0 z1
      replace F := Th.step F (Below.drew (Below.refl _ _))
      go_upto_region 4 with fail
      refine wp_region_plan (S := Ok GX) (by kernel_rfl) [(true, 0), (true, 1), (true, 2), (true, 3), (true, 4), (false, 5), (true, 6), (true, 7), (true, 8), (true, 9), (true, 10), (true, 11), (true, 12), (true, 13), (true, 14), (true, 15), (true, 16), (true, 17), (true, 18), (true, 19), (true, 20), (true, 21), (true, 22), (true, 23), (true, 24), (true, 25), (true, 26), (true, 27), (true, 28), (true, 29), (true, 30), (true, 31), (true, 32), (true, 33), (true, 34), (true, 35), (true, 36), (true, 37), (true, 38), (true, 39), (true, 40), (true, 41), (true, 42), (true, 43), (true, 44), (true, 45), (true, 46), (true, 47), (true, 48), (true, 49), (true, 50), (true, 51), (true, 52), (true, 53), (true, 54), (true, 55), (true, 56), (true, 57), (true, 58), (true, 59), (true, 60), (true, 61), (true, 62), (true, 63), (true, 64)] (by kernel_rfl) gX ?_
      repeat ((first | (refine dyn_take rfl rfl (fun W g => by go_simp; rfl) ?_) | (refine dyn_skip rfl rfl ?_)); go_simp)
      refine dyn_act rfl rfl (fun K9 hK => ?_)
      go_wp2_with fail
      refine Calls.mono (spec_l32Jumps op _) ?_
      rintro e w9 ⟨rfl, hw9⟩
      subst hw9
      rw [isJ_jmp, J2.out]
      simp only []
      refine hK.out _ _ gX ?_
      clear hK
      repeat ((first | (refine dyn_take rfl rfl (fun W g => by go_simp; rfl) ?_) | (refine dyn_skip rfl rfl ?_)); go_simp)
      refine dyn_done ?_
      clear gX e0 e1
      have HN := Lib.hid (HST.out (HNO.out (fun h => by have := h.1; rw [J2.out] at this; cases this)))
      go_wp2_with fail
      go_roundw
      case rel => exact ⟨m + 1, (p : Int) - 1, by omega, by have := HPE.out; omega, rfl, show ArgOk _ by rw [HN.out]; exact HAC.out, show Th _ _ _ _ _ _ _ _ _ by rw [HN.out]; exact F⟩
      case measure => simp [intOf] <;> omega
     have HJ2 := Lib.hid J
     clear J z2
     obtain ⟨a, rfl⟩ := Int.eq_ofNat_of_zero_le (HAP.out HJ2.out).1
     have hal : a <= l.length := by have := (HAP.out HJ2.out).2.1; have := HLC.out; omega
     by_cases c1 : a <= p
     ·have b1 : decide ((p : Int) < (a : Int)) = false := by simp; omega
      have b2 : decide (p < a) = false := by simp; omega
      have C1 := Lib.hid c1
      clear c1
      obtain ⟨GX, hGX⟩ : ∃ GX : World -> Prop, GX = fun V => V.cell? ⟨g, p * 13, none⟩ = some (.int .i64 op) /\ V.cell? ⟨g, p * 13 + 1, none⟩ = some (.int .i64 (a : Int)) := ⟨_, rfl⟩
      have e0 := fun V (h : Ok GX V) => (show V.cell? ⟨g, p * 13, none⟩ = some (.int .i64 op) by rw [hGX] at h; exact h.1)
      have e1 := fun V (h : Ok GX V) => (show V.cell? ⟨g, p * 13 + 1, none⟩ = some (.int .i64 (a : Int)) by rw [hGX] at h; exact h.2)
      have gX : Ok GX wr.drew := by rw [hGX]; exact ⟨z0, z1⟩
      clear hGX z0 z1
      replace F := Th.step F (Below.drew (Below.refl _ _))
      go_upto_region 4 with fail
      refine wp_region_plan (S := Ok GX) (by kernel_rfl) [(true, 0), (true, 1), (true, 2), (true, 3), (true, 4), (false, 5), (true, 6), (true, 7), (true, 8), (true, 9), (true, 10), (true, 11), (true, 12), (true, 13), (true, 14), (true, 15), (true, 16), (true, 17), (true, 18), (true, 19), (true, 20), (true, 21), (true, 22), (true, 23), (true, 24), (true, 25), (true, 26), (true, 27), (true, 28), (true, 29), (true, 30), (true, 31), (true, 32), (true, 33), (true, 34), (true, 35), (true, 36), (true, 37), (true, 38), (true, 39), (true, 40), (true, 41), (true, 42), (true, 43), (true, 44), (true, 45), (true, 46), (true, 47), (true, 48), (true, 49), (true, 50), (true, 51), (true, 52), (true, 53), (true, 54), (true, 55), (true, 56), (true, 57), (true, 58), (true, 59), (true, 60), (true, 61), (true, 62), (true, 63), (true, 64)] (by kernel_rfl) gX ?_
      repeat ((first | (refine dyn_take rfl rfl (fun W g => by go_simp; rfl) ?_) | (refine dyn_skip rfl rfl ?_)); go_simp)
      refine dyn_act rfl rfl (fun K9 hK => ?_)
      go_wp2_with fail
      refine Calls.mono (spec_l32Jumps op _) ?_
      rintro e w9 ⟨rfl, hw9⟩
      subst hw9
      rw [isJ_jmp, HJ2.out]
      simp only []
      refine hK.out _ _ gX ?_
      clear hK
      repeat ((first | (refine dyn_take rfl rfl (fun W g => by go_simp; rfl) ?_) | (refine dyn_skip rfl rfl ?_)); go_simp)
      refine dyn_done ?_
      clear gX e0 e1
      have HN := Lib.hid (HST.out (HNO.out (fun h => by have h1 := h.2.1; have := C1.out; omega)))
      go_wp2_with fail
      go_roundw
      case rel => exact ⟨m + 1, (p : Int) - 1, by omega, by have := HPE.out; omega, rfl, show ArgOk _ by rw [HN.out]; exact HAC.out, show Th _ _ _ _ _ _ _ _ _ by rw [HN.out]; exact F⟩
      case measure => simp [intOf] <;> omega
     have b1 : decide ((p : Int) < (a : Int)) = true := by simp; omega
     have b2 : decide (p < a) = true := by simp; omega
     have C1 := Lib.hid c1
     clear c1
     by_cases c2 : a < l.length
     rotate_left
     ·have b3 : decide ((a : Int) < (l.length : Int)) = false := by simp; omega
      have b4 : decide (a < l.length) = false := by simp; omega
      have C2 := Lib.hid c2
      clear c2
      obtain ⟨GX, hGX⟩ : ∃ GX : World -> Prop, GX = fun V => V.cell? ⟨g, p * 13, none⟩ = some (.int .i64 op) /\ V.cell? ⟨g, p * 13 + 1, none⟩ = some (.int .i64 (a : Int)) := ⟨_, rfl⟩
      have e0 := fun V (h : Ok GX V) => (show V.cell? ⟨g, p * 13, none⟩ = some (.int .i64 op) by rw [hGX] at h; exact h.1)
      have e1 := fun V (h : Ok GX V) => (show V.cell? ⟨g, p * 13 + 1, none⟩ = some (.int .i64 (a : Int)) by rw [hGX] at h; exact h.2)
      have gX : Ok GX wr.drew := by rw [hGX]; exact ⟨z0, z1⟩
      clear hGX z0 z1
      replace F := Th.step F (Below.drew (Below.refl _ _))
      go_upto_region 4 with fail
      refine wp_region_plan (S := Ok GX) (by kernel_rfl) [(true, 0), (true, 1), (true, 2), (true, 3), (true, 4), (false, 5), (true, 6), (true, 7), (true, 8), (true, 9), (true, 10), (true, 11), (true, 12), (true, 13), (true, 14), (true, 15), (true, 16), (true, 17), (true, 18), (true, 19), (true, 20), (true, 21), (true, 22), (true, 23), (true, 24), (true, 25), (true, 26), (true, 27), (true, 28), (true, 29), (true, 30), (true, 31), (true, 32), (true, 33), (true, 34), (true, 35), (true, 36), (true, 37), (true, 38), (true, 39), (true, 40), (true, 41), (true, 42), (true, 43), (true, 44), (true, 45), (true, 46), (true, 47), (true, 48), (true, 49), (true, 50), (true, 51), (true, 52), (true, 53), (true, 54), (true, 55), (true, 56), (true, 57), (true, 58), (true, 59), (true, 60), (true, 61), (true, 62), (true, 63), (true, 64)] (by kernel_rfl) gX ?_
      repeat ((first | (refine dyn_take rfl rfl (fun W g => by go_simp; rfl) ?_) | (refine dyn_skip rfl rfl ?_)); go_simp)
      refine dyn_act rfl rfl (fun K9 hK => ?_)
      go_wp2_with fail
      refine Calls.mono (spec_l32Jumps op _) ?_
      rintro e w9 ⟨rfl, hw9⟩
      subst hw9
      rw [isJ_jmp, HJ2.out]
      simp only []
      refine hK.out _ _ gX ?_
      clear hK
      repeat ((first | (refine dyn_take rfl rfl (fun W g => by go_simp; rfl) ?_) | (refine dyn_skip rfl rfl ?_)); go_simp)
      refine dyn_done ?_
      clear gX e0 e1
      have HN := Lib.hid (HST.out (HNO.out (fun h => by obtain ⟨_, _, h1, _⟩ := h; have h2 := C2.out; have h3 := HLC.out; rw [Int.toNat_natCast] at h1; omega)))
      go_wp2_with fail
      go_roundw
      case rel => exact ⟨m + 1, (p : Int) - 1, by omega, by have := HPE.out; omega, rfl, show ArgOk _ by rw [HN.out]; exact HAC.out, show Th _ _ _ _ _ _ _ _ _ by rw [HN.out]; exact F⟩
      case measure => simp [intOf] <;> omega
     have b3 : decide ((a : Int) < (l.length : Int)) = true := by simp; omega
     have b4 : decide (a < l.length) = true := by simp; omega
     have hac : a < cur.length := by have := HLC.out; omega
     have han2 : (a : Int) < (l.length : Int) := by omega
     have han3 : (a : Int) < (l.length : Int) + 1 := by omega
     have han4 : a < l.length + 1 := by omega
     have han5 : a < l.length := by omega
     obtain ⟨y0, y1, y2⟩ := HFA.out a hac
     have r0 := F.row.cell a _ (boolsL_at _ (l.length + 1) a (by omega))
     have HAA := Lib.hid (HAC.out a hac)
     have HI6 := Lib.hid (show I64 cur[a].arg from by
      obtain ⟨f, post, ys, hm, _⟩ := F.mid
      obtain ⟨hy, _, _, _, _, _, h4⟩ := hm.at_ a hac
      obtain ⟨A4, c4, A51, c51, A52, c52, A53, c53, A54, c54, A55, c55, f2, _, _, h1', _⟩ := h4
      exact h1')
     have HAT2 := Lib.hid (argAt_eq cur a hac)
     have HN2 := Lib.hid (show ∀ h : (a : Int).toNat < cur.length, cur[(a : Int).toNat] = cur[a] from fun h => by congr 1)
     obtain ⟨op2, hop2⟩ : ∃ x, cur[a].op = x := ⟨_, rfl⟩
     obtain ⟨arg2, harg2⟩ : ∃ x, cur[a].arg = x := ⟨_, rfl⟩
     rw [hop2] at y0 HAA
     rw [harg2] at y1 HAA HI6 HAT2
     have HOP2 := Lib.hid hop2
     have HARG2 := Lib.hid harg2
     clear hop2 harg2
     cases c5 : backB l a
     rotate_left
     ·have C5 := Lib.hid c5
      rw [c5] at r0
      clear c5
      obtain ⟨GX, hGX⟩ : ∃ GX : World -> Prop, GX = fun V => V.cell? ⟨g, p * 13, none⟩ = some (.int .i64 op) /\ V.cell? ⟨g, p * 13 + 1, none⟩ = some (.int .i64 (a : Int)) /\ V.cell? ⟨K, a, none⟩ = some (.bool true) /\ V.cell? ⟨g, a * 13, none⟩ = some (.int .i64 op2) /\ V.cell? ⟨g, a * 13 + 1, none⟩ = some (.int .i64 arg2) := ⟨_, rfl⟩
      have e0 := fun V (h : Ok GX V) => (show V.cell? ⟨g, p * 13, none⟩ = some (.int .i64 op) by rw [hGX] at h; exact h.1)
      have e1 := fun V (h : Ok GX V) => (show V.cell? ⟨g, p * 13 + 1, none⟩ = some (.int .i64 (a : Int)) by rw [hGX] at h; exact h.2.1)
      have e2 := fun V (h : Ok GX V) => (show V.cell? ⟨K, a, none⟩ = some (.bool true) by rw [hGX] at h; exact h.2.2.1)
      have e3 := fun V (h : Ok GX V) => (show V.cell? ⟨g, a * 13, none⟩ = some (.int .i64 op2) by rw [hGX] at h; exact h.2.2.2.1)
      have e4 := fun V (h : Ok GX V) => (show V.cell? ⟨g, a * 13 + 1, none⟩ = some (.int .i64 arg2) by rw [hGX] at h; exact h.2.2.2.2)
      have gX : Ok GX wr.drew := by rw [hGX]; exact ⟨z0, z1, r0, y0, y1⟩
      clear hGX z0 z1 r0 y0 y1
      replace F := Th.step F (Below.drew (Below.refl _ _))
      go_upto_region 4 with fail
      refine wp_region_plan (S := Ok GX) (by kernel_rfl) [(true, 0), (true, 1), (true, 2), (true, 3), (true, 4), (false, 5), (true, 6), (true, 7), (true, 8), (true, 9), (true, 10), (true, 11), (true, 12), (true, 13), (true, 14), (true, 15), (true, 16), (true, 17), (true, 18), (true, 19), (true, 20), (true, 21), (true, 22), (true, 23), (true, 24), (true, 25), (true, 26), (true, 27), (true, 28), (true, 29), (true, 30), (true, 31), (true, 32), (true, 33), (true, 34), (true, 35), (true, 36), (true, 37), (true, 38), (true, 39), (true, 40), (true, 41), (true, 42), (true, 43), (true, 44), (true, 45), (true, 46), (true, 47), (true, 48), (true, 49), (true, 50), (true, 51), (true, 52), (true, 53), (true, 54), (true, 55), (true, 56), (true, 57), (true, 58), (true, 59), (true, 60), (true, 61), (true, 62), (true, 63), (true, 64)] (by kernel_rfl) gX ?_
      repeat ((first | (refine dyn_take rfl rfl (fun W g => by go_simp; rfl) ?_) | (refine dyn_skip rfl rfl ?_)); go_simp)
      refine dyn_act rfl rfl (fun K9 hK => ?_)
      go_wp2_with fail
      refine Calls.mono (spec_l32Jumps op _) ?_
      rintro e w9 ⟨rfl, hw9⟩
      subst hw9
      rw [isJ_jmp, HJ2.out]
      simp only []
      refine hK.out _ _ gX ?_
      clear hK
      repeat ((first | (refine dyn_take rfl rfl (fun W g => by go_simp; rfl) ?_) | (refine dyn_skip rfl rfl ?_)); go_simp)
      refine dyn_done ?_
      clear gX e0 e1 e2 e3 e4
      have HN := Lib.hid (HST.out (HNO.out (fun h => by obtain ⟨_, _, h1, _, _, h2⟩ := h; rw [Int.toNat_natCast, C5.out] at h2; cases h2)))
      go_wp2_with fail
      go_roundw
      case rel => exact ⟨m + 1, (p : Int) - 1, by omega, by have := HPE.out; omega, rfl, show ArgOk _ by rw [HN.out]; exact HAC.out, show Th _ _ _ _ _ _ _ _ _ by rw [HN.out]; exact F⟩
      case measure => simp [intOf] <;> omega
     have C5 := Lib.hid c5
     rw [c5] at r0
     clear c5
     cases c3 : (op2 == 13)
     ·have c3' : (op2 != 13) = true := by simp [bne, c3]
      have C3 := Lib.hid (show op2 ≠ 13 by simpa using c3)
      obtain ⟨GX, hGX⟩ : ∃ GX : World -> Prop, GX = fun V => V.cell? ⟨g, p * 13, none⟩ = some (.int .i64 op) /\ V.cell? ⟨g, p * 13 + 1, none⟩ = some (.int .i64 (a : Int)) /\ V.cell? ⟨K, a, none⟩ = some (.bool false) /\ V.cell? ⟨g, a * 13, none⟩ = some (.int .i64 op2) /\ V.cell? ⟨g, a * 13 + 1, none⟩ = some (.int .i64 arg2) := ⟨_, rfl⟩
      have e0 := fun V (h : Ok GX V) => (show V.cell? ⟨g, p * 13, none⟩ = some (.int .i64 op) by rw [hGX] at h; exact h.1)
      have e1 := fun V (h : Ok GX V) => (show V.cell? ⟨g, p * 13 + 1, none⟩ = some (.int .i64 (a : Int)) by rw [hGX] at h; exact h.2.1)
      have e2 := fun V (h : Ok GX V) => (show V.cell? ⟨K, a, none⟩ = some (.bool false) by rw [hGX] at h; exact h.2.2.1)
      have e3 := fun V (h : Ok GX V) => (show V.cell? ⟨g, a * 13, none⟩ = some (.int .i64 op2) by rw [hGX] at h; exact h.2.2.2.1)
      have e4 := fun V (h : Ok GX V) => (show V.cell? ⟨g, a * 13 + 1, none⟩ = some (.int .i64 arg2) by rw [hGX] at h; exact h.2.2.2.2)
      have gX : Ok GX wr.drew := by rw [hGX]; exact ⟨z0, z1, r0, y0, y1⟩
      clear hGX z0 z1 r0 y0 y1
      replace F := Th.step F (Below.drew (Below.refl _ _))
      go_upto_region 4 with fail
      refine wp_region_plan (S := Ok GX) (by kernel_rfl) [(true, 0), (true, 1), (true, 2), (true, 3), (true, 4), (false, 5), (true, 6), (true, 7), (true, 8), (true, 9), (true, 10), (true, 11), (true, 12), (true, 13), (true, 14), (true, 15), (true, 16), (true, 17), (true, 18), (true, 19), (true, 20), (true, 21), (true, 22), (true, 23), (true, 24), (true, 25), (true, 26), (true, 27), (true, 28), (true, 29), (true, 30), (true, 31), (true, 32), (true, 33), (true, 34), (true, 35), (true, 36), (true, 37), (true, 38), (true, 39), (true, 40), (true, 41), (true, 42), (true, 43), (true, 44), (true, 45), (true, 46), (true, 47), (true, 48), (true, 49), (true, 50), (true, 51), (true, 52), (true, 53), (true, 54), (true, 55), (true, 56), (true, 57), (true, 58), (true, 59), (true, 60), (true, 61), (true, 62), (true, 63), (true, 64)] (by kernel_rfl) gX ?_
      repeat ((first | (refine dyn_take rfl rfl (fun W g => by go_simp; rfl) ?_) | (refine dyn_skip rfl rfl ?_)); go_simp)
      refine dyn_act rfl rfl (fun K9 hK => ?_)
      go_wp2_with fail
      refine Calls.mono (spec_l32Jumps op _) ?_
      rintro e w9 ⟨rfl, hw9⟩
      subst hw9
      rw [isJ_jmp, HJ2.out]
      simp only []
      refine hK.out _ _ gX ?_
      clear hK
      repeat ((first | (refine dyn_take rfl rfl (fun W g => by go_simp; rfl) ?_) | (refine dyn_skip rfl rfl ?_)); go_simp)
      refine dyn_done ?_
      clear gX e0 e1 e2 e3 e4
      have HN := Lib.hid (HST.out (HNO.out (fun h => by obtain ⟨_, _, h1, h2, _⟩ := h; rw [HN2.out h1, HOP2.out] at h2; exact C3.out h2)))
      go_wp2_with fail
      go_roundw
      case rel => exact ⟨m + 1, (p : Int) - 1, by omega, by have := HPE.out; omega, rfl, show ArgOk _ by rw [HN.out]; exact HAC.out, show Th _ _ _ _ _ _ _ _ _ by rw [HN.out]; exact F⟩
      case measure => simp [intOf] <;> omega
     have c3' : (op2 != 13) = false := by simp [bne, c3]
     have C3 := Lib.hid (show op2 = 13 by simpa using c3)
     by_cases c4 : arg2 <= (a : Int)
     ·have b5 : decide ((a : Int) < arg2) = false := by simp; omega
      have C4 := Lib.hid c4
      clear c4
      obtain ⟨GX, hGX⟩ : ∃ GX : World -> Prop, GX = fun V => V.cell? ⟨g, p * 13, none⟩ = some (.int .i64 op) /\ V.cell? ⟨g, p * 13 + 1, none⟩ = some (.int .i64 (a : Int)) /\ V.cell? ⟨K, a, none⟩ = some (.bool false) /\ V.cell? ⟨g, a * 13, none⟩ = some (.int .i64 op2) /\ V.cell? ⟨g, a * 13 + 1, none⟩ = some (.int .i64 arg2) := ⟨_, rfl⟩
      have e0 := fun V (h : Ok GX V) => (show V.cell? ⟨g, p * 13, none⟩ = some (.int .i64 op) by rw [hGX] at h; exact h.1)
      have e1 := fun V (h : Ok GX V) => (show V.cell? ⟨g, p * 13 + 1, none⟩ = some (.int .i64 (a : Int)) by rw [hGX] at h; exact h.2.1)
      have e2 := fun V (h : Ok GX V) => (show V.cell? ⟨K, a, none⟩ = some (.bool false) by rw [hGX] at h; exact h.2.2.1)
      have e3 := fun V (h : Ok GX V) => (show V.cell? ⟨g, a * 13, none⟩ = some (.int .i64 op2) by rw [hGX] at h; exact h.2.2.2.1)
      have e4 := fun V (h : Ok GX V) => (show V.cell? ⟨g, a * 13 + 1, none⟩ = some (.int .i64 arg2) by rw [hGX] at h; exact h.2.2.2.2)
      have gX : Ok GX wr.drew := by rw [hGX]; exact ⟨z0, z1, r0, y0, y1⟩
      clear hGX z0 z1 r0 y0 y1
      replace F := Th.step F (Below.drew (Below.refl _ _))
      go_upto_region 4 with fail
      refine wp_region_plan (S := Ok GX) (by kernel_rfl) [(true, 0), (true, 1), (true, 2), (true, 3), (true, 4), (false, 5), (true, 6), (true, 7), (true, 8), (true, 9), (true, 10), (true, 11), (true, 12), (true, 13), (true, 14), (true, 15), (true, 16), (true, 17), (true, 18), (true, 19), (true, 20), (true, 21), (true, 22), (true, 23), (true, 24), (true, 25), (true, 26), (true, 27), (true, 28), (true, 29), (true, 30), (true, 31), (true, 32), (true, 33), (true, 34), (true, 35), (true, 36), (true, 37), (true, 38), (true, 39), (true, 40), (true, 41), (true, 42), (true, 43), (true, 44), (true, 45), (true, 46), (true, 47), (true, 48), (true, 49), (true, 50), (true, 51), (true, 52), (true, 53), (true, 54), (true, 55), (true, 56), (true, 57), (true, 58), (true, 59), (true, 60), (true, 61), (true, 62), (true, 63), (true, 64)] (by kernel_rfl) gX ?_
      repeat ((first | (refine dyn_take rfl rfl (fun W g => by go_simp; rfl) ?_) | (refine dyn_skip rfl rfl ?_)); go_simp)
      refine dyn_act rfl rfl (fun K9 hK => ?_)
      go_wp2_with fail
      refine Calls.mono (spec_l32Jumps op _) ?_
      rintro e w9 ⟨rfl, hw9⟩
      subst hw9
      rw [isJ_jmp, HJ2.out]
      simp only []
      refine hK.out _ _ gX ?_
      clear hK
      repeat ((first | (refine dyn_take rfl rfl (fun W g => by go_simp; rfl) ?_) | (refine dyn_skip rfl rfl ?_)); go_simp)
      refine dyn_done ?_
      clear gX e0 e1 e2 e3 e4
      have HN := Lib.hid (HST.out (HNO.out (fun h => by obtain ⟨_, _, h1, _, h2, _⟩ := h; rw [HN2.out h1, HARG2.out] at h2; have := C4.out; omega)))
      go_wp2_with fail
      go_roundw
      case rel => exact ⟨m + 1, (p : Int) - 1, by omega, by have := HPE.out; omega, rfl, show ArgOk _ by rw [HN.out]; exact HAC.out, show Th _ _ _ _ _ _ _ _ _ by rw [HN.out]; exact F⟩
      case measure => simp [intOf] <;> omega
     have b5 : decide ((a : Int) < arg2) = true := by simp; omega
     have C4 := Lib.hid c4
     clear c4
     have HG := Lib.hid (HYE.out HJ2.out (by have := C1.out; omega) (by rw [Int.toNat_natCast]; exact hac) (by rw [HN2.out (by rw [Int.toNat_natCast]; exact hac), HOP2.out]; exact C3.out) (by rw [HN2.out (by rw [Int.toNat_natCast]; exact hac), HARG2.out]; have := C4.out; omega) (by rw [Int.toNat_natCast]; exact C5.out))
     have HNX := Lib.hid (HGO.out HG.out)
     have HFG := Lib.hid (fun f => follow_go (f := f) HG.out)
     rw [HAT.out, Int.toNat_natCast, HAT2.out] at HNX HFG
     obtain ⟨GX, hGX⟩ : ∃ GX : World -> Prop, GX = fun V => V.cell? ⟨g, p * 13, none⟩ = some (.int .i64 op) /\ V.cell? ⟨g, p * 13 + 1, none⟩ = some (.int .i64 (a : Int)) /\ V.cell? ⟨K, a, none⟩ = some (.bool false) /\ V.cell? ⟨g, a * 13, none⟩ = some (.int .i64 op2) /\ V.cell? ⟨g, a * 13 + 1, none⟩ = some (.int .i64 arg2) := ⟨_, rfl⟩
     have e0 := fun V (h : Ok GX V) => (show V.cell? ⟨g, p * 13, none⟩ = some (.int .i64 op) by rw [hGX] at h; exact h.1)
     have e1 := fun V (h : Ok GX V) => (show V.cell? ⟨g, p * 13 + 1, none⟩ = some (.int .i64 (a : Int)) by rw [hGX] at h; exact h.2.1)
     have e2 := fun V (h : Ok GX V) => (show V.cell? ⟨K, a, none⟩ = some (.bool false) by rw [hGX] at h; exact h.2.2.1)
     have e3 := fun V (h : Ok GX V) => (show V.cell? ⟨g, a * 13, none⟩ = some (.int .i64 op2) by rw [hGX] at h; exact h.2.2.2.1)
     have e4 := fun V (h : Ok GX V) => (show V.cell? ⟨g, a * 13 + 1, none⟩ = some (.int .i64 arg2) by rw [hGX] at h; exact h.2.2.2.2)
     have gX : Ok GX wr.drew := by rw [hGX]; exact ⟨z0, z1, r0, y0, y1⟩
     clear hGX z0 z1 r0 y0 y1
     replace F := Th.step F (Below.drew (Below.refl _ _))
     go_upto_region 4 with fail
     refine wp_region_plan (S := Ok GX) (by kernel_rfl) [(true, 0), (true, 1), (true, 2), (true, 3), (true, 4), (false, 5), (true, 6), (true, 7), (true, 8), (true, 9), (true, 10), (true, 11), (true, 12), (true, 13), (true, 14), (true, 15), (true, 16), (true, 17), (true, 18), (true, 19), (true, 20), (true, 21), (true, 22), (true, 23), (true, 24), (true, 25), (true, 26), (true, 27), (true, 28), (true, 29), (true, 30), (true, 31), (true, 32), (true, 33), (true, 34), (true, 35), (true, 36), (true, 37), (true, 38), (true, 39), (true, 40), (true, 41), (true, 42), (true, 43), (true, 44), (true, 45), (true, 46), (true, 47), (true, 48), (true, 49), (true, 50), (true, 51), (true, 52), (true, 53), (true, 54), (true, 55), (true, 56), (true, 57), (true, 58), (true, 59), (true, 60), (true, 61), (true, 62), (true, 63), (true, 64)] (by kernel_rfl) gX ?_
     repeat ((first | (refine dyn_take rfl rfl (fun W g => by go_simp; rfl) ?_) | (refine dyn_skip rfl rfl ?_)); go_simp)
     refine dyn_act rfl rfl (fun K9 hK => ?_)
     go_wp2_with fail
     refine Calls.mono (spec_l32Jumps op _) ?_
     rintro e w9 ⟨rfl, hw9⟩
     subst hw9
     rw [isJ_jmp, HJ2.out]
     simp only []
     refine hK.out _ _ gX ?_
     clear hK
     repeat ((first | (refine dyn_take rfl rfl (fun W g => by go_simp; rfl) ?_) | (refine dyn_skip rfl rfl ?_)); go_simp)
     refine dyn_done ?_
     clear gX e0 e1 e2 e3 e4
     generalize wr.drew = w6 at F ⊢
     obtain ⟨z0, z1, z2⟩ := F.cells p hpc2
     rw [HOP.out] at z0
     rw [HARG.out] at z1
     obtain ⟨y0, y1, y2⟩ := F.cells a hac
     rw [HOP2.out] at y0
     rw [HARG2.out] at y1
     have HF2 := Lib.hid (Th.set F p hpc2 arg2 HI6.out)
     have HKK := Lib.hid (show 1 <= gk by have h1 := HNX.out.2.1; have h2 := HNX.out.2.2; have h3 := HME.out; have h4 := HLC.out; rw [HAT.out, Int.toNat_natCast] at h3; omega)
     clear F
     go_wp2_with fail
     go_roundg (gk - 1)
     case measure => have := HKK.out; omega
     case rel => exact ⟨setArg cur p arg2, by
       show follow (backB l) p (l.length + 1) c0 = _
       rw [HFO.out, HFG.out]
       congr 1
       have := HKK.out
       omega, by
       show l.length - (argAt (setArg cur p arg2) p).toNat <= gk - 1
       rw [argAt_eq _ p (by rw [setArg_len]; exact hpc2), setArg_get cur p p _ hpc2, if_pos rfl]
       have h1 := HNX.out.2.1
       have h2 := HME.out
       rw [HAT.out, Int.toNat_natCast] at h2
       show l.length - arg2.toNat <= gk - 1
       omega, HNX.out.1, show _ = _ by rw [setArg_len]; exact HLC.out, fun h3 h4 => by
       rw [setArg_get cur p p _ hpc2, if_pos rfl]
       show jmpOp cur[p].op = true
       rw [HOP.out]
       exact HJ2.out, HF2.out⟩
   ·obtain rfl : m = l.length := by omega
    obtain rfl : z = -1 := by omega
    have HB := Lib.hid (show InstrsO S wr (.slice (some ⟨g, 0, none⟩) l.length cap) (thrF l) by
     have h9 := Th.back F (by rw [thrN_len]; exact hn) (by unfold maxLen; omega)
     rw [thrN_len] at h9
     exact h9)
    have HK := Lib.hid F.keeps
    have HW := Lib.hid F.below
    clear F hm hz hlt
    go_wp2_with fail
    refine bodyPost_end (v := .tuple #[]) (by kernel_rfl) rfl ?_
    exact ⟨rfl, HB.out, HK.out, HW.out⟩

end Go.Proofs.YtjdfancbmjnjfaaGreat
