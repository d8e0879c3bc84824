/-
  Contracts on trees: what is drawn.
-/
import Derived.Test.YtconhpilbndpkaaVmMatF
namespace Go.Proofs.Ytconhpilbndpkaa
set_option maxRecDepth 100000
open Go.RowKit Go.Proofs.Ytconhpilbndpkaa.Vm
set_option linter.unusedVariables false

section
variable {X : Ctx}
def nilQ (a : Slots) (o : Oper) : Option (Nat × Nat) := match o.op with
  | .nilCheck x => (match evT a x with | .pt id off => some (id, off) | _ => none)
  | _ => none
theorem Val_nil {a : Slots} {m : Mem} {o : Oper} {id off : Nat} (hq : nilQ a o = some (id, off)) : Val X a m o (.pt id off) := by
  intro Z ρ nx act w H hS
  unfold nilQ at hq
  split at hq
  · rename_i x ho
    split at hq
    · rename_i id' off' hx
      injection hq with hq
      injection hq with q1 q2
      subst q1 q2
      have hx' := evT_rel hS x
      rw [hx] at hx'
      obtain ⟨b, hb, hv⟩ := hx'.ptI
      refine ⟨_, fun W => ?_, hx'⟩
      obtain ⟨dst, op, ty, pos, after, guard⟩ := o
      simp only at ho
      subst ho
      simp [execOp, hv]
    · cases hq
  · cases hq
/-- a value of some kind -/
theorem W_valE {P : Int → Prop} {o : Oper} {r all : List Oper} {ks : List K} {a : Slots} {m : Mem} {nx : Nat} (hd : dstOk X.n o.dst = true) (hg : gd a all o.guard = .yes) (hv : ∃ r, P r ∧ Val X a m o (.c (.i .i64 r))) (hw : ∀ x, P x → W X ⟨.ops r all :: ks, put a o.dst (.c (.i .i64 x)), m, nx⟩) : W X ⟨.ops (o :: r) all :: ks, a, m, nx⟩ := by
  obtain ⟨x, h1, h2⟩ := hv
  exact W_val hd hg h2 (hw x h1)
theorem D_valE {P : Int → Prop} {ks : List K} {ops : List Oper} {esc : List Nat} {m0 : Mem} {k i : Nat} {r : PT} {a : Slots} {m : Mem} {nx : Nat} {st : Bool} {o : Oper} (ho : nth ops i = some o) (hd : dstOk X.n o.dst = true) (hg : gd a ops o.guard = .yes) (hv : ∃ r, P r ∧ Val X a m o (.c (.i .i64 r)))
    (hw : ∀ x, P x → D X ks ops esc m0 ⟨r, put a o.dst (.c (.i .i64 x)), m, nx, st⟩) : D X ks ops esc m0 ⟨.cons (k, i) r, a, m, nx, st⟩ := by
  obtain ⟨x, h1, h2⟩ := hv
  exact D_val ho hd hg h2 (hw x h1)
/-- bits -/
theorem Val_bits {a : Slots} {m : Mem} {o : Oper} {op : BinOp} {x y : Int} (hq : divQ a o = some (op, x, y)) (hop : op = .and ∨ op = .xor) : ∃ r, True ∧ Val X a m o (.c (.i .i64 r)) := by
  rcases hop with rfl | rfl
  · exact ⟨_, trivial, Val_bin hq fun t xo yo w => rfl⟩
  · exact ⟨_, trivial, Val_bin hq fun t xo yo w => rfl⟩
theorem Val_low {a : Slots} {m : Mem} {o : Oper} {x : Int} (hq : divQ a o = some (.and, x, 255)) : ∃ r, (0 ≤ r ∧ r ≤ 255) ∧ Val X a m o (.c (.i .i64 r)) := by
  have hle : (BitVec.ofInt 64 x &&& BitVec.ofInt 64 255).toNat ≤ 255 := by
    rw [BitVec.toNat_and]
    have : (BitVec.ofInt 64 (255 : Int)).toNat = 255 := by decide
    rw [this]
    exact Nat.and_le_right
  refine ⟨((BitVec.ofInt 64 x &&& BitVec.ofInt 64 255).toNat : Int), ⟨by omega, by omega⟩, Val_bin hq fun t xo yo w => ?_⟩
  have e3 : IntKind.i64.wrap ((BitVec.ofInt 64 x &&& BitVec.ofInt 64 255).toNat : Int) = ((BitVec.ofInt 64 x &&& BitVec.ofInt 64 255).toNat : Int) := IntWalk.i64_in _ ⟨by omega, by omega⟩
  show Result.ok (Value.int .i64 (IntKind.i64.wrap ((BitVec.ofInt 64 x &&& BitVec.ofInt 64 255).toNat : Int))) w = _
  rw [e3]
def shQ (a : Slots) (o : Oper) : Option (Int × Int) := match o.op with
  | .binOp .shr _ x y _ => (match evT a x, evT a y with
    | .c (.i .i64 x), .c (.i .u64 y) => some (x, y)
    | _, _ => none)
  | _ => none
theorem Val_shu {a : Slots} {m : Mem} {o : Oper} {x y : Int} (hq : shQ a o = some (x, y)) (hy : 0 ≤ y) : ∃ r, True ∧ Val X a m o (.c (.i .i64 r)) := by
  unfold shQ at hq
  split at hq
  · rename_i t xo yo t' ho
    split at hq
    · rename_i x' y' hx hy'
      injection hq with hq
      injection hq with q1 q2
      subst q1 q2
      refine ⟨x'.fdiv (2 ^ min y'.toNat 64), trivial, Val_binop (op := .shr) (t := t) (xo := xo) (yo := yo) (by unfold bopQ; rw [ho]) fun Z ρ u v h1 h2 => ?_⟩
      rw [hx] at h1
      rw [hy'] at h2
      rw [h1.cI.intI, h2.cI.intI]
      refine ⟨_, fun w => ?_, .c _ _ (.i _ _)⟩
      have h0 : ¬ y' < 0 := by omega
      have hb : IntKind.i64.bits = 64 := rfl
      simp [eqGuard, binOp, Op.shift, h0, hb]
    · cases hq
  · cases hq
def cvQ (a : Slots) (o : Oper) : Option (TypeId × TypeId × IntKind × Int) := match o.op with
  | .convert s d x => (match evT a x with | .c (.i k n) => some (s, d, k, n) | _ => none)
  | _ => none
theorem Val_conv {a : Slots} {m : Mem} {o : Oper} {s d : TypeId} {k : IntKind} {n : Int} (hq : cvQ a o = some (s, d, k, n)) {us : TypeDesc} (hs : X.P.underlying s = some us) (hd : X.P.underlying d = some (.int .i64)) : ∃ r, True ∧ Val X a m o (.c (.i .i64 r)) := by
  unfold cvQ at hq
  split at hq
  · rename_i s' d' x ho
    split at hq
    · rename_i k' n' hx
      injection hq with hq
      injection hq with q1 hq
      injection hq with q2 hq
      injection hq with q3 q4
      subst q1 q2 q3 q4
      refine ⟨IntKind.i64.wrap n', trivial, fun Z ρ nx act w H hS => ?_⟩
      have hx' := evT_rel hS x
      rw [hx] at hx'
      refine ⟨.int .i64 (IntKind.i64.wrap n'), fun W => ?_, .c _ _ (.i _ _)⟩
      obtain ⟨dst, op, ty, pos, after, guard⟩ := o
      simp only at ho
      subst ho
      simp [execOp, convert, hx'.cI.intI, run_underlying hs, run_underlying hd, Conv.intToInt]
    · cases hq
  · cases hq
end
/-- the code's bytes and the place in them -/
def curO (B : List (List C)) (i h : Int) : Vm.Obj := .box [.c (.sl B), .c (.i .i64 i), .c (.i .i64 h)]
def Cu (B : List (List C)) (m : Mem) : Prop := ∃ i h : Int, 0 ≤ i ∧ i ≤ (B.length : Int) ∧ m = [(0, curO B i h)]
def ByteL (B : List (List C)) : Prop := B.length ≤ 1048576 ∧ ∀ cs ∈ B, ∃ n : Int, cs = [.i .u8 n]
set_option maxHeartbeats 8000000 in
theorem ct_l1Byte (B : List (List C)) (hB : ByteL B) (i h : Int) (hi : 0 ≤ i) (hi2 : i ≤ (B.length : Int)) : CtP Try.prog 48 [.pt 0 0] [(0, curO B i h)] 1 1 (fun t m => (∃ x : Int, 0 ≤ x ∧ x ≤ 255 ∧ t = .c (.i .i64 x)) ∧ Cu B m) := by
  unfold curO
  obtain ⟨zb, zc, zs, zl, zn, zt, zp, zg, zv, zx, zm, hz⟩ := Vm.zE
  have hlen : zl B = (B.length : Int) := z_len hz B
  have hBl := hB.1
  refine CtP_of_W Try.func48 rfl (Nat.le_of_ble_eq_true rfl) fun w0 Z0 ρ0 => ?_
  refine W_run ti_ok hz 400 (by cbv) ?_
  refine W_val (by cbv) (by cbv) (Val_nil (by cbv)) ?_
  refine W_run ti_ok hz 400 (by cbv) ?_
  refine W_val (by cbv) (by cbv) (Val_nil (by cbv)) ?_
  refine W_run ti_ok hz 400 (by cbv) ?_
  obtain ⟨h1, hh1⟩ := hide (zb .add .i64 (zb .mul .i64 h 6364136223846793005) 1442695040888963407)
  rw [← hh1]
  refine W_draw mixedB [(2, 0), (2, 1), (2, 2), (1, 3), (2, 4), (2, 5), (2, 6), (2, 7), (1, 8), (2, 9), (2, 10), (2, 11), (0, 12)] [] (by kernel_rfl) ?_
  refine D_run ti_ok hz 400 (by cbv) ?_
  refine D_val (by cbv) (by cbv) (by cbv) (Val_nil (by cbv)) ?_
  refine D_run ti_ok hz 400 (by cbv) ?_
  refine D_valE (by cbv) (by cbv) (by cbv) (Val_shu (by cbv) (by decide)) ?_
  rintro y1 -
  refine D_run ti_ok hz 400 (by cbv) ?_
  refine D_val (by cbv) (by cbv) (by cbv) (Val_nil (by cbv)) ?_
  refine D_run ti_ok hz 400 (by cbv) ?_
  refine D_valE (by cbv) (by cbv) (by cbv) (Val_shu (by cbv) (by decide)) ?_
  rintro y2 -
  refine D_run ti_ok hz 400 (by cbv) ?_
  refine D_valE (by cbv) (by cbv) (by cbv) (Val_bits (by cbv) (.inr rfl)) ?_
  rintro y3 -
  refine D_run ti_ok hz 400 (by cbv) ?_
  refine D_valE (by cbv) (by cbv) (by cbv) (Val_low (by cbv)) ?_
  rintro x ⟨x0, x1⟩
  refine D_run ti_ok hz 400 (by cbv) ?_
  refine D_done ?_
  refine W_run ti_ok hz 400 (by cbv) ?_
  refine W_draw mixedB [(2, 0), (2, 1), (2, 2), (1, 3), (2, 4), (2, 5), (2, 6), (1, 7), (2, 8), (2, 9)] [] (by kernel_rfl) ?_
  refine D_run ti_ok hz 400 (by cbv) ?_
  refine D_val (by cbv) (by cbv) (by cbv) (Val_nil (by cbv)) ?_
  refine D_run ti_ok hz 400 (by cbv) ?_
  refine D_val (by cbv) (by cbv) (by cbv) (Val_nil (by cbv)) ?_
  refine D_run ti_ok hz 400 (by cbv) ?_
  refine D_done ?_
  refine W_run ti_ok hz 400 (by cbv) ?_
  refine W_cut (fun a m => ∃ x i h : Int, (0 ≤ x ∧ x ≤ 255) ∧ (0 ≤ i ∧ i ≤ (B.length : Int)) ∧ a = [(2, T.c (C.i IntKind.i64 0)), (3, T.c (C.i IntKind.i64 x))] ∧ m = [(0, Obj.box [T.c (C.sl B), T.c (C.i IntKind.i64 i), T.c (C.i IntKind.i64 h)])]) 1 ?_ ?_
  · refine W_cond (by cbv) (fun h => ?_) (fun h => ?_)
    · rw [z_lss hz, hlen] at h
      have h := of_decide_eq_true h
      obtain ⟨k, hk⟩ := Int.eq_ofNat_of_zero_le hi
      have hlt : k < B.length := by omega
      obtain ⟨n, hn⟩ := hB.2 _ (List.getElem_mem hlt)
      have hBk : B[k]? = some [C.i .u8 n] := by rw [List.getElem?_eq_getElem hlt, hn]
      refine W_run ti_ok hz 400 (by cbv) ?_
      refine W_draw mixedB [(2, 0), (2, 1), (2, 2), (2, 3), (1, 4), (2, 5), (2, 6), (2, 7), (1, 8), (2, 9), (1, 10), (2, 11), (2, 12), (2, 13), (0, 14)] [] (by kernel_rfl) ?_
      refine D_run ti_ok hz 400 (by cbv) ?_
      refine D_val (by cbv) (by cbv) (by cbv) (Val_nil (by cbv)) ?_
      refine D_run ti_ok hz 400 (by cbv) ?_
      refine D_val (by cbv) (by cbv) (by cbv) (Val_nil (by cbv)) ?_
      refine D_run ti_ok hz 400 (by cbv) ?_
      refine D_val (by cbv) (by cbv) (by cbv) (Val_elem ti_ok (by cbv) k hk hBk rfl) ?_
      refine D_run ti_ok hz 400 (by cbv) ?_
      refine D_valE (by cbv) (by cbv) (by cbv) (Val_conv (us := .int .u8) (by cbv) (by kernel_rfl) (by kernel_rfl)) ?_
      rintro y4 -
      refine D_run ti_ok hz 400 (by cbv) ?_
      refine D_valE (by cbv) (by cbv) (by cbv) (Val_low (by cbv)) ?_
      rintro x' ⟨x0', x1'⟩
      refine D_run ti_ok hz 400 (by cbv) ?_
      refine D_done ?_
      refine W_run ti_ok hz 400 (by cbv) ?_
      refine W_val (by cbv) (by cbv) (Val_nil (by cbv)) ?_
      refine W_run ti_ok hz 400 (by cbv) ?_
      refine W_val (by cbv) (by cbv) (Val_nil (by cbv)) ?_
      refine W_run ti_ok hz 400 (by cbv) ?_
      obtain ⟨i1, hi1⟩ := hide (i + 1)
      have hadd : zb .add .i64 i 1 = i1 := by rw [z_add hz (by omega) (by omega), hi1]
      have hi3 : 0 ≤ i1 ∧ i1 ≤ (B.length : Int) := ⟨by omega, by omega⟩
      rw [hadd]
      exact W_fin [2, 3] [0] (by cbv) (by cbv) ⟨x', i1, h1, ⟨x0', x1'⟩, hi3, by cbv, by cbv⟩
    · refine W_run ti_ok hz 400 (by cbv) ?_
      exact W_fin [2, 3] [0] (by cbv) (by cbv) ⟨x, i, h1, ⟨x0, x1⟩, ⟨hi, hi2⟩, by cbv, by cbv⟩
  rintro a m ⟨x, i, h, ⟨x0, x1⟩, ⟨i0, i1⟩, rfl, rfl⟩
  refine W_run ti_ok hz 400 (by cbv) ?_
  refine W_retP ti_ok [0] rfl (by cbv) (by cbv) (by cbv) ?_
  exact ⟨⟨x, x0, x1, rfl⟩, i, h, i0, i1, rfl⟩
end Go.Proofs.Ytconhpilbndpkaa
