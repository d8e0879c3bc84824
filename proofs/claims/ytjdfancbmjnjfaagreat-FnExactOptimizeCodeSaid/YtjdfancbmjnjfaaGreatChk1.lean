/-
  Contracts: small functions of the program that look at an instruction.
-/
import Derived.Test.YtjdfancbmjnjfaaGreatKChkP
import Derived.Test.YtjdfancbmjnjfaaGreatKGood
import Derived.Test.YtjdfancbmjnjfaaGreatKJump
import Derived.StillTailTactics
import Derived.Deep.DeepCutAuto
import Derived.Deep.Light
namespace Go.Proofs.YtjdfancbmjnjfaaGreat
set_option maxRecDepth 100000
open Go.ChangeShapes Go.WideShapes Go.ChangeAt Go.RowKit Go.Deep
set_option linter.unusedVariables false
set_option linter.unusedSimpArgs false

def useA (op : Int) : Bool := refOp op || jmpOp op
def useC (op : Int) : Bool := op == 4 || op == 5 || op == 28
def useT (op : Int) : Bool := nameOp op || op == 7 || op == 8 || op == 11 || op == 17 || op == 27
def useL (op : Int) : Bool := op == 6 || op == 24 || op == 25
/-- the text and the labels, where they are used -/
def itB (op : Int) (t : List UInt8) (l : List (List UInt8)) : Bool := (!useT op || txtB op t) && (!useL op || lblB op l)
def insI (x : InstrD) : Bool := insR x && (useA x.op || x.arg == 0)
theorem results_tmp5 {fn : Func} {t u v s r : Tmp} (h : fn.results = #[.tmp t, .tmp u, .tmp v, .tmp s, .tmp r]) (tmps : Array Value) (P : Program) (w : World) :
    (results fn tmps).run P w = .ok (.tuple #[tmps.getD t undef, tmps.getD u undef, tmps.getD v undef, tmps.getD s undef, tmps.getD r undef]) w := by
  simp [results, h]
theorem valB_ne {op : Int} (v : VecD) (h : op ≠ 0) : valB op v = zeroQ v := by
  have hb : (op == 0) = false := by simp [h]
  rw [← null_zero]
  simp [valB, hb]
theorem valB_zero (v : VecD) : valB 0 v = (vecOk v && !hasFun v) := by simp [valB]
def zeroD : VecD := .mk 0 [] [] [] [] [] 0 0
theorem eqV_zero (d : VecD) : eqV d zeroD = zeroQ d := by
  rw [eqV_eq]
  have hn : ∀ l : List (List UInt8), eqL l [] = l.isEmpty := by intro l; cases l <;> simp [eqL]
  have hi : ∀ l : List ItemD, (decide (l.length = 0) && (l.zip ([] : List ItemD)).all fun q => eqI q.1 q.2) = l.isEmpty := by intro l; cases l <;> simp
  have hp : ∀ l : List VecD, (decide (l.length = 0) && (l.zip ([] : List VecD)).all fun q => eqV q.1 q.2) = l.isEmpty := by intro l; cases l <;> simp
  simp only [show zeroD.kind = 0 from rfl, show zeroD.items = [] from rfl, show zeroD.parts = [] from rfl, show zeroD.names = [] from rfl, show zeroD.cls = [] from rfl, show zeroD.levels = [] from rfl, show zeroD.code = 0 from rfl, show zeroD.env = 0 from rfl, List.length_nil, hn, hi, hp, zeroQ]
theorem zero_VecR (w : World) : VecR w [.int .i64 0, .slice none 0 0, .slice none 0 0, .slice none 0 0, .slice none 0 0, .slice none 0 0, .int .i64 0, .int .i64 0] zeroD :=
  ⟨1, _, _, _, _, _, rfl, by unfold I64; decide, SlR.nil_ _ _ _, SlR.nil_ _ _ _, SlR.nil_ _ _ _, SlR.nil_ _ _ _, SlR.nil_ _ _ _, by unfold I64; decide, by unfold I64; decide⟩
theorem impl_isZeroVector (d : VecD) (cs : List Value) (w : World) (h : VecR w cs d) :
    Calls Tryz.prog 91 #[.agg cs.toArray] w (RetB (zeroQ d) w) := by
  have HI := Lib.hid h
  obtain ⟨v1, v2, v3, v4, v5, rfl⟩ := h.shape
  clear h
  have HZ := Lib.hid (eqV_zero d)
  go_enter Tryz.func91, Tryz.ntmps91
  go_wp2_with fail
  refine abs_w (fun W => Below w.heap.size w W) (below_alloc1 _ _) ?_
  rintro W hB
  refine (impl_equal_eq d zeroD _ _ _ (HI.out.below hB) (zero_VecR _)).mono ?_
  rintro e w1 ⟨rfl, hb⟩
  have HB := Lib.hid (hB.trans (hb.mono hB.size))
  clear hb hB
  rw [HZ.out]
  go_wp2_with fail
  go_ret
  exact ⟨rfl, HB.out⟩

theorem impl_isBinary (s : List UInt8) (w : World) :
    Calls Tryz.prog 124 #[.string (str s)] w (RetB (hasB binL s) w) := by
  go_enter Tryz.func124, Tryz.ntmps124
  go_wp2_with fail
  refine (impl_hasText binL s _ _ (txts_new w 9 binL _ (by kernel_rfl) (by decide) (by decide))).mono ?_
  rintro e w2 ⟨rfl, rfl⟩
  go_wp2_with fail
  go_ret
  exact ⟨rfl, (Below.refl _ _).alloc (Nat.le_refl _) _⟩

def impl_hasFunctionC (n : Nat) : Prop := ∀ (d : VecD) (cs : List Value) (w : World), VectorR n w cs d → Calls Tryz.prog 93 #[.agg cs.toArray] w (RetB (hasFun d) w)
set_option maxHeartbeats 4000000 in
theorem impl_hasFunction_step (n : Nat) (ih : impl_hasFunctionC n) : impl_hasFunctionC (n + 1) := by
  intro d cs w h
  have IH := Lib.hid ih
  clear ih
  obtain ⟨v1, v2, v3, v4, v5, rfl, _, h1, h2, h3, h4, h5, _, _⟩ := h
  obtain ⟨A2, a2, rfl, la2, ma2, HP⟩ := SlR.open_ h2
  clear h1 h2 h3 h4 h5
  unfold maxLen at ma2
  have HE := Lib.hid (hasFun_eq d)
  obtain ⟨G, g0, HG, BX⟩ := good1 w 61 [.int .i64 d.kind, v1, .slice A2 d.parts.length a2, v3, v4, v5, .int .i64 d.code, .int .i64 d.env]
  obtain ⟨x0, x1, x2, x3, x4, x5, x6, x7⟩ := pk_f8 BX
  go_enter Tryz.func93, Tryz.ntmps93
  go_upto_region 1 with fail
  refine gen_w g0 ?_
  clear g0
  intro W0 g0
  cases hk : (d.kind == 5)
  rotate_left
  · have HN := Lib.hid (show hasFun d = true by rw [HE.out, hk]; rfl)
    clear HE
    go_wp2_with fail
    go_ret
    exact ⟨ret_bool HN.out.symm, HG.out.below g0⟩
  have HE2 := Lib.hid (show hasFun d = d.parts.any hasFun by rw [HE.out, hk]; rfl)
  go_wp2_with fail
  go_loopw [11] (fun i wr => ∃ k : Nat, k ≤ d.parts.length ∧ i = .int .i64 k ∧ Hid ((d.parts.take k).any hasFun = false) ∧ Ok G wr) (fun i _ => d.parts.length - (intOf i).toNat)
  case atStart => exact ⟨0, Nat.zero_le _, rfl, rfl, g0⟩
  case round =>
    clear g0
    obtain ⟨k, hk2, rfl, HA, g0⟩ := hrel
    by_cases hlt : k < d.parts.length
    · have HS := Lib.hid (any_succ hasFun d.parts k hlt)
      obtain ⟨b, off, cs, rfl, hbl, _, hat, hr⟩ := HP.out k hlt
      have HRK := Lib.hid hr
      obtain ⟨_, R1, r1, R2, r2, R3, r3, R4, r4, R5, r5, rfl, _⟩ := (show VecR w cs d.parts[k] from ⟨n, hr⟩).open_
      clear hr
      obtain ⟨p0, p1, p2, p3, p4, p5, p6, p7⟩ := pk_e8 HG hbl hat
      clear hat
      obtain ⟨G2, g2, HG2, B2⟩ := good1 wr 61 [.int .i64 d.parts[k].kind, .slice R1 d.parts[k].items.length r1, .slice R2 d.parts[k].parts.length r2, .slice R3 d.parts[k].names.length r3, .slice R4 d.parts[k].cls.length r4, .slice R5 d.parts[k].levels.length r5, .int .i64 d.parts[k].code, .int .i64 d.parts[k].env]
      have hGG := fun W (h : Ok G2 W) => HG.out.step g0 (HG2.out.below h)
      obtain ⟨y0, y1, y2, y3, y4, y5, y6, y7⟩ := pk_f8 B2
      go_upto_region 6 with fail
      refine gen_w g2 ?_
      clear g2
      intro W2 g2
      replace g0 := hGG _ g2
      go_wp2_with fail
      refine Calls.mono (IH.out d.parts[k] _ _ (HRK.out.below (HG.out.below g0))) ?_
      rintro e w7 ⟨rfl, hb⟩
      replace g0 := HG.out.step g0 hb
      clear hb
      cases hq : hasFun d.parts[k]
      · have HY := Lib.hid hq
        clear hq
        go_wp2_with fail
        go_roundw
        case rel => exact ⟨k + 1, by omega, by go_num, by show _ = _; rw [HS.out, HA.out, HY.out]; rfl, g0⟩
        case measure => simp [intOf]; omega
      · have HN := Lib.hid (show hasFun d = true by rw [HE.out]; have : d.parts.any hasFun = true := List.any_eq_true.2 ⟨_, List.getElem_mem hlt, hq⟩; rw [this]; simp)
        clear hq
        go_wp2_with fail
        go_ret
        exact ⟨ret_bool HN.out.symm, HG.out.below g0⟩
    · obtain rfl : k = d.parts.length := by omega
      rw [List.take_length] at HA
      have HN := Lib.hid (show hasFun d = false by rw [HE2.out, HA.out])
      go_wp2_with fail
      go_ret
      exact ⟨ret_bool HN.out.symm, HG.out.below g0⟩
theorem impl_hasFunction_all : ∀ n, impl_hasFunctionC n
  | 0 => fun _ _ _ h => h.elim
  | n + 1 => impl_hasFunction_step n (impl_hasFunction_all n)
theorem impl_hasFunction (d : VecD) (cs : List Value) (w : World) (h : VecR w cs d) : Calls Tryz.prog 93 #[.agg cs.toArray] w (RetB (hasFun d) w) := by
  obtain ⟨n, h⟩ := h
  exact impl_hasFunction_all n d cs w h
def spec_l30HasFunctionC (n : Nat) : Prop := ∀ (d : VecD) (cs : List Value) (w : World), VectorR n w cs d → Calls Tryz.prog 83 #[.agg cs.toArray] w (RetB (hasFun d) w)
set_option maxHeartbeats 4000000 in
theorem spec_l30HasFunction_step (n : Nat) (ih : spec_l30HasFunctionC n) : spec_l30HasFunctionC (n + 1) := by
  intro d cs w h
  have IH := Lib.hid ih
  clear ih
  obtain ⟨v1, v2, v3, v4, v5, rfl, _, h1, h2, h3, h4, h5, _, _⟩ := h
  obtain ⟨A2, a2, rfl, la2, ma2, HP⟩ := SlR.open_ h2
  clear h1 h2 h3 h4 h5
  unfold maxLen at ma2
  have HE := Lib.hid (hasFun_eq d)
  obtain ⟨G, g0, HG, BX⟩ := good1 w 61 [.int .i64 d.kind, v1, .slice A2 d.parts.length a2, v3, v4, v5, .int .i64 d.code, .int .i64 d.env]
  obtain ⟨x0, x1, x2, x3, x4, x5, x6, x7⟩ := pk_f8 BX
  go_enter Tryz.func83, Tryz.ntmps83
  go_upto_region 1 with fail
  refine gen_w g0 ?_
  clear g0
  intro W0 g0
  go_wp2_with fail
  go_loopw [3] (fun i wr => ∃ k : Nat, k ≤ d.parts.length ∧ i = .int .i64 k ∧ Hid ((d.parts.take k).any hasFun = false) ∧ Ok G wr) (fun i _ => d.parts.length - (intOf i).toNat)
  case atStart => exact ⟨0, Nat.zero_le _, rfl, rfl, g0⟩
  case round =>
    clear g0
    obtain ⟨k, hk2, rfl, HA, g0⟩ := hrel
    by_cases hlt : k < d.parts.length
    · have HS := Lib.hid (any_succ hasFun d.parts k hlt)
      obtain ⟨b, off, cs, rfl, hbl, _, hat, hr⟩ := HP.out k hlt
      have HRK := Lib.hid hr
      obtain ⟨_, R1, r1, R2, r2, R3, r3, R4, r4, R5, r5, rfl, _⟩ := (show VecR w cs d.parts[k] from ⟨n, hr⟩).open_
      clear hr
      obtain ⟨p0, p1, p2, p3, p4, p5, p6, p7⟩ := pk_e8 HG hbl hat
      clear hat
      go_wp2_with fail
      refine Calls.mono (IH.out d.parts[k] _ _ (HRK.out.below (HG.out.below g0))) ?_
      rintro e w7 ⟨rfl, hb⟩
      replace g0 := HG.out.step g0 hb
      clear hb
      cases hq : hasFun d.parts[k]
      · have HY := Lib.hid hq
        clear hq
        go_wp2_with fail
        go_roundw
        case rel => exact ⟨k + 1, by omega, by go_num, by show _ = _; rw [HS.out, HA.out, HY.out]; rfl, g0⟩
        case measure => simp [intOf]; omega
      · have HN := Lib.hid (show hasFun d = true by rw [HE.out]; have : d.parts.any hasFun = true := List.any_eq_true.2 ⟨_, List.getElem_mem hlt, hq⟩; rw [this]; simp)
        clear hq
        go_wp2_with fail
        go_ret
        exact ⟨ret_bool HN.out.symm, HG.out.below g0⟩
    · obtain rfl : k = d.parts.length := by omega
      rw [List.take_length] at HA
      have HN := Lib.hid (show hasFun d = (d.kind == 5) by rw [HE.out, HA.out]; simp)
      go_wp2_with fail
      go_ret
      exact ⟨ret_bool HN.out.symm, HG.out.below g0⟩
theorem spec_l30HasFunction_all : ∀ n, spec_l30HasFunctionC n
  | 0 => fun _ _ _ h => h.elim
  | n + 1 => spec_l30HasFunction_step n (spec_l30HasFunction_all n)
theorem spec_l30HasFunction (d : VecD) (cs : List Value) (w : World) (h : VecR w cs d) : Calls Tryz.prog 83 #[.agg cs.toArray] w (RetB (hasFun d) w) := by
  obtain ⟨n, h⟩ := h
  exact spec_l30HasFunction_all n d cs w h
set_option maxHeartbeats 4000000 in
theorem impl_instrUses : ∀ (op : Int), 0 ≤ op → op ≤ 33 → ∀ w : World, Calls Tryz.prog 90 #[.int .i64 op] w fun e w' => e = .returned (.tuple #[.bool (useA op), .bool (useC op), .bool (useT op), .bool (useL op), .bool (op == 0)]) ∧ w = w' := by
  refine op34 ?_ ?_ ?_ ?_ ?_ ?_ ?_ ?_ ?_ ?_ ?_ ?_ ?_ ?_ ?_ ?_ ?_ ?_ ?_ ?_ ?_ ?_ ?_ ?_ ?_ ?_ ?_ ?_ ?_ ?_ ?_ ?_ ?_ ?_
  all_goals
    intro w
    go_enter Tryz.func90, Tryz.ntmps90
    go_wp2
    (try simp only [Exit.inBlock, Exit.then])
    refine bodyPost_ret (results_tmp5 rfl _ _ _) rfl ?_
    exact ⟨rfl, rfl⟩
set_option maxHeartbeats 4000000 in
theorem impl_hasReference : ∀ (op : Int), 0 ≤ op → op ≤ 33 → ∀ w : World, Calls Tryz.prog 59 #[.int .i64 op] w fun e w' => e = .returned (.bool (refOp op)) ∧ w = w' := by
  refine op34 ?_ ?_ ?_ ?_ ?_ ?_ ?_ ?_ ?_ ?_ ?_ ?_ ?_ ?_ ?_ ?_ ?_ ?_ ?_ ?_ ?_ ?_ ?_ ?_ ?_ ?_ ?_ ?_ ?_ ?_ ?_ ?_ ?_ ?_
  all_goals
    intro w
    go_enter Tryz.func59, Tryz.ntmps59
    go_wp2
    go_ret
    exact ⟨rfl, rfl⟩
set_option maxHeartbeats 4000000 in
theorem impl_goesOn : ∀ (op : Int), 0 ≤ op → op ≤ 33 → ∀ w : World, Calls Tryz.prog 98 #[.int .i64 op] w fun e w' => e = .returned (.bool (!endOp op)) ∧ w = w' := by
  refine op34 ?_ ?_ ?_ ?_ ?_ ?_ ?_ ?_ ?_ ?_ ?_ ?_ ?_ ?_ ?_ ?_ ?_ ?_ ?_ ?_ ?_ ?_ ?_ ?_ ?_ ?_ ?_ ?_ ?_ ?_ ?_ ?_ ?_ ?_
  all_goals
    intro w
    go_enter Tryz.func98, Tryz.ntmps98
    go_wp2
    go_ret
    exact ⟨rfl, rfl⟩
end Go.Proofs.YtjdfancbmjnjfaaGreat
