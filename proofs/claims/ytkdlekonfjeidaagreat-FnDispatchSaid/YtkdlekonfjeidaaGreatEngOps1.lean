/-
  The machine's operations against the model's: those that only compute.
-/
import Derived.Test.YtkdlekonfjeidaaGreatEngInv
namespace Go.Proofs.YtkdlekonfjeidaaGreat.Eng
open Go.RowKit
set_option linter.unusedVariables false

/-- an operation that only computes -/
def PureOk (P : Program) (o : Oper) (f : Tm → Option CV) : Prop :=
  ∀ (ρ : Rn) (a : Tm) (act : Act) (c : CV), TRel ρ a act.tmps → f a = some c → ∀ w : World, ∃ v, (execOp act.eval o).run P w = .ok (.value v) w ∧ VRel ρ c v

section
variable {P : Program} {dst : Option Tmp} {ty : TypeId} {pos : String} {after : Array Edge} {guard : Option (Nat × Bool)}

theorem move_ok (x : Operand) : PureOk P ⟨dst, .move x, ty, pos, after, guard⟩ (fun a => ev a x some) := fun ρ a act c hT h w => ⟨_, rfl, evalC_some h hT⟩
theorem assign_ok (x : Operand) : PureOk P ⟨dst, .assign x, ty, pos, after, guard⟩ (fun a => ev a x some) := fun ρ a act c hT h w => ⟨_, rfl, evalC_some h hT⟩
theorem pick_ok (x y z : Operand) : PureOk P ⟨dst, .pick x y z, ty, pos, after, guard⟩ (fun a => ev a x fun c => asBool c (ev a y some) (ev a z some)) := by
  intro ρ a act c hT h w
  obtain ⟨c1, h1, r1⟩ := ev_some h
  obtain ⟨b, rfl, h2⟩ := asBool_some h1
  have e1 := (r1 ρ act hT).boolI
  cases b with
  | true =>
    rw [if_pos rfl] at h2
    exact ⟨act.eval y, by simp [execOp, e1, Go.asBool], evalC_some h2 hT⟩
  | false =>
    rw [if_neg (by simp)] at h2
    exact ⟨act.eval z, by simp [execOp, e1, Go.asBool], evalC_some h2 hT⟩
theorem nilCheck_ok (x : Operand) : PureOk P ⟨dst, .nilCheck x, ty, pos, after, guard⟩ (fun a => ev a x isNilled) := by
  intro ρ a act c hT h w
  obtain ⟨c1, h1, r1⟩ := ev_some h
  have r2 := r1 ρ act hT
  cases c1 with
  | ptr i o =>
    injection h1 with h1; subst h1
    obtain ⟨ri, h3, e⟩ := r2.ptrI
    exact ⟨act.eval x, by simp [execOp, e], r2⟩
  | fn f l m =>
    injection h1 with h1; subst h1
    obtain ⟨u, v, e, _⟩ := r2.fnI
    exact ⟨act.eval x, by simp [execOp, e], r2⟩
  | _ => cases h1
theorem makeFunc_ok (f : FuncId) (first cap : Array Operand) : PureOk P ⟨dst, .makeFunc (.func f) first cap, ty, pos, after, guard⟩ (fun a => oc (evL a first.toList) none fun l => oc (evL a cap.toList) none fun m => some (.fn f l m)) := by
  intro ρ a act c hT h w
  obtain ⟨l, h1, h2⟩ := oc_inv h
  obtain ⟨m, h3, h4⟩ := oc_inv h2
  injection h4 with h4; subst h4
  have k1 := evL_some h1 hT
  have k2 := evL_some h3 hT
  refine ⟨.func (.func f) (first.map act.eval) (cap.map act.eval), rfl, ?_⟩
  have := VRel.mkFn (f := f) k1 k2
  rw [← Array.toList_map, ← Array.toList_map] at this
  exact this
theorem extract_ok (x : Operand) (i : Nat) : PureOk P ⟨dst, .extract x i, ty, pos, after, guard⟩ (fun a => ev a x fun t => asTup t fun vs => rd1L vs i) := by
  intro ρ a act c hT h w
  obtain ⟨c1, h1, r1⟩ := ev_some h
  obtain ⟨l, rfl, h2⟩ := asTup_some h1
  obtain ⟨xs, e, h3⟩ := (r1 ρ act hT).tupI
  obtain ⟨v, h4, h5⟩ := h3.at (rd1L_some h2)
  refine ⟨v, ?_, h5⟩
  have h4' : xs[i]? = some v := by simpa using h4
  simp [execOp, e, Instr.extract, h4']
theorem unOp_ok (op : UnOp) (t : TypeId) (x : Operand) : PureOk P ⟨dst, .unOp op t x, ty, pos, after, guard⟩ (fun a => ev a x fun x => unC op x) := by
  intro ρ a act c hT h w
  obtain ⟨c1, h1, r1⟩ := ev_some h
  have r2 := r1 ρ act hT
  unfold unC at h1
  split at h1
  · rename_i b
    have e := r2.boolI
    refine ⟨.bool !b, by simp [execOp, e, Op.unary], ?_⟩
    cases b <;> (injection h1 with h1; subst h1; exact .bool _)
  · rename_i k n
    have e := r2.intI
    unfold intO at h1
    rw [forceI_eq] at h1
    injection h1 with h1
    subst h1
    refine ⟨.int k (k.wrap (0 - n)), by simp [execOp, e, Op.unary, Op.intArith], ?_⟩
    rw [wrapF_eq]
    exact .int _ _
  · cases h1
theorem max_ok (x y : Operand) (tys : Array TypeId) : PureOk P ⟨dst, .call ⟨.builtin .max, #[x, y], tys⟩, ty, pos, after, guard⟩ (fun a => ev a x fun x => ev a y fun y => max2C x y) := by
  intro ρ a act c hT h w
  obtain ⟨c1, h1, r1⟩ := ev_some h
  obtain ⟨c2, h2, r2⟩ := ev_some h1
  obtain ⟨k, n, rfl, h3⟩ := asInt_some h2
  obtain ⟨k', m, rfl, h4⟩ := asInt_some h3
  have e1 := (r1 ρ act hT).intI
  have e2 := (r2 ρ act hT).intI
  injection h4 with h4; subst h4
  refine ⟨.int k (if m > n then m else n), ?_, ?_⟩
  · simp [execOp, resolve, invoke, builtin, Builtin.max_, Builtin.max2, e1, e2]
  · rw [ilt_eq]
    by_cases hlt : n < m
    · rw [if_pos hlt, decide_eq_true hlt]; exact .int _ _
    · rw [if_neg hlt, decide_eq_false hlt]; exact .int _ _
theorem min_ok (x y : Operand) (tys : Array TypeId) : PureOk P ⟨dst, .call ⟨.builtin .min, #[x, y], tys⟩, ty, pos, after, guard⟩ (fun a => ev a x fun x => ev a y fun y => min2C x y) := by
  intro ρ a act c hT h w
  obtain ⟨c1, h1, r1⟩ := ev_some h
  obtain ⟨c2, h2, r2⟩ := ev_some h1
  obtain ⟨k, n, rfl, h3⟩ := asInt_some h2
  obtain ⟨k', m, rfl, h4⟩ := asInt_some h3
  have e1 := (r1 ρ act hT).intI
  have e2 := (r2 ρ act hT).intI
  injection h4 with h4; subst h4
  refine ⟨.int k (if m < n then m else n), ?_, ?_⟩
  · simp [execOp, resolve, invoke, builtin, Builtin.min_, Builtin.min2, e1, e2]
  · rw [ilt_eq]
    by_cases hlt : m < n
    · rw [if_pos hlt, decide_eq_true hlt]; exact .int _ _
    · rw [if_neg hlt, decide_eq_false hlt]; exact .int _ _
theorem fieldAddr_ok (s : TypeId) (x : Operand) (f : Nat) : PureOk P ⟨dst, .fieldAddr s x f, ty, pos, after, guard⟩ (fun a => ev a x fun x => fieldAtC P s x f) := by
  intro ρ a act c hT h w
  obtain ⟨c1, h1, r1⟩ := ev_some h
  obtain ⟨id, off, rfl, h2⟩ := asPtr_some h1
  obtain ⟨ri, h3, e⟩ := (r1 ρ act hT).ptrI
  obtain ⟨o, h4, h5⟩ := oc_inv h2
  unfold ptrAt at h5
  rw [force_eq] at h5
  injection h5 with h5; subst h5
  unfold offW fieldT at h4
  split at h4
  · rename_i o' ft hft
    split at hft
    · rename_i fields hu
      split at hft
      · rename_i fd hfd
        injection hft with hft
        injection hft with e1 e2
        subst e1 e2
        split at h4
        · rename_i n hn
          injection h4 with h4
          subst h4
          refine ⟨.pointer (some ⟨ri.b, off + fd.offset, none⟩), ?_, .ptr id (off + fd.offset) ri h3⟩
          simp [execOp, e, Instr.fieldAt, run_underlying hu, hfd, Instr.sureAddr, fieldPlace, run_size hn, Addr.add_mid]
        · cases h4
      · cases hft
    · cases hft
  · cases h4
theorem indexAddr_ok (t : TypeId) (x i : Operand) : PureOk P ⟨dst, .indexAddr t x i, ty, pos, after, guard⟩ (fun a => ev a x fun x => ev a i fun i => indexAtC P t x i) := by
  intro ρ a act c hT h w
  obtain ⟨c1, h1, r1⟩ := ev_some h
  obtain ⟨c2, h2, r2⟩ := ev_some h1
  obtain ⟨k, n, rfl, h3⟩ := asNat_some h2
  obtain ⟨id, off, len, z, rfl, h4⟩ := asSl_some h3
  obtain ⟨s, h5, h6⟩ := oc_inv h4
  obtain ⟨h7, h8⟩ := bc_inv h6
  unfold ptrAt at h8
  rw [force_eq] at h8
  injection h8 with h8; subst h8
  obtain ⟨ri, ad, cap, h9, e1, hc, ha⟩ := (r1 ρ act hT).slI
  have e2 := (r2 ρ act hT).intI
  have hlt : n < len := Nat.le_of_ble_eq_true h7
  rcases ha with ⟨rfl, _⟩ | hc0
  · unfold elemSz at h5
    split at h5
    · rename_i el hel
      have hu := elemT_some hel
      refine ⟨.pointer (some ⟨ri.b, off + n * s, none⟩), ?_, .ptr id _ ri h9⟩
      have h0 : (0 : Int) ≤ (n : Int) := Int.natCast_nonneg n
      have h1' : (n : Int) < (len : Int) := by omega
      simp [execOp, e1, e2, Instr.indexAt, run_underlying hu, asIntOf, hlt, run_size h5, Addr.add_mid]
    · cases h5
  · omega
theorem index_ok (t : TypeId) (x i : Operand) : PureOk P ⟨dst, .index t x i, ty, pos, after, guard⟩ (fun a => ev a x fun x => ev a i fun i => indexC P t x i) := by
  intro ρ a act c hT h w
  obtain ⟨c1, h1, r1⟩ := ev_some h
  obtain ⟨c2, h2, r2⟩ := ev_some h1
  obtain ⟨k, n, rfl, h3⟩ := asNat_some h2
  obtain ⟨l, rfl, h4⟩ := asStr_some h3
  obtain ⟨h5, h6⟩ := bc_inv h4
  obtain ⟨s, e1, hs⟩ := (r1 ρ act hT).strI
  have e2 := (r2 ρ act hT).intI
  unfold isStrT at h5
  split at h5
  · rename_i hu
    rw [ldrop_eq] at h6
    cases hd : l.drop n with
    | nil => rw [hd] at h6; cases h6
    | cons b rest =>
      rw [hd] at h6
      injection h6 with h6
      subst h6
      have hb : l[n]? = some b := by
        have : (l.drop n)[0]? = some b := by rw [hd]; rfl
        rw [List.getElem?_drop] at this
        simpa using this
      rw [← hs, List.getElem?_map] at hb
      cases hc : s.data.toList[n]? with
      | none => rw [hc] at hb; cases hb
      | some b' =>
        rw [hc] at hb
        injection hb with hb
        subst hb
        have hlt : n < s.size := by
          have := (List.getElem?_eq_some_iff.1 hc).1
          simpa using this
        have hs' : s[n]? = some b' := by
          rw [getElem?_pos s n hlt]
          have := (List.getElem?_eq_some_iff.1 hc).2
          rw [← this]
          simp [ByteArray.getElem_eq_getElem_data]
        refine ⟨.int .u8 b'.toNat, ?_, .int _ _⟩
        have h0 : (0 : Int) ≤ (n : Int) := Int.natCast_nonneg n
        simp [execOp, e1, e2, Instr.index, run_underlying hu, asIntOf, h0, hs']
  · cases h5
end
end Go.Proofs.YtkdlekonfjeidaaGreat.Eng
