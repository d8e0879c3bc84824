/-
  The machine's operations against the model's: all of them.
-/
import Derived.Test.YtkdlekonfjeidaaGreatEngOps8
namespace Go.Proofs.YtkdlekonfjeidaaGreat.Eng
open Go.RowKit
set_option linter.unusedVariables false

def OWOk (P : Program) (o : Oper) : OW → Prop
  | .pure f => PureOk P o f
  | .read f => ReadOk P o f
  | .new f => NewOk P o f
  | .act f => ActOk P o f ∧ Grows f
  | .call f => CallW P o f

theorem bad_ok (P : Program) (o : Oper) : OWOk P o (.pure fun _ => none) := fun ρ a act c hT h => by cases h
section
variable {P : Program} {dst : Option Tmp} {ty : TypeId} {pos : String} {after : Array Edge} {guard : Option (Nat × Bool)}
theorem isByteT_some {t : TypeId} (h : isByteT P t = true) : P.underlying t = some (.int .u8) := by
  unfold isByteT at h
  split at h
  · assumption
  · cases h
theorem isStrT_some {t : TypeId} (h : isStrT P t = true) : P.underlying t = some .string := by
  unfold isStrT at h
  split at h
  · assumption
  · cases h
theorem convW_ok (s d : TypeId) (x : Operand) : OWOk P ⟨dst, .convert s d x, ty, pos, after, guard⟩ (convW P s d x) := by
  unfold convW
  split
  · rename_i j hs
    split
    · rename_i k hd; exact convInt_ok hs hd x
    · exact bad_ok P _
  · rename_i hs
    split
    · rename_i hd; exact convStr_ok hs hd x
    · rename_i e hd
      cases hb : isByteT P e with
      | true => exact strBytes_ok hs hd (isByteT_some hb) x
      | false => exact bad_ok P _
    · exact bad_ok P _
  · rename_i e hs
    cases hb : (isStrT P d && isByteT P e) with
    | true =>
      simp only [Bool.and_eq_true] at hb
      exact bytes_ok hs (isStrT_some hb.1) (isByteT_some hb.2) x
    | false => exact bad_ok P _
  · exact bad_ok P _
theorem toArray_of {α : Type} {a : Array α} {l : List α} (h : a.toList = l) : a = l.toArray := by rw [← h]
theorem callW_ok (c : Call) : OWOk P ⟨dst, .call c, ty, pos, after, guard⟩ (callW P c) := by
  obtain ⟨callee, args, tys⟩ := c
  cases callee with
  | invoke r m => exact bad_ok P _
  | value f => exact call_ok f args tys
  | builtin b =>
    show OWOk P _ (match args.toList with | [x] => builtin1 P b tys.toList x | [x, y] => builtin2 P b tys.toList x y | _ => .pure fun _ => none)
    cases hargs : args.toList with
    | nil => exact bad_ok P _
    | cons x l1 => cases l1 with
      | nil =>
        have ha := toArray_of hargs
        subst ha
        show OWOk P _ (builtin1 P b tys.toList x)
        unfold builtin1
        split
        · rename_i t hts
          have ht := toArray_of hts
          subst ht
          exact len_ok t x
        · exact bad_ok P _
      | cons y l2 => cases l2 with
        | nil =>
          have ha := toArray_of hargs
          subst ha
          show OWOk P _ (builtin2 P b tys.toList x y)
          unfold builtin2
          split
          · rename_i t t' hts
            have ht := toArray_of hts
            subst ht
            exact ⟨append_ok t t' x y, append_grows t t' x y⟩
          · rename_i t rest hts
            have ht := toArray_of hts
            subst ht
            exact ⟨copy_ok t rest x y (fun e he => ⟨t, .inl ⟨e, elemT_some he⟩⟩), copy_grows t x y⟩
          · exact max_ok x y tys
          · exact min_ok x y tys
          · exact bad_ok P _
        | cons z l3 => exact bad_ok P _
theorem opW_ok (o : Oper) : OWOk P o (opW P o.op) := by
  obtain ⟨dst, op, ty, pos, after, guard⟩ := o
  cases op
  case move x => exact move_ok x
  case assign x => exact assign_ok x
  case pick x y z => exact pick_ok x y z
  case alloc t => exact alloc_ok t
  case box t x => exact box_ok t x
  case build t ps => exact build_ok t ps
  case buildSlice t n ps => exact buildSlice_ok t n ps
  case load t x => exact load_ok t x
  case store t x y => exact ⟨store_ok t x y, store_grows t x y⟩
  case nilCheck x => exact nilCheck_ok x
  case binOp op t x y t' => exact binOp_ok op t t' x y
  case unOp op t x => exact unOp_ok op t x
  case convert s d x => exact convW_ok s d x
  case makeFunc fn first cap =>
    cases fn with
    | func f => exact makeFunc_ok f first cap
    | _ => exact bad_ok P _
  case makeMap t r =>
    cases r with
    | none => exact makeMap_ok t
    | some r => exact bad_ok P _
  case makeSlice t l c => exact makeSlice_ok t l c
  case slice t x lo hi mx =>
    cases mx with
    | none => exact slice_ok t x lo hi
    | some m => exact bad_ok P _
  case fieldAddr s x f => exact fieldAddr_ok s x f
  case field t x f => exact field_ok t x f
  case indexAddr t x i => exact indexAddr_ok t x i
  case index t x i => exact index_ok t x i
  case lookup t x i ok => exact lookup_ok t x i ok
  case mapUpdate t m k v => exact ⟨update_ok t m k v, update_grows t m k v⟩
  case extract t i => exact extract_ok t i
  case call c => exact callW_ok c
  all_goals exact bad_ok P _
end

/-! ### One operation -/
/-- what is known of a callee -/
def CallOk (P : Program) (call : FuncId → List CV → Hp → Option (CV × Hp)) : Prop :=
  ∀ (f : FuncId) (args : List CV) (h : Hp) (c : CV) (h' : Hp), call f args h = some (c, h') → h.next ≤ h'.next ∧ (∃ fn, P.funcs[f]? = some fn ∧ fn.body.isSome = true ∧ fn.name ≠ "runtime.NumGoroutine") ∧
    ∀ (ρ : Rn) (B : Nat) (w : World) (vs : List Value), HRel ρ h B w → B ≤ w.heap.size → Fresh ρ h.next h'.next → VRels ρ args vs →
      Calls P f vs.toArray w fun e w' => ∃ v ρ', e = .returned v ∧ HRel ρ' h' B w' ∧ Step h.next h'.next ρ h w ρ' h' w' ∧ VRel ρ' c v

section
variable {P : Program} {call : FuncId → List CV → Hp → Option (CV × Hp)}
theorem Res.wp {o : Oper} {act : Act} {w w' : World} {v : Value} (h : Res ((execOp act.eval o).run P w) v w') {K : Act → World → Prop} {Q : Exit → Act → World → Prop} (hK : K (act.put o.dst v) w') : o.wp P act w K Q := by
  unfold Oper.wp
  rcases h with h | ⟨h, rfl⟩
  · rw [h]; exact hK
  · rw [h]; exact hK
/-- an effect: a write or a call -/
def effRun (call : FuncId → List CV → Hp → Option (CV × Hp)) (ow : OW) (a : Tm) (h : Hp) : Option (CV × Hp) := match ow with
  | .act f => f a h
  | .call f => (match f a with | some p => call p.1 p.2 h | none => none)
  | _ => none
theorem eff_grows (hC : CallOk P call) (o : Oper) {a : Tm} {h h' : Hp} {c : CV} (e : effRun call (opW P o.op) a h = some (c, h')) : h.next ≤ h'.next := by
  have hok := opW_ok (P := P) o
  unfold effRun at e
  split at e
  · rename_i f hf
    rw [hf] at hok
    exact hok.2 a h c h' e
  · split at e
    · exact (hC _ _ _ _ _ e).1
    · cases e
  · cases e
theorem eff_sound (hC : CallOk P call) (o : Oper) {a : Tm} {h h' : Hp} {c : CV} (e : effRun call (opW P o.op) a h = some (c, h')) {ρ : Rn} {B : Nat} {w : World} {act : Act} (hT : TRel ρ a act.tmps) (H : HRel ρ h B w) (hB : B ≤ w.heap.size) (hF : Fresh ρ h.next h'.next)
    {K : Act → World → Prop} {Q : Exit → Act → World → Prop} (hK : ∀ v w' ρ', HRel ρ' h' B w' → Step h.next h'.next ρ h w ρ' h' w' → VRel ρ' c v → K (act.put o.dst v) w') : o.wp P act w K Q := by
  have hok := opW_ok (P := P) o
  unfold effRun at e
  split at e
  · rename_i f hf
    rw [hf] at hok
    obtain ⟨v, w', ρ', k1, k2, k3, k4⟩ := hok.1 ρ a act h B w c h' hT H hB e hF
    exact k1.wp (hK v w' ρ' k2 k3 k4)
  · rename_i f hf
    rw [hf] at hok
    split at e
    · rename_i p hp
      obtain ⟨g, args⟩ := p
      obtain ⟨_, ⟨fn, k1, k2, k3⟩, k4⟩ := hC g args h c h' e
      obtain ⟨vs, k5, k6⟩ := hok ρ a act g args hT hp fn k1 k2 k3 w
      have := k4 ρ B w vs H hB hF k6
      unfold Oper.wp
      rw [k5]
      refine Calls.mono this ?_
      rintro e w' ⟨v, ρ', rfl, h1, h2, h3⟩
      exact hK v w' ρ' h1 h2 h3
    · cases e
  · cases e
theorem eff_sound2 (hC : CallOk P call) (o : Oper) {a : Tm} {h h' : Hp} {c : CV} (e : effRun call (opW P o.op) a h = some (c, h')) {ρ : Rn} {B : Nat} {w : World} {act act' : Act} (hT : TRel ρ a act'.tmps) (hE : execOp act.eval o = execOp act'.eval o) (H : HRel ρ h B w) (hB : B ≤ w.heap.size) (hF : Fresh ρ h.next h'.next)
    {K : Act → World → Prop} {Q : Exit → Act → World → Prop} (hK : ∀ v w' ρ', HRel ρ' h' B w' → Step h.next h'.next ρ h w ρ' h' w' → VRel ρ' c v → K (act.put o.dst v) w') : o.wp P act w K Q := by
  have hok := opW_ok (P := P) o
  unfold effRun at e
  split at e
  · rename_i f hf
    rw [hf] at hok
    obtain ⟨v, w', ρ', k1, k2, k3, k4⟩ := hok.1 ρ a act' h B w c h' hT H hB e hF
    rw [← hE] at k1
    exact k1.wp (hK v w' ρ' k2 k3 k4)
  · rename_i f hf
    rw [hf] at hok
    split at e
    · rename_i p hp
      obtain ⟨g, args⟩ := p
      obtain ⟨_, ⟨fn, k1, k2, k3⟩, k4⟩ := hC g args h c h' e
      obtain ⟨vs, k5, k6⟩ := hok ρ a act' g args hT hp fn k1 k2 k3 w
      rw [← hE] at k5
      have := k4 ρ B w vs H hB hF k6
      unfold Oper.wp
      rw [k5]
      refine Calls.mono this ?_
      rintro e w' ⟨v, ρ', rfl, h1, h2, h3⟩
      exact hK v w' ρ' h1 h2 h3
    · cases e
  · cases e
end
end Go.Proofs.YtkdlekonfjeidaaGreat.Eng
