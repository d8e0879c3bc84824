/-
  An operation looks at its operands alone.
-/
import Derived.Test.YtkdlekonfjeidaaGreatEngReg1
namespace Go.Proofs.YtkdlekonfjeidaaGreat.Eng
open Go.RowKit
set_option linter.unusedVariables false

/-- a and a' have the same in the slots of some operands -/
def Agr (a a' : Tm) (xs : List Operand) : Prop := ∀ t, t < 512 → .tmp t ∈ xs → TM.get a t = TM.get a' t
theorem ev_congr {β : Type} {a a' : Tm} {x : Operand} {k k' : CV → Option β} (h : Agr a a' [x]) (hk : ∀ c, k c = k' c) : ev a x k = ev a' x k' := by
  unfold ev
  cases x with
  | tmp t =>
    cases hb : Nat.ble t 511 with
    | false => rw [gE_big hb]
    | true =>
      have h1 : TM.get a t = TM.get a' t := h t (Nat.lt_succ_of_le (Nat.le_of_ble_eq_true hb)) (by simp)
      obtain ⟨g, e1, e2⟩ := gE_small hb
      rw [e2, e2] at h1
      rw [e1]
      show k (g a) = k' (g a')
      rw [h1, hk]
  | const v =>
    cases hc : cvOf v with
    | none => rw [gE_none hc]
    | some c => rw [gE_some hc]; exact hk c
  | global g => rfl
  | func f => exact hk _
theorem Agr.sub {a a' : Tm} {xs ys : List Operand} (h : Agr a a' ys) (hs : ∀ x ∈ xs, x ∈ ys) : Agr a a' xs := fun t ht hx => h t ht (hs _ hx)
theorem evL_congr {a a' : Tm} : ∀ (l : List Operand), Agr a a' l → evL a l = evL a' l
  | [], _ => rfl
  | x :: l, h => by
    have h1 : evalC a x = evalC a' x := ev_congr (h.sub (by simp)) (fun _ => rfl)
    have h2 := evL_congr l (h.sub (fun y hy => by simp [hy]))
    show oc (evalC a x) none (fun b => oc (evL a l) none fun m => some (b :: m)) = oc (evalC a' x) none (fun b => oc (evL a' l) none fun m => some (b :: m))
    rw [h1, h2]
theorem pairsC_congr {a a' : Tm} : ∀ (l : List (Nat × Operand)), Agr a a' (l.map (·.2)) → pairsC a l = pairsC a' l
  | [], _ => rfl
  | x :: l, h => by
    have h2 := pairsC_congr l (h.sub (fun y hy => by simp at hy ⊢; exact .inr hy))
    show ev a x.2 (fun v => oc (pairsC a l) none fun m => some ((x.1, v) :: m)) = ev a' x.2 (fun v => oc (pairsC a' l) none fun m => some ((x.1, v) :: m))
    exact ev_congr (h.sub (by simp)) (fun c => by rw [h2])
theorem evO_congr {a a' : Tm} {x : Option Operand} {k k' : Option CV → Option CV} (h : Agr a a' x.toList) (hk : ∀ c, k c = k' c) : evO a x k = evO a' x k' := by
  cases x with
  | none => exact hk none
  | some x => exact ev_congr (h.sub (by simp)) (fun c => hk _)
def SameOW (a a' : Tm) : OW → Prop
  | .pure f => f a = f a'
  | .read f => ∀ h, f a h = f a' h
  | .new f => f a = f a'
  | .act f => ∀ h, f a h = f a' h
  | .call f => f a = f a'
theorem bad_same (a a' : Tm) : SameOW a a' (.pure fun _ => none) := rfl
section
variable {P : Program}
theorem convW_same {a a' : Tm} (s d : TypeId) (x : Operand) (h : Agr a a' [x]) : SameOW a a' (convW P s d x) := by
  unfold convW
  split
  · split
    · exact ev_congr h (fun _ => rfl)
    · exact bad_same a a'
  · split
    · exact ev_congr h (fun _ => rfl)
    · rename_i e _
      cases isByteT P e with
      | true => exact ev_congr h (fun _ => rfl)
      | false => exact bad_same a a'
    · exact bad_same a a'
  · rename_i e _
    cases (isStrT P d && isByteT P e) with
    | true => exact fun hp => ev_congr h (fun _ => rfl)
    | false => exact bad_same a a'
  · exact bad_same a a'
theorem callW_same {a a' : Tm} (c : Call) (h : Agr a a' c.operands.toList) : SameOW a a' (callW P c) := by
  obtain ⟨callee, args, tys⟩ := c
  cases callee with
  | invoke r m => exact bad_same a a'
  | value f =>
    have hf : Agr a a' [f] := h.sub (by simp [Call.operands])
    have ha : Agr a a' args.toList := h.sub (fun x hx => by simp [Call.operands]; right; simpa using hx)
    refine ev_congr hf (fun c => ?_)
    rw [evL_congr _ ha]
  | builtin b =>
    have ha : Agr a a' args.toList := h.sub (fun x hx => by simpa [Call.operands] using hx)
    show SameOW a a' (match args.toList with | [x] => builtin1 P b tys.toList x | [x, y] => builtin2 P b tys.toList x y | _ => .pure fun _ => none)
    cases hargs : args.toList with
    | nil => exact bad_same a a'
    | cons x l1 =>
      rw [hargs] at ha
      cases l1 with
      | nil =>
        show SameOW a a' (builtin1 P b tys.toList x)
        unfold builtin1
        split
        · exact fun hp => ev_congr ha (fun _ => rfl)
        · exact bad_same a a'
      | cons y l2 => cases l2 with
        | nil =>
          have hx : Agr a a' [x] := ha.sub (by simp)
          have hy : Agr a a' [y] := ha.sub (by simp)
          show SameOW a a' (builtin2 P b tys.toList x y)
          unfold builtin2
          split
          · rename_i t t' _
            intro hp
            have : (ev a x fun x => ev a y fun y => appendC P hp t x y) = (ev a' x fun x => ev a' y fun y => appendC P hp t x y) := ev_congr hx (fun c => ev_congr hy (fun _ => rfl))
            show bc _ _ none = bc _ _ none
            rw [this]
          · exact fun hp => ev_congr hx (fun c => ev_congr hy (fun _ => rfl))
          · exact ev_congr hx (fun c => ev_congr hy (fun _ => rfl))
          · exact ev_congr hx (fun c => ev_congr hy (fun _ => rfl))
          · exact bad_same a a'
        | cons z l3 => exact bad_same a a'
theorem opW_same {a a' : Tm} (o : Op) (h : Agr a a' o.operands.toList) : SameOW a a' (opW P o) := by
  cases o
  case move x => exact ev_congr h (fun _ => rfl)
  case assign x => exact ev_congr h (fun _ => rfl)
  case pick x y z =>
    refine ev_congr (h.sub (by simp [Op.operands])) (fun c => ?_)
    rw [ev_congr (k' := some) (h.sub (xs := [y]) (by simp [Op.operands])) (fun _ => rfl), ev_congr (k' := some) (h.sub (xs := [z]) (by simp [Op.operands])) (fun _ => rfl)]
  case alloc t => exact rfl
  case box t x => exact ev_congr h (fun _ => rfl)
  case build t ps =>
    show oc (pairsC a ps.toList) none _ = oc (pairsC a' ps.toList) none _
    rw [pairsC_congr _ (h.sub (by simp [Op.operands]))]
  case buildSlice t n ps =>
    show oc (pairsC a ps.toList) none _ = oc (pairsC a' ps.toList) none _
    rw [pairsC_congr _ (h.sub (by simp [Op.operands]))]
  case load t x => exact fun hp => ev_congr h (fun _ => rfl)
  case store t x y => exact fun hp => ev_congr (h.sub (by simp [Op.operands])) (fun c => ev_congr (h.sub (by simp [Op.operands])) (fun _ => rfl))
  case nilCheck x => exact ev_congr h (fun _ => rfl)
  case binOp op t x y t' => exact ev_congr (h.sub (by simp [Op.operands])) (fun c => ev_congr (h.sub (by simp [Op.operands])) (fun _ => rfl))
  case unOp op t x => exact ev_congr h (fun _ => rfl)
  case convert s d x => exact convW_same s d x h
  case makeFunc fn first cap =>
    cases fn with
    | func f =>
      show oc (evL a first.toList) none (fun l => oc (evL a cap.toList) none _) = oc (evL a' first.toList) none (fun l => oc (evL a' cap.toList) none _)
      rw [evL_congr first.toList (h.sub (fun x hx => by simp [Op.operands]; left; simpa using hx)), evL_congr cap.toList (h.sub (fun x hx => by simp [Op.operands]; right; simpa using hx))]
    | _ => exact bad_same a a'
  case makeMap t r =>
    cases r with
    | none => exact rfl
    | some r => exact bad_same a a'
  case makeSlice t l c => exact ev_congr (h.sub (by simp [Op.operands])) (fun _ => ev_congr (h.sub (by simp [Op.operands])) (fun _ => rfl))
  case slice t x lo hi mx =>
    cases mx with
    | none => exact ev_congr (h.sub (by simp [Op.operands])) (fun _ => evO_congr (h.sub (fun y hy => by simp [Op.operands]; simp at hy; exact .inr (.inl hy))) (fun _ => evO_congr (h.sub (fun y hy => by simp [Op.operands]; simp at hy; exact .inr (.inr hy))) (fun _ => rfl)))
    | some m => exact bad_same a a'
  case fieldAddr s x f => exact ev_congr h (fun _ => rfl)
  case field t x f => exact ev_congr h (fun _ => rfl)
  case indexAddr t x i => exact ev_congr (h.sub (by simp [Op.operands])) (fun _ => ev_congr (h.sub (by simp [Op.operands])) (fun _ => rfl))
  case index t x i => exact ev_congr (h.sub (by simp [Op.operands])) (fun _ => ev_congr (h.sub (by simp [Op.operands])) (fun _ => rfl))
  case lookup t x i ok => exact fun hp => ev_congr (h.sub (by simp [Op.operands])) (fun _ => ev_congr (h.sub (by simp [Op.operands])) (fun _ => rfl))
  case mapUpdate t m k v => exact fun hp => ev_congr (h.sub (by simp [Op.operands])) (fun _ => ev_congr (h.sub (by simp [Op.operands])) (fun _ => ev_congr (h.sub (by simp [Op.operands])) (fun _ => rfl)))
  case extract t i => exact ev_congr h (fun _ => rfl)
  case call c => exact callW_same c h
  all_goals exact bad_same a a'
end

/-! ### Frames that have nothing but the operands -/
theorem TM.get_z (t : Nat) : TM.get TM3.z t = undefC := by
  obtain ⟨g, s, e, hg, _⟩ := TMW_at t
  show TMW.rec (motive := fun _ => CV) (fun g _ => g TM3.z) (TMW.at t) = undefC
  rw [e]
  show g TM3.z = undefC
  rw [hg]
  have hz : ∀ (i : Nat) {β : Type} (z : β), (N8.mk z z z z z z z z).geti i = z := by
    intro i β z
    unfold N8.geti
    split <;> rfl
  show ((TM3.z.geti _).geti _).geti _ = undefC
  simp only [TM3.z, TM2.z, TM1.z, hz]
  rfl
theorem only_slots (a : Tm) : ∀ (L : List Nat), ∃ a', ∀ t, t < 512 → TM.get a' t = if t ∈ L then TM.get a t else undefC
  | [] => ⟨TM3.z, fun t _ => by rw [TM.get_z]; simp⟩
  | s :: L => by
    obtain ⟨a', h⟩ := only_slots a L
    by_cases hs : s < 512
    · refine ⟨TM.set a' s (TM.get a s), fun t ht => ?_⟩
      rw [TM.get_set _ _ _ _ hs ht, h t ht]
      by_cases e : s = t
      · subst e; simp
      · rw [if_neg e]
        have : (t ∈ s :: L) ↔ t ∈ L := by simp [Ne.symm e]
        simp only [this]
    · refine ⟨a', fun t ht => ?_⟩
      rw [h t ht]
      have : (t ∈ s :: L) ↔ t ∈ L := by
        have : t ≠ s := by omega
        simp [this]
      simp only [this]
/-- the slots that an operation names -/
def opSlots (o : Op) : List Nat := o.operands.toList.filterMap fun | .tmp t => some t | _ => none
theorem mem_opSlots {o : Op} {t : Nat} : t ∈ opSlots o ↔ .tmp t ∈ o.operands := by
  unfold opSlots
  rw [List.mem_filterMap]
  constructor
  · rintro ⟨x, h1, h2⟩
    cases x <;> simp at h2
    subst h2
    simpa using h1
  · intro h
    exact ⟨.tmp t, by simpa using h, rfl⟩
theorem op_local {P : Program} (o : Oper) (hsel : ∀ cs b, o.op ≠ .select cs b) (a : Tm) (act : Act) (ρ : Rn) (hs : act.tmps.size ≤ 512) (hL : ∀ t, t < 512 → t ∈ opSlots o.op → VRel ρ (TM.get a t) (act.tmps.getD t undef)) :
    ∃ (a' : Tm) (act' : Act), TRel ρ a' act'.tmps ∧ execOp act'.eval o = execOp act.eval o ∧ SameOW a a' (opW P o.op) := by
  obtain ⟨a', ha⟩ := only_slots a (opSlots o.op)
  have hget : ∀ t, (act.tmps.mapIdx fun t v => if t ∈ opSlots o.op then v else undef).getD t undef = if t ∈ opSlots o.op then act.tmps.getD t undef else undef := by
    intro t
    rw [Array.getD_eq_getD_getElem?, Array.getD_eq_getD_getElem?, Array.getElem?_mapIdx]
    cases act.tmps[t]? with
    | none => simp
    | some v => simp
  refine ⟨a', { act with tmps := act.tmps.mapIdx fun t v => if t ∈ opSlots o.op then v else undef }, ⟨by simpa using hs, fun t ht => ?_⟩, ?_, ?_⟩
  · rw [hget, ha t ht]
    by_cases hm : t ∈ opSlots o.op
    · rw [if_pos hm, if_pos hm]; exact hL t ht hm
    · rw [if_neg hm, if_neg hm]; exact undef_rel ρ
  · refine execOp_congr o hsel fun x hx => ?_
    cases x with
    | tmp t =>
      show (act.tmps.mapIdx fun t v => if t ∈ opSlots o.op then v else undef).getD t undef = act.tmps.getD t undef
      rw [hget, if_pos (mem_opSlots.2 hx)]
    | _ => rfl
  · refine opW_same o.op fun t ht hx => ?_
    rw [ha t ht, if_pos (mem_opSlots.2 (by simpa using hx))]
end Go.Proofs.YtkdlekonfjeidaaGreat.Eng
