/-
  The machine's operations against the model's: those that read memory.
-/
import Derived.Test.YtkdlekonfjeidaaGreatEngOps4
import Derived.Laws.BytesString
namespace Go.Proofs.YtkdlekonfjeidaaGreat.Eng
open Go.RowKit
set_option linter.unusedVariables false

/-- an operation that reads memory -/
def ReadOk (P : Program) (o : Oper) (f : Tm → Hp → Option CV) : Prop :=
  ∀ (ρ : Rn) (a : Tm) (act : Act) (c : CV) (h : Hp) (B : Nat) (w : World), TRel ρ a act.tmps → HRel ρ h B w → f a h = some c → ∃ v, (execOp act.eval o).run P w = .ok (.value v) w ∧ VRel ρ c v

section
variable {P : Program} {dst : Option Tmp} {ty : TypeId} {pos : String} {after : Array Edge} {guard : Option (Nat × Bool)}

theorem isAggT_row {t : TypeId} (h : isAggT P t = some true) : ∃ d, P.underlying t = some d ∧ d.isRow = true := by
  unfold isAggT at h
  split at h
  · rename_i he; exact ⟨_, he, rfl⟩
  · rename_i he; exact ⟨_, he, rfl⟩
  · cases h
  · cases h
theorem load_run {t : TypeId} {h : Hp} {x c : CV} (e : loadC P h t x = some c) {ρ : Rn} {B : Nat} {w : World} (H : HRel ρ h B w) {u : Value} (hx : VRel ρ x u) : ∃ v, (Instr.loadAt t u).run P w = .ok v w ∧ VRel ρ c v := by
  obtain ⟨id, off, rfl, h1⟩ := asPtr_some e
  obtain ⟨ri, h2, rfl⟩ := hx.ptrI
  unfold loadP at h1
  cases hw : loadW P t with
  | bad => rw [hw] at h1; cases h1
  | one =>
    rw [hw] at h1
    obtain ⟨v, k1, _, k2⟩ := rd1_some H h2 h1
    exact ⟨v, by simp [Instr.loadAt, Instr.sureAddr, loadVar, isAggT_some (loadW_one hw), k2], k1⟩
  | agg n =>
    rw [hw] at h1
    obtain ⟨l, h3, h4⟩ := oc_inv (show oc (rd h id off n) none (fun l => some (.agg l)) = some c from h1)
    injection h4 with h4; subst h4
    obtain ⟨vs, k1, k2, k3, k4⟩ := rd_some H h2 h3
    obtain ⟨h5, h6⟩ := loadW_agg hw
    obtain ⟨d, h7, h8⟩ := isAggT_row h5
    obtain ⟨i, h9, h10⟩ := szT_some h6
    exact ⟨.agg vs.toArray, run_loadAt_mid w ri.b off t vs d k4 h7 h8 (by rw [h9, k2]; simp [h10]), VRel.mkAgg k1 k3⟩
theorem load_ok (t : TypeId) (x : Operand) : ReadOk P ⟨dst, .load t x, ty, pos, after, guard⟩ (fun a h => ev a x fun v => loadC P h t v) := by
  intro ρ a act c h B w hT H e
  obtain ⟨c1, h1, r1⟩ := ev_some e
  obtain ⟨v, k1, k2⟩ := load_run h1 H (r1 ρ act hT)
  exact ⟨v, by simp [execOp, k1], k2⟩
theorem natO_rel {ρ : Rn} {n : Nat} {c : CV} (h : natO n = some c) : VRel ρ c (goInt n) := by
  unfold natO at h
  rw [force_eq] at h
  injection h with h; subst h; exact .int _ _
theorem coMap_some {β : Type} {c : CO} {k : List (Int × CV) → Option β} {r : β} (h : coMap c k = some r) : ∃ es, c = .map es ∧ k es = some r := by
  cases c with
  | map es => exact ⟨es, rfl, h⟩
  | _ => cases h
theorem len_ok (t : TypeId) (x : Operand) : ReadOk P ⟨dst, .call ⟨.builtin .len, #[x], #[t]⟩, ty, pos, after, guard⟩ (fun a h => ev a x fun x => lenC P t h x) := by
  intro ρ a act c h B w hT H e
  obtain ⟨c1, h1, r1⟩ := ev_some e
  have q := r1 ρ act hT
  unfold lenC at h1
  cases hw : lenW P t with
  | bad => rw [hw] at h1; cases h1
  | s =>
    rw [hw] at h1
    have hu : P.underlying t = some .string := by unfold lenW at hw; split at hw <;> first | assumption | cases hw
    obtain ⟨l, rfl, h2⟩ := asStr_some h1
    obtain ⟨s, e1, hs⟩ := q.strI
    rw [llen_eq] at h2
    have : l.length = s.size := by rw [← hs]; simp
    rw [this] at h2
    exact ⟨goInt s.size, by simp [execOp, resolve, invoke, builtin, Builtin.len_, e1, run_underlying hu], natO_rel h2⟩
  | sl =>
    rw [hw] at h1
    have hu : ∃ d, P.underlying t = some (.slice d) := by unfold lenW at hw; split at hw <;> first | exact ⟨_, by assumption⟩ | cases hw
    obtain ⟨d, hu⟩ := hu
    cases c1 <;> first | (cases h1; done) | skip
    · injection h1 with h1; subst h1
      have e1 := q.nilsI
      exact ⟨goInt 0, by simp [execOp, resolve, invoke, builtin, Builtin.len_, e1, run_underlying hu], .int _ _⟩
    · injection h1 with h1; subst h1
      obtain ⟨ri, ad, cap, _, e1, _⟩ := q.slI
      exact ⟨_, by simp [execOp, resolve, invoke, builtin, Builtin.len_, e1, run_underlying hu]; rfl, .int _ _⟩
    · injection h1 with h1; subst h1
      generalize hq : act.eval x = u at q
      cases q with
      | slx tab ri hr ht A cap => exact ⟨goInt (ri.b : Nat), by simp [execOp, resolve, invoke, builtin, Builtin.len_, hq, run_underlying hu], .sym .len _ ri hr ht _ rfl⟩
  | m =>
    rw [hw] at h1
    have hu : ∃ d d', P.underlying t = some (.map d d') := by unfold lenW at hw; split at hw <;> first | exact ⟨_, _, by assumption⟩ | cases hw
    obtain ⟨d, d', hu⟩ := hu
    cases c1 <;> first | (cases h1; done) | skip
    · injection h1 with h1; subst h1
      have e1 := q.nilmI
      exact ⟨goInt 0, by simp [execOp, resolve, invoke, builtin, Builtin.len_, e1, run_underlying hu], .int _ _⟩
    · rename_i id
      obtain ⟨ri, k1, e1⟩ := q.mapI
      obtain ⟨co, k2, k3⟩ := oc_inv (show oc (h.get id) none (fun c => CO.rec (motive := fun _ => Option CV) (fun _ => none) (fun _ _ => none) (fun es => natO (llen es)) c) = some c from h1)
      obtain ⟨es, rfl, k4⟩ := coMap_some (show coMap co (fun es => natO (llen es)) = some c from k3)
      obtain ⟨_, es', clock, g1, g2, _⟩ := H.at k1 k2
      rw [llen_eq, ← g2] at k4
      exact ⟨goInt es'.size, by simp [execOp, resolve, invoke, builtin, Builtin.len_, e1, run_underlying hu, getObj, Sem.run, g1], natO_rel k4⟩

/-! ### Maps -/
theorem mapW_some {t e : TypeId} (h : mapW P t = some e) : ∃ k i, P.underlying t = some (.map k e) ∧ P.underlying k = some (.int i) := by
  unfold mapW at h
  split at h
  · rename_i k e' hu
    split at h
    · rename_i i hk; injection h with h; subst h; exact ⟨k, i, hu, hk⟩
    · cases h
  · cases h
theorem asKey_some {β : Type} {i : CV} {k : Int → Option β} {r : β} (h : asKey i k = some r) : ∃ n, i = .int .i64 n ∧ k n = some r := by
  unfold asKey at h
  split at h
  · exact ⟨_, rfl, h⟩
  · cases h
theorem checkKey_run {k : TypeId} {i : IntKind} (hk : P.underlying k = some (.int i)) (b : Bool) (v : Value) (w : World) : (Instr.checkKey b 10000 k v).run P w = .ok () w := by
  show (Instr.checkKey b (9999 + 1) k v).run P w = _
  rw [Instr.checkKey]
  simp [run_underlying hk]
/-- entries that read as a list -/
def EntR (ρ : Rn) (es : List MapEntry) (l : List (Int × CV)) : Prop := es.length = l.length ∧ ∀ (j : Nat) (k : Int) (c : CV), l[j]? = some (k, c) → ∃ e : MapEntry, es[j]? = some e ∧ e.key = .int .i64 k ∧ VRel ρ c e.val
theorem EntR.tail {ρ : Rn} {e : MapEntry} {es : List MapEntry} {p : Int × CV} {l : List (Int × CV)} (h : EntR ρ (e :: es) (p :: l)) : EntR ρ es l := ⟨by have := h.1; simpa using this, fun j k c hj => by simpa using h.2 (j + 1) k c (by simpa using hj)⟩
theorem EntR.head {ρ : Rn} {e : MapEntry} {es : List MapEntry} {p : Int × CV} {l : List (Int × CV)} (h : EntR ρ (e :: es) (p :: l)) : e.key = .int .i64 p.1 ∧ VRel ρ p.2 e.val := by
  obtain ⟨e', h1, h2, h3⟩ := h.2 0 p.1 p.2 rfl
  simp at h1
  subst h1
  exact ⟨h2, h3⟩
theorem findNow_rel {ρ : Rn} (i : IntKind) (k : Int) : ∀ (l : List (Int × CV)) (es : List MapEntry) (n : Nat), EntR ρ es l →
    match findM k l with
    | none => Instr.findNow (.int i) (.int .i64 k) es n = some none
    | some c => ∃ (j : Nat) (v : Value), Instr.findNow (.int i) (.int .i64 k) es n = some (some (j, v)) ∧ VRel ρ c v := by
  intro l
  induction l with
  | nil =>
    intro es n h
    have : es = [] := List.eq_nil_of_length_eq_zero h.1
    subst this
    rfl
  | cons p l ih =>
    intro es n h
    cases es with
    | nil => have := h.1; simp at this
    | cons e es =>
      obtain ⟨h1, h2⟩ := h.head
      have hf : findM k (p :: l) = bc (ieq p.1 k) (some p.2) (findM k l) := rfl
      rw [hf, ieq_eq]
      have hs : Instr.sameNow (.int i) (.int .i64 k) e.key = some (k == p.1) := by rw [h1]; simp [Instr.sameNow]
      by_cases hk : p.1 = k
      · rw [decide_eq_true hk, bc_true]
        refine ⟨n, e.val, ?_, h2⟩
        rw [Instr.findNow, hs]
        simp [hk]
      · rw [decide_eq_false hk, bc_false]
        have hk' : (k == p.1) = false := by simpa using Ne.symm hk
        have := ih es (n + 1) h.tail
        have hn : Instr.findNow (.int i) (.int .i64 k) (e :: es) n = Instr.findNow (.int i) (.int .i64 k) es (n + 1) := by
          rw [Instr.findNow, hs, hk']
        rw [hn]
        exact this
theorem lookR_ok {ok : Bool} {z : CV} {r : Option CV} {c : CV} (h : lookR ok z r = some c) {ρ : Rn} {vz : Value} (hz : VRel ρ z vz) {rv : Option Value} (hr : match r, rv with | none, none => True | some c, some v => VRel ρ c v | _, _ => False) :
    VRel ρ c (if ok then .tuple #[rv.getD vz, .bool rv.isSome] else rv.getD vz) := by
  have tup : ∀ {c : CV} {v : Value} {b : Bool}, VRel ρ c v → VRel ρ (.tup [c, .bool b]) (.tuple #[v, .bool b]) := fun {c v b} hv => by
    have := VRel.mkTup (VRels.cons hv (VRels.cons (.bool b) (VRels.nil ρ)))
    simpa using this
  cases r with
  | none => cases rv with
    | some v => exact hr.elim
    | none => cases ok with
      | true => injection h with h; subst h; exact tup hz
      | false => injection h with h; subst h; exact hz
  | some d => cases rv with
    | none => exact hr.elim
    | some v => cases ok with
      | true => injection h with h; subst h; exact tup hr
      | false => injection h with h; subst h; exact hr
theorem lookup_ok (t : TypeId) (x i : Operand) (ok : Bool) : ReadOk P ⟨dst, .lookup t x i ok, ty, pos, after, guard⟩ (fun a h => ev a x fun x => ev a i fun i => lookC P h t x i ok) := by
  intro ρ a act c h B w hT H e
  obtain ⟨c1, h1, r1⟩ := ev_some e
  obtain ⟨c2, h2, r2⟩ := ev_some h1
  obtain ⟨el, h3, h4⟩ := oc_inv h2
  obtain ⟨z, h5, h6⟩ := oc_inv h4
  obtain ⟨n, rfl, h7⟩ := asKey_some h6
  obtain ⟨kt, ik, hu, hk⟩ := mapW_some h3
  obtain ⟨zv, g1, g2⟩ := run_zero h5
  have hz := cvOf_rel ρ g1
  have e2 := (r2 ρ act hT).intI
  have q := r1 ρ act hT
  cases c1 <;> first | (cases h7; done) | skip
  case nilm =>
    have e1 := q.nilmI
    have := lookR_ok h7 hz (rv := none) trivial
    refine ⟨_, ?_, this⟩
    simp [execOp, Instr.lookup, e1, e2, run_underlying hu, checkKey_run hk, Instr.findKey, run_underlying hk, Instr.findNow, g2]
  case map id =>
    obtain ⟨ri, k1, e1⟩ := q.mapI
    obtain ⟨co, k2, k3⟩ := oc_inv (show oc (h.get id) none _ = some c from h7)
    obtain ⟨es, rfl, k4⟩ := coMap_some k3
    obtain ⟨_, es', clock, m1, m2, m3⟩ := H.at k1 k2
    have hE : EntR ρ es'.toList es := ⟨by simpa using m2, fun j k c hj => by obtain ⟨e, n1, n2, n3⟩ := m3 j k c hj; exact ⟨e, by simpa using n1, n2, n3⟩⟩
    have hf := findNow_rel ik n es es'.toList 0 hE
    cases hr : findM n es with
    | none =>
      rw [hr] at hf k4
      have := lookR_ok k4 hz (rv := none) trivial
      refine ⟨_, ?_, this⟩
      simp only [] at hf
      simp [execOp, Instr.lookup, e1, e2, run_underlying hu, getObj, Sem.run, m1, checkKey_run hk, Instr.findKey, run_underlying hk, hf, g2]
    | some d =>
      rw [hr] at hf k4
      obtain ⟨j, v, hf, hv⟩ := hf
      have := lookR_ok k4 hz (rv := some v) hv
      refine ⟨_, ?_, this⟩
      simp [execOp, Instr.lookup, e1, e2, run_underlying hu, getObj, Sem.run, m1, checkKey_run hk, Instr.findKey, run_underlying hk, hf]

/-! ### Bytes -/
theorem bytesOf_some : ∀ (l : List CV) (ns : List Nat), bytesOf l = some ns → ∀ (ρ : Rn) (vs : List Value), VRels ρ l vs → vs = ns.map (fun n : Nat => Value.int .u8 (n : Int)) ∧ ∀ n ∈ ns, n < 256 := by
  intro l
  induction l with
  | nil =>
    intro ns h ρ vs hv
    injection h with h; subst h
    rw [hv.unnil]
    exact ⟨rfl, fun n hn => by cases hn⟩
  | cons c l ih =>
    intro ns h ρ vs hv
    obtain ⟨v, vs', rfl, h1, h2⟩ := hv.uncons
    cases c <;> first | (cases h; done) | skip
    rename_i k n
    cases k <;> first | (cases h; done) | skip
    cases n with
    | negSucc n => cases h
    | ofNat n =>
      obtain ⟨g1, g2⟩ := bc_inv (show bc (Nat.ble n 255) (oc (bytesOf l) none fun m => some (n :: m)) none = some ns from h)
      obtain ⟨m, g3, g4⟩ := oc_inv g2
      injection g4 with g4; subst g4
      obtain ⟨k1, k2⟩ := ih m g3 ρ vs' h2
      have e := h1.intI
      subst e k1
      exact ⟨rfl, fun x hx => by
        rcases List.mem_cons.1 hx with rfl | hx
        · have := Nat.le_of_ble_eq_true g1; omega
        · exact k2 x hx⟩
theorem push_toList : ∀ (ns : List Nat) (s : ByteArray), (∀ n ∈ ns, n < 256) → (((ns.map (fun n : Nat => (n : Int))).foldl (fun r n => r.push (UInt8.ofNat n.toNat)) s).data.toList.map UInt8.toNat) = s.data.toList.map UInt8.toNat ++ ns := by
  intro ns
  induction ns with
  | nil => intro s _; simp
  | cons n ns ih =>
    intro s h
    rw [List.map_cons, List.foldl_cons, ih _ (fun m hm => h m (by simp [hm]))]
    have := h n (by simp)
    simp [ByteArray.push]
    omega
theorem bytes_ok {s d e : TypeId} (hs : P.underlying s = some (.slice e)) (hd : P.underlying d = some .string) (he : P.underlying e = some (.int .u8)) (x : Operand) : ReadOk P ⟨dst, .convert s d x, ty, pos, after, guard⟩ (fun a h => ev a x fun v => strC h v) := by
  intro ρ a act c h B w hT H e0
  obtain ⟨c1, h1, r1⟩ := ev_some e0
  have q := r1 ρ act hT
  cases c1 <;> first | (cases h1; done) | skip
  case nils =>
    injection h1 with h1; subst h1
    have e1 := q.nilsI
    exact ⟨.string .empty, by simp [execOp, convert, e1, run_underlying hs, run_underlying hd, run_underlying he, Conv.bytesToString], .str _ _ rfl⟩
  case sl id off len z =>
    obtain ⟨l, h2, h3⟩ := oc_inv (show oc (rd h id off len) none _ = some c from h1)
    obtain ⟨ns, h4, h5⟩ := oc_inv h3
    injection h5 with h5; subst h5
    obtain ⟨ri, ad, cap, k1, e1, k2, k3⟩ := q.slI
    obtain ⟨vs, g1, g2, g3, g4⟩ := rd_some H k1 h2
    obtain ⟨rfl, g5⟩ := bytesOf_some l ns h4 ρ vs g1
    have hload : (loadCells ad len).run P w = .ok ((ns.map (fun n : Nat => (n : Int))).map (Value.int .u8)).toArray w := by
      have := run_loadCells_list (P := P) (w := w) ad (ns.map (fun n : Nat => Value.int .u8 (n : Int))) (fun j v hj => by
        rcases k3 with ⟨rfl, _⟩ | k3
        · rw [Addr.add_mid]; exact g4 j v hj
        · have := (List.getElem?_eq_some_iff.1 hj).1; omega)
      rw [g2] at this
      rw [this]
      simp [Function.comp_def]
    have hrun := run_bytesToString w ad len cap (ns.map (fun n : Nat => (n : Int))) hload
    refine ⟨_, by simp [execOp, convert, e1, run_underlying hs, run_underlying hd, run_underlying he, hrun]; rfl, .str _ _ ?_⟩
    rw [push_toList ns _ g5]
    rfl
end
end Go.Proofs.YtkdlekonfjeidaaGreat.Eng
