/-
  A machine on values that read as trees: its operations are sound for the model.
-/
import Derived.Orders
import GoSem.Dispatch
import Derived.Deep.MidRow
import Derived.Deep.AppendSrc
import Derived.Below
import Derived.Laws.Strings
import Derived.ChangeKeysEq
import Derived.IntWalk
import Derived.Lib.ConvBytes
import Derived.Laws.AppendOwn
namespace Go.Proofs.Ytconhpilbndpkaa.Vm
set_option linter.unusedVariables false
/-- pure data -/
inductive C where
  | b (x : Bool)
  | i (k : IntKind) (n : Int)
  | s (l : List UInt8)
  | sl (els : List (List C))
  | np
  deriving Inhabited
/-- the machine's values -/
inductive T where
  | c (x : C)
  | q (e : Bool)
  | nil
  | sk (id : Nat) (els : List (List C))
  | rw (id n cap : Nat)
  | pt (id off : Nat)
  | pf (cs : List C)
  | pe (id i off sz : Nat)
  | rp (id off n cap : Nat)
  | np
  | ag (cs : List T)
  | tu (cs : List T)
  | fn (f : FuncId) (first cap : List T)
  | nf
  | any
  deriving Inhabited
inductive Obj where
  | box (cs : List T)
  | tok (sz : Nat) (els : List (List C))
  | row (els : List (List C)) (cap : Nat)
abbrev Slots := List (Nat × T)
abbrev Mem := List (Nat × Obj)
def get : Slots → Nat → T
  | [], _ => .any
  | p :: r, k => match Nat.beq p.1 k with | true => p.2 | false => get r k
def set : Slots → Nat → T → Slots
  | [], k, v => [(k, v)]
  | p :: r, k, v => match Nat.beq p.1 k with | true => (k, v) :: r | false => p :: set r k v
def mget : Mem → Nat → Option Obj
  | [], _ => none
  | p :: r, k => match Nat.beq p.1 k with | true => some p.2 | false => mget r k
def mset : Mem → Nat → Obj → Mem
  | [], k, v => [(k, v)]
  | p :: r, k, v => match Nat.beq p.1 k with | true => (k, v) :: r | false => p :: mset r k v
/-- what is known of a type -/
inductive TK where
  | sl | str | oth
structure TyI where
  kind : TK
  agg : Bool
  size : Nat
  zero : List T
  fields : List (Nat × Bool × Nat)   -- offset, agg, size
  elem : Nat
abbrev TI := List (Nat × TyI)
def tget : TI → Nat → Option TyI
  | [], _ => none
  | p :: r, k => match Nat.beq p.1 k with | true => some p.2 | false => tget r k
/-- the arithmetic, under letters -/
structure ZO where
  bi : BinOp → IntKind → Int → Int → Int
  ci : BinOp → Int → Int → Bool
  cs : BinOp → List UInt8 → List UInt8 → Bool
  ln : List (List C) → Int
  lns : List UInt8 → Int
  nt : Bool → Bool
  pk : Bool → Bool → Bool → Bool
  ng : IntKind → Int → Int
  cv : IntKind → Int → Int
  mx : Int → Int → Int
  mn : Int → Int → Int
def constT : Value → T
  | .bool b => .c (.b b)
  | .int k n => .c (.i k n)
  | .string s => .c (.s s.data.toList)
  | .slice none 0 0 => .nil
  | .pointer none => .np
  | .nilFunc => .nf
  | _ => .any
def evT (a : Slots) : Operand → T
  | .tmp t => get a t
  | .const v => constT v
  | .func f => .fn f [] []
  | .global _ => .any
def toC : T → Option C
  | .c x => some x
  | .q e => some (.b e)
  | .nil => some (.sl [])
  | .sk _ els => some (.sl els)
  | .np => some .np
  | _ => none
def toCs : List T → Option (List C)
  | [] => some []
  | t :: r => match toC t with | some c => (match toCs r with | some l => some (c :: l) | none => none) | none => none
def cellsT : T → List T
  | .ag cs => cs
  | t => [t]
def ofC : C → T
  | .b x => .q x
  | c => .c c
def ofCs : List C → List T
  | [] => []
  | c :: r => ofC c :: ofCs r
def nth {α : Type} : List α → Nat → Option α
  | [], _ => none
  | x :: _, 0 => some x
  | _ :: r, n + 1 => nth r n
def takeL {α : Type} : Nat → List α → Option (List α)
  | 0, _ => some []
  | _ + 1, [] => none
  | n + 1, x :: r => match takeL n r with | some l => some (x :: l) | none => none
def dropL {α : Type} : Nat → List α → List α
  | 0, l => l
  | _ + 1, [] => []
  | n + 1, _ :: r => dropL n r
def putL {α : Type} : List α → List α → List α
  | [], l => l
  | _ :: _, [] => []
  | x :: r, _ :: l => x :: putL r l
def putAt {α : Type} : Nat → List α → List α → List α
  | 0, xs, l => putL xs l
  | _ + 1, _, [] => []
  | n + 1, xs, y :: l => y :: putAt n xs l
def len {α : Type} : List α → Nat
  | [] => 0
  | _ :: r => len r + 1
/-- a part of a row of cells -/
def partT (agg : Bool) (n off : Nat) (cs : List T) : Option T := match agg with
  | true => (match takeL n (dropL off cs) with | some l => some (.ag l) | none => none)
  | false => nth cs off
def isLd : Op → Bool
  | .load _ _ => true
  | _ => false
/-- an operation's outcome -/
inductive Rs where
  | val (t : T)
  | upd (t : T) (m : Mem)
  | new (o : Obj) (t : T)
  | stop
def loadT (ti : TyI) (m : Mem) : T → Rs
  | .pt id off => match mget m id with
    | some (.box cs) => (match partT ti.agg ti.size off cs with | some t => .val t | none => .stop)
    | _ => .stop
  | .pf cs => match partT ti.agg ti.size 0 (ofCs cs) with | some t => .val t | none => .stop
  | _ => .stop
def allOne : List T → Bool
  | [] => true
  | .ag _ :: _ => false
  | .tu _ :: _ => false
  | .any :: _ => false
  | _ :: r => allOne r
def storeT (ti : TyI) (m : Mem) (v : T) : T → Rs
  | .pt id off => match mget m id with
    | some (.box cs) => (match allOne (cellsT v), Nat.beq (len (cellsT v)) ti.size, Nat.ble (off + len (cellsT v)) (len cs) with
      | true, true, true => .upd .any (mset m id (.box (putAt off (cellsT v) cs)))
      | _, _, _ => .stop)
    | _ => .stop
  | _ => .stop
def kEq : IntKind → IntKind → Bool
  | .i64, .i64 => true
  | .u8, .u8 => true
  | .i32, .i32 => true
  | .u64, .u64 => true
  | .u32, .u32 => true
  | _, _ => false
def isCmp : BinOp → Bool
  | .eql | .neq | .lss | .leq | .gtr | .geq => true
  | _ => false
def isAri : BinOp → Bool
  | .add | .sub | .mul => true
  | _ => false
def binT (z : ZO) (op : BinOp) : T → T → Rs
  | .c (.i k x), .c (.i k' y) => match kEq k k' with
    | true => (match isCmp op with
      | true => .val (.q (z.ci op x y))
      | false => (match isAri op with | true => .val (.c (.i k (z.bi op k x y))) | false => .stop))
    | false => .stop
  | .c (.s x), .c (.s y) => match isCmp op with
    | true => .val (.q (z.cs op x y))
    | false => .stop
  | _, _ => .stop
def fillT (place : Nat → Option (Nat × Nat)) (a : Slots) : List (Nat × Operand) → List T → Option (List T)
  | [], z => some z
  | p :: r, z => match place p.1 with
    | some q => (match allOne (cellsT (evT a p.2)), Nat.beq (len (cellsT (evT a p.2))) q.2, Nat.ble (q.1 + q.2) (len z) with
      | true, true, true => fillT place a r (putAt q.1 (cellsT (evT a p.2)) z)
      | _, _, _ => none)
    | none => none
def placeF (fs : List (Nat × Bool × Nat)) (f : Nat) : Option (Nat × Nat) := match nth fs f with | some p => some (p.1, p.2.2) | none => none
def placeE (s i : Nat) : Option (Nat × Nat) := some (i * s, s)
def chunk (s : Nat) : Nat → List T → Option (List (List C))
  | 0, _ => some []
  | n + 1, l => match takeL s l with
    | some h => (match toCs h with
      | some cs => (match chunk s n (dropL s l) with | some r => some (cs :: r) | none => none)
      | none => none)
    | none => none
def repL {α : Type} : Nat → List α → List α
  | 0, _ => []
  | n + 1, l => l ++ repL n l
def callT (ti : TI) (z : ZO) (a : Slots) (c : Call) : Rs := match c.callee with
    | .builtin .len => (match c.args.toList, c.argTypes.toList with
      | [x], [t] => (match tget ti t with
        | some i => (match i.kind with
          | .sl => (match evT a x with
            | .c (.sl els) => .val (.c (.i .i64 (z.ln els)))
            | .sk _ els => .val (.c (.i .i64 (z.ln els)))
            | .nil => .val (.c (.i .i64 0))
            | .rw _ n _ => .val (.c (.i .i64 (.ofNat n)))
            | _ => .stop)
          | .str => (match evT a x with
            | .c (.s l) => .val (.c (.i .i64 (z.lns l)))
            | _ => .stop)
          | _ => .stop)
        | none => .stop)
      | _, _ => .stop)
    | _ => .stop
def opT (ti : TI) (z : ZO) (m : Mem) (nx : Nat) (a : Slots) (op : Op) : Rs := match op with
  | .move x => .val (evT a x)
  | .assign x => .val (evT a x)
  | .pick c x y => match evT a c with
    | .c (.b true) => .val (evT a x)
    | .c (.b false) => .val (evT a y)
    | .q e => (match evT a x, evT a y with
      | .q f, .q g => .val (.q (z.pk e f g))
      | .q f, .c (.b g) => .val (.q (z.pk e f g))
      | .c (.b f), .q g => .val (.q (z.pk e f g))
      | _, _ => .stop)
    | _ => .stop
  | .alloc t => match tget ti t with | some i => (match allOne i.zero with | true => .new (.box i.zero) (.pt nx 0) | false => .stop) | none => .stop
  | .box t x => match allOne (cellsT (evT a x)) with | true => .new (.box (cellsT (evT a x))) (.pt nx 0) | false => .stop
  | .load t x => match tget ti t with | some i => loadT i m (evT a x) | none => .stop
  | .store t x y => match tget ti t with | some i => storeT i m (evT a y) (evT a x) | none => .stop
  | .binOp op _ x y _ => binT z op (evT a x) (evT a y)
  | .unOp .not _ x => match evT a x with | .q e => .val (.q (z.nt e)) | .c (.b true) => .val (.c (.b false)) | .c (.b false) => .val (.c (.b true)) | _ => .stop
  | .unOp .neg _ x => match evT a x with | .c (.i k n) => .val (.c (.i k (z.ng k n))) | _ => .stop
  | .fieldAddr t x f => match tget ti t with
    | some i => (match nth i.fields f with
      | some p => (match evT a x with
        | .pt id off => .val (.pt id (off + p.1))
        | .pf cs => .val (.pf (dropL p.1 cs))
        | .pe id i off sz => .val (.pe id i (off + p.1) sz)
        | _ => .stop)
      | none => .stop)
    | none => .stop
  | .field t x f => match tget ti t with
    | some i => (match nth i.fields f with
      | some p => (match evT a x with
        | .ag cs => (match partT p.2.1 p.2.2 p.1 cs with | some t => .val t | none => .stop)
        | _ => .stop)
      | none => .stop)
    | none => .stop
  | .build t ps => match tget ti t with
    | some i => (match i.agg && allOne i.zero with
      | true => (match fillT (placeF i.fields) a ps.toList i.zero with | some l => .val (.ag l) | none => .stop)
      | false => .stop)
    | none => .stop
  | .buildSlice t n ps => match tget ti t with
    | some i => (match i.kind with
      | .sl => (match tget ti i.elem with
        | some e => (match Nat.ble n 65536 && (Nat.ble (n * e.size) 65536 && allOne e.zero), fillT (placeE e.size) a ps.toList (repL n e.zero) with
          | true, some l => (match chunk e.size n l with | some els => .new (.tok e.size els) (.sk nx els) | none => .stop)
          | _, _ => .stop)
        | none => .stop)
      | _ => .stop)
    | none => .stop
  | .extract x i => match evT a x with
    | .tu ts => (match nth ts i with | some t => .val t | none => .stop)
    | _ => .stop
  | .call c => callT ti z a c
  | _ => .stop
inductive K where
  | code (c : Code)
  | ops (l : List Oper) (all : List Oper)
  | blk (id : Nat)
  | inv (I : Nat → Slots → Mem → Prop) (n nx : Nat)
structure St where
  ks : List K
  a : Slots
  m : Mem
  nx : Nat
def put (a : Slots) : Option Tmp → T → Slots
  | some d, t => set a d t
  | none, _ => a
/-- leaving by an exit -/
def unwind (id : Nat) : List K → Option (List K)
  | .blk j :: ks => match Nat.beq j id with | true => some ks | false => unwind id ks
  | .code _ :: ks => unwind id ks
  | .ops _ _ :: ks => unwind id ks
  | .inv _ _ _ :: ks => unwind id ks
  | [] => none
inductive Gd where | yes | no | stop
def gd (a : Slots) (all : List Oper) : Option (Nat × Bool) → Gd
  | none => .yes
  | some p => match nth all p.1 with
    | some o => (match o.dst with
      | some d => (match get a d with
        | .c (.b true) => (match p.2 with | true => .yes | false => .no)
        | .c (.b false) => (match p.2 with | true => .no | false => .yes)
        | .tu [] => .no
        | _ => .stop)
      | none => .stop)
    | none => .stop
def dstOk (n : Nat) : Option Tmp → Bool
  | some d => Nat.blt d n
  | none => true
def stepOp (ti : TI) (z : ZO) (n : Nat) (o : Oper) (r : List Oper) (all : List Oper) (ks : List K) (s : St) : Option St :=
  match dstOk n o.dst with
  | true => (match gd s.a all o.guard with
    | .yes => (match opT ti z s.m s.nx s.a o.op with
      | .val t => some ⟨.ops r all :: ks, put s.a o.dst t, s.m, s.nx⟩
      | .upd t m => some ⟨.ops r all :: ks, put s.a o.dst t, m, s.nx⟩
      | .new ob t => some ⟨.ops r all :: ks, put s.a o.dst t, (s.nx, ob) :: s.m, s.nx + 1⟩
      | .stop => none)
    | .no => some ⟨.ops r all :: ks, put s.a o.dst (.tu []), s.m, s.nx⟩
    | .stop => none)
  | false => none
def step (ti : TI) (z : ZO) (n : Nat) (s : St) : Option St := match s.ks with
  | .code .skip :: ks => some ⟨ks, s.a, s.m, s.nx⟩
  | .code (.seq x y) :: ks => some ⟨.code x :: .code y :: ks, s.a, s.m, s.nx⟩
  | .code (.region _ ops false) :: ks => some ⟨.ops ops.toList ops.toList :: ks, s.a, s.m, s.nx⟩
  | .code (.cond c x y) :: ks => (match evT s.a c with
    | .c (.b true) => some ⟨.code x :: ks, s.a, s.m, s.nx⟩
    | .c (.b false) => some ⟨.code y :: ks, s.a, s.m, s.nx⟩
    | _ => none)
  | .code (.block id c) :: ks => some ⟨.code c :: .blk id :: ks, s.a, s.m, s.nx⟩
  | .code (.exit id) :: ks => (match unwind id ks with | some ks' => some ⟨ks', s.a, s.m, s.nx⟩ | none => none)
  | .blk _ :: ks => some ⟨ks, s.a, s.m, s.nx⟩
  | .ops [] _ :: ks => some ⟨ks, s.a, s.m, s.nx⟩
  | .ops (o :: r) all :: ks => stepOp ti z n o r all ks s
  | _ => none
def run (ti : TI) (z : ZO) (n : Nat) : Nat → St → St
  | 0, s => s
  | k + 1, s => match step ti z n s with | some s' => run ti z n k s' | none => s

/-! ### what is kept at the end of a round; what has no names of memory in it -/
mutual
def refB (nx : Nat) : T → Bool
  | .sk id _ => Nat.blt id nx
  | .rw id _ _ => Nat.blt id nx
  | .pt id _ => Nat.blt id nx
  | .pe id _ _ _ => Nat.blt id nx
  | .rp id _ _ _ => Nat.blt id nx
  | .ag ts => refBs nx ts
  | .tu ts => refBs nx ts
  | .fn _ xs ys => refBs nx xs && refBs nx ys
  | _ => true
def refBs (nx : Nat) : List T → Bool
  | [] => true
  | t :: ts => refB nx t && refBs nx ts
end
def keepS : List Nat → Slots → Slots
  | [], _ => []
  | k :: L, a => (k, get a k) :: keepS L a
def keepM : List Nat → Mem → Mem
  | [], _ => []
  | k :: M, m => match mget m k with | some o => (k, o) :: keepM M m | none => keepM M m
def refS (nx : Nat) : Slots → Bool
  | [] => true
  | p :: a => refB nx p.2 && refS nx a
def refM (nx : Nat) : Mem → Bool
  | [] => true
  | p :: m => Nat.blt p.1 nx && ((match p.2 with | .box ts => refBs nx ts | _ => true) && refM nx m)
mutual
def pureT : T → Option T
  | .c x => some (.c x)
  | .q e => some (.q e)
  | .nil => some .nil
  | .sk _ els => some (.c (.sl els))
  | .pf cs => some (.pf cs)
  | .np => some .np
  | .ag ts => (match pureTs ts with | some l => some (.ag l) | none => none)
  | .tu ts => (match pureTs ts with | some l => some (.tu l) | none => none)
  | .fn f xs ys => (match pureTs xs, pureTs ys with | some l, some k => some (.fn f l k) | _, _ => none)
  | .nf => some .nf
  | _ => none
def pureTs : List T → Option (List T)
  | [] => some []
  | t :: ts => match pureT t, pureTs ts with | some x, some l => some (x :: l) | _, _ => none
end
def res1 (ti : TI) (m : Mem) (a : Slots) : ResultVar → Option T
  | .tmp t => some (get a t)
  | .cell x t => match tget ti t with | some i => (match loadT i m (get a x) with | .val v => some v | _ => none) | none => none
def resL (ti : TI) (m : Mem) (a : Slots) : List ResultVar → Option (List T)
  | [] => some []
  | r :: rs => match res1 ti m a r, resL ti m a rs with | some t, some l => some (t :: l) | _, _ => none
def resT (ti : TI) (m : Mem) (a : Slots) (rs : List ResultVar) : Option T := match resL ti m a rs with
  | some [t] => pureT t
  | some l => pureT (.tu l)
  | none => none
end Go.Proofs.Ytconhpilbndpkaa.Vm
namespace Go.Proofs.Ytconhpilbndpkaa.Vm
open Go.RowKit
set_option linter.unusedVariables false

/-! ### lists -/
theorem nth_eq {α : Type} : ∀ (l : List α) (n : Nat), nth l n = l[n]?
  | [], _ => rfl
  | _ :: _, 0 => rfl
  | _ :: l, n + 1 => by simpa [nth] using nth_eq l n
theorem dropL_eq {α : Type} : ∀ (n : Nat) (l : List α), dropL n l = l.drop n
  | 0, _ => rfl
  | _ + 1, [] => rfl
  | n + 1, _ :: l => by simpa [dropL] using dropL_eq n l
theorem takeL_some {α : Type} : ∀ (n : Nat) (l m : List α), takeL n l = some m → m = l.take n ∧ n ≤ l.length
  | 0, l, m, h => by injection h with h; subst h; exact ⟨by simp, Nat.zero_le _⟩
  | n + 1, [], m, h => by cases h
  | n + 1, x :: l, m, h => by
    unfold takeL at h
    split at h
    · rename_i k hk
      injection h with h; subst h
      obtain ⟨h1, h2⟩ := takeL_some n l k hk
      exact ⟨by simp [h1], by simpa using h2⟩
    · cases h
theorem putL_get {α : Type} : ∀ (xs l : List α) (j : Nat), xs.length ≤ l.length → (putL xs l)[j]? = if j < xs.length then xs[j]? else l[j]?
  | [], l, j, _ => by simp [putL]
  | x :: xs, [], j, h => by simp at h
  | x :: xs, y :: l, j, h => by
    cases j with
    | zero => simp [putL]
    | succ j => simpa [putL] using putL_get xs l j (by simpa using h)
theorem putL_length {α : Type} : ∀ (xs l : List α), xs.length ≤ l.length → (putL xs l).length = l.length
  | [], l, _ => rfl
  | x :: xs, [], h => by simp at h
  | x :: xs, y :: l, h => by simpa [putL] using putL_length xs l (by simpa using h)
theorem putAt_get {α : Type} : ∀ (n : Nat) (xs l : List α) (j : Nat), n + xs.length ≤ l.length → (putAt n xs l)[j]? = if n ≤ j ∧ j < n + xs.length then xs[j - n]? else l[j]?
  | 0, xs, l, j, h => by simpa [putAt] using putL_get xs l j (by simpa using h)
  | n + 1, xs, [], j, h => by simp at h
  | n + 1, xs, y :: l, j, h => by
    cases j with
    | zero => simp [putAt]
    | succ j =>
      have := putAt_get n xs l j (by simp at h; omega)
      simp only [putAt, List.getElem?_cons_succ, this, Nat.add_le_add_iff_right]
      by_cases h1 : n ≤ j ∧ j < n + xs.length
      · rw [if_pos h1, if_pos (by omega)]; congr 1; omega
      · rw [if_neg h1, if_neg (by omega)]
theorem putAt_length {α : Type} : ∀ (n : Nat) (xs l : List α), n + xs.length ≤ l.length → (putAt n xs l).length = l.length
  | 0, xs, l, h => putL_length xs l (by simpa using h)
  | n + 1, xs, [], h => by simp at h
  | n + 1, xs, y :: l, h => by simpa [putAt] using putAt_length n xs l (by simp at h; omega)
theorem len_eq {α : Type} : ∀ (l : List α), len l = l.length
  | [] => rfl
  | _ :: l => by simp [len, len_eq l]

/-! ### known cells, readings -/
abbrev Kn := Nat → Nat → Option Value
def bs (l : List UInt8) : ByteArray := ⟨l.toArray⟩
def KLe (Z Z' : Kn) : Prop := ∀ b o v, Z b o = some v → Z' b o = some v
theorem KLe.refl (Z : Kn) : KLe Z Z := fun _ _ _ h => h
theorem KLe.trans {a b c : Kn} (h : KLe a b) (k : KLe b c) : KLe a c := fun x y v e => k x y v (h x y v e)

inductive RdC (Z : Kn) : C → Value → Prop where
  | b (x : Bool) : RdC Z (.b x) (.bool x)
  | i (k : IntKind) (n : Int) : RdC Z (.i k n) (.int k n)
  | s (l : List UInt8) : RdC Z (.s l) (.string (bs l))
  | nl (A : Option Addr) (cap : Nat) (hc : cap ≤ maxLen) : RdC Z (.sl []) (.slice A 0 cap)
  | sl (els : List (List C)) (b off sz cap : Nat) (v : Nat → Nat → Value) (hn : els.length ≤ cap) (hc : cap ≤ maxLen)
      (hs : ∀ (k : Nat) (cs : List C), els[k]? = some cs → cs.length = sz)
      (hz : ∀ (k : Nat) (cs : List C) (j : Nat) (c : C), els[k]? = some cs → cs[j]? = some c → Z b (off + k * sz + j) = some (v k j))
      (hr : ∀ (k : Nat) (cs : List C) (j : Nat) (c : C), els[k]? = some cs → cs[j]? = some c → RdC Z c (v k j)) : RdC Z (.sl els) (.slice (some ⟨b, off, none⟩) els.length cap)
  | np : RdC Z .np (.pointer none)

theorem RdC.mono {Z Z' : Kn} (H : KLe Z Z') {c : C} {v : Value} (h : RdC Z c v) : RdC Z' c v := by
  induction h with
  | b x => exact .b x
  | i k n => exact .i k n
  | s l => exact .s l
  | nl A cap hc => exact .nl A cap hc
  | np => exact .np
  | sl els b off sz cap v hn hc hs hz hr ih => exact .sl els b off sz cap v hn hc hs (fun k cs j c h1 h2 => H _ _ _ (hz k cs j c h1 h2)) ih
theorem RdC.one {Z : Kn} {c : C} {v : Value} (h : RdC Z c v) : v.oneCell' = true := by cases h <;> rfl
theorem RdC.cells {Z : Kn} {c : C} {v : Value} (h : RdC Z c v) : v.cells = #[v] := by cases h <;> rfl
theorem RdC.boolI {Z : Kn} {x : Bool} {v : Value} (h : RdC Z (.b x) v) : v = .bool x := by cases h; rfl
theorem RdC.intI {Z : Kn} {k : IntKind} {n : Int} {v : Value} (h : RdC Z (.i k n) v) : v = .int k n := by cases h; rfl
theorem RdC.strI {Z : Kn} {l : List UInt8} {v : Value} (h : RdC Z (.s l) v) : v = .string (bs l) := by cases h; rfl
theorem RdC.slI {Z : Kn} {els : List (List C)} {v : Value} (h : RdC Z (.sl els) v) : ∃ A cap, v = .slice A els.length cap ∧ els.length ≤ cap ∧ cap ≤ maxLen ∧
    (els = [] ∨ ∃ b off sz, ∃ (u : Nat → Nat → Value), A = some ⟨b, off, none⟩ ∧ (∀ (k : Nat) (cs : List C), els[k]? = some cs → cs.length = sz) ∧ ∀ (k : Nat) (cs : List C) (j : Nat) (c : C), els[k]? = some cs → cs[j]? = some c → Z b (off + k * sz + j) = some (u k j) ∧ RdC Z c (u k j)) := by
  cases h with
  | nl A cap hc => exact ⟨A, cap, rfl, Nat.zero_le _, hc, .inl rfl⟩
  | sl _ b off sz cap u hn hc hs hz hr => exact ⟨_, cap, rfl, hn, hc, .inr ⟨b, off, sz, u, rfl, hs, fun k cs j c h1 h2 => ⟨hz k cs j c h1 h2, hr k cs j c h1 h2⟩⟩⟩

/-! ### where the machine's blocks lie -/
inductive Loc where
  | blk (b : Nat)
  | tok (v : Value) (n : Nat)
abbrev Rho := Nat → Option Loc
def Loc.B : Loc → Option Nat
  | .blk b => some b
  | .tok (.slice (some a) _ _) _ => some a.block
  | .tok _ _ => none
def LLe : Option Loc → Option Loc → Prop
  | none, _ => True
  | some (.blk b), l => l = some (.blk b)
  | some (.tok u n), l => ∃ u' n', l = some (.tok u' n') ∧ n ≤ n' ∧ (n = n' → u = u')
def RLe (ρ ρ' : Rho) : Prop := ∀ id, LLe (ρ id) (ρ' id)
theorem LLe.refl : ∀ l, LLe l l
  | none => trivial
  | some (.blk b) => rfl
  | some (.tok u n) => ⟨u, n, rfl, Nat.le_refl _, fun _ => rfl⟩
theorem RLe.refl (ρ : Rho) : RLe ρ ρ := fun _ => LLe.refl _
theorem LLe.trans {a b c : Option Loc} (h : LLe a b) (k : LLe b c) : LLe a c := by
  cases a with
  | none => trivial
  | some a =>
    cases a with
    | blk x => cases h; exact k
    | tok u n =>
      obtain ⟨u', n', rfl, h1, h2⟩ := h
      obtain ⟨u2, n2, rfl, h3, h4⟩ := k
      exact ⟨u2, n2, rfl, Nat.le_trans h1 h3, fun e => by
        have e1 : n = n' := by omega
        have e2 : n' = n2 := by omega
        rw [h2 e1, h4 e2]⟩
theorem RLe.trans {a b c : Rho} (h : RLe a b) (k : RLe b c) : RLe a c := fun id => (h id).trans (k id)

def T.one : T → Bool
  | .ag _ => false
  | .tu _ => false
  | .any => false
  | _ => true

inductive RdT (Z : Kn) (ρ : Rho) : T → Value → Prop where
  | c (x : C) (v : Value) (h : RdC Z x v) : RdT Z ρ (.c x) v
  | q (e : Bool) : RdT Z ρ (.q e) (.bool e)
  | nil : RdT Z ρ .nil (.slice none 0 0)
  | sk (id : Nat) (els : List (List C)) (v u : Value) (n : Nat) (h : RdC Z (.sl els) v) (hi : ρ id = some (.tok u n)) (hn : els.length ≤ n) (he : els.length = n → v = u) : RdT Z ρ (.sk id els) v
  | rw (id n b cap : Nat) (hi : ρ id = some (.blk b)) (hc : n ≤ cap) (hm : cap ≤ maxLen) : RdT Z ρ (.rw id n cap) (.slice (some ⟨b, 0, none⟩) n cap)
  | rn (id : Nat) : RdT Z ρ (.rw id 0 0) (.slice none 0 0)
  | pt (id off b : Nat) (hi : ρ id = some (.blk b)) : RdT Z ρ (.pt id off) (.pointer (some ⟨b, off, none⟩))
  | pf (cs : List C) (b off : Nat) (v : Nat → Value) (hz : ∀ (j : Nat) (c : C), cs[j]? = some c → Z b (off + j) = some (v j)) (hr : ∀ (j : Nat) (c : C), cs[j]? = some c → RdC Z c (v j)) : RdT Z ρ (.pf cs) (.pointer (some ⟨b, off, none⟩))
  | pe (id i off sz b : Nat) (hi : ρ id = some (.blk b)) : RdT Z ρ (.pe id i off sz) (.pointer (some ⟨b, i * sz + off, none⟩))
  | rp (id off n cap b : Nat) (hi : ρ id = some (.blk b)) : RdT Z ρ (.rp id off n cap) (.slice (some ⟨b, off, none⟩) n cap)
  | np : RdT Z ρ .np (.pointer none)
  | ag (ts : List T) (vs : List Value) (h1 : ts.length = vs.length) (h2 : ∀ (i : Nat) (t : T) (v : Value), ts[i]? = some t → vs[i]? = some v → RdT Z ρ t v) (h3 : ∀ t ∈ ts, t.one = true) : RdT Z ρ (.ag ts) (.agg vs.toArray)
  | tu (ts : List T) (vs : List Value) (h1 : ts.length = vs.length) (h2 : ∀ (i : Nat) (t : T) (v : Value), ts[i]? = some t → vs[i]? = some v → RdT Z ρ t v) : RdT Z ρ (.tu ts) (.tuple vs.toArray)
  | fn (f : FuncId) (xs ys : List T) (us vs : List Value) (h1 : xs.length = us.length) (h2 : ∀ (i : Nat) (t : T) (v : Value), xs[i]? = some t → us[i]? = some v → RdT Z ρ t v)
      (h3 : ys.length = vs.length) (h4 : ∀ (i : Nat) (t : T) (v : Value), ys[i]? = some t → vs[i]? = some v → RdT Z ρ t v) : RdT Z ρ (.fn f xs ys) (.func (.func f) us.toArray vs.toArray)
  | nf : RdT Z ρ .nf .nilFunc
  | any (v : Value) : RdT Z ρ .any v

def RdTs (Z : Kn) (ρ : Rho) (ts : List T) (vs : List Value) : Prop := ts.length = vs.length ∧ ∀ (i : Nat) (t : T) (v : Value), ts[i]? = some t → vs[i]? = some v → RdT Z ρ t v

theorem RdT.mono {Z Z' : Kn} {ρ ρ' : Rho} (H : KLe Z Z') (R : RLe ρ ρ') {t : T} {v : Value} (h : RdT Z ρ t v) : RdT Z' ρ' t v := by
  induction h with
  | c x v h => exact .c x v (h.mono H)
  | q e => exact .q e
  | nil => exact .nil
  | sk id els v u n h hi hn he =>
    have := R id
    rw [hi] at this
    obtain ⟨u', n', h1, h2, h3⟩ := this
    exact .sk id els v u' n' (h.mono H) h1 (Nat.le_trans hn h2) fun e => by
      have e1 : n = n' := by omega
      rw [he (by omega), h3 e1]
  | rw id n b cap hi hc hm => have := R id; rw [hi] at this; exact .rw id n b cap this hc hm
  | rn id => exact .rn id
  | pt id off b hi => have := R id; rw [hi] at this; exact .pt id off b this
  | pf cs b off v hz hr => exact .pf cs b off v (fun j c h => H _ _ _ (hz j c h)) (fun j c h => (hr j c h).mono H)
  | pe id i off sz b hi => have := R id; rw [hi] at this; exact .pe id i off sz b this
  | rp id off n cap b hi => have := R id; rw [hi] at this; exact .rp id off n cap b this
  | np => exact .np
  | ag ts vs h1 h2 h3 ih => exact .ag ts vs h1 ih h3
  | tu ts vs h1 h2 ih => exact .tu ts vs h1 ih
  | fn f xs ys us vs h1 h2 h3 h4 ih1 ih2 => exact .fn f xs ys us vs h1 ih1 h3 ih2
  | nf => exact .nf
  | any v => exact .any v
theorem RdTs.mono {Z Z' : Kn} {ρ ρ' : Rho} (H : KLe Z Z') (R : RLe ρ ρ') {ts : List T} {vs : List Value} (h : RdTs Z ρ ts vs) : RdTs Z' ρ' ts vs := ⟨h.1, fun i t v h1 h2 => (h.2 i t v h1 h2).mono H R⟩
theorem RdTs.nil (Z : Kn) (ρ : Rho) : RdTs Z ρ [] [] := ⟨rfl, fun i t v h => by simp at h⟩
theorem RdTs.cons {Z : Kn} {ρ : Rho} {t : T} {v : Value} {ts : List T} {vs : List Value} (h : RdT Z ρ t v) (hs : RdTs Z ρ ts vs) : RdTs Z ρ (t :: ts) (v :: vs) :=
  ⟨by simp [hs.1], fun i t' v' h1 h2 => by
    cases i with
    | zero => simp at h1 h2; subst h1 h2; exact h
    | succ i => exact hs.2 i t' v' (by simpa using h1) (by simpa using h2)⟩
theorem RdTs.uncons {Z : Kn} {ρ : Rho} {t : T} {ts : List T} {vs : List Value} (h : RdTs Z ρ (t :: ts) vs) : ∃ v vs', vs = v :: vs' ∧ RdT Z ρ t v ∧ RdTs Z ρ ts vs' := by
  cases vs with
  | nil => have := h.1; simp at this
  | cons v vs => exact ⟨v, vs, rfl, h.2 0 t v rfl rfl, by have := h.1; simpa using this, fun i t' v' h1 h2 => h.2 (i + 1) t' v' (by simpa using h1) (by simpa using h2)⟩
theorem RdTs.unnil {Z : Kn} {ρ : Rho} {vs : List Value} (h : RdTs Z ρ [] vs) : vs = [] := by
  have := h.1
  exact List.eq_nil_of_length_eq_zero (by simpa using this.symm)
theorem RdTs.at {Z : Kn} {ρ : Rho} {ts : List T} {vs : List Value} (h : RdTs Z ρ ts vs) {i : Nat} {t : T} (hi : ts[i]? = some t) : ∃ v, vs[i]? = some v ∧ RdT Z ρ t v := by
  have hl := (List.getElem?_eq_some_iff.1 hi).1
  rw [h.1] at hl
  exact ⟨vs[i], List.getElem?_eq_getElem hl, h.2 i t _ hi (List.getElem?_eq_getElem hl)⟩
theorem RdTs.drop {Z : Kn} {ρ : Rho} {ts : List T} {vs : List Value} (h : RdTs Z ρ ts vs) (n : Nat) : RdTs Z ρ (ts.drop n) (vs.drop n) :=
  ⟨by simp [h.1], fun i t v h1 h2 => by rw [List.getElem?_drop] at h1 h2; exact h.2 _ t v h1 h2⟩
theorem RdTs.take {Z : Kn} {ρ : Rho} {ts : List T} {vs : List Value} (h : RdTs Z ρ ts vs) (n : Nat) : RdTs Z ρ (ts.take n) (vs.take n) :=
  ⟨by simp [h.1], fun i t v h1 h2 => by
    have hi : i < n := by have := (List.getElem?_eq_some_iff.1 h1).1; simp at this; omega
    rw [List.getElem?_take_of_lt hi] at h1 h2
    exact h.2 _ t v h1 h2⟩
theorem RdTs.append {Z : Kn} {ρ : Rho} {ts us : List T} {vs ws : List Value} (h : RdTs Z ρ ts vs) (k : RdTs Z ρ us ws) : RdTs Z ρ (ts ++ us) (vs ++ ws) := by
  refine ⟨by simp [h.1, k.1], fun i t v h1 h2 => ?_⟩
  by_cases hi : i < ts.length
  · rw [List.getElem?_append_left hi] at h1
    rw [List.getElem?_append_left (by rw [← h.1]; exact hi)] at h2
    exact h.2 i t v h1 h2
  · rw [List.getElem?_append_right (by omega)] at h1
    rw [List.getElem?_append_right (by rw [← h.1]; omega), ← h.1] at h2
    exact k.2 _ t v h1 h2
theorem RdT.ofC {Z : Kn} {ρ : Rho} {c : C} {v : Value} (h : RdC Z c v) : RdT Z ρ (ofC c) v := by
  cases c with
  | b x => cases h; exact .q x
  | _ => exact .c _ v h
theorem ofC_one (c : C) : (ofC c).one = true := by cases c <;> rfl
theorem RdTs.ofCs {Z : Kn} {ρ : Rho} : ∀ {cs : List C} {vs : List Value}, cs.length = vs.length → (∀ (i : Nat) (c : C) (v : Value), cs[i]? = some c → vs[i]? = some v → RdC Z c v) → RdTs Z ρ (ofCs cs) vs
  | [], [], _, _ => RdTs.nil _ _
  | c :: cs, v :: vs, h, k => .cons (RdT.ofC (k 0 c v rfl rfl)) (RdTs.ofCs (by simpa using h) fun i c' v' h1 h2 => k (i + 1) c' v' (by simpa using h1) (by simpa using h2))
theorem ofCs_length : ∀ (cs : List C), (ofCs cs).length = cs.length
  | [] => rfl
  | _ :: cs => by simp [Vm.ofCs, ofCs_length cs]
theorem ofCs_get : ∀ (cs : List C) (i : Nat), (ofCs cs)[i]? = (cs[i]?).map ofC
  | [], i => by simp [Vm.ofCs]
  | _ :: cs, 0 => rfl
  | _ :: cs, i + 1 => by simpa [Vm.ofCs] using ofCs_get cs i

/-! ### the kinds of a value -/
section
variable {Z : Kn} {ρ : Rho} {v : Value}
theorem RdT.cI {x : C} (h : RdT Z ρ (.c x) v) : RdC Z x v := by cases h; assumption
theorem RdT.qI {e : Bool} (h : RdT Z ρ (.q e) v) : v = .bool e := by cases h; rfl
theorem RdT.nilI (h : RdT Z ρ .nil v) : v = .slice none 0 0 := by cases h; rfl
theorem RdT.skI {id : Nat} {els : List (List C)} (h : RdT Z ρ (.sk id els) v) : RdC Z (.sl els) v ∧ ∃ u n, ρ id = some (.tok u n) ∧ els.length ≤ n ∧ (els.length = n → v = u) := by
  cases h with
  | sk _ _ _ u n h hi hn he => exact ⟨h, u, n, hi, hn, he⟩
theorem RdT.rwI {id n cap : Nat} (h : RdT Z ρ (.rw id n cap) v) : ((∃ b, ρ id = some (.blk b) ∧ v = .slice (some ⟨b, 0, none⟩) n cap) ∨ (n = 0 ∧ cap = 0 ∧ v = .slice none 0 0)) ∧ n ≤ cap ∧ cap ≤ maxLen := by
  cases h with
  | rw _ _ b cap hi hc hm => exact ⟨.inl ⟨b, hi, rfl⟩, hc, hm⟩
  | rn _ => exact ⟨.inr ⟨rfl, rfl, rfl⟩, Nat.le_refl _, Nat.zero_le _⟩
theorem RdT.ptI {id off : Nat} (h : RdT Z ρ (.pt id off) v) : ∃ b, ρ id = some (.blk b) ∧ v = .pointer (some ⟨b, off, none⟩) := by
  cases h with
  | pt _ _ b hi => exact ⟨b, hi, rfl⟩
theorem RdT.peI {id i off sz : Nat} (h : RdT Z ρ (.pe id i off sz) v) : ∃ b, ρ id = some (.blk b) ∧ v = .pointer (some ⟨b, i * sz + off, none⟩) := by
  cases h with
  | pe _ _ _ _ b hi => exact ⟨b, hi, rfl⟩
theorem RdT.pfI {cs : List C} (h : RdT Z ρ (.pf cs) v) : ∃ b off, ∃ (u : Nat → Value), v = .pointer (some ⟨b, off, none⟩) ∧ ∀ (j : Nat) (c : C), cs[j]? = some c → Z b (off + j) = some (u j) ∧ RdC Z c (u j) := by
  cases h with
  | pf _ b off u hz hr => exact ⟨b, off, u, rfl, fun j c h => ⟨hz j c h, hr j c h⟩⟩
theorem RdT.npI (h : RdT Z ρ .np v) : v = .pointer none := by cases h; rfl
theorem RdT.agI {ts : List T} (h : RdT Z ρ (.ag ts) v) : ∃ vs : List Value, v = .agg vs.toArray ∧ RdTs Z ρ ts vs ∧ ∀ t ∈ ts, t.one = true := by
  cases h with
  | ag _ vs h1 h2 h3 => exact ⟨vs, rfl, ⟨h1, h2⟩, h3⟩
theorem RdT.tuI {ts : List T} (h : RdT Z ρ (.tu ts) v) : ∃ vs : List Value, v = .tuple vs.toArray ∧ RdTs Z ρ ts vs := by
  cases h with
  | tu _ vs h1 h2 => exact ⟨vs, rfl, ⟨h1, h2⟩⟩
theorem RdT.fnI {f : FuncId} {xs ys : List T} (h : RdT Z ρ (.fn f xs ys) v) : ∃ us vs : List Value, v = .func (.func f) us.toArray vs.toArray ∧ RdTs Z ρ xs us ∧ RdTs Z ρ ys vs := by
  cases h with
  | fn _ _ _ us vs h1 h2 h3 h4 => exact ⟨us, vs, rfl, ⟨h1, h2⟩, ⟨h3, h4⟩⟩
theorem RdT.nfI (h : RdT Z ρ .nf v) : v = .nilFunc := by cases h; rfl
theorem RdT.oneV {t : T} (h : RdT Z ρ t v) (h1 : t.one = true) : v.oneCell' = true := by
  cases h with
  | c x v h => exact h.one
  | sk _ _ _ u n h hi hn he => exact h.one
  | ag => cases h1
  | tu => cases h1
  | any => cases h1
  | _ => rfl
theorem RdT.mkAg {ts : List T} {vs : List Value} (h : RdTs Z ρ ts vs) (h1 : ∀ t ∈ ts, t.one = true) : RdT Z ρ (.ag ts) (.agg vs.toArray) := .ag ts vs h.1 h.2 h1
theorem RdT.undef (Z : Kn) (ρ : Rho) : RdT Z ρ (.tu []) undef := .tu [] [] rfl fun i t v h => by simp at h
theorem RdT.mkTu {ts : List T} {vs : List Value} (h : RdTs Z ρ ts vs) : RdT Z ρ (.tu ts) (.tuple vs.toArray) := .tu ts vs h.1 h.2
end
end Go.Proofs.Ytconhpilbndpkaa.Vm
namespace Go.Proofs.Ytconhpilbndpkaa.Vm
open Go.RowKit
set_option linter.unusedVariables false

/-! ### the cells of a block that may be written -/
def CellsAt (w : World) (b : Nat) (cells : List Value) : Prop := ∃ t fr, w.heap[b]? = some (.cells cells.toArray t fr) ∧ ∀ o, o < cells.length → (decide (fr.1 ≤ o) && decide (o < fr.2)) = false
theorem CellsAt.cell {w : World} {b : Nat} {cells : List Value} (h : CellsAt w b cells) (o : Nat) : w.cell? ⟨b, o, none⟩ = cells[o]? := by
  obtain ⟨t, fr, h1, _⟩ := h
  simp [World.cell?, h1]
theorem CellsAt.frozen {w : World} {b : Nat} {cells : List Value} (h : CellsAt w b cells) (o : Nat) (ho : o < cells.length) : w.frozen? ⟨b, o, none⟩ = false := by
  obtain ⟨t, ⟨lo, hi⟩, h1, h2⟩ := h
  simp only [World.frozen?, h1]
  exact h2 o ho
theorem CellsAt.lt {w : World} {b : Nat} {cells : List Value} (h : CellsAt w b cells) : b < w.heap.size := by
  obtain ⟨t, fr, h1, _⟩ := h
  exact (Array.getElem?_eq_some_iff.1 h1).1
theorem CellsAt.keep {w w' : World} {b : Nat} {cells : List Value} (h : CellsAt w b cells) (hk : w'.heap[b]? = w.heap[b]?) : CellsAt w' b cells := by
  obtain ⟨t, fr, h1, h2⟩ := h
  exact ⟨t, fr, hk.trans h1, h2⟩
theorem CellsAt.there {w : World} {b : Nat} {cells : List Value} (h : CellsAt w b cells) {o n : Nat} (ho : o + n ≤ cells.length) : w.there b o n := fun j hj => ⟨by rw [h.cell, List.getElem?_eq_getElem (by omega)]; rfl, h.frozen _ (by omega)⟩
theorem CellsAt.new (w : World) (cells : List Value) (t : TypeId) : CellsAt (w.alloc (.cells cells.toArray t)) w.heap.size cells := ⟨t, (0, 0), heap_alloc_new w _, fun o _ => by simp⟩

theorem heap_setCell_far {w : World} {b o b' : Nat} {u : Value} (hb : b' ≠ b) : (w.setCell ⟨b, o, none⟩ u).heap[b']? = w.heap[b']? := Below.heap_setCell w ⟨b, o, none⟩ u b' hb
theorem CellsAt.setCell {w : World} {b : Nat} {cells : List Value} (h : CellsAt w b cells) (o : Nat) (u : Value) : CellsAt (w.setCell ⟨b, o, none⟩ u) b (cells.set o u) := by
  obtain ⟨t, fr, h1, h2⟩ := h
  refine ⟨t, fr, ?_, fun o' ho' => h2 o' (by simpa using ho')⟩
  simp only [World.setCell, Array.getElem?_modify, h1]
  simp
theorem CellsAt.setCells {b : Nat} : ∀ (us : List Value) (o : Nat) (w : World) (cells : List Value), CellsAt w b cells → o + us.length ≤ cells.length → ∃ cells', CellsAt (w.setCells b o us) b cells' ∧ cells'.length = cells.length ∧ ∀ j : Nat, cells'[j]? = if o ≤ j ∧ j < o + us.length then us[j - o]? else cells[j]?
  | [], o, w, cells, h, _ => ⟨cells, h, rfl, fun j => by rw [if_neg (by simp)]⟩
  | u :: us, o, w, cells, h, hl => by
    simp only [List.length_cons] at hl
    obtain ⟨cells', k1, k2, k3⟩ := CellsAt.setCells us (o + 1) _ _ (h.setCell o u) (by simp; omega)
    refine ⟨cells', by rw [World.setCells]; exact k1, by rw [k2]; simp, fun j => ?_⟩
    rw [k3 j]
    by_cases hj : o = j
    · subst hj
      rw [if_neg (by omega), if_pos (by simp), List.getElem?_set_self (by omega)]
      simp
    · by_cases hc : o + 1 ≤ j ∧ j < o + 1 + us.length
      · rw [if_pos hc, if_pos (by simp; omega), show j - o = (j - (o + 1)) + 1 by omega, List.getElem?_cons_succ]
      · rw [if_neg hc, if_neg (by simp; omega), List.getElem?_set_ne hj]
theorem heap_setCells_far {b b' : Nat} (hb : b' ≠ b) : ∀ (us : List Value) (o : Nat) (w : World), (w.setCells b o us).heap[b']? = w.heap[b']?
  | [], o, w => rfl
  | u :: us, o, w => by rw [World.setCells, heap_setCells_far hb us, heap_setCell_far hb]
theorem size_setCells {b : Nat} : ∀ (us : List Value) (o : Nat) (w : World), (w.setCells b o us).heap.size = w.heap.size
  | [], o, w => rfl
  | u :: us, o, w => by rw [World.setCells, size_setCells us]; simp [World.setCell]
theorem rest_setCells {b : Nat} : ∀ (us : List Value) (o : Nat) (w : World), (w.setCells b o us).os = w.os ∧ (w.setCells b o us).tape = w.tape ∧ (w.setCells b o us).output = w.output
  | [], o, w => ⟨rfl, rfl, rfl⟩
  | u :: us, o, w => by rw [World.setCells]; exact rest_setCells us (o + 1) _
/-- what is not one's own stays -/
structure Bel (own : Nat → Prop) (w w' : World) : Prop where
  os : w'.os = w.os
  tape : w'.tape = w.tape
  output : w'.output = w.output
  size : w.heap.size ≤ w'.heap.size
  block : ∀ k, ¬ own k → w'.heap[k]? = w.heap[k]?
theorem Bel.refl (own : Nat → Prop) (w : World) : Bel own w w := ⟨rfl, rfl, rfl, Nat.le_refl _, fun _ _ => rfl⟩
theorem Bel.trans {own : Nat → Prop} {a b c : World} (h : Bel own a b) (k : Bel own b c) : Bel own a c :=
  ⟨k.os.trans h.os, k.tape.trans h.tape, k.output.trans h.output, Nat.le_trans h.size k.size, fun i hi => (k.block i hi).trans (h.block i hi)⟩
theorem Bel.of {own : Nat → Prop} {n : Nat} {w w' : World} (h : Below n w w') (hn : ∀ b, n ≤ b → own b) : Bel own w w' := ⟨h.os, h.tape, h.output, h.size, fun k hk => h.block k (Nat.lt_of_not_le fun h => hk (hn k h))⟩
theorem Bel.below {n : Nat} {w w' : World} (h : Bel (fun b => n ≤ b) w w') : Below n w w' := ⟨h.os, h.tape, h.output, h.size, fun k hk => h.block k (Nat.not_le_of_lt hk)⟩
theorem bel_setCells {own : Nat → Prop} {b : Nat} (hb : own b) (us : List Value) (o : Nat) (w : World) : Bel own w (w.setCells b o us) :=
  ⟨(rest_setCells us o w).1, (rest_setCells us o w).2.1, (rest_setCells us o w).2.2, by rw [size_setCells]; exact Nat.le_refl _, fun k hk => heap_setCells_far (fun e => hk (by rw [e]; exact hb)) us o w⟩
theorem below_setCells {B b : Nat} (hb : B ≤ b) (us : List Value) (o : Nat) (w : World) : Below B w (w.setCells b o us) :=
  ⟨(rest_setCells us o w).1, (rest_setCells us o w).2.1, (rest_setCells us o w).2.2, by rw [size_setCells]; exact Nat.le_refl _, fun k hk => heap_setCells_far (by omega) us o w⟩

/-! ### the machine's memory -/
theorem mget_set (m : Mem) (k j : Nat) (v : Obj) : mget (mset m k v) j = if k = j then some v else mget m j := by
  induction m with
  | nil =>
    simp only [mset, mget]
    by_cases h : k = j
    · subst h; simp
    · have : Nat.beq k j = false := by cases hb : Nat.beq k j; rfl; exact absurd (Nat.eq_of_beq_eq_true hb) h
      simp [h, this]
  | cons p m ih =>
    simp only [mset]
    cases hb : Nat.beq p.1 k with
    | true =>
      have e := Nat.eq_of_beq_eq_true hb
      subst e
      simp only [mget]
      cases hj : Nat.beq p.1 j with
      | true => rw [if_pos (Nat.eq_of_beq_eq_true hj)]
      | false => rw [if_neg (fun e => by subst e; simp at hj)]
    | false =>
      simp only [mget, ih]
      cases hj : Nat.beq p.1 j with
      | true =>
        have e := Nat.eq_of_beq_eq_true hj
        have hne : ¬ k = j := fun e' => by subst e'; rw [e] at hb; simp at hb
        simp [hne]
      | false => rfl
theorem mget_cons (p : Nat × Obj) (m : Mem) (j : Nat) : mget (p :: m) j = if p.1 = j then some p.2 else mget m j := by
  simp only [mget]
  cases hb : Nat.beq p.1 j with
  | true => rw [if_pos (Nat.eq_of_beq_eq_true hb)]
  | false => rw [if_neg (fun e => by subst e; simp at hb)]
theorem get_set (a : Slots) (k j : Nat) (v : T) : get (set a k v) j = if k = j then v else get a j := by
  induction a with
  | nil =>
    simp only [set, get]
    by_cases h : k = j
    · subst h; simp
    · have : Nat.beq k j = false := by cases hb : Nat.beq k j; rfl; exact absurd (Nat.eq_of_beq_eq_true hb) h
      simp [h, this]
  | cons p a ih =>
    simp only [set]
    cases hb : Nat.beq p.1 k with
    | true =>
      have e := Nat.eq_of_beq_eq_true hb
      subst e
      simp only [get]
      cases hj : Nat.beq p.1 j with
      | true => rw [if_pos (Nat.eq_of_beq_eq_true hj)]
      | false => rw [if_neg (fun e => by subst e; simp at hj)]
    | false =>
      simp only [get, ih]
      cases hj : Nat.beq p.1 j with
      | true =>
        have e := Nat.eq_of_beq_eq_true hj
        have hne : ¬ k = j := fun e' => by subst e'; rw [e] at hb; simp at hb
        simp [hne]
      | false => rfl

def ObjR (Z : Kn) (ρ : Rho) (B : Nat → Prop) (w : World) (id : Nat) : Obj → Prop
  | .box ts => ∃ b vs, ρ id = some (.blk b) ∧ B b ∧ CellsAt w b vs ∧ RdTs Z ρ ts vs ∧ (∀ t ∈ ts, t.one = true) ∧ ∀ o, Z b o = none
  | .tok sz els => ∃ v, ρ id = some (.tok v els.length) ∧ RdC Z (.sl els) v ∧ (v = .slice none 0 0 ∨ ∃ b cap cells, v = .slice (some ⟨b, 0, none⟩) els.length cap ∧ B b ∧ CellsAt w b cells ∧ cells.length = cap * sz ∧
      (∀ (k : Nat) (cs : List C), els[k]? = some cs → cs.length = sz) ∧ (els = [] → cap = 0) ∧ ∀ o, els.length * sz ≤ o → Z b o = none)
  | .row els cap => (els = [] ∧ cap = 0 ∧ ρ id = some (.tok (.slice none 0 0) 0)) ∨ ∃ b cells sz, ρ id = some (.blk b) ∧ B b ∧ CellsAt w b cells ∧ cells.length = cap * sz ∧ (els.length ≤ cap ∧ cap ≤ maxLen ∧ (els = [] → cap = 0)) ∧ (∀ (k : Nat) (cs : List C), els[k]? = some cs → cs.length = sz) ∧
      (∀ (k : Nat) (cs : List C) (j : Nat) (c : C), els[k]? = some cs → cs[j]? = some c → ∃ v, cells[k * sz + j]? = some v ∧ RdC Z c v) ∧ ∀ o, Z b o = none
def BlkOf (ρ : Rho) (id b : Nat) : Prop := ∃ l, ρ id = some l ∧ l.B = some b
structure Ctx where
  P : Program
  w0 : World
  Z0 : Kn
  n : Nat
  fin : Exit → Act → World → Prop
  own : Nat → Prop
  hown : ∀ b, w0.heap.size ≤ b → own b
  k : Nat
  ρ0 : Rho
abbrev Ctx.B (X : Ctx) : Nat := X.w0.heap.size
def KnOk (Z : Kn) (w : World) : Prop := ∀ b o u, Z b o = some u → w.cell? ⟨b, o, none⟩ = some u
theorem KnOk.lt {Z : Kn} {w : World} (h : KnOk Z w) {b o : Nat} {u : Value} (e : Z b o = some u) : b < w.heap.size := World.block_lt_of_cell? w _ (h b o u e)
structure Rel (X : Ctx) (Z : Kn) (ρ : Rho) (m : Mem) (nx : Nat) (w : World) : Prop where
  below : Bel X.own X.w0 w
  kn : KnOk Z w
  z0 : ∀ b o, ¬ X.own b → Z b o = X.Z0 b o
  kle : KLe X.Z0 Z
  obj : ∀ id o, mget m id = some o → id < nx ∧ ObjR Z ρ X.own w id o
  apart : ∀ i j oi oj b, mget m i = some oi → mget m j = some oj → BlkOf ρ i b → BlkOf ρ j b → i = j
  fresh : ∀ id, nx ≤ id → ρ id = none
  kb : X.k ≤ nx
  anch : ∀ id, id < X.k → LLe (X.ρ0 id) (ρ id)

theorem ObjR.blk {Z : Kn} {ρ : Rho} {B : Nat → Prop} {w : World} {id : Nat} {o : Obj} (h : ObjR Z ρ B w id o) {b : Nat} (hb : BlkOf ρ id b) : B b ∧ b < w.heap.size := by
  obtain ⟨l, h1, h2⟩ := hb
  cases o with
  | box ts =>
    obtain ⟨b', vs, k1, k2, k3, _⟩ := h
    rw [k1] at h1; injection h1 with h1; subst h1; injection h2 with h2; subst h2
    exact ⟨k2, k3.lt⟩
  | row els cap =>
    rcases h with ⟨_, _, k1⟩ | ⟨b', vs, sz, k1, k2, k3, _⟩
    · rw [k1] at h1; injection h1 with h1; subst h1; cases h2
    · rw [k1] at h1; injection h1 with h1; subst h1; injection h2 with h2; subst h2
      exact ⟨k2, k3.lt⟩
  | tok sz els =>
    obtain ⟨v, k1, k2, k3⟩ := h
    rw [k1] at h1; injection h1 with h1; subst h1
    rcases k3 with rfl | ⟨b', cap, cells, rfl, k4, k5, _⟩
    · cases h2
    · injection h2 with h2; subst h2
      exact ⟨k4, k5.lt⟩
/-- an object stays where its block stays -/
theorem ObjR.keep {Z Z' : Kn} {ρ ρ' : Rho} {B : Nat → Prop} {w w' : World} {id : Nat} {o : Obj} (h : ObjR Z ρ B w id o) (hz : KLe Z Z') (hr : RLe ρ ρ') (hi : ρ' id = ρ id)
    (hk : ∀ b, BlkOf ρ id b → w'.heap[b]? = w.heap[b]? ∧ ∀ o, Z' b o = Z b o) : ObjR Z' ρ' B w' id o := by
  cases o with
  | box ts =>
    obtain ⟨b, vs, k1, k2, k3, k4, k5, k6⟩ := h
    obtain ⟨g1, g2⟩ := hk b ⟨_, k1, rfl⟩
    exact ⟨b, vs, hi.trans k1, k2, k3.keep g1, k4.mono hz hr, k5, fun o => (g2 o).trans (k6 o)⟩
  | row els cap =>
    rcases h with ⟨e1, e2, k1⟩ | ⟨b, cells, sz, k1, k2, k3, k4, k4', k5, k6, k7⟩
    · exact .inl ⟨e1, e2, hi.trans k1⟩
    · obtain ⟨g1, g2⟩ := hk b ⟨_, k1, rfl⟩
      exact .inr ⟨b, cells, sz, hi.trans k1, k2, k3.keep g1, k4, k4', k5, fun k cs j c a1 a2 => let ⟨v, e1, e2⟩ := k6 k cs j c a1 a2; ⟨v, e1, e2.mono hz⟩, fun o => (g2 o).trans (k7 o)⟩
  | tok sz els =>
    obtain ⟨v, k1, k2, k3⟩ := h
    refine ⟨v, hi.trans k1, k2.mono hz, ?_⟩
    rcases k3 with rfl | ⟨b, cap, cells, rfl, k4, k5, k6, k7, k8, k9⟩
    · exact .inl rfl
    · obtain ⟨g1, g2⟩ := hk b ⟨_, k1, rfl⟩
      exact .inr ⟨b, cap, cells, rfl, k4, k5.keep g1, k6, k7, k8, fun o ho => (g2 o).trans (k9 o ho)⟩

def Obj.still : Obj → Bool
  | .tok _ _ => false
  | _ => true
/-- the world reads as it did: what is known, the boxes and the rows -/
def TW (Z : Kn) (ρ : Rho) (m : Mem) (w W : World) : Prop := KnOk Z W ∧ ∀ id o b, mget m id = some o → o.still = true → ρ id = some (.blk b) → W.heap[b]? = w.heap[b]?
theorem Rel.tw {X : Ctx} {Z : Kn} {ρ : Rho} {m : Mem} {nx : Nat} {w : World} (H : Rel X Z ρ m nx w) : TW Z ρ m w w := ⟨H.kn, fun _ _ _ _ _ _ => rfl⟩
theorem Rel.size {X : Ctx} {Z : Kn} {ρ : Rho} {m : Mem} {nx : Nat} {w : World} (H : Rel X Z ρ m nx w) : X.B ≤ w.heap.size := H.below.size
/-- memory is only added -/
theorem Rel.step {X : Ctx} {Z Z' : Kn} {ρ : Rho} {m : Mem} {nx : Nat} {w w' : World} (H : Rel X Z ρ m nx w) (hb : Below w.heap.size w w') (hk : KnOk Z' w') (hz : ∀ b o, b < w.heap.size → Z' b o = Z b o) : KLe Z Z' ∧ Rel X Z' ρ m nx w' := by
  have hle : KLe Z Z' := fun b o v e => (hz b o (H.kn.lt e)).trans e
  refine ⟨hle, H.below.trans (Bel.of hb fun b h => X.hown b (Nat.le_trans H.size h)), hk, fun b o h => (hz b o (Nat.lt_of_not_le fun h' => h (X.hown b (Nat.le_trans H.size h')))).trans (H.z0 b o h), H.kle.trans hle, fun id o e => ?_, H.apart, H.fresh, H.kb, H.anch⟩
  obtain ⟨h1, h2⟩ := H.obj id o e
  refine ⟨h1, h2.keep hle (RLe.refl _) rfl fun b hbb => ?_⟩
  have hlt := (h2.blk hbb).2
  exact ⟨hb.block b hlt, fun o => hz b o hlt⟩
def updR (ρ : Rho) (id : Nat) (l : Loc) : Rho := fun i => if i = id then some l else ρ i
theorem updR_same (ρ : Rho) (id : Nat) (l : Loc) : updR ρ id l id = some l := if_pos rfl
theorem updR_ne (ρ : Rho) {id i : Nat} (l : Loc) (h : i ≠ id) : updR ρ id l i = ρ i := if_neg h
theorem updR_le {ρ : Rho} {id : Nat} (l : Loc) (h : ρ id = none) : RLe ρ (updR ρ id l) := fun i => by
  by_cases hi : i = id
  · subst hi; rw [h]; trivial
  · rw [updR_ne ρ l hi]; exact LLe.refl _
/-- a new object in a new block -/
theorem Rel.new {X : Ctx} {Z Z' : Kn} {ρ : Rho} {m : Mem} {nx : Nat} {w w' : World} (H : Rel X Z ρ m nx w) (hb : Below w.heap.size w w') (hk : KnOk Z' w') (hz : ∀ b o, b < w.heap.size → Z' b o = Z b o)
    (l : Loc) (o : Obj) (hl : ∀ b, l.B = some b → w.heap.size ≤ b) (ho : ObjR Z' (updR ρ nx l) X.own w' nx o) :
    KLe Z Z' ∧ RLe ρ (updR ρ nx l) ∧ Rel X Z' (updR ρ nx l) ((nx, o) :: m) (nx + 1) w' := by
  obtain ⟨hle, H'⟩ := H.step hb hk hz
  have hr := updR_le l (H.fresh nx (Nat.le_refl _))
  refine ⟨hle, hr, H'.below, H'.kn, H'.z0, H'.kle, fun id o' e => ?_, fun i j oi oj b ei ej bi bj => ?_, fun id hid => ?_, Nat.le_succ_of_le H.kb, fun id hid => (by rw [updR_ne ρ l (show id ≠ nx by have := H.kb; omega)]; exact H.anch id hid)⟩
  · rw [mget_cons] at e
    by_cases hi : nx = id
    · rw [if_pos hi] at e
      injection e with e; subst hi e
      exact ⟨Nat.lt_succ_self _, ho⟩
    · rw [if_neg hi] at e
      obtain ⟨h1, h2⟩ := H'.obj id o' e
      exact ⟨Nat.lt_succ_of_lt h1, h2.keep (KLe.refl _) hr (updR_ne ρ l (fun e => hi e.symm)) fun b _ => ⟨rfl, fun _ => rfl⟩⟩
  · rw [mget_cons] at ei ej
    have old : ∀ i oi, mget m i = some oi → BlkOf (updR ρ nx l) i b → i ≠ nx ∧ BlkOf ρ i b ∧ b < w.heap.size := fun i oi e hbi => by
      obtain ⟨h1, h2⟩ := H.obj i oi e
      have hne : i ≠ nx := by omega
      obtain ⟨l', k1, k2⟩ := hbi
      rw [updR_ne ρ l hne] at k1
      exact ⟨hne, ⟨l', k1, k2⟩, (h2.blk ⟨l', k1, k2⟩).2⟩
    have new : BlkOf (updR ρ nx l) nx b → w.heap.size ≤ b := fun ⟨l', k1, k2⟩ => by
      rw [updR_same] at k1
      injection k1 with k1; subst k1
      exact hl b k2
    by_cases hi : nx = i <;> by_cases hj : nx = j
    · omega
    · subst hi
      rw [if_neg hj] at ej
      have h1 := new bi
      have h2 := (old j oj ej bj).2.2
      omega
    · subst hj
      rw [if_neg hi] at ei
      have h1 := new bj
      have h2 := (old i oi ei bi).2.2
      omega
    · rw [if_neg hi] at ei
      rw [if_neg hj] at ej
      exact H.apart i j oi oj b ei ej (old i oi ei bi).2.1 (old j oj ej bj).2.1
  · rw [updR_ne ρ l (by omega)]
    exact H.fresh id (by omega)
/-- a box is made -/
theorem Rel.box {X : Ctx} {Z : Kn} {ρ : Rho} {m : Mem} {nx : Nat} {w : World} (H : Rel X Z ρ m nx w) {ts : List T} {vs : List Value} (h : RdTs Z ρ ts vs) (h1 : ∀ t ∈ ts, t.one = true) (t : TypeId) :
    ∃ ρ', RLe ρ ρ' ∧ Rel X Z ρ' ((nx, .box ts) :: m) (nx + 1) (w.alloc (.cells vs.toArray t)) ∧ RdT Z ρ' (.pt nx 0) (.pointer (some ⟨w.heap.size, 0, none⟩)) := by
  have hb : Below w.heap.size w (w.alloc (.cells vs.toArray t)) := (Below.refl _ _).alloc (Nat.le_refl _) _
  have hk : KnOk Z (w.alloc (.cells vs.toArray t)) := fun b o u e => (hb.cell (p := ⟨b, o, none⟩) (H.kn.lt e)).trans (H.kn b o u e)
  have hr := updR_le (.blk w.heap.size) (H.fresh nx (Nat.le_refl _))
  obtain ⟨_, k2, k3⟩ := H.new hb hk (fun _ _ _ => rfl) (.blk w.heap.size) (.box ts) (fun b e => by injection e with e; omega)
    ⟨w.heap.size, vs, updR_same _ _ _, X.hown _ H.size, CellsAt.new w vs t, h.mono (KLe.refl _) hr, h1, fun o => by
      cases e : Z w.heap.size o with
      | none => rfl
      | some u => exact absurd (H.kn.lt e) (by omega)⟩
  exact ⟨_, k2, k3, .pt nx 0 _ (updR_same _ _ _)⟩
/-- cells of a box are set -/
theorem Rel.put {X : Ctx} {Z : Kn} {ρ : Rho} {m : Mem} {nx : Nat} {w : World} (H : Rel X Z ρ m nx w) {id b off : Nat} {ts us : List T} {vs : List Value} (hm : mget m id = some (.box ts)) (hi : ρ id = some (.blk b))
    (h : RdTs Z ρ us vs) (h1 : ∀ t ∈ us, t.one = true) (hl : off + us.length ≤ ts.length) : w.there b off vs.length ∧ Rel X Z ρ (mset m id (.box (putAt off us ts))) nx (w.setCells b off vs) := by
  obtain ⟨hid, b', cells, k1, k2, k3, k4, k5, k6⟩ := H.obj id _ hm
  rw [hi] at k1; injection k1 with k1; injection k1 with k1; subst k1
  have hl' : off + vs.length ≤ cells.length := by rw [← k4.1, ← h.1]; exact hl
  obtain ⟨cells', g1, g2, g3⟩ := CellsAt.setCells vs off w cells k3 hl'
  have hbe := bel_setCells k2 vs off w
  have far : ∀ b', b' ≠ b → (w.setCells b off vs).heap[b']? = w.heap[b']? := fun b' hb' => heap_setCells_far hb' vs off w
  refine ⟨k3.there hl', H.below.trans hbe, fun b' o u e => ?_, H.z0, H.kle, fun j o e => ?_, fun i j oi oj b' ei ej => ?_, H.fresh, H.kb, H.anch⟩
  · have hne : b' ≠ b := fun e' => by subst e'; rw [k6] at e; cases e
    exact (World.cell?_of_block (a := ⟨b', o, none⟩) (far b' hne)).trans (H.kn b' o u e)
  · rw [mget_set] at e
    by_cases hj : id = j
    · rw [if_pos hj] at e
      injection e with e; subst hj e
      refine ⟨hid, b, cells', hi, k2, g1, ⟨?_, fun i t v e1 e2 => ?_⟩, fun t ht => ?_, k6⟩
      · rw [putAt_length _ _ _ hl, g2, k4.1]
      · rw [putAt_get _ _ _ _ hl] at e1
        rw [g3] at e2
        rw [← h.1] at e2
        by_cases hc : off ≤ i ∧ i < off + us.length
        · rw [if_pos hc] at e1 e2; exact h.2 _ t v e1 e2
        · rw [if_neg hc] at e1 e2; exact k4.2 _ t v e1 e2
      · obtain ⟨i, hi', rfl⟩ := List.getElem_of_mem ht
        have e1 := List.getElem?_eq_getElem hi'
        rw [putAt_get _ _ _ _ hl] at e1
        by_cases hc : off ≤ i ∧ i < off + us.length
        · rw [if_pos hc] at e1; exact h1 _ (List.mem_of_getElem? e1)
        · rw [if_neg hc] at e1; exact k5 _ (List.mem_of_getElem? e1)
    · rw [if_neg hj] at e
      obtain ⟨q1, q2⟩ := H.obj j o e
      refine ⟨q1, q2.keep (KLe.refl _) (RLe.refl _) rfl fun b' hb' => ⟨far b' (fun e' => ?_), fun _ => rfl⟩⟩
      subst e'
      exact hj (H.apart id j _ _ b' hm e ⟨_, hi, rfl⟩ hb')
  · have back : ∀ i oi, mget (mset m id (.box (putAt off us ts))) i = some oi → ∃ o, mget m i = some o := fun i oi e => by
      rw [mget_set] at e
      by_cases h : id = i
      · subst h; exact ⟨_, hm⟩
      · rw [if_neg h] at e; exact ⟨_, e⟩
    obtain ⟨oi', ei'⟩ := back i oi ei
    obtain ⟨oj', ej'⟩ := back j oj ej
    exact H.apart i j oi' oj' b' ei' ej'
end Go.Proofs.Ytconhpilbndpkaa.Vm
namespace Go.Proofs.Ytconhpilbndpkaa.Vm
open Go.RowKit
set_option linter.unusedVariables false

/-! ### the arithmetic that is meant -/
def realZ : ZO where
  bi op k x y := match op with | .add => k.wrap (x + y) | .sub => k.wrap (x - y) | .mul => k.wrap (x * y) | _ => 0
  ci op x y := match op with | .eql => x == y | .neq => x != y | .lss => decide (x < y) | .leq => decide (x ≤ y) | .gtr => decide (y < x) | .geq => decide (y ≤ x) | _ => false
  cs op x y := match op with | .eql => x == y | .neq => !(x == y) | .lss => Op.bytesLess x y | .leq => !Op.bytesLess y x | .gtr => Op.bytesLess y x | .geq => !Op.bytesLess x y | _ => false
  ln els := (els.length : Int)
  lns l := (l.length : Int)
  nt e := !e
  pk c x y := if c then x else y
  ng k n := k.wrap (-n)
  cv k n := k.wrap n
  mx x y := if y > x then y else x
  mn x y := if y < x then y else x

structure TyOk (P : Program) (t : TypeId) (i : TyI) : Prop where
  agg : ∀ w, (isAgg t).run P w = .ok i.agg w
  row : i.agg = true → ∃ fs, P.underlying t = some (.struct fs) ∧ i.fields.length = fs.size ∧ ∀ (f : Nat) p, i.fields[f]? = some p → ∃ fd, fs[f]? = some fd ∧ fd.offset = p.1 ∧ (∀ w, (isAgg fd.type).run P w = .ok p.2.1 w) ∧ (∀ w, (sizeOf fd.type).run P w = .ok p.2.2 w) ∧ 0 < p.2.2
  nofld : i.agg = false → i.fields = []
  size : (P.info? t).map (·.size) = some i.size
  zero : ∃ zv : Value, (∀ w, (zeroValue t).run P w = .ok zv w) ∧ (i.agg = true → ∃ a, zv = .agg a) ∧ i.zero = zv.cells.toList.map constT ∧ zv.cells.size = i.size
  inf : ∃ j z, P.info? t = some j ∧ j.size = i.size ∧ j.bytes ≤ 1048576 ∧ j.zero = some z ∧ z.cells.size = i.size
  sl : i.kind = .sl → P.underlying t = some (.slice i.elem)
  str : i.kind = .str → P.underlying t = some .string
def TIok (P : Program) (ti : TI) : Prop := ∀ t i, tget ti t = some i → TyOk P t i

theorem TyOk.sz {P : Program} {t : TypeId} {i : TyI} (h : TyOk P t i) (w : World) : (sizeOf t).run P w = .ok i.size w := by
  have := h.size
  cases hi : P.info? t with
  | none => rw [hi] at this; cases this
  | some j =>
    rw [hi] at this
    injection this with this
    simp [sizeOf, typeInfo, hi, this]

/-! ### operands -/
def RdS (Z : Kn) (ρ : Rho) (a : Slots) (tmps : Array Value) : Prop := ∀ k, RdT Z ρ (get a k) (tmps.getD k undef)
theorem RdS.mono {Z Z' : Kn} {ρ ρ' : Rho} (H : KLe Z Z') (R : RLe ρ ρ') {a : Slots} {x : Array Value} (h : RdS Z ρ a x) : RdS Z' ρ' a x := fun k => (h k).mono H R
theorem RdS.set {Z : Kn} {ρ : Rho} {a : Slots} {x : Array Value} (h : RdS Z ρ a x) {d : Nat} (hd : d < x.size) {t : T} {v : Value} (ht : RdT Z ρ t v) : RdS Z ρ (set a d t) (x.setIfInBounds d v) := fun k => by
  rw [get_set]
  by_cases hk : d = k
  · subst hk
    rw [if_pos rfl]
    simpa [Array.getD, hd] using ht
  · rw [if_neg hk]
    have e : (x.setIfInBounds d v).getD k undef = x.getD k undef := by simp only [Array.getD_eq_getD_getElem?, Array.getElem?_setIfInBounds_ne hk]
    rw [e]
    exact h k
theorem constT_rel (Z : Kn) (ρ : Rho) (v : Value) : RdT Z ρ (constT v) v := by
  unfold constT
  split
  · exact .c _ _ (.b _)
  · exact .c _ _ (.i _ _)
  · exact .c _ _ (.s _)
  · exact .nil
  · exact .np
  · exact .nf
  · exact .any _
theorem evT_rel {Z : Kn} {ρ : Rho} {a : Slots} {act : Act} (h : RdS Z ρ a act.tmps) (x : Operand) : RdT Z ρ (evT a x) (act.eval x) := by
  cases x with
  | tmp t => exact h t
  | const v => exact constT_rel Z ρ v
  | func f => exact .fn f [] [] [] [] rfl (fun i t v h => by simp at h) rfl (fun i t v h => by simp at h)
  | global g => exact .any _
theorem allOne_eq : ∀ (l : List T), allOne l = true → ∀ t ∈ l, t.one = true
  | [], _, t, h => by simp at h
  | x :: l, h, t, ht => by
    have h2 : allOne l = true ∧ x.one = true := by
      cases x <;> first | (exact ⟨h, rfl⟩) | cases h
    rcases List.mem_cons.1 ht with rfl | ht
    · exact h2.2
    · exact allOne_eq l h2.1 t ht
theorem cellsT_rel {Z : Kn} {ρ : Rho} {t : T} {v : Value} (h : RdT Z ρ t v) (h1 : allOne (cellsT t) = true) : RdTs Z ρ (cellsT t) v.cells.toList := by
  cases h with
  | ag ts vs a1 a2 a3 => exact ⟨by show ts.length = vs.toArray.toList.length; simpa using a1, fun i t v e1 e2 => a2 i t v e1 (by simpa using (show vs.toArray.toList[i]? = some v from e2))⟩
  | tu => cases h1
  | any => cases h1
  | c x v h => rw [h.cells]; exact .cons (.c x v h) (.nil _ _)
  | sk id els v u n h hi hn he => rw [h.cells]; exact .cons (.sk id els v u n h hi hn he) (.nil _ _)
  | q e => exact .cons (.q e) (.nil _ _)
  | nil => exact .cons .nil (.nil _ _)
  | rw id n b cap hi hc hm => exact .cons (.rw id n b cap hi hc hm) (.nil _ _)
  | rn id => exact .cons (.rn id) (.nil _ _)
  | pt id off b hi => exact .cons (.pt id off b hi) (.nil _ _)
  | pf cs b off v hz hr => exact .cons (.pf cs b off v hz hr) (.nil _ _)
  | pe id i off sz b hi => exact .cons (.pe id i off sz b hi) (.nil _ _)
  | rp id off n cap b hi => exact .cons (.rp id off n cap b hi) (.nil _ _)
  | np => exact .cons .np (.nil _ _)
  | fn f xs ys us vs q1 q2 q3 q4 => exact .cons (.fn f xs ys us vs q1 q2 q3 q4) (.nil _ _)
  | nf => exact .cons .nf (.nil _ _)
theorem toC_rel {Z : Kn} {ρ : Rho} {t : T} {v : Value} {c : C} (h : RdT Z ρ t v) (e : toC t = some c) : RdC Z c v := by
  cases h <;> first | (cases e; done) | (injection e with e; subst e) | skip
  · assumption
  · exact .b _
  · exact .nl none 0 (Nat.zero_le _)
  · assumption
  · exact .np
theorem toCs_rel {Z : Kn} {ρ : Rho} : ∀ {ts : List T} {vs : List Value} {cs : List C}, RdTs Z ρ ts vs → toCs ts = some cs → cs.length = vs.length ∧ ∀ (i : Nat) (c : C) (v : Value), cs[i]? = some c → vs[i]? = some v → RdC Z c v
  | [], vs, cs, h, e => by
    injection e with e; subst e
    obtain rfl := h.unnil
    exact ⟨rfl, fun i c v h => by simp at h⟩
  | t :: ts, vs, cs, h, e => by
    obtain ⟨v, vs', rfl, h1, h2⟩ := h.uncons
    unfold toCs at e
    split at e
    · rename_i c hc
      split at e
      · rename_i l hl
        injection e with e; subst e
        obtain ⟨k1, k2⟩ := toCs_rel h2 hl
        refine ⟨by simp [k1], fun i c' v' a1 a2 => ?_⟩
        cases i with
        | zero => simp at a1 a2; subst a1 a2; exact toC_rel h1 hc
        | succ i => exact k2 i c' v' (by simpa using a1) (by simpa using a2)
      · cases e
    · cases e
theorem kEq_eq {k k' : IntKind} (h : kEq k k' = true) : k = k' := by cases k <;> cases k' <;> first | rfl | cases h

section
variable {P : Program} {ti : TI} {X : Ctx} {Z : Kn} {ρ : Rho} {m : Mem} {nx : Nat} {a : Slots} {act : Act} {w : World}
/-- a part of an aggregate -/
theorem part_rel {t : TypeId} {g : Bool} {n off : Nat} {ts : List T} {r : T} (h : partT g n off ts = some r) {vs : List Value} (hv : RdTs Z ρ ts vs) (h1 : ∀ t ∈ ts, t.one = true) (ha : ∀ w, (isAgg t).run P w = .ok g w) (hs : ∀ w, (sizeOf t).run P w = .ok n w) :
    ∃ v, (∀ w, (part t vs.toArray off).run P w = .ok v w) ∧ RdT Z ρ r v := by
  unfold partT at h
  cases g with
  | true =>
    simp only at h
    split at h
    · rename_i l hl
      injection h with h; subst h
      obtain ⟨rfl, hn⟩ := takeL_some _ _ _ hl
      rw [dropL_eq] at hn ⊢
      refine ⟨.agg (vs.toArray.extract off (off + n)), fun w => by simp [part, ha, hs], ?_⟩
      have := RdT.mkAg ((hv.drop off).take n) (fun t ht => h1 t (List.mem_of_mem_drop (List.mem_of_mem_take ht)))
      have e : ((vs.drop off).take n).toArray = vs.toArray.extract off (off + n) := by
        apply Array.ext'
        simp [List.take_drop]
      rw [e] at this
      exact this
    · cases h
  | false =>
    simp only [nth_eq] at h
    obtain ⟨v, k1, k2⟩ := hv.at h
    exact ⟨v, fun w => by simp [part, ha, k1], k2⟩
theorem load_rel (hti : TIok P ti) (H : Rel X Z ρ m nx w) {t : TypeId} {i : TyI} (hi : tget ti t = some i) {x r : T} {u : Value} (hx : RdT Z ρ x u) (h : loadT i m x = .val r) : ∃ v, (∀ W, TW Z ρ m w W → (Instr.loadAt t u).run P W = .ok v W) ∧ RdT Z ρ r v := by
  have K := hti t i hi
  -- a range of cells
  have go : ∀ (b o : Nat) (ts : List T) (vs : List Value), u = .pointer (some ⟨b, o, none⟩) → RdTs Z ρ ts vs → (∀ t ∈ ts, t.one = true) → (∀ W, TW Z ρ m w W → ∀ (j : Nat) v, vs[j]? = some v → W.cell? ⟨b, o + j, none⟩ = some v) → ∀ off', partT i.agg i.size 0 ts = some r → off' = 0 → ∃ v, (∀ W, TW Z ρ m w W → (Instr.loadAt t u).run P W = .ok v W) ∧ RdT Z ρ r v := by
    rintro b o ts vs rfl hv h1 hc _ hp _
    cases hg : i.agg with
    | true =>
      rw [hg] at hp
      unfold partT at hp
      simp only at hp
      split at hp
      · rename_i l hl
        injection hp with hp; subst hp
        obtain ⟨rfl, hn⟩ := takeL_some _ _ _ hl
        rw [dropL_eq] at hn ⊢
        simp only [List.drop_zero] at hn ⊢
        obtain ⟨fs, hu, _⟩ := K.row hg
        have hlen : (vs.take i.size).length = i.size := by rw [List.length_take, ← hv.1]; omega
        refine ⟨.agg (vs.take i.size).toArray, fun W hW => run_loadAt_mid W b o t (vs.take i.size) _ (fun j v hj => ?_) hu rfl (by rw [hlen]; exact K.size), RdT.mkAg (hv.take i.size) (fun t ht => h1 t (List.mem_of_mem_take ht))⟩
        have : j < i.size := by have := (List.getElem?_eq_some_iff.1 hj).1; omega
        rw [List.getElem?_take_of_lt this] at hj
        exact hc W hW j v hj
      · cases hp
    | false =>
      rw [hg] at hp
      have hp' : ts[0]? = some r := by simpa [partT, nth_eq] using hp
      obtain ⟨v, k1, k2⟩ := hv.at hp'
      refine ⟨v, fun W hW => ?_, k2⟩
      have hcell := hc W hW 0 v k1
      have := K.agg W
      rw [hg] at this
      simp [Instr.loadAt, Instr.sureAddr, loadVar, this, show W.cell? ⟨b, o, none⟩ = some v from hcell]
  unfold loadT at h
  split at h
  · rename_i id off
    obtain ⟨b, hb, e⟩ := hx.ptI
    split at h
    · rename_i ts hm
      obtain ⟨_, b', vs, k1, k2, k3, k4, k5, k6⟩ := H.obj id _ hm
      rw [hb] at k1; injection k1 with k1; injection k1 with k1; subst k1
      split at h
      · rename_i r' hp
        injection h with h; subst h
        refine go b off (ts.drop off) (vs.drop off) e (k4.drop off) (fun t ht => k5 t (List.mem_of_mem_drop ht)) (fun W hW j v hj => ?_) 0 ?_ rfl
        · rw [List.getElem?_drop] at hj
          rw [(k3.keep (hW.2 id _ b hm rfl hb)).cell]; exact hj
        · unfold partT at hp ⊢
          rw [nth_eq, dropL_eq] at *
          simp only [List.drop_zero, List.getElem?_drop, Nat.add_zero] at hp ⊢
          exact hp
      · cases h
    · cases h
  · rename_i cs
    obtain ⟨b, off, u', e, hz⟩ := hx.pfI
    split at h
    · rename_i r' hp
      injection h with h; subst h
      have hl : (ofCs cs).length = ((List.range cs.length).map u').length := by simp [ofCs_length]
      refine go b off (ofCs cs) ((List.range cs.length).map u') e ?_ (fun t ht => ?_) (fun W hW j v hj => ?_) 0 hp rfl
      · refine RdTs.ofCs (by simp) fun i c v h1 h2 => ?_
        have hlt := (List.getElem?_eq_some_iff.1 h1).1
        rw [List.getElem?_map, List.getElem?_range hlt] at h2
        injection h2 with h2; subst h2
        exact (hz i c h1).2
      · obtain ⟨i, hi', rfl⟩ := List.getElem_of_mem ht
        have := List.getElem?_eq_getElem hi'
        rw [ofCs_get] at this
        cases hc : cs[i]? with
        | none => rw [hc] at this; cases this
        | some c =>
          rw [hc] at this
          injection this with this
          rw [← this]; exact ofC_one c
      · rw [List.getElem?_map] at hj
        cases hr : (List.range cs.length)[j]? with
        | none => rw [hr] at hj; cases hj
        | some j' =>
          have hlt : j < cs.length := by have := (List.getElem?_eq_some_iff.1 hr).1; simpa using this
          rw [List.getElem?_range hlt] at hr
          injection hr with hr; subst hr
          rw [List.getElem?_range hlt] at hj
          injection hj with hj; subst hj
          exact hW.1 _ _ _ (hz j _ (List.getElem?_eq_getElem hlt)).1
    · cases h
  · cases h
theorem store_rel (hti : TIok P ti) (H : Rel X Z ρ m nx w) {t : TypeId} {i : TyI} (hi : tget ti t = some i) {x y r : T} {u v : Value} {m' : Mem} (hx : RdT Z ρ x u) (hy : RdT Z ρ y v) (h : storeT i m y x = .upd r m') :
    ∃ w', (Instr.storeAt t u v).run P w = .ok () w' ∧ Rel X Z ρ m' nx w' ∧ r = .any := by
  unfold storeT at h
  split at h
  · rename_i id off
    obtain ⟨b, hb, rfl⟩ := hx.ptI
    split at h
    · rename_i ts hm
      split at h
      · rename_i h1 h2 h3
        injection h with e1 e2
        subst e1 e2
        have a2 := Nat.eq_of_beq_eq_true h2
        have a3 := Nat.le_of_ble_eq_true h3
        rw [len_eq] at a2 a3
        rw [len_eq] at a3
        have hc := cellsT_rel hy h1
        have ho := allOne_eq _ h1
        obtain ⟨k1, k2⟩ := H.put hm hb hc ho a3
        have hone : ∀ u ∈ v.cells.toList, u.oneCell' = true := fun u hu => by
          obtain ⟨j, hj, rfl⟩ := List.getElem_of_mem hu
          have hlt : j < (cellsT y).length := by rw [hc.1]; exact hj
          exact (hc.2 j _ _ (List.getElem?_eq_getElem hlt) (List.getElem?_eq_getElem hj)).oneV (ho _ (List.getElem_mem hlt))
        have hst := run_storeCells_cells (P := P) b off v.cells.toList 0 w (by simpa using fun j hj => (k1 j (by simpa using hj)).1) (by simpa using fun j hj => (k1 j (by simpa using hj)).2) hone
        simp only [Nat.add_zero] at hst
        have hsz : (sizeOf t).run P w = .ok v.cells.size w := by
          rw [(hti t i hi).sz w, ← a2, hc.1]; simp
        exact ⟨_, by simp [Instr.storeAt, Instr.sureAddr, storeVar, hsz, hst], k2, rfl⟩
      · cases h
    · cases h
  · cases h
end
end Go.Proofs.Ytconhpilbndpkaa.Vm
namespace Go.Proofs.Ytconhpilbndpkaa.Vm
open Go.RowKit
set_option linter.unusedVariables false

section
variable {P : Program} {ti : TI} {X : Ctx} {Z : Kn} {ρ : Rho} {m : Mem} {nx : Nat} {a : Slots} {act : Act} {w : World}

/-! ### filling -/
theorem foldl_put (vs : List Value) : ∀ (cells : Array Value) (off k : Nat), off + k + vs.length ≤ cells.size → (vs.zipIdx k).foldl (fun cs (x : Value × Nat) => cs.setIfInBounds (off + x.2) x.1) cells = (putAt (off + k) vs cells.toList).toArray := by
  induction vs with
  | nil =>
    intro cells off k h
    simp only [List.zipIdx_nil, List.foldl_nil]
    have : putAt (off + k) [] cells.toList = cells.toList := by
      apply List.ext_getElem?
      intro j
      rw [putAt_get _ _ _ _ (by simpa using h), if_neg (by simp)]
    rw [this]
  | cons v vs ih =>
    intro cells off k h
    simp only [List.length_cons] at h
    rw [List.zipIdx_cons, List.foldl_cons, ih _ _ _ (by simp; omega)]
    congr 1
    apply List.ext_getElem?
    intro j
    rw [putAt_get _ _ _ _ (by simp; omega), putAt_get _ _ _ _ (by simp; omega)]
    simp only [List.length_cons, Array.toList_setIfInBounds]
    by_cases h1 : j = off + k
    · subst h1
      rw [if_neg (by omega), if_pos (by omega), List.getElem?_set_self (by simp; omega)]
      simp
    · by_cases h2 : off + (k + 1) ≤ j ∧ j < off + (k + 1) + vs.length
      · rw [if_pos h2, if_pos (by omega), show j - (off + k) = (j - (off + (k + 1))) + 1 by omega, List.getElem?_cons_succ]
      · rw [if_neg h2, if_neg (by omega), List.getElem?_set_ne (by omega)]
theorem fill_rel {place : Nat → Option (Nat × Nat)} : ∀ (ps : List (Nat × Operand)) (z r : List T) (cells : Array Value), RdS Z ρ a act.tmps → fillT place a ps z = some r → RdTs Z ρ z cells.toList → (∀ t ∈ z, t.one = true) →
    ∃ x, Instr.fill place cells (ps.map fun x => (x.1, act.eval x.2)) = some x ∧ RdTs Z ρ r x.toList ∧ (∀ t ∈ r, t.one = true)
  | [], z, r, cells, hS, h, hz, h1 => by
    injection h with h; subst h
    exact ⟨cells, rfl, hz, h1⟩
  | p :: ps, z, r, cells, hS, h, hz, h1 => by
    unfold fillT at h
    split at h
    · rename_i q hq
      split at h
      · rename_i b1 b2 b3
        have a2 := Nat.eq_of_beq_eq_true b2
        have a3 := Nat.le_of_ble_eq_true b3
        rw [len_eq] at a2 a3
        have hc := cellsT_rel (evT_rel hS p.2) b1
        have ho := allOne_eq _ b1
        have hl : q.1 + (cellsT (evT a p.2)).length ≤ z.length := by rw [a2]; exact a3
        have hcs : cells.size = z.length := by rw [hz.1]; simp
        have hvl : (act.eval p.2).cells.size = q.2 := by rw [← a2, hc.1]; simp
        have hput : RdTs Z ρ (putAt q.1 (cellsT (evT a p.2)) z) (putAt q.1 (act.eval p.2).cells.toList cells.toList) := by
          refine ⟨by rw [putAt_length _ _ _ hl, putAt_length _ _ _ (by simp; omega), hz.1], fun i t v e1 e2 => ?_⟩
          rw [putAt_get _ _ _ _ hl] at e1
          rw [putAt_get _ _ _ _ (by simp; omega), ← hc.1] at e2
          by_cases hh : q.1 ≤ i ∧ i < q.1 + (cellsT (evT a p.2)).length
          · rw [if_pos hh] at e1 e2; exact hc.2 _ t v e1 e2
          · rw [if_neg hh] at e1 e2; exact hz.2 _ t v e1 e2
        have hone : ∀ t ∈ putAt q.1 (cellsT (evT a p.2)) z, t.one = true := fun t ht => by
          obtain ⟨i, hi, rfl⟩ := List.getElem_of_mem ht
          have e1 := List.getElem?_eq_getElem hi
          rw [putAt_get _ _ _ _ hl] at e1
          by_cases hh : q.1 ≤ i ∧ i < q.1 + (cellsT (evT a p.2)).length
          · rw [if_pos hh] at e1; exact ho _ (List.mem_of_getElem? e1)
          · rw [if_neg hh] at e1; exact h1 _ (List.mem_of_getElem? e1)
        have hf : ((act.eval p.2).cells.zipIdx.foldl (fun cs (x : Value × Nat) => cs.setIfInBounds (q.1 + x.2) x.1) cells) = (putAt q.1 (act.eval p.2).cells.toList cells.toList).toArray := by
          rw [← Array.foldl_toList, Array.toList_zipIdx, foldl_put _ _ _ _ (by simp; omega)]
          rfl
        obtain ⟨x, g1, g2, g3⟩ := fill_rel ps _ r (putAt q.1 (act.eval p.2).cells.toList cells.toList).toArray hS h (by simpa using hput) hone
        refine ⟨x, ?_, g2, g3⟩
        rw [List.map_cons, Instr.fill, hq]
        obtain ⟨q1, q2⟩ := q
        simp only at hf hvl a3 g1
        have hno : ¬ (decide ((act.eval p.2).cells.size ≠ q2) || decide (q1 + (act.eval p.2).cells.size > cells.size)) = true := by
          rw [hvl]
          simp
          omega
        simp only [hno]
        rw [hf]
        exact g1
      · cases h
    · cases h
theorem zero_rel (z : Value) : RdTs Z ρ (z.cells.toList.map constT) z.cells.toList := ⟨by simp, fun i t v h1 h2 => by
  rw [List.getElem?_map, h2] at h1
  injection h1 with h1; subst h1
  exact constT_rel Z ρ v⟩
theorem eval_map (ps : Array (Nat × Operand)) : (ps.map fun (x : Nat × Operand) => (x.1, act.eval x.2)).toList = ps.toList.map fun x => (x.1, act.eval x.2) := by simp
theorem places_run (fs : List Field) : ∀ (pl : List (Nat × Nat)), pl.length = fs.length → (∀ (f : Nat) p fd, pl[f]? = some p → fs[f]? = some fd → fd.offset = p.1 ∧ ∀ w, (sizeOf fd.type).run P w = .ok p.2 w) → ∀ w : World, (fs.mapM (m := Sem) fun f => do pure (f.offset, ← sizeOf f.type)).run P w = .ok pl w := by
  induction fs with
  | nil => intro pl hl h w; obtain rfl := List.eq_nil_of_length_eq_zero (by simpa using hl); simp
  | cons f l ih =>
    intro pl hl h w
    cases pl with
    | nil => simp at hl
    | cons p pl =>
      obtain ⟨e1, e2⟩ := h 0 p f rfl rfl
      have := ih pl (by simpa using hl) (fun k p fd h1 h2 => h (k + 1) p fd (by simpa using h1) (by simpa using h2)) w
      rw [List.mapM_cons]
      simp only [Sem.run_bind, e2 w, Result.andThen_ok, Sem.run_pure, this, e1]
theorem build_rel (hti : TIok P ti) (hS : RdS Z ρ a act.tmps) {t : TypeId} {i : TyI} (hi : tget ti t = some i) (hg : i.agg = true) {ps : Array (Nat × Operand)} {r : List T} (h : fillT (placeF i.fields) a ps.toList i.zero = some r) (hz1 : ∀ t ∈ i.zero, t.one = true) :
    ∃ v, (∀ w, (Instr.build t (ps.map fun x => (x.1, act.eval x.2))).run P w = .ok v w) ∧ RdT Z ρ (.ag r) v := by
  have K := hti t i hi
  obtain ⟨zv, z1, z2, z3, _⟩ := K.zero
  obtain ⟨za, rfl⟩ := z2 hg
  obtain ⟨fs, hu, hl, hf⟩ := K.row hg
  have hpl := places_run (P := P) fs.toList (i.fields.map fun p => (p.1, p.2.2)) (by simp [hl]) (fun f p fd h1 h2 => by
    rw [List.getElem?_map] at h1
    cases hq : i.fields[f]? with
    | none => rw [hq] at h1; cases h1
    | some q =>
      rw [hq] at h1
      injection h1 with h1; subst h1
      obtain ⟨fd', k1, k2, k3, k4, _⟩ := hf f q hq
      have : fs[f]? = some fd := by simpa using h2
      rw [this] at k1; injection k1 with k1; subst k1
      exact ⟨k2, k4⟩)
  have hpa : ∀ w, (fs.mapM (m := Sem) fun f => do pure (f.offset, ← sizeOf f.type)).run P w = .ok (i.fields.map fun p => (p.1, p.2.2)).toArray w := fun w => by
    rw [Array.mapM_eq_mapM_toList]
    simp only [Sem.run_map, hpl, Result.andThen_ok]
  have hplace : placeF i.fields = fun f => ((i.fields.map fun p => (p.1, p.2.2)).toArray)[f]? := by
    funext f
    unfold placeF
    rw [nth_eq]
    simp only [List.getElem?_toArray, List.getElem?_map]
    cases i.fields[f]? <;> rfl
  rw [hplace] at h
  obtain ⟨x, m1, m2, m3⟩ := fill_rel ps.toList _ r za hS h (by rw [z3]; exact zero_rel (.agg za)) hz1
  refine ⟨.agg x, fun w => ?_, by have := RdT.mkAg m2 m3; simpa using this⟩
  simp only [Instr.build, Sem.run_bind, z1, Result.andThen_ok, run_underlying hu, hpa, eval_map, m1, Sem.run_pure, Value.cells]

/-! ### arithmetic -/
theorem bytesLess_or (l m : List UInt8) : (Op.bytesLess l m || l == m) = !Op.bytesLess m l := by
  induction l generalizing m with
  | nil => cases m <;> rfl
  | cons a l ih =>
    cases m with
    | nil => rfl
    | cons b m =>
      have h1 : Op.bytesLess (a :: l) (b :: m) = (decide (a < b) || (a == b && Op.bytesLess l m)) := rfl
      have h2 : Op.bytesLess (b :: m) (a :: l) = (decide (b < a) || (b == a && Op.bytesLess m l)) := rfl
      have h3 : ((a :: l) == (b :: m)) = (a == b && l == m) := rfl
      have ih' := ih m
      rw [h1, h2, h3]
      by_cases hab : a = b
      · subst hab
        have hirr : decide (a < a) = false := decide_eq_false (by rw [UInt8.lt_iff_toNat_lt]; omega)
        rw [hirr]
        simpa using ih'
      · have e1 : (a == b) = false := by simpa using hab
        have e2 : (b == a) = false := by simpa using Ne.symm hab
        have hne : a.toNat ≠ b.toNat := fun h => hab (UInt8.toNat_inj.1 h)
        rw [e1, e2]
        by_cases hlt : a < b
        · have : ¬ b < a := by rw [UInt8.lt_iff_toNat_lt] at hlt ⊢; omega
          simp [hlt, this]
        · have : b < a := by rw [UInt8.lt_iff_toNat_lt] at hlt ⊢; omega
          simp [hlt, this]

theorem bytes_eq (l m : List UInt8) : (bs l).toList = l := by simp [bs, ByteArray.toList_eq]
theorem bin_rel {z : ZO} (hz : z = realZ) {op : BinOp} {t : TypeId} {x y r : T} {u v : Value} (hx : RdT Z ρ x u) (hy : RdT Z ρ y v) (h : binT z op x y = .val r) (xo yo : Operand) :
    ∃ k, (∀ w, (do eqGuard op t xo yo u v; binOp op t u v : Sem Value).run P w = .ok k w) ∧ RdT Z ρ r k := by
  subst hz
  unfold binT at h
  split at h
  · rename_i k x k' y
    obtain rfl := hx.cI.intI
    obtain rfl := hy.cI.intI
    split at h
    · rename_i hk
      obtain rfl := kEq_eq hk
      split at h
      · rename_i hc
        injection h with h; subst h
        cases op <;> first | (cases hc; done) | skip
        case eql => exact ⟨.bool (x == y), fun w => by simp [eqGuard, binOp, Op.intCmp], .q _⟩
        case neq => exact ⟨.bool (x != y), fun w => by simp [eqGuard, binOp, Op.intCmp], .q _⟩
        case lss => exact ⟨.bool (decide (x < y)), fun w => by simp [eqGuard, binOp, Op.intCmp], .q _⟩
        case leq => exact ⟨.bool (decide (x ≤ y)), fun w => by simp [eqGuard, binOp, Op.intCmp], .q _⟩
        case gtr => exact ⟨.bool (decide (y < x)), fun w => by simp [eqGuard, binOp, Op.intCmp], .q _⟩
        case geq => exact ⟨.bool (decide (y ≤ x)), fun w => by simp [eqGuard, binOp, Op.intCmp], .q _⟩
      · split at h
        · rename_i ha
          injection h with h; subst h
          cases op <;> first | (cases ha; done) | skip
          case add => exact ⟨.int k (k.wrap (x + y)), fun w => by simp [eqGuard, binOp, Op.intArith], .c _ _ (.i _ _)⟩
          case sub => exact ⟨.int k (k.wrap (x - y)), fun w => by simp [eqGuard, binOp, Op.intArith], .c _ _ (.i _ _)⟩
          case mul => exact ⟨.int k (k.wrap (x * y)), fun w => by simp [eqGuard, binOp, Op.intArith], .c _ _ (.i _ _)⟩
        · cases h
    · cases h
  · rename_i x y
    obtain rfl := hx.cI.strI
    obtain rfl := hy.cI.strI
    split at h
    · rename_i hc
      injection h with h; subst h
      have hbs : ∀ l : List UInt8, (bs l).data.toList = l := fun l => by simp [bs]
      cases op <;> first | (cases hc; done) | skip
      case eql => exact ⟨.bool (x == y), fun w => by simp only [eqGuard, binOp, Op.stringOp, ByteArray.toList_eq, hbs]; simp, .q _⟩
      case neq => exact ⟨.bool !(x == y), fun w => by simp only [eqGuard, binOp, Op.stringOp, ByteArray.toList_eq, hbs]; simp, .q _⟩
      case lss => exact ⟨.bool (Op.bytesLess x y), fun w => by simp only [eqGuard, binOp, Op.stringOp, ByteArray.toList_eq, hbs]; simp, .q _⟩
      case leq => exact ⟨.bool !Op.bytesLess y x, fun w => by simp only [eqGuard, binOp, Op.stringOp, ByteArray.toList_eq, hbs, bytesLess_or]; simp, .q _⟩
      case gtr => exact ⟨.bool (Op.bytesLess y x), fun w => by simp only [eqGuard, binOp, Op.stringOp, ByteArray.toList_eq, hbs, bytesLess_or]; simp, .q _⟩
      case geq => exact ⟨.bool !Op.bytesLess x y, fun w => by simp only [eqGuard, binOp, Op.stringOp, ByteArray.toList_eq, hbs]; simp, .q _⟩
    · cases h
  · cases h
end
end Go.Proofs.Ytconhpilbndpkaa.Vm
namespace Go.Proofs.Ytconhpilbndpkaa.Vm
open Go.RowKit
set_option linter.unusedVariables false

/-- an operation's run -/
def OpRes (P : Program) (o : Oper) (act : Act) (w : World) (v : Value) (w' : World) : Prop := (execOp act.eval o).run P w = .ok (.value v) w' ∨ ((execOp act.eval o).run P w = .ok .skip w' ∧ v = undef)
def Good (X : Ctx) (Z : Kn) (ρ : Rho) (m : Mem) (nx : Nat) (act : Act) (w : World) (o : Oper) : Rs → Prop
  | .val t => ∃ v, (∀ W, (isLd o.op = true → TW Z ρ m w W) → (execOp act.eval o).run X.P W = .ok (.value v) W) ∧ RdT Z ρ t v
  | .upd t m' => ∃ v w', OpRes X.P o act w v w' ∧ Rel X Z ρ m' nx w' ∧ RdT Z ρ t v
  | .new ob t => ∃ v w' Z' ρ', OpRes X.P o act w v w' ∧ KLe Z Z' ∧ RLe ρ ρ' ∧ Below w.heap.size w w' ∧ Rel X Z' ρ' ((nx, ob) :: m) (nx + 1) w' ∧ RdT Z' ρ' t v
  | .stop => True
section
variable {ti : TI} {X : Ctx} {Z : Kn} {ρ : Rho} {m : Mem} {nx : Nat} {a : Slots} {act : Act} {w : World} {z : ZO}
variable {dst : Option Tmp} {ty : TypeId} {pos : String} {after : Array Edge} {guard : Option (Nat × Bool)}

theorem repL_eq {α : Type} (n : Nat) (l : List α) : repL n l = (List.replicate n l).flatten := by
  induction n with
  | zero => rfl
  | succ n ih => simp [repL, ih, List.replicate_succ]
theorem repL_length {α : Type} (n : Nat) (l : List α) : (repL n l).length = n * l.length := by rw [repL_eq]; simp
theorem repL_get {α : Type} (l : List α) : ∀ (n i : Nat), i < n * l.length → (repL n l)[i]? = l[i % l.length]? := by
  intro n
  induction n with
  | zero => intro i hi; simp at hi
  | succ n ih =>
    intro i hi
    simp only [repL]
    by_cases h : i < l.length
    · rw [List.getElem?_append_left h, Nat.mod_eq_of_lt h]
    · rw [List.getElem?_append_right (by omega), ih _ (by rw [Nat.add_mul] at hi; omega)]
      congr 1
      conv => rhs; rw [show i = (i - l.length) + l.length by omega, Nat.add_mod_right]
theorem zeros_rel {zc : List T} {zv : Array Value} (hz : RdTs Z ρ zc zv.toList) (n : Nat) : RdTs Z ρ (repL n zc) (((Array.range (n * zv.size)).map (zv[· % zv.size]!)).toList) := by
  have hl : zc.length = zv.size := by rw [hz.1]; simp
  refine ⟨by rw [repL_length, hl]; simp, fun i t v h1 h2 => ?_⟩
  have hi : i < n * zv.size := by
    have := (List.getElem?_eq_some_iff.1 h1).1
    rw [repL_length, hl] at this
    exact this
  have hpos : 0 < zv.size := by
    rcases Nat.eq_zero_or_pos zv.size with h0 | h0
    · rw [h0] at hi; simp at hi
    · exact h0
  rw [repL_get _ _ _ (by rw [hl]; exact hi), hl] at h1
  have hlt := Nat.mod_lt i hpos
  simp only [Array.toList_map, List.getElem?_map, Array.toList_range, List.getElem?_range hi] at h2
  injection h2 with h2
  subst h2
  refine hz.2 _ t _ h1 ?_
  simp [hlt]
theorem repL_one {zc : List T} (h : ∀ t ∈ zc, t.one = true) (n : Nat) : ∀ t ∈ repL n zc, t.one = true := by
  rw [repL_eq]
  intro t ht
  simp only [List.mem_flatten, List.mem_replicate] at ht
  obtain ⟨l, ⟨_, rfl⟩, ht⟩ := ht
  exact h t ht
theorem chunk_some (s : Nat) : ∀ (n : Nat) (l : List T) (els : List (List C)), chunk s n l = some els → els.length = n ∧ ∀ (k : Nat) (cs : List C), els[k]? = some cs → toCs ((l.drop (k * s)).take s) = some cs ∧ s ≤ (l.drop (k * s)).length
  | 0, l, els, h => by injection h with h; subst h; exact ⟨rfl, fun k cs h => by simp at h⟩
  | n + 1, l, els, h => by
    unfold chunk at h
    split at h
    · rename_i hd hh
      split at h
      · rename_i cs hc
        split at h
        · rename_i r hr
          injection h with h; subst h
          obtain ⟨rfl, hn⟩ := takeL_some _ _ _ hh
          rw [dropL_eq] at hr
          obtain ⟨k1, k2⟩ := chunk_some s n _ r hr
          refine ⟨by simp [k1], fun k cs' e => ?_⟩
          cases k with
          | zero => simp at e; subst e; simpa using ⟨hc, hn⟩
          | succ k =>
            have := k2 k cs' (by simpa using e)
            rw [List.drop_drop] at this
            rw [show (k + 1) * s = s + k * s by rw [Nat.succ_mul]; omega]
            exact this
        · cases h
      · cases h
    · cases h
theorem toCs_length : ∀ (ts : List T) (cs : List C), toCs ts = some cs → cs.length = ts.length
  | [], cs, h => by injection h with h; subst h; rfl
  | t :: ts, cs, h => by
    unfold toCs at h
    split at h
    · split at h
      · rename_i l hl
        injection h with h; subst h
        simp [toCs_length ts l hl]
      · cases h
    · cases h
/-- a new row that is read as a list of elements -/
theorem Rel.tok (H : Rel X Z ρ m nx w) {els : List (List C)} {s : Nat} {l : List T} {vs : List Value} (hl : RdTs Z ρ l vs) (hc : chunk s els.length l = some els) (hn : vs.length = els.length * s) (hm : els.length ≤ maxLen) (t : TypeId) :
    ∃ Z' ρ', KLe Z Z' ∧ RLe ρ ρ' ∧ Rel X Z' ρ' ((nx, .tok s els) :: m) (nx + 1) (w.alloc (.cells vs.toArray t)) ∧ RdT Z' ρ' (.sk nx els) (.slice (some ⟨w.heap.size, 0, none⟩) els.length els.length) := by
  have hb : Below w.heap.size w (w.alloc (.cells vs.toArray t)) := (Below.refl _ _).alloc (Nat.le_refl _) _
  have hZn : ∀ o, Z w.heap.size o = none := fun o => by
    cases e : Z w.heap.size o with
    | none => rfl
    | some u => exact absurd (H.kn.lt e) (by omega)
  let Z' : Kn := fun b o => if b = w.heap.size then vs[o]? else Z b o
  have hZ' : ∀ b o, b < w.heap.size → Z' b o = Z b o := fun b o hlt => if_neg (by omega)
  have hle : KLe Z Z' := fun b o u e => (hZ' b o (H.kn.lt e)).trans e
  have hk : KnOk Z' (w.alloc (.cells vs.toArray t)) := fun b o u e => by
    by_cases hbb : b = w.heap.size
    · subst hbb
      have e' : vs[o]? = some u := by simpa [Z'] using e
      rw [(CellsAt.new w vs t).cell]; exact e'
    · have e' : Z b o = some u := by simpa [Z', hbb] using e
      exact (hb.cell (p := ⟨b, o, none⟩) (H.kn.lt e')).trans (H.kn b o u e')
  obtain ⟨_, hch⟩ := chunk_some s _ l els hc
  have hel : ∀ (k : Nat) (cs : List C), els[k]? = some cs → cs.length = s ∧ ∀ (j : Nat) (c : C), cs[j]? = some c → ∃ v, vs[k * s + j]? = some v ∧ RdC Z' c v := fun k cs e => by
    obtain ⟨h1, h2⟩ := hch k cs e
    have h3 := toCs_length _ _ h1
    rw [List.length_take, Nat.min_eq_left h2] at h3
    refine ⟨h3, fun j c ej => ?_⟩
    obtain ⟨h4, h5⟩ := toCs_rel ((hl.drop (k * s)).take s) h1
    have hj : j < s := by have := (List.getElem?_eq_some_iff.1 ej).1; omega
    have hlt : k * s + j < vs.length := by rw [h4] at h3; rw [List.length_take, List.length_drop] at h3; omega
    refine ⟨vs[k * s + j], List.getElem?_eq_getElem hlt, (h5 j c _ ej ?_).mono hle⟩
    rw [List.getElem?_take_of_lt hj, List.getElem?_drop]
    exact List.getElem?_eq_getElem hlt
  have hr : RdC Z' (.sl els) (.slice (some ⟨w.heap.size, 0, none⟩) els.length els.length) := by
    refine .sl els w.heap.size 0 s els.length (fun k j => vs.getD (k * s + j) undef) (Nat.le_refl _) hm (fun k cs e => (hel k cs e).1) (fun k cs j c e ej => ?_) (fun k cs j c e ej => ?_)
    · obtain ⟨v, g1, _⟩ := (hel k cs e).2 j c ej
      show (if w.heap.size = w.heap.size then vs[0 + k * s + j]? else _) = _
      rw [if_pos rfl, Nat.zero_add, g1]
      simp [g1]
    · obtain ⟨v, g1, g2⟩ := (hel k cs e).2 j c ej
      have : vs.getD (k * s + j) undef = v := by simp [g1]
      show RdC Z' c (vs.getD (k * s + j) undef)
      rw [this]
      exact g2
  obtain ⟨k1, k2, k3⟩ := H.new hb hk hZ' (.tok (.slice (some ⟨w.heap.size, 0, none⟩) els.length els.length) els.length) (.tok s els) (fun b e => by have e' : some w.heap.size = some b := e; injection e' with e'; omega)
    ⟨_, updR_same _ _ _, hr, .inr ⟨w.heap.size, els.length, vs, rfl, X.hown _ H.size, CellsAt.new w vs t, hn, fun k cs e => (hel k cs e).1, fun e => by rw [e]; rfl, fun o ho => by
      show (if w.heap.size = w.heap.size then vs[o]? else _) = _
      rw [if_pos rfl]
      exact List.getElem?_eq_none (by omega)⟩⟩
  exact ⟨Z', _, k1, k2, k3, .sk nx els _ _ _ hr (updR_same _ _ _) (Nat.le_refl _) fun _ => rfl⟩

theorem fillT_length {place : Nat → Option (Nat × Nat)} : ∀ (ps : List (Nat × Operand)) (z r : List T), fillT place a ps z = some r → r.length = z.length
  | [], z, r, h => by injection h with h; subst h; rfl
  | p :: ps, z, r, h => by
    unfold fillT at h
    split at h
    · split at h
      · rename_i b1 b2 b3
        have a2 := Nat.eq_of_beq_eq_true b2
        have a3 := Nat.le_of_ble_eq_true b3
        rw [len_eq] at a2 a3
        rw [fillT_length ps _ r h, putAt_length _ _ _ (by omega)]
      · cases h
    · cases h
theorem placeE_fun (s : Nat) : placeE s = fun i => some (i * s, s) := rfl
theorem row_new (elem : TypeId) (cells : Array Value) (w : World) : (newRow elem cells).run X.P w = .ok ⟨w.heap.size, 0, none⟩ (w.alloc (.cells cells elem)) := by
  simp [newRow, newObj, Sem.run]
theorem op_sound (hti : TIok X.P ti) (hz : z = realZ) (H : Rel X Z ρ m nx w) (hS : RdS Z ρ a act.tmps) (o : Oper) : Good X Z ρ m nx act w o (opT ti z m nx a o.op) := by
  obtain ⟨dst, op, ty, pos, after, guard⟩ := o
  have E := fun x => evT_rel (x := x) hS
  cases op <;> try exact trivial
  case move x => exact ⟨_, fun W _ => rfl, E x⟩
  case assign x => exact ⟨_, fun W _ => rfl, E x⟩
  case pick c x y =>
    have hc := E c
    have hx := E x
    have hy := E y
    simp only [opT]
    split
    · rename_i he; rw [he] at hc
      exact ⟨act.eval x, fun W _ => (by simp [execOp, hc.cI.boolI, Go.asBool]), hx⟩
    · rename_i he; rw [he] at hc
      exact ⟨act.eval y, fun W _ => (by simp [execOp, hc.cI.boolI, Go.asBool]), hy⟩
    · rename_i e he; rw [he] at hc
      have hcv := hc.qI
      have go : ∀ f g, act.eval x = .bool f → act.eval y = .bool g → Good X Z ρ m nx act w ⟨dst, .pick c x y, ty, pos, after, guard⟩ (.val (.q (z.pk e f g))) := fun f g h1 h2 => by
        subst hz
        refine ⟨.bool (if e then f else g), fun W _ => ?_, .q _⟩
        cases e <;> simp [execOp, hcv, Go.asBool, h1, h2]
      split
      · rename_i f g h1 h2; rw [h1] at hx; rw [h2] at hy; exact go f g hx.qI hy.qI
      · rename_i f g h1 h2; rw [h1] at hx; rw [h2] at hy; exact go f g hx.qI hy.cI.boolI
      · rename_i f g h1 h2; rw [h1] at hx; rw [h2] at hy; exact go f g hx.cI.boolI hy.qI
      · trivial
    · trivial
  case alloc t =>
    simp only [opT]
    split
    · rename_i i hi
      split
      · rename_i h1
        obtain ⟨zv, z1, z2, z3, _⟩ := (hti t i hi).zero
        obtain ⟨ρ', k1, k2, k3⟩ := H.box (ts := i.zero) (vs := zv.cells.toList) (by rw [z3]; exact zero_rel zv) (allOne_eq _ h1) t
        exact ⟨_, _, Z, ρ', .inl (by simp [execOp, Instr.alloc, z1, newVar, newRow, newObj, Sem.run]), KLe.refl _, k1, (Below.refl _ _).alloc (Nat.le_refl _) _, k2, k3⟩
      · trivial
    · trivial
  case box t x =>
    simp only [opT]
    split
    · rename_i h1
      obtain ⟨ρ', k1, k2, k3⟩ := H.box (cellsT_rel (E x) h1) (allOne_eq _ h1) t
      exact ⟨_, _, Z, ρ', .inl (by simp [execOp, Instr.box, newVar, newRow, newObj, Sem.run]), KLe.refl _, k1, (Below.refl _ _).alloc (Nat.le_refl _) _, k2, k3⟩
    · trivial
  case load t x =>
    simp only [opT]
    split
    · rename_i i hi
      cases hl : loadT i m (evT a x) with
      | val r =>
        obtain ⟨v, k1, k2⟩ := load_rel hti H hi (E x) hl
        exact ⟨v, fun W hW => (by simp [execOp, k1 W (hW rfl)]), k2⟩
      | stop => trivial
      | upd t m' => unfold loadT at hl; split at hl <;> (try split at hl) <;> (try split at hl) <;> cases hl
      | new ob t => unfold loadT at hl; split at hl <;> (try split at hl) <;> (try split at hl) <;> cases hl
    · trivial
  case store t x y =>
    simp only [opT]
    split
    · rename_i i hi
      cases hl : storeT i m (evT a y) (evT a x) with
      | upd r m' =>
        obtain ⟨w', k1, k2, rfl⟩ := store_rel hti H hi (E x) (E y) hl
        exact ⟨undef, w', .inr ⟨by simp [execOp, k1], rfl⟩, k2, .any _⟩
      | stop => trivial
      | val r => unfold storeT at hl; split at hl <;> (try split at hl) <;> (try split at hl) <;> cases hl
      | new ob t => unfold storeT at hl; split at hl <;> (try split at hl) <;> (try split at hl) <;> cases hl
    · trivial
  case binOp op t x y t' =>
    simp only [opT]
    cases hl : binT z op (evT a x) (evT a y) with
    | val r =>
      obtain ⟨v, k1, k2⟩ := bin_rel (t := t) (P := X.P) hz (E x) (E y) hl x y
      refine ⟨v, fun W _ => ?_, k2⟩
      have e : execOp act.eval ⟨dst, .binOp op t x y t', ty, pos, after, guard⟩ = (do pure (.value (← (do eqGuard op t x y (act.eval x) (act.eval y); binOp op t (act.eval x) (act.eval y) : Sem Value)))) := rfl
      rw [e, Sem.run_bind, k1]
      rfl
    | stop => trivial
    | upd t m' => unfold binT at hl; split at hl <;> (try split at hl) <;> (try split at hl) <;> (try split at hl) <;> cases hl
    | new ob t => unfold binT at hl; split at hl <;> (try split at hl) <;> (try split at hl) <;> (try split at hl) <;> cases hl
  case unOp op t x =>
    have hx := E x
    subst hz
    cases op <;> simp only [opT] <;> try exact trivial
    · split
      · rename_i k n he; rw [he] at hx
        exact ⟨.int k (k.wrap (-n)), fun W _ => (by simp [execOp, hx.cI.intI, Op.unary, Op.intArith]), .c _ _ (.i _ _)⟩
      · trivial
    · split
      · rename_i e he; rw [he] at hx
        exact ⟨.bool !e, fun W _ => (by simp [execOp, hx.qI, Op.unary]), .q _⟩
      · rename_i he; rw [he] at hx
        exact ⟨.bool false, fun W _ => (by simp [execOp, hx.cI.boolI, Op.unary]), .c _ _ (.b _)⟩
      · rename_i he; rw [he] at hx
        exact ⟨.bool true, fun W _ => (by simp [execOp, hx.cI.boolI, Op.unary]), .c _ _ (.b _)⟩
      · trivial
  case fieldAddr t x f =>
    have hx := E x
    simp only [opT]
    split
    · rename_i i hi
      split
      · rename_i p hp
        rw [nth_eq] at hp
        have K := hti t i hi
        have hg : i.agg = true := by
          cases hg : i.agg with
          | true => rfl
          | false => rw [K.nofld hg] at hp; simp at hp
        obtain ⟨fs, hu, hl, hf⟩ := K.row hg
        obtain ⟨fd, f1, f2, f3, f4, f5⟩ := hf f p hp
        have hrun : ∀ W b off, act.eval x = .pointer (some ⟨b, off, none⟩) → (execOp act.eval ⟨dst, .fieldAddr t x f, ty, pos, after, guard⟩).run X.P W = .ok (.value (.pointer (some ⟨b, off + p.1, none⟩))) W := fun W b off e => by
          obtain ⟨p1, p2, p3⟩ := p
          obtain ⟨n, rfl⟩ : ∃ n, p3 = n + 1 := ⟨p3 - 1, by simp at f5; omega⟩
          simp [execOp, e, Instr.fieldAt, run_underlying hu, f1, Instr.sureAddr, fieldPlace, f4, Addr.add_mid, f2]
        split
        · rename_i id off he; rw [he] at hx
          obtain ⟨b, hb, e⟩ := hx.ptI
          exact ⟨_, fun W _ => hrun W b off e, .pt _ _ _ hb⟩
        · rename_i cs he; rw [he] at hx
          obtain ⟨b, off, u, e, hz⟩ := hx.pfI
          rw [dropL_eq]
          exact ⟨_, fun W _ => hrun W b off e, .pf _ _ _ (fun j => u (p.1 + j)) (fun j c h => by rw [List.getElem?_drop] at h; rw [Nat.add_assoc]; exact (hz _ c h).1) (fun j c h => by rw [List.getElem?_drop] at h; exact (hz _ c h).2)⟩
        · rename_i id j off sz he; rw [he] at hx
          obtain ⟨b, hb, e⟩ := hx.peI
          refine ⟨_, fun W _ => hrun W b _ e, ?_⟩
          rw [Nat.add_assoc]
          exact .pe _ _ _ _ _ hb
        · trivial
      · trivial
    · trivial
  case field t x f =>
    have hx := E x
    simp only [opT]
    split
    · rename_i i hi
      split
      · rename_i p hp
        rw [nth_eq] at hp
        have K := hti t i hi
        have hg : i.agg = true := by
          cases hg : i.agg with
          | true => rfl
          | false => rw [K.nofld hg] at hp; simp at hp
        obtain ⟨fs, hu, hl, hf⟩ := K.row hg
        obtain ⟨fd, f1, f2, f3, f4, f5⟩ := hf f p hp
        split
        · rename_i cs he; rw [he] at hx
          obtain ⟨vs, e, h1, h2⟩ := hx.agI
          split
          · rename_i r hr
            obtain ⟨v, k1, k2⟩ := part_rel (P := X.P) hr h1 h2 f3 f4
            exact ⟨v, fun W _ => (by simp [execOp, e, Instr.field, run_underlying hu, f1, Go.asAgg, f2, k1]), k2⟩
          · trivial
        · trivial
      · trivial
    · trivial
  case build t ps =>
    simp only [opT]
    split
    · rename_i i hi
      split
      · rename_i hg
        split
        · rename_i l hl
          rw [Bool.and_eq_true] at hg
          obtain ⟨v, k1, k2⟩ := build_rel hti hS hi hg.1 hl (allOne_eq _ hg.2)
          exact ⟨v, fun W _ => (by simp [execOp, k1]), k2⟩
        · trivial
      · trivial
    · trivial
  case extract x i =>
    have hx := E x
    simp only [opT]
    split
    · rename_i ts he; rw [he] at hx
      split
      · rename_i r hr
        rw [nth_eq] at hr
        obtain ⟨vs, e, h1⟩ := hx.tuI
        obtain ⟨v, k1, k2⟩ := h1.at hr
        exact ⟨v, fun W _ => (by simp [execOp, e, Instr.extract, k1]), k2⟩
      · trivial
    · trivial
  case buildSlice t n ps =>
    simp only [opT]
    split
    · rename_i i hi
      split
      · rename_i hk
        split
        · rename_i e he
          split
          · rename_i l hb hl
            split
            · rename_i els hc
              have hu := (hti t i hi).sl hk
              have Ke := hti _ e he
              obtain ⟨zv, z1, z2, z3, z4⟩ := Ke.zero
              rw [Bool.and_eq_true] at hb
              have hn64 : n ≤ 65536 := Nat.le_of_ble_eq_true hb.1
              have hb := hb.2
              rw [Bool.and_eq_true] at hb
              have hle : n * e.size ≤ 65536 := Nat.le_of_ble_eq_true hb.1
              obtain ⟨hn, _⟩ := chunk_some _ _ _ _ hc
              have hzr : RdTs Z ρ e.zero zv.cells.toList := by rw [z3]; exact zero_rel zv
              obtain ⟨x, m1, m2, m3⟩ := fill_rel ps.toList _ l _ hS hl (zeros_rel hzr n) (repL_one (allOne_eq _ hb.2) n)
              have hxs : x.toList.length = n * e.size := by
                rw [← m2.1, fillT_length _ _ _ hl, repL_length, hzr.1]
                simp [z4]
              subst hn
              obtain ⟨Z', ρ', k1, k2, k3, k4⟩ := H.tok m2 hc hxs (by unfold maxLen; omega) i.elem
              refine ⟨_, _, Z', ρ', .inl ?_, k1, k2, (Below.refl _ _).alloc (Nat.le_refl _) _, k3, k4⟩
              have hno : ¬ (els.length * e.size > 2 ^ 24) := by omega
              rw [z4] at m1
              by_cases h0 : els.length * e.size = 0
              · rw [h0] at m1
                have : (Array.map (fun x => (#[] : Array Value)[x % (#[] : Array Value).size]!) (Array.range 0)) = Array.map (fun x => zv.cells[x % e.size]!) (Array.range 0) := by simp
                rw [← this] at m1
                simp only [execOp, Instr.buildSlice, Sem.run_bind, run_underlying hu, Result.andThen_ok, Ke.sz, h0, eval_map]
                simp only [gt_iff_lt, Nat.not_lt_zero, if_false, if_true, Sem.run_bind, Sem.run_pure, Result.andThen_ok, ← placeE_fun, m1, row_new]
              · simp only [execOp, Instr.buildSlice, Sem.run_bind, run_underlying hu, Result.andThen_ok, Ke.sz, hno, h0, eval_map, if_false, Sem.run_pure, z1, z4, ← placeE_fun, m1, row_new]
            · trivial
          · trivial
        · trivial
      · trivial
    · trivial
  case call c =>
    obtain ⟨callee, args, argTypes⟩ := c
    show Good X Z ρ m nx act w _ (callT ti z a ⟨callee, args, argTypes⟩)
    unfold callT
    split
    · rename_i hcal
      simp only at hcal
      subst hcal
      split
      · rename_i x t h1 h2
        have e1 : args = #[x] := by apply Array.ext'; simpa using h1
        have e2 : argTypes = #[t] := by apply Array.ext'; simpa using h2
        subst e1 e2
        have hx := E x
        split
        · rename_i i hi
          split
          · rename_i hk
            have hu := (hti t i hi).sl hk
            split
            · rename_i els he; rw [he] at hx
              obtain ⟨A, cap, e, _⟩ := hx.cI.slI
              subst hz
              exact ⟨goInt els.length, fun W _ => (by simp [execOp, resolve, invoke, builtin, Builtin.len_, e, run_underlying hu]), .c _ _ (.i _ _)⟩
            · rename_i id els he; rw [he] at hx
              obtain ⟨A, cap, e, _⟩ := hx.skI.1.slI
              subst hz
              exact ⟨goInt els.length, fun W _ => (by simp [execOp, resolve, invoke, builtin, Builtin.len_, e, run_underlying hu]), .c _ _ (.i _ _)⟩
            · rename_i he; rw [he] at hx
              exact ⟨goInt 0, fun W _ => (by simp [execOp, resolve, invoke, builtin, Builtin.len_, hx.nilI, run_underlying hu]), .c _ _ (.i _ _)⟩
            · rename_i id n cap he; rw [he] at hx
              rcases hx.rwI.1 with ⟨b, _, e⟩ | ⟨rfl, _, e⟩
              · exact ⟨goInt n, fun W _ => (by simp [execOp, resolve, invoke, builtin, Builtin.len_, e, run_underlying hu]), .c _ _ (.i _ _)⟩
              · exact ⟨goInt 0, fun W _ => (by simp [execOp, resolve, invoke, builtin, Builtin.len_, e, run_underlying hu]), .c _ _ (.i _ _)⟩
            · trivial
          · rename_i hk
            have hu := (hti t i hi).str hk
            split
            · rename_i l he; rw [he] at hx
              subst hz
              have hsz : (bs l).size = l.length := by simp [bs, ByteArray.size]
              exact ⟨goInt l.length, fun W _ => (by simp [execOp, resolve, invoke, builtin, Builtin.len_, hx.cI.strI, run_underlying hu, hsz]), .c _ _ (.i _ _)⟩
            · trivial
          · trivial
        · trivial
      · trivial
    · trivial
end
end Go.Proofs.Ytconhpilbndpkaa.Vm
