/-
  Merged texts: GSlot, GEnv, GPromise, GStore.
-/
import Derived.Test.YtejieacdfjpfnaaGreatKVec
import Derived.Test.YtejieacdfjpfnaaGreatKRand
namespace Go.Proofs.YtejieacdfjpfnaaGreat
set_option maxRecDepth 100000
set_option maxRecDepth 100000
open Go.ChangeShapes Go.WideShapes Go.ChangeAt Go.RowKit Go.Deep

structure SlotD where
  kind : Int
  value : VecD
  promise : Int
  promises : List Int
  labels : List (List UInt8)

/-- the cells of a Slot -/
def SlotR (w : World) (cs : List Value) (d : SlotD) : Prop :=
  ∃ v11 v12 v13 v14 v15 v3 v4, cs = [.int .i64 d.kind, .int .i64 d.value.kind, v11, v12, v13, v14, v15, .int .i64 d.value.code, .int .i64 d.value.env, .int .i64 d.promise, v3, v4] ∧ I64 d.kind ∧ VecR w [.int .i64 d.value.kind, v11, v12, v13, v14, v15, .int .i64 d.value.code, .int .i64 d.value.env] d.value ∧ I64 d.promise ∧ Ints w v3 d.promises ∧ Txts w v4 d.labels
theorem SlotR.below {w w' : World} {cs : List Value} {d : SlotD} (h : SlotR w cs d) (hb : Below w.heap.size w w') : SlotR w' cs d := by
  obtain ⟨v11, v12, v13, v14, v15, v3, v4, rfl, h0, h1, h2, h3, h4⟩ := h
  exact ⟨v11, v12, v13, v14, v15, v3, v4, rfl, h0, h1.below hb, h2, h3.below hb, h4.below hb⟩
theorem SlotR.shape {w : World} {cs : List Value} {d : SlotD} (h : SlotR w cs d) : ∃ v11 v12 v13 v14 v15 v3 v4, cs = [.int .i64 d.kind, .int .i64 d.value.kind, v11, v12, v13, v14, v15, .int .i64 d.value.code, .int .i64 d.value.env, .int .i64 d.promise, v3, v4] := by
  obtain ⟨v11, v12, v13, v14, v15, v3, v4, rfl, _⟩ := h
  exact ⟨v11, v12, v13, v14, v15, v3, v4, rfl⟩
/-- the cells of a Slot whose slices lie in blocks of its own, in S -/
def SlotO (S : Nat → Prop) (w : World) (cs : List Value) (d : SlotD) : Prop :=
  ∃ (A11 : Option Addr) (c11 : Nat) (A12 : Option Addr) (c12 : Nat) (A13 : Option Addr) (c13 : Nat) (A14 : Option Addr) (c14 : Nat) (A15 : Option Addr) (c15 : Nat) (A3 : Option Addr) (c3 : Nat) (A4 : Option Addr) (c4 : Nat), ∃ f : Nat → Nat, cs = [.int .i64 d.kind, .int .i64 d.value.kind, .slice A11 d.value.items.length c11, .slice A12 d.value.parts.length c12, .slice A13 d.value.names.length c13, .slice A14 d.value.cls.length c14, .slice A15 d.value.levels.length c15, .int .i64 d.value.code, .int .i64 d.value.env, .int .i64 d.promise, .slice A3 d.promises.length c3, .slice A4 d.labels.length c4] ∧ I64 d.kind ∧ VecO (fun b => S b ∧ f b = 1) w [.int .i64 d.value.kind, .slice A11 d.value.items.length c11, .slice A12 d.value.parts.length c12, .slice A13 d.value.names.length c13, .slice A14 d.value.cls.length c14, .slice A15 d.value.levels.length c15, .int .i64 d.value.code, .int .i64 d.value.env] d.value ∧ I64 d.promise ∧ IntO (fun b => S b ∧ f b = 3) w (.slice A3 d.promises.length c3) d.promises ∧ TxtO (fun b => S b ∧ f b = 4) w (.slice A4 d.labels.length c4) d.labels
theorem SlotO.read {S : Nat → Prop} {w : World} {cs : List Value} {d : SlotD} (h : SlotO S w cs d) : SlotR w cs d := by
  obtain ⟨A11, c11, A12, c12, A13, c13, A14, c14, A15, c15, A3, c3, A4, c4, f, rfl, h0, h1, h2, h3, h4⟩ := h
  exact ⟨_, _, _, _, _, _, _, rfl, h0, h1.read, h2, h3.read, h4.read⟩
theorem SlotO.keeps {S : Nat → Prop} {w w' : World} {cs : List Value} {d : SlotD} (h : SlotO S w cs d) (hk : Keeps S w w') : SlotO S w' cs d := by
  obtain ⟨A11, c11, A12, c12, A13, c13, A14, c14, A15, c15, A3, c3, A4, c4, f, rfl, h0, h1, h2, h3, h4⟩ := h
  exact ⟨A11, c11, A12, c12, A13, c13, A14, c14, A15, c15, A3, c3, A4, c4, f, rfl, h0, h1.keeps (hk.mono fun _ h => h.1), h2, h3.keeps (hk.mono fun _ h => h.1), h4.keeps (hk.mono fun _ h => h.1)⟩
theorem SlotO.mono {S S' : Nat → Prop} {w : World} {cs : List Value} {d : SlotD} (h : SlotO S w cs d) (hs : ∀ b, S b → S' b) : SlotO S' w cs d := by
  obtain ⟨A11, c11, A12, c12, A13, c13, A14, c14, A15, c15, A3, c3, A4, c4, f, rfl, h0, h1, h2, h3, h4⟩ := h
  exact ⟨A11, c11, A12, c12, A13, c13, A14, c14, A15, c15, A3, c3, A4, c4, f, rfl, h0, h1.mono (fun b h => ⟨hs b h.1, h.2⟩), h2, h3.mono (fun b h => ⟨hs b h.1, h.2⟩), h4.mono (fun b h => ⟨hs b h.1, h.2⟩)⟩
theorem SlotO.length {S : Nat → Prop} {w : World} {cs : List Value} {d : SlotD} (h : SlotO S w cs d) : cs.length = 12 := by
  obtain ⟨A11, c11, A12, c12, A13, c13, A14, c14, A15, c15, A3, c3, A4, c4, f, rfl, _⟩ := h
  rfl

def szSlot (d : SlotD) : Nat := szVector d.value + List.length d.promises + szL d.labels

def RetSlot (w : World) (d : SlotD) (e : Ending) (w' : World) : Prop := ∃ cs, e = .returned (.agg cs.toArray) ∧ SlotO (Rng w.heap.size w'.heap.size) w' cs d ∧ Below w.heap.size w w'
def Slots (w : World) (v : Value) (l : List SlotD) : Prop := SlR w 12 (SlotR w) v l
theorem Slots.below {w w' : World} {v : Value} {l : List SlotD} (h : Slots w v l) (hb : Below w.heap.size w w') : Slots w' v l := SlR.below h hb (fun _ _ h => h.below hb)
def SlotsO (S : Nat → Prop) (w : World) (v : Value) (l : List SlotD) : Prop := SlO S w 96 12 SlotO v l
theorem SlotsO.read {S : Nat → Prop} {w : World} {v : Value} {l : List SlotD} (h : SlotsO S w v l) : Slots w v l := SlO.read (fun _ h => h.read) h
theorem SlotsO.keeps {S : Nat → Prop} {w w' : World} {v : Value} {l : List SlotD} (h : SlotsO S w v l) (hk : Keeps S w w') : SlotsO S w' v l := SlO.keeps (fun _ h k => h.keeps k) h hk
theorem SlotsO.mono {S S' : Nat → Prop} {w : World} {v : Value} {l : List SlotD} (h : SlotsO S w v l) (hs : ∀ b, S b → S' b) : SlotsO S' w v l := SlO.mono (fun _ h k => h.mono k) h hs
theorem info_Slot : (Tryz.prog.info? 96).map (fun i => (i.zero, i.size, i.bytes)) = some (some (.agg #[.int .i64 0, .int .i64 0, .slice none 0 0, .slice none 0 0, .slice none 0 0, .slice none 0 0, .slice none 0 0, .int .i64 0, .int .i64 0, .int .i64 0, .slice none 0 0, .slice none 0 0]), 12, 208) := by kernel_rfl
end Go.Proofs.YtejieacdfjpfnaaGreat
namespace Go.Proofs.YtejieacdfjpfnaaGreat
set_option maxRecDepth 100000
open Go.ChangeShapes Go.WideShapes Go.ChangeAt Go.RowKit Go.Deep

structure EnvD where
  used : Bool
  parent : Int
  names : List (List UInt8)
  slots : List SlotD

/-- the cells of a Env -/
def EnvR (w : World) (cs : List Value) (d : EnvD) : Prop :=
  ∃ v2 v3, cs = [.bool d.used, .int .i64 d.parent, v2, v3] ∧ True ∧ I64 d.parent ∧ Txts w v2 d.names ∧ Slots w v3 d.slots
theorem EnvR.below {w w' : World} {cs : List Value} {d : EnvD} (h : EnvR w cs d) (hb : Below w.heap.size w w') : EnvR w' cs d := by
  obtain ⟨v2, v3, rfl, h0, h1, h2, h3⟩ := h
  exact ⟨v2, v3, rfl, h0, h1, h2.below hb, h3.below hb⟩
/-- the cells of a Env whose slices lie in blocks of its own, in S -/
def EnvO (S : Nat → Prop) (w : World) (cs : List Value) (d : EnvD) : Prop :=
  ∃ (A2 : Option Addr) (c2 : Nat) (A3 : Option Addr) (c3 : Nat), ∃ f : Nat → Nat, cs = [.bool d.used, .int .i64 d.parent, .slice A2 d.names.length c2, .slice A3 d.slots.length c3] ∧ True ∧ I64 d.parent ∧ TxtO (fun b => S b ∧ f b = 2) w (.slice A2 d.names.length c2) d.names ∧ SlotsO (fun b => S b ∧ f b = 3) w (.slice A3 d.slots.length c3) d.slots
theorem EnvO.read {S : Nat → Prop} {w : World} {cs : List Value} {d : EnvD} (h : EnvO S w cs d) : EnvR w cs d := by
  obtain ⟨A2, c2, A3, c3, f, rfl, h0, h1, h2, h3⟩ := h
  exact ⟨_, _, rfl, h0, h1, h2.read, h3.read⟩
theorem EnvO.keeps {S : Nat → Prop} {w w' : World} {cs : List Value} {d : EnvD} (h : EnvO S w cs d) (hk : Keeps S w w') : EnvO S w' cs d := by
  obtain ⟨A2, c2, A3, c3, f, rfl, h0, h1, h2, h3⟩ := h
  exact ⟨A2, c2, A3, c3, f, rfl, h0, h1, h2.keeps (hk.mono fun _ h => h.1), h3.keeps (hk.mono fun _ h => h.1)⟩
theorem EnvO.mono {S S' : Nat → Prop} {w : World} {cs : List Value} {d : EnvD} (h : EnvO S w cs d) (hs : ∀ b, S b → S' b) : EnvO S' w cs d := by
  obtain ⟨A2, c2, A3, c3, f, rfl, h0, h1, h2, h3⟩ := h
  exact ⟨A2, c2, A3, c3, f, rfl, h0, h1, h2.mono (fun b h => ⟨hs b h.1, h.2⟩), h3.mono (fun b h => ⟨hs b h.1, h.2⟩)⟩
theorem EnvO.length {S : Nat → Prop} {w : World} {cs : List Value} {d : EnvD} (h : EnvO S w cs d) : cs.length = 4 := by
  obtain ⟨A2, c2, A3, c3, f, rfl, _⟩ := h
  rfl

def szEnv (d : EnvD) : Nat := szL d.names + szS szSlot d.slots

def RetEnv (w : World) (d : EnvD) (e : Ending) (w' : World) : Prop := ∃ cs, e = .returned (.agg cs.toArray) ∧ EnvO (Rng w.heap.size w'.heap.size) w' cs d ∧ Below w.heap.size w w'
def Envs (w : World) (v : Value) (l : List EnvD) : Prop := SlR w 4 (EnvR w) v l
theorem Envs.below {w w' : World} {v : Value} {l : List EnvD} (h : Envs w v l) (hb : Below w.heap.size w w') : Envs w' v l := SlR.below h hb (fun _ _ h => h.below hb)
def EnvsO (S : Nat → Prop) (w : World) (v : Value) (l : List EnvD) : Prop := SlO S w 71 4 EnvO v l
theorem EnvsO.read {S : Nat → Prop} {w : World} {v : Value} {l : List EnvD} (h : EnvsO S w v l) : Envs w v l := SlO.read (fun _ h => h.read) h
theorem EnvsO.keeps {S : Nat → Prop} {w w' : World} {v : Value} {l : List EnvD} (h : EnvsO S w v l) (hk : Keeps S w w') : EnvsO S w' v l := SlO.keeps (fun _ h k => h.keeps k) h hk
theorem EnvsO.mono {S S' : Nat → Prop} {w : World} {v : Value} {l : List EnvD} (h : EnvsO S w v l) (hs : ∀ b, S b → S' b) : EnvsO S' w v l := SlO.mono (fun _ h k => h.mono k) h hs
theorem info_Env : (Tryz.prog.info? 71).map (fun i => (i.zero, i.size, i.bytes)) = some (some (.agg #[.bool false, .int .i64 0, .slice none 0 0, .slice none 0 0]), 4, 64) := by kernel_rfl
end Go.Proofs.YtejieacdfjpfnaaGreat
namespace Go.Proofs.YtejieacdfjpfnaaGreat
set_option maxRecDepth 100000
open Go.ChangeShapes Go.WideShapes Go.ChangeAt Go.RowKit Go.Deep

structure PromD where
  used : Bool
  code : Int
  env : Int
  state : Int
  value : VecD

/-- the cells of a Promise -/
def PromiseR (w : World) (cs : List Value) (d : PromD) : Prop :=
  ∃ v41 v42 v43 v44 v45, cs = [.bool d.used, .int .i64 d.code, .int .i64 d.env, .int .i64 d.state, .int .i64 d.value.kind, v41, v42, v43, v44, v45, .int .i64 d.value.code, .int .i64 d.value.env] ∧ True ∧ I64 d.code ∧ I64 d.env ∧ I64 d.state ∧ VecR w [.int .i64 d.value.kind, v41, v42, v43, v44, v45, .int .i64 d.value.code, .int .i64 d.value.env] d.value
theorem PromiseR.below {w w' : World} {cs : List Value} {d : PromD} (h : PromiseR w cs d) (hb : Below w.heap.size w w') : PromiseR w' cs d := by
  obtain ⟨v41, v42, v43, v44, v45, rfl, h0, h1, h2, h3, h4⟩ := h
  exact ⟨v41, v42, v43, v44, v45, rfl, h0, h1, h2, h3, h4.below hb⟩
/-- the cells of a Promise whose slices lie in blocks of its own, in S -/
def PromiseO (S : Nat → Prop) (w : World) (cs : List Value) (d : PromD) : Prop :=
  ∃ (A41 : Option Addr) (c41 : Nat) (A42 : Option Addr) (c42 : Nat) (A43 : Option Addr) (c43 : Nat) (A44 : Option Addr) (c44 : Nat) (A45 : Option Addr) (c45 : Nat), ∃ f : Nat → Nat, cs = [.bool d.used, .int .i64 d.code, .int .i64 d.env, .int .i64 d.state, .int .i64 d.value.kind, .slice A41 d.value.items.length c41, .slice A42 d.value.parts.length c42, .slice A43 d.value.names.length c43, .slice A44 d.value.cls.length c44, .slice A45 d.value.levels.length c45, .int .i64 d.value.code, .int .i64 d.value.env] ∧ True ∧ I64 d.code ∧ I64 d.env ∧ I64 d.state ∧ VecO (fun b => S b ∧ f b = 4) w [.int .i64 d.value.kind, .slice A41 d.value.items.length c41, .slice A42 d.value.parts.length c42, .slice A43 d.value.names.length c43, .slice A44 d.value.cls.length c44, .slice A45 d.value.levels.length c45, .int .i64 d.value.code, .int .i64 d.value.env] d.value
theorem PromiseO.read {S : Nat → Prop} {w : World} {cs : List Value} {d : PromD} (h : PromiseO S w cs d) : PromiseR w cs d := by
  obtain ⟨A41, c41, A42, c42, A43, c43, A44, c44, A45, c45, f, rfl, h0, h1, h2, h3, h4⟩ := h
  exact ⟨_, _, _, _, _, rfl, h0, h1, h2, h3, h4.read⟩
theorem PromiseO.keeps {S : Nat → Prop} {w w' : World} {cs : List Value} {d : PromD} (h : PromiseO S w cs d) (hk : Keeps S w w') : PromiseO S w' cs d := by
  obtain ⟨A41, c41, A42, c42, A43, c43, A44, c44, A45, c45, f, rfl, h0, h1, h2, h3, h4⟩ := h
  exact ⟨A41, c41, A42, c42, A43, c43, A44, c44, A45, c45, f, rfl, h0, h1, h2, h3, h4.keeps (hk.mono fun _ h => h.1)⟩
theorem PromiseO.mono {S S' : Nat → Prop} {w : World} {cs : List Value} {d : PromD} (h : PromiseO S w cs d) (hs : ∀ b, S b → S' b) : PromiseO S' w cs d := by
  obtain ⟨A41, c41, A42, c42, A43, c43, A44, c44, A45, c45, f, rfl, h0, h1, h2, h3, h4⟩ := h
  exact ⟨A41, c41, A42, c42, A43, c43, A44, c44, A45, c45, f, rfl, h0, h1, h2, h3, h4.mono (fun b h => ⟨hs b h.1, h.2⟩)⟩
def szPromise (d : PromD) : Nat := szVector d.value

def Promises (w : World) (v : Value) (l : List PromD) : Prop := SlR w 12 (PromiseR w) v l
theorem Promises.below {w w' : World} {v : Value} {l : List PromD} (h : Promises w v l) (hb : Below w.heap.size w w') : Promises w' v l := SlR.below h hb (fun _ _ h => h.below hb)
def PromisesO (S : Nat → Prop) (w : World) (v : Value) (l : List PromD) : Prop := SlO S w 74 12 PromiseO v l
theorem PromisesO.read {S : Nat → Prop} {w : World} {v : Value} {l : List PromD} (h : PromisesO S w v l) : Promises w v l := SlO.read (fun _ h => h.read) h
theorem PromisesO.keeps {S : Nat → Prop} {w w' : World} {v : Value} {l : List PromD} (h : PromisesO S w v l) (hk : Keeps S w w') : PromisesO S w' v l := SlO.keeps (fun _ h k => h.keeps k) h hk
theorem PromisesO.mono {S S' : Nat → Prop} {w : World} {v : Value} {l : List PromD} (h : PromisesO S w v l) (hs : ∀ b, S b → S' b) : PromisesO S' w v l := SlO.mono (fun _ h k => h.mono k) h hs
theorem info_Promise : (Tryz.prog.info? 74).map (fun i => (i.zero, i.size, i.bytes)) = some (some (.agg #[.bool false, .int .i64 0, .int .i64 0, .int .i64 0, .int .i64 0, .slice none 0 0, .slice none 0 0, .slice none 0 0, .slice none 0 0, .slice none 0 0, .int .i64 0, .int .i64 0]), 12, 176) := by kernel_rfl
end Go.Proofs.YtejieacdfjpfnaaGreat
namespace Go.Proofs.YtejieacdfjpfnaaGreat
set_option maxRecDepth 100000
open Go.ChangeShapes Go.WideShapes Go.ChangeAt Go.RowKit Go.Deep

structure StoreD where
  envs : List EnvD
  promises : List PromD

/-- the cells of a Store -/
def StoreR (w : World) (cs : List Value) (d : StoreD) : Prop :=
  ∃ v0 v1, cs = [v0, v1] ∧ Envs w v0 d.envs ∧ Promises w v1 d.promises
theorem StoreR.below {w w' : World} {cs : List Value} {d : StoreD} (h : StoreR w cs d) (hb : Below w.heap.size w w') : StoreR w' cs d := by
  obtain ⟨v0, v1, rfl, h0, h1⟩ := h
  exact ⟨v0, v1, rfl, h0.below hb, h1.below hb⟩
/-- the cells of a Store whose slices lie in blocks of its own, in S -/
def StoreO (S : Nat → Prop) (w : World) (cs : List Value) (d : StoreD) : Prop :=
  ∃ (A0 : Option Addr) (c0 : Nat) (A1 : Option Addr) (c1 : Nat), ∃ f : Nat → Nat, cs = [.slice A0 d.envs.length c0, .slice A1 d.promises.length c1] ∧ EnvsO (fun b => S b ∧ f b = 0) w (.slice A0 d.envs.length c0) d.envs ∧ PromisesO (fun b => S b ∧ f b = 1) w (.slice A1 d.promises.length c1) d.promises
theorem StoreO.read {S : Nat → Prop} {w : World} {cs : List Value} {d : StoreD} (h : StoreO S w cs d) : StoreR w cs d := by
  obtain ⟨A0, c0, A1, c1, f, rfl, h0, h1⟩ := h
  exact ⟨_, _, rfl, h0.read, h1.read⟩
theorem StoreO.keeps {S : Nat → Prop} {w w' : World} {cs : List Value} {d : StoreD} (h : StoreO S w cs d) (hk : Keeps S w w') : StoreO S w' cs d := by
  obtain ⟨A0, c0, A1, c1, f, rfl, h0, h1⟩ := h
  exact ⟨A0, c0, A1, c1, f, rfl, h0.keeps (hk.mono fun _ h => h.1), h1.keeps (hk.mono fun _ h => h.1)⟩
theorem StoreO.mono {S S' : Nat → Prop} {w : World} {cs : List Value} {d : StoreD} (h : StoreO S w cs d) (hs : ∀ b, S b → S' b) : StoreO S' w cs d := by
  obtain ⟨A0, c0, A1, c1, f, rfl, h0, h1⟩ := h
  exact ⟨A0, c0, A1, c1, f, rfl, h0.mono (fun b h => ⟨hs b h.1, h.2⟩), h1.mono (fun b h => ⟨hs b h.1, h.2⟩)⟩
def szStore (d : StoreD) : Nat := szS szEnv d.envs + szS szPromise d.promises

def RetStore (w : World) (d : StoreD) (e : Ending) (w' : World) : Prop := ∃ cs, e = .returned (.agg cs.toArray) ∧ StoreO (Rng w.heap.size w'.heap.size) w' cs d ∧ Below w.heap.size w w'
end Go.Proofs.YtejieacdfjpfnaaGreat
