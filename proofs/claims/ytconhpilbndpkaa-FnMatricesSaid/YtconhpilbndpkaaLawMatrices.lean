/-
  The law FnMatrices: reduced matrices stay as they are, the null space is mapped to 0 and has the dimension that the rank leaves, and transposing twice changes nothing.
  Conditions: none (the code's length bounds what is drawn).
-/
import Derived.Test.YtconhpilbndpkaaRows
import Derived.Test.YtconhpilbndpkaaJoin
import Derived.Test.YtconhpilbndpkaaVmMatQ
import Derived.Test.YtconhpilbndpkaaOpen
import Derived.Test.YtconhpilbndpkaaJoin
import Derived.Deep.CutBlock
namespace Go.Proofs.Ytconhpilbndpkaa
set_option maxRecDepth 100000
open Go.ChangeShapes Go.WideShapes Go.ChangeAt Go.RowKit Go.Deep
set_option linter.unusedVariables false
def ByteR (cs : List Value) (n : Nat) : Prop := cs = [.int .u8 n] ∧ n < 256
def Bytes (w : World) (v : Value) (l : List Nat) : Prop := SlR w 1 ByteR v l

theorem open_bytes {H : Type} {enc : TypeId × Value → H} {P : Program} {w : World} {base : Nat} {spare : Nat → Bool} {held : Bool} {t e : TypeId} {v : Value} {d : DataW H} {p : List MemPlace} (ht : P.underlying t = some (.slice e)) (he : P.underlying e = some (.int .u8)) (hc : P.cellsOf e = 1) {r : Reach} {b0 : Nat} (hv : Value.okWide P w r b0 t v) (h : DataW.Trod enc P w base spare held t v d p) : ∃ l, Bytes w v l := by
  obtain ⟨a, len, cap, rfl⟩ := okWide_slice ht hv
  obtain ⟨fuel, hf⟩ := h
  obtain ⟨v, l, hcs, hl⟩ := open_slr ht hc (by omega) ByteR (fun _ _ _ _ _ h => by
    obtain ⟨n, rfl, _, hw⟩ := DataW.trod_int he h
    have hx : 0 ≤ n ∧ n ≤ 255 := by simpa [Lit.wf, IntKind.min, IntKind.max, IntKind.signed, IntKind.bits] using hw
    obtain ⟨k, rfl⟩ := Int.eq_ofNat_of_zero_le hx.1
    exact ⟨k, rfl, by omega⟩) hf
  have : v = .slice a len cap := by simpa [Value.cells] using hcs.symm
  subst this
  exact ⟨l, hl⟩

namespace fnMatrices

theorem bytes_lt {w : World} {v : Value} {l : List Nat} (h : Bytes w v l) : ∀ x ∈ l, x < 256 := fun x hx => by
  obtain ⟨A, c, rfl, hn, hc, hk⟩ := h
  obtain ⟨k, hkl, rfl⟩ := List.getElem_of_mem hx
  obtain ⟨b, off, rfl, hlt, hat⟩ := hk (by omega)
  obtain ⟨cs, _, _, _, h2⟩ := hat k hkl
  exact h2
def allOf (w : World) : Vm.Kn := fun b o => w.cell? ⟨b, o, none⟩
theorem bytes_rd {w : World} {v : Value} {l : List Nat} (h : Bytes w v l) : Vm.RdC (allOf w) (.sl (l.map byK)) v := by
  obtain ⟨A, c, rfl, hn, hc, hk⟩ := h
  rcases Nat.eq_zero_or_pos l.length with h0 | h0
  · obtain rfl := List.eq_nil_of_length_eq_zero h0
    exact .nl A c hc
  · obtain ⟨b, off, rfl, hlt, hat⟩ := hk h0
    have hel : ∀ (k : Nat) (cs : List Vm.C), (l.map byK)[k]? = some cs → ∃ hk : k < l.length, cs = byK l[k] := fun k cs e => by
      rw [List.getElem?_map] at e
      cases hx : l[k]? with
      | none => rw [hx] at e; cases e
      | some x =>
        rw [hx] at e
        injection e with e
        obtain ⟨h1, h2⟩ := List.getElem?_eq_some_iff.1 hx
        exact ⟨h1, by rw [← e, h2]⟩
    have := Vm.RdC.sl (Z := allOf w) (l.map byK) b off 1 c (fun k j => .int .u8 ((l.getD k 0 : Nat) : Int)) (by rw [List.length_map]; exact hn) hc
      (fun k cs e => by obtain ⟨_, rfl⟩ := hel k cs e; rfl)
      (fun k cs j c e ej => by
        obtain ⟨hk, rfl⟩ := hel k cs e
        match j, ej with
        | 0, _ =>
          obtain ⟨cs, _, h1, rfl, _⟩ := hat k hk
          have := h1 0 _ rfl
          rw [show (l.getD k 0) = l[k] by simp [hk]]
          exact this
        | j + 1, ej => cases ej)
      (fun k cs j c e ej => by
        obtain ⟨hk, rfl⟩ := hel k cs e
        match j, ej with
        | 0, ej =>
          injection ej with ej
          rw [show (l.getD k 0) = l[k] by simp [hk], ← ej]
          exact .i _ _
        | j + 1, ej => cases ej)
    rw [List.length_map] at this
    exact this
theorem walk (v0 : Value) (l : List Nat) {w : World} (h : Bytes w v0 l) :
    Calls Try.prog 3 #[v0] w fun e w' => e = .returned (.bool true) ∧ Below w.heap.size w w' := by
  have := law_mat l w (allOf w) [v0] (fun b o u e => e) (.cons (.c _ _ (bytes_rd h)) (.nil _ _))
  refine Calls.mono this fun e w' ⟨v, t, Z', he, hR, hb, _, _, hr⟩ => ⟨?_, hb⟩
  rw [he]
  rcases hR with rfl | rfl
  · rw [hr.cI.boolI]
  · rw [hr.qI]
set_option maxRecDepth 100000 in
theorem lifted (os : Os) (started : os.Started) (H : Type) (enc : TypeId × Value → H) :
    ReturnsInHanded {} Try.checked os 3 .any (Rows.fnMatricesSpec.pre6 enc Try.prog Try.f3 Rows.fnMatricesRow.domain false) (Rows.fnMatricesSpec.post enc Try.prog Try.f3 false true false false) := by
  refine returnsInHanded_of_change (C := Try.checked) own started (by kernel_rfl) Try.func3
    (ChangeSpec.witness6 (enc := enc) (C := Try.checked) false ⟨#[], #[.slice none 0 0], []⟩ 8 (by kernel_rfl) (by kernel_rfl) (by kernel_rfl) (by kernel_rfl)) ?_
  intro W base args ds gs before hval0 hW hcnd _
  have hval : ∀ (j : Nat) t v, Try.f3.params[j]? = some t → args[j]? = some v → Value.okWide Try.prog W .any base t v := hval0
  have hW' := hW
  obtain ⟨p, q, hA0, hV, rfl, hfz, hnd⟩ := hW
  have hA : DataW.TrodAll enc Try.prog W 0 (fun _ => true) true Try.f3.params.toList args.toList ds p := hA0
  rw [Try.params3] at hA hval
  obtain ⟨v0, vs0, d0, ds0, p0, q0, hargs, rfl, rfl, h0, r0⟩ := trodAll_cons hA
  obtain ⟨rfl, rfl, rfl⟩ := trodAll_nil r0
  obtain rfl : args = #[v0] := by cases args; simp_all
  obtain ⟨rfl, rfl⟩ := trodVars_none hV
  obtain ⟨x0, u0⟩ := open_bytes Try.underlying22 Try.underlying5 (by kernel_rfl) (hval 0 22 v0 rfl rfl) h0
  clear hA0 hval0
  refine (walk v0 x0 u0).mono fun e W' ⟨he, hg⟩ => ?_
  subst he
  exact ⟨_, rfl, law_post laidOut hW' rfl rfl Try.underlying4 rfl rfl rfl (by intro t ht; rw [Try.params3] at ht; have ht2 : t ∈ [22] := ht; simp only [List.mem_cons, List.not_mem_nil, or_false] at ht2; rcases ht2 with rfl <;> exact ⟨by kernel_rfl, of_decide_eq_true (by kernel_rfl)⟩) hg⟩

theorem fact0 : jf0 Try.prog 3 Try.f3 Rows.fnMatricesSpec Rows.fnMatricesRow = true := by kernel_rfl
theorem fact1 : jf1 Try.prog 3 Try.f3 Rows.fnMatricesSpec Rows.fnMatricesRow = true := by kernel_rfl
theorem fact2 : jf2 Try.prog 3 Try.f3 Rows.fnMatricesSpec Rows.fnMatricesRow = true := by kernel_rfl
theorem fact3 : jf3 Try.prog 3 Try.f3 Rows.fnMatricesSpec Rows.fnMatricesRow = true := by kernel_rfl
theorem fact4 : jf4 Try.prog 3 Try.f3 Rows.fnMatricesSpec Rows.fnMatricesRow = true := by kernel_rfl
theorem fact5 : jf5 Try.prog 3 Try.f3 Rows.fnMatricesSpec Rows.fnMatricesRow = true := by kernel_rfl
theorem fact6 : jf6 Try.prog 3 Try.f3 Rows.fnMatricesSpec Rows.fnMatricesRow = true := by kernel_rfl
theorem fact7 : jf7 Try.prog 3 Try.f3 Rows.fnMatricesSpec Rows.fnMatricesRow = true := by kernel_rfl
theorem fact8 : jf8 Try.prog 3 Try.f3 Rows.fnMatricesSpec Rows.fnMatricesRow = true := by kernel_rfl
theorem fact9 : jf9 Try.prog 3 Try.f3 Rows.fnMatricesSpec Rows.fnMatricesRow = true := by kernel_rfl
theorem fact10 : jf10 Try.prog 3 Try.f3 Rows.fnMatricesSpec Rows.fnMatricesRow = true := by kernel_rfl
theorem fact11 : jf11 Try.prog 3 Try.f3 Rows.fnMatricesSpec Rows.fnMatricesRow = true := by kernel_rfl
theorem fact12 : jf12 Try.prog 3 Try.f3 Rows.fnMatricesSpec Rows.fnMatricesRow = true := by kernel_rfl
theorem fact13 : jf13 Try.prog 3 Try.f3 Rows.fnMatricesSpec Rows.fnMatricesRow = true := by kernel_rfl
theorem fact14 : jf14 Try.prog 3 Try.f3 Rows.fnMatricesSpec Rows.fnMatricesRow = true := by kernel_rfl
theorem fact15 : jf15 Try.prog 3 Try.f3 Rows.fnMatricesSpec Rows.fnMatricesRow = true := by kernel_rfl
theorem fact16 : jf16 Try.prog 3 Try.f3 Rows.fnMatricesSpec Rows.fnMatricesRow = true := by kernel_rfl
theorem fact17 : jf17 Try.prog 3 Try.f3 Rows.fnMatricesSpec Rows.fnMatricesRow = true := by kernel_rfl
theorem fact18 : jf18 Try.prog 3 Try.f3 Rows.fnMatricesSpec Rows.fnMatricesRow = true := by kernel_rfl
theorem fact19 : jf19 Try.prog 3 Try.f3 Rows.fnMatricesSpec Rows.fnMatricesRow = true := by kernel_rfl
theorem fact20 : jf20 Try.prog 3 Try.f3 Rows.fnMatricesSpec Rows.fnMatricesRow = true := by kernel_rfl
theorem fact21 : jf21 Try.prog 3 Try.f3 Rows.fnMatricesSpec Rows.fnMatricesRow = true := by kernel_rfl
theorem fact22 : jf22 Try.prog 3 Try.f3 Rows.fnMatricesSpec Rows.fnMatricesRow = true := by kernel_rfl
theorem fact23 : jf23 Try.prog 3 Try.f3 Rows.fnMatricesSpec Rows.fnMatricesRow = true := by kernel_rfl
theorem fact24 : jf24 Try.prog 3 Try.f3 Rows.fnMatricesSpec Rows.fnMatricesRow = true := by kernel_rfl
theorem fact25 : jf25 Try.prog 3 Try.f3 Rows.fnMatricesSpec Rows.fnMatricesRow = true := by kernel_rfl
theorem fact26 : jf26 Try.prog 3 Try.f3 Rows.fnMatricesSpec Rows.fnMatricesRow = true := by kernel_rfl
theorem fact27 : jf27 Try.prog 3 Try.f3 Rows.fnMatricesSpec Rows.fnMatricesRow = true := by kernel_rfl
theorem fact28 : jf28 Try.prog 3 Try.f3 Rows.fnMatricesSpec Rows.fnMatricesRow = true := by kernel_rfl
theorem fact29 : jf29 Try.prog 3 Try.f3 Rows.fnMatricesSpec Rows.fnMatricesRow = true := by kernel_rfl
theorem fact30 : jf30 Try.prog 3 Try.f3 Rows.fnMatricesSpec Rows.fnMatricesRow = true := by kernel_rfl
theorem fact31 : jf31 Try.prog 3 Try.f3 Rows.fnMatricesSpec Rows.fnMatricesRow = true := by kernel_rfl
theorem over : Rows.fnMatricesRow.holds Try.pinned (OpenSpec.ofChange Rows.fnMatricesSpec) :=
  OpenClaim.holds_of_wide 3 Try.f3 rfl rfl rfl rfl rfl rfl rfl ⟨rfl, rfl, rfl, rfl, rfl⟩ rfl rfl rfl rfl rfl (by kernel_rfl) Try.func3 (joined fact0 fact1 fact2 fact3 fact4 fact5 fact6 fact7 fact8 fact9 fact10 fact11 fact12 fact13 fact14 fact15 fact16 fact17 fact18 fact19 fact20 fact21 fact22 fact23 fact24 fact25 fact26 fact27 fact28 fact29 fact30 fact31)
    (of_decide_eq_true (by kernel_rfl)) (by unfold Func.isWrapper; first | (rw [if_pos (by decide +kernel)]; kernel_rfl) | (rw [if_neg (by decide +kernel)]; exact ⟨rfl, rfl⟩))
    (fun os started H enc _ => lifted os started H enc)

/-- THE STATEMENT -/
theorem proved : Rows.FnMatricesSaid :=
  over
#print axioms proved
end fnMatrices
end Go.Proofs.Ytconhpilbndpkaa
