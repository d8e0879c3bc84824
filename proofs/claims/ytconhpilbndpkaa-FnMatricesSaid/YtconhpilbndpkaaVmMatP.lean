/-
  Contracts on trees: matrices compared.
-/
import Derived.Test.YtconhpilbndpkaaVmMatO
import Derived.Test.YtconhpilbndpkaaVmMatL
import Derived.Laws.StructEq
import Derived.Tactics
namespace Go.Proofs.Ytconhpilbndpkaa
set_option maxRecDepth 100000
open Go.RowKit Go.Proofs.Ytconhpilbndpkaa.Vm
set_option linter.unusedVariables false

theorem itT_val {Z : Kn} {ρ : Rho} {x : It} {v : Value} (h : RdT Z ρ (itT x) v) : v = .agg #[.int .i64 x.1, .int .i64 x.2, .string (bs [])] := by
  obtain ⟨vs, rfl, h1, _⟩ := h.agI
  obtain ⟨v1, vs1, rfl, a1, h1⟩ := h1.uncons
  obtain ⟨v2, vs2, rfl, a2, h1⟩ := h1.uncons
  obtain ⟨v3, vs3, rfl, a3, h1⟩ := h1.uncons
  obtain rfl := h1.unnil
  rw [a1.cI.intI, a2.cI.intI, a3.cI.strI]
theorem run_neSame (x : It) (xo yo : Operand) (w : World) : (do eqGuard .neq 37 xo yo (.agg #[.int .i64 x.1, .int .i64 x.2, .string (bs [])]) (.agg #[.int .i64 x.1, .int .i64 x.2, .string (bs [])]); binOp .neq 37 (.agg #[.int .i64 x.1, .int .i64 x.2, .string (bs [])]) (.agg #[.int .i64 x.1, .int .i64 x.2, .string (bs [])]) : Sem Value).run Try.prog w = .ok (.bool false) w := by
  obtain ⟨a, b⟩ := x
  have hg : Try.prog.eqGuardType Try.prog.depth 37 = false := by kernel_rfl
  rw [Sem.run_bind, run_eqGuard_agg w _ _ _ _ _ _ hg, Result.andThen_ok, run_neq_struct]
  rw [run_equalIn_agg w 9999 _ _ _ (by kernel_rfl) (by kernel_rfl)]
  go_simp
theorem Val_neSame {X : Ctx} (hX : X.P = Try.prog) {a : Vm.Slots} {m : Mem} {o : Oper} {xo yo : Operand} (x : It) (hq : bopQ a o = some (.neq, 37, xo, yo)) (hx : evT a xo = itT x) (hy : evT a yo = itT x) : Val X a m o (.q false) :=
  Val_binop hq fun Z ρ u v h1 h2 => by
    rw [hx] at h1
    rw [hy] at h2
    obtain rfl := itT_val h1
    obtain rfl := itT_val h2
    refine ⟨.bool false, fun w => ?_, .q _⟩
    rw [hX]
    exact run_neSame x xo yo w
def TruO (t : T) : Prop := t = .c (.b true) ∨ t = .q true
theorem Ct.true {P : Program} {f : FuncId} {args : List T} (h : Ct P f args TruO) : Ct P f args (fun t => t = .q true) := Ct.bool (h.mono fun t ht => by
  rcases ht with h | h
  · exact .inr h
  · exact .inl h)
set_option maxHeartbeats 4000000 in
theorem ct_sameItems (L : List It) (hn : L.length ≤ 1000000) : Ct Try.prog 22 [.c (.sl (L.map itK)), .c (.sl (L.map itK))] (fun t => t = .q true) := by
  refine Ct.true ?_
  obtain ⟨zb, zc, zs, zl, zn, zt, zp, zg, zv, zx, zm, hz⟩ := Vm.zE
  obtain ⟨I, hI⟩ := hide (L.map itK)
  rw [← hI]
  have hlen : zl I = (L.length : Int) := by rw [z_len hz, hI]; simp
  refine Ct_of_W Try.func22 rfl (Nat.le_of_ble_eq_true rfl) fun w0 Z0 => ?_
  refine W_run ti_ok hz 400 (by cbv) ?_
  refine W_bool 10 (by cbv) (show _ = false by rw [z_neq hz]; simp) ?_
  refine W_run ti_ok hz 400 (by cbv) ?_
  refine W_keep [0, 1, 5] [] 0 (by cbv) (by cbv) ?_
  refine W_loop (fun n a m => ∃ (k : Nat) (ik : Int), k ≤ L.length ∧ n = L.length - k ∧ ik = (k : Int) ∧ a = [(0, T.c (C.sl I)), (1, T.c (C.sl I)), (5, T.c (C.i IntKind.i64 ik))] ∧ m = []) L.length ⟨0, 0, Nat.zero_le _, rfl, rfl, by cbv, by cbv⟩ ?_
  rintro n a m ⟨k, ik, hk, hn', hik, rfl, rfl⟩
  refine W_run ti_ok hz 400 (by cbv) ?_
  refine W_cond (by cbv) (fun h => ?_) (fun h => ?_)
  · rw [z_lss hz, hlen] at h
    have h := of_decide_eq_true h
    have hlt : k < L.length := by omega
    obtain ⟨x, hx⟩ : ∃ x, L[k]? = some x := ⟨_, List.getElem?_eq_getElem hlt⟩
    have e1 : I[k]? = some (itK x) := by rw [hI, List.getElem?_map, hx]; rfl
    clear hx
    obtain ⟨x1, x2⟩ := x
    refine W_run ti_ok hz 400 (by cbv) ?_
    refine W_draw mixedB [(2, 0), (2, 1), (2, 2), (1, 3), (2, 4), (2, 5), (2, 6), (1, 7), (2, 8)] [] (by kernel_rfl) ?_
    refine D_run ti_ok hz 400 (by cbv) ?_
    refine D_val (by cbv) (by cbv) (by cbv) (Val_elem ti_ok (by cbv) k hik e1 rfl) ?_
    refine D_run ti_ok hz 400 (by cbv) ?_
    refine D_val (by cbv) (by cbv) (by cbv) (Val_elem ti_ok (by cbv) k hik e1 rfl) ?_
    refine D_run ti_ok hz 400 (by cbv) ?_
    refine D_val (by cbv) (by cbv) (by cbv) (Val_neSame rfl (x1, x2) (by cbv) (by cbv) (by cbv)) ?_
    refine D_run ti_ok hz 400 (by cbv) ?_
    refine D_done ?_
    refine W_bool 25 (by cbv) (rfl) ?_
    refine W_run ti_ok hz 400 (by cbv) ?_
    obtain ⟨ik1, hik1⟩ := hide (ik + 1)
    have hadd : zb .add .i64 ik 1 = ik1 := by rw [z_add hz (by omega) (by omega), hik1]
    rw [hadd]
    exact W_inv [0, 1, 5] [] (L.length - (k + 1)) (by omega) (by cbv) (by cbv) ⟨k + 1, ik1, hlt, rfl, by rw [hik1, hik]; rfl, by cbv, by cbv⟩
  · refine W_run ti_ok hz 400 (by cbv) ?_
    refine W_ret ti_ok rfl (by cbv) ?_
    exact .inl rfl
set_option maxHeartbeats 4000000 in
theorem ct_sameInts (l : List Nat) (hn : l.length ≤ 1000000) : Ct Try.prog 9 [.c (.sl (inL l)), .c (.sl (inL l))] (fun t => t = .q true) := by
  refine Ct.true ?_
  obtain ⟨zb, zc, zs, zl, zn, zt, zp, zg, zv, zx, zm, hz⟩ := Vm.zE
  obtain ⟨I, hI⟩ := hide (inL l)
  rw [← hI]
  have hlen : zl I = (l.length : Int) := by rw [z_len hz, hI, inL_length]
  refine Ct_of_W Try.func9 rfl (Nat.le_of_ble_eq_true rfl) fun w0 Z0 => ?_
  refine W_run ti_ok hz 400 (by cbv) ?_
  refine W_bool 10 (by cbv) (show _ = false by rw [z_neq hz]; simp) ?_
  refine W_run ti_ok hz 400 (by cbv) ?_
  refine W_keep [0, 1, 5] [] 0 (by cbv) (by cbv) ?_
  refine W_loop (fun n a m => ∃ (k : Nat) (ik : Int), k ≤ l.length ∧ n = l.length - k ∧ ik = (k : Int) ∧ a = [(0, T.c (C.sl I)), (1, T.c (C.sl I)), (5, T.c (C.i IntKind.i64 ik))] ∧ m = []) l.length ⟨0, 0, Nat.zero_le _, rfl, rfl, by cbv, by cbv⟩ ?_
  rintro n a m ⟨k, ik, hk, hn', hik, rfl, rfl⟩
  refine W_run ti_ok hz 400 (by cbv) ?_
  refine W_cond (by cbv) (fun h => ?_) (fun h => ?_)
  · rw [z_lss hz, hlen] at h
    have h := of_decide_eq_true h
    have hlt : k < l.length := by omega
    have e1 : ∃ v : Int, I[k]? = some [C.i .i64 v] := ⟨_, by rw [hI]; exact inL_get (List.getElem?_eq_getElem hlt)⟩
    obtain ⟨v, e1⟩ := e1
    refine W_run ti_ok hz 400 (by cbv) ?_
    refine W_draw mixedB [(2, 0), (2, 1), (2, 2), (1, 3), (2, 4), (2, 5), (2, 6), (1, 7), (2, 8)] [] (by kernel_rfl) ?_
    refine D_run ti_ok hz 400 (by cbv) ?_
    refine D_val (by cbv) (by cbv) (by cbv) (Val_elem ti_ok (by cbv) k hik e1 rfl) ?_
    refine D_run ti_ok hz 400 (by cbv) ?_
    refine D_val (by cbv) (by cbv) (by cbv) (Val_elem ti_ok (by cbv) k hik e1 rfl) ?_
    refine D_run ti_ok hz 400 (by cbv) ?_
    refine D_done ?_
    refine W_bool 25 (by cbv) (show _ = false by rw [z_neq hz]; simp) ?_
    refine W_run ti_ok hz 400 (by cbv) ?_
    obtain ⟨ik1, hik1⟩ := hide (ik + 1)
    have hadd : zb .add .i64 ik 1 = ik1 := by rw [z_add hz (by omega) (by omega), hik1]
    rw [hadd]
    exact W_inv [0, 1, 5] [] (l.length - (k + 1)) (by omega) (by cbv) (by cbv) ⟨k + 1, ik1, hlt, rfl, by rw [hik1, hik]; rfl, by cbv, by cbv⟩
  · refine W_run ti_ok hz 400 (by cbv) ?_
    refine W_ret ti_ok rfl (by cbv) ?_
    exact .inl rfl
theorem ct_sameMatrices (r c : Int) (L : List It) (hn : L.length ≤ 1000000) : Ct Try.prog 8 [mtT r c L, mtT r c L] (fun t => t = .q true) := by
  have c1 := ct_sameItems L hn
  refine Ct.true ?_
  unfold mtT
  obtain ⟨I, hI⟩ := hide (L.map itK)
  rw [← hI] at c1 ⊢
  obtain ⟨zb, zc, zs, zl, zn, zt, zp, zg, zv, zx, zm, hz⟩ := Vm.zE
  refine Ct_of_W Try.func8 rfl (Nat.le_of_ble_eq_true rfl) fun w0 Z0 => ?_
  refine W_run ti_ok hz 400 (by cbv) ?_
  refine W_bool 10 (by cbv) (show _ = true by rw [z_eql hz]; simp) ?_
  refine W_run ti_ok hz 400 (by cbv) ?_
  refine W_bool 17 (by cbv) (show _ = true by rw [z_eql hz]; simp) ?_
  refine W_run ti_ok hz 400 (by cbv) ?_
  refine W_call (by cbv) (by kernel_rfl) (c1) ?_
  rintro t rfl
  refine W_run ti_ok hz 400 (by cbv) ?_
  refine W_ret ti_ok rfl (by cbv) ?_
  exact .inr rfl
theorem ct_big (B : List (List C)) : Ct Try.prog 4 [.c (.sl B)] (fun t => t = .q (decide (1048576 < B.length))) := by
  obtain ⟨zb, zc, zs, zl, zn, zt, zp, zg, zv, zx, zm, hz⟩ := Vm.zE
  refine Ct_of_W Try.func4 rfl (Nat.le_of_ble_eq_true rfl) fun w0 Z0 => ?_
  refine W_run ti_ok hz 400 (by cbv) ?_
  refine W_ret ti_ok rfl (by cbv) ?_
  rw [z_gtr hz, z_len hz]
  congr 1
  exact decide_eq_decide.2 ⟨fun h => by omega, fun h => by omega⟩
end Go.Proofs.Ytconhpilbndpkaa
