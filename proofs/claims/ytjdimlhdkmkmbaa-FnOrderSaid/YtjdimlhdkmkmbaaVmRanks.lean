/-
  Contracts on trees: ranks (impl.MakeNumber, impl.RanksOf).
-/
import Derived.Test.YtjdimlhdkmkmbaaKSort
import Derived.Test.YtjdimlhdkmkmbaaKOrd
namespace Go.Proofs.Ytjdimlhdkmkmbaa
set_option maxRecDepth 100000
open Go.ChangeShapes Go.WideShapes Go.ChangeAt Go.RowKit Go.Deep Go.Proofs.Ytjdimlhdkmkmbaa.Vm
set_option linter.unusedVariables false

set_option maxHeartbeats 4000000 in
theorem ct_MakeR (s n : Nat) (hn : 0 < n) (hn2 : n ≤ 1000) (hs : s ≤ 1000000) : Ct Try.prog 83 [.c (.i .i64 (s : Int)), .c (.i .i64 (n : Int))] (fun t => t = itT (mkR s n)) := by
  obtain ⟨zb, zc, zs, zl, zn, zt, zp, zg, zv, zx, zm, hz⟩ := Vm.zE
  have c1 := ct_gcd (s : Int) (n : Int) ⟨by omega, by omega⟩ ⟨by omega, by omega⟩
  rw [Int.gcd_natCast_natCast] at c1
  have hg : 0 < Nat.gcd s n := Nat.gcd_pos_of_pos_right _ hn
  have hgl : Nat.gcd s n ≤ n := Nat.gcd_le_right _ hn
  have hnum := mkR_num hn hn2 hs
  have b1 := Nat.div_le_self s (Nat.gcd s n)
  have b2 := Nat.div_le_self n (Nat.gcd s n)
  have q1 : ((s / Nat.gcd s n : Nat) : Int) = Int.tdiv (s : Int) ((Nat.gcd s n : Nat) : Int) := by rw [Int.ofNat_tdiv]
  have q2 : ((n / Nat.gcd s n : Nat) : Int) = Int.tdiv (n : Int) ((Nat.gcd s n : Nat) : Int) := by rw [Int.ofNat_tdiv]
  unfold mkR at hnum ⊢
  obtain ⟨u1, hu1⟩ := hide (s / Nat.gcd s n)
  obtain ⟨u2, hu2⟩ := hide (n / Nat.gcd s n)
  rw [← hu1] at b1 q1 hnum ⊢
  rw [← hu2] at b2 q2 hnum ⊢
  have c2 := ct_IsNumber ⟨(u1 : Int), (u2 : Int), []⟩ ⟨⟨by show _ ≤ (u1 : Int); omega, by show (u1 : Int) ≤ _; omega⟩, ⟨by show _ ≤ (u2 : Int); omega, by show (u2 : Int) ≤ _; omega⟩, Nat.zero_le _⟩
  rw [hnum] at c2
  obtain ⟨r1, hr1⟩ := hide (u1 : Int)
  obtain ⟨r2, hr2⟩ := hide (u2 : Int)
  rw [← hr1] at c2 q1 ⊢
  rw [← hr2] at c2 q2 ⊢
  obtain ⟨g, hgg⟩ := hide ((Nat.gcd s n : Nat) : Int)
  rw [← hgg] at c1 q1 q2
  obtain ⟨a, haa⟩ := hide (s : Int)
  obtain ⟨b, hbb⟩ := hide (n : Int)
  rw [← haa] at c1 q1 ⊢
  rw [← hbb] at c1 q2 ⊢
  refine Ct_of_W Try.func83 rfl (Nat.le_of_ble_eq_true rfl) fun w0 Z0 => ?_
  refine W_run ti_ok hz 400 (by cbv) ?_
  refine W_bool 9 (by cbv) (show _ = false by rw [z_eql hz]; simp; omega) ?_
  refine W_run ti_ok hz 400 (by cbv) ?_
  refine W_bool 13 (by cbv) (show _ = false by rw [z_lss hz]; exact decide_eq_false (by omega)) ?_
  refine W_run ti_ok hz 400 (by cbv) ?_
  refine W_bool 17 (by cbv) (show _ = false by rw [z_gtr hz]; exact decide_eq_false (by omega)) ?_
  refine W_run ti_ok hz 400 (by cbv) ?_
  refine W_bool 21 (by cbv) (show _ = false by rw [z_lss hz]; exact decide_eq_false (by omega)) ?_
  refine W_run ti_ok hz 400 (by cbv) ?_
  refine W_bool 24 (by cbv) (show _ = false by rw [z_gtr hz]; exact decide_eq_false (by omega)) ?_
  refine W_run ti_ok hz 400 (by cbv) ?_
  refine W_bool 27 (by cbv) (show _ = false by rw [z_lss hz]; exact decide_eq_false (by omega)) ?_
  refine W_run ti_ok hz 400 (by cbv) ?_
  refine W_call (by cbv) (by kernel_rfl) (c1) ?_
  rintro t rfl
  refine W_run ti_ok hz 400 (by cbv) ?_
  refine W_draw mixedB [(2, 0), (2, 1), (2, 2), (2, 3), (2, 4), (2, 5), (2, 6), (0, 7), (0, 8)] [8] (by kernel_rfl) ?_
  refine D_run ti_ok hz 400 (by cbv) ?_
  refine D_val (by cbv) (by cbv) (by cbv) (Val_quo (r := r1) (by cbv) (by omega) (by rw [q1]) (by omega) (by omega)) ?_
  refine D_run ti_ok hz 400 (by cbv) ?_
  refine D_val (by cbv) (by cbv) (by cbv) (Val_quo (r := r2) (by cbv) (by omega) (by rw [q2]) (by omega) (by omega)) ?_
  refine D_run ti_ok hz 400 (by cbv) ?_
  refine D_last ti_ok hz (by cbv) (by cbv) (by cbv) (by cbv) (by cbv) ?_
  refine W_run ti_ok hz 400 (by cbv) ?_
  refine W_call (by cbv) (by kernel_rfl) (c2) ?_
  rintro t rfl
  refine W_run ti_ok hz 400 (by cbv) ?_
  refine W_bool 44 (by cbv) (show _ = false by rw [z_not hz]; rfl) ?_
  refine W_run ti_ok hz 400 (by cbv) ?_
  refine W_ret ti_ok rfl (by cbv) ?_
  rfl
def rankD (d : VecD) : VecD := .mk 2 (d.items.map (rankOf d.items (insOrd (befL d.kind false d.items) d.items.length))) [] d.names [] [] 0 0
theorem takeMapS {α β : Type} {f : α → β} {l : List α} {k : Nat} {x : α} (h : l[k]? = some x) : (l.take (k + 1)).map f = (l.take k).map f ++ [f x] := by
  rw [List.take_add_one, h, List.map_append]; rfl
theorem sum_take {g : Nat → Bool} {o : List Nat} {k j : Nat} (h : o[k]? = some j) : sumAt g 0 (o.take (k + 1)) = sumAt g 0 (o.take k) + (if g j = true then k + 1 else 0) ∧ cntAt g (o.take (k + 1)) = cntAt g (o.take k) + (if g j = true then 1 else 0) := by
  have hk := (List.getElem?_eq_some_iff.1 h).1
  have e : o.take (k + 1) = o.take k ++ [j] := by rw [List.take_add_one, h]; rfl
  have e2 : (o.take k).length = k := by rw [List.length_take]; omega
  rw [e, sumAt_append, cntAt_append, e2]
  simp [sumAt, cntAt]
set_option maxHeartbeats 16000000 in
theorem ct_RanksOf (d : VecD) (hd : VecWf d) (hz : szVector d ≤ 900000000000) (ha : atomP d = []) : Ct Try.prog 33 [vT d] (fun t => t = .tu [vT (rankD d), .c (.s [])]) := by
  have hz' : szVector d ≤ 1000000000000 := by omega
  have hsz := hz
  obtain ⟨zb, zc, zs, zl, zn, zt, zp, zg, zv, zx, zm, hz⟩ := Vm.zE
  have hfa := atom_facts ha
  have hbi := hfa.l40
  have c1 := ct_atomicProblem d hd hz'
  rw [ha] at c1
  have hwf := (VecWf_eq d).1 hd
  have hwi := hwf.2.1
  have hwn := hwf.2.2.2.1
  have hnl : d.names.length ≤ 1000000000000 := by
    rcases hfa.nm with h | h
    · rw [h]; exact Nat.zero_le _
    · rw [h, hfa.len]; omega
  have c2 := ct_orderItems d.kind false d.items hwi (by omega)
  have c3 := ct_copyTexts d.names hwn hnl
  have hordm : ∀ i ∈ insOrd (befL d.kind false d.items) d.items.length, i < d.items.length := fun i hi => insOrd_mem.1 hi
  have hordl := insOrd_length (befL d.kind false d.items) d.items.length
  have hordp : ∀ i, i ∈ insOrd (befL d.kind false d.items) d.items.length ↔ i < d.items.length := fun i => insOrd_mem
  have hR : vT (rankD d) = .ag [.c (.i .i64 2), .c (.sl ((d.items.map (rankOf d.items (insOrd (befL d.kind false d.items) d.items.length))).map itK)), .c (.sl []), .c (.sl (d.names.map txK)), .c (.sl []), .c (.sl []), .c (.i .i64 0), .c (.i .i64 0)] := rfl
  obtain ⟨ord, hord⟩ := hide (insOrd (befL d.kind false d.items) d.items.length)
  rw [← hord] at c2 hordm hordl hordp hR
  clear hord
  obtain ⟨kd, I, P, N, Q, L, cd, en, hT, hk, hI, hP, hN, hQ, hL, hcd, hen⟩ := vT_hide d
  rw [hT] at c1 ⊢
  rw [← hk, ← hI] at c2
  rw [← hN] at c3 hR
  obtain ⟨l, hl⟩ := hide d.items
  rw [← hl] at hR hordm hordl hordp hbi hwi hI
  obtain ⟨RI, hRI⟩ := hide ((l.map (rankOf l ord)).map itK)
  rw [← hRI] at hR
  have hlI : zl I = (l.length : Int) := by rw [z_len hz, hI]; simp
  refine Ct.weak (R := fun t => t = .tu [.ag [.c (.i .i64 2), .c (.sl RI), .nil, .c (.sl N), .nil, .nil, .c (.i .i64 0), .c (.i .i64 0)], .c (.s [])]) ?_ fun t h => ?_
  · refine Ct_of_W Try.func33 rfl (Nat.le_of_ble_eq_true rfl) fun w0 Z0 => ?_
    refine W_run ti_ok hz 400 (by cbv) ?_
    refine W_call (by cbv) (by kernel_rfl) (c1) ?_
    rintro t rfl
    refine W_run ti_ok hz 400 (by cbv) ?_
    refine W_bool 16 (by cbv) (show _ = false by rw [(z_neqs hz []).1]; rfl) ?_
    refine W_run ti_ok hz 400 (by cbv) ?_
    refine W_callO (by cbv) (by kernel_rfl) (c2) ?_
    rintro els cap rfl
    have hlen0 : (ord.map inN).length = ord.length := List.length_map _
    rw [hlen0]
    have hOg : ∀ k (h : k < ord.length), (ord.map inN)[k]? = some (inN (ord[k]'h)) := fun k h => by rw [List.getElem?_map, List.getElem?_eq_getElem h]; rfl
    obtain ⟨O, hO⟩ := hide (ord.map inN)
    rw [← hO] at hOg hlen0 ⊢
    obtain ⟨n, hn⟩ := hide ord.length
    rw [← hn] at hlen0 ⊢
    have hln : l.length = n := by rw [hn, hordl]
    refine W_freeze 23 (by cbv) (by cbv) hlen0.symm ?_
    have hlO : zl O = (n : Int) := by rw [z_len hz, hlen0]
    refine W_run ti_ok hz 400 (by cbv) ?_
    refine W_call (by cbv) (by kernel_rfl) (c3) ?_
    rintro t rfl
    refine W_run ti_ok hz 400 (by cbv) ?_
    refine W_ownB 3 1 3 (by cbv) (by cbv) ?_
    refine W_keep [1, 2, 3, 5, 6, 29, 30, 31] [0, 1, 3, 4] 5 (by cbv) (by cbv) ?_
    refine W_run ti_ok hz 1 (by cbv) ?_
    refine W_loop (fun n' a m => ∃ (k : Nat) (ik : Int) (o : List (List C)), k ≤ l.length ∧ n' = l.length - k ∧ ik = (k : Int) ∧ o = ((l.take k).map (rankOf l ord)).map itK ∧
        a = [(1, T.pt 0 0), (2, T.pt 1 0), (3, T.c (C.s [])), (5, T.c (C.sl O)), (6, T.pt 3 0), (29, T.c (C.sl I)), (30, T.c (C.i IntKind.i64 (zl I))), (31, T.c (C.i IntKind.i64 ik))] ∧
        m = [(0, Obj.box [T.c (C.i IntKind.i64 kd), T.c (C.sl I), T.c (C.sl P), T.c (C.sl N), T.c (C.sl Q), T.c (C.sl L), T.c (C.i IntKind.i64 cd), T.c (C.i IntKind.i64 en)]), (1, Obj.box [T.c (C.i IntKind.i64 0), T.nil, T.nil, T.nil, T.nil, T.nil, T.c (C.i IntKind.i64 0), T.c (C.i IntKind.i64 0)]), (3, Obj.box [T.c (C.i IntKind.i64 2), T.sk 4 o, T.nil, T.c (C.sl N), T.nil, T.nil, T.c (C.i IntKind.i64 0), T.c (C.i IntKind.i64 0)]), (4, Obj.tok 3 o)]) l.length ⟨0, 0, [], Nat.zero_le _, rfl, rfl, rfl, rfl, rfl⟩ ?_
    rintro n' a m ⟨k, ik, o, hk', hn', hik, ho, rfl, rfl⟩
    have hadd : zb .add .i64 ik 1 = ik + 1 := z_add hz (by omega) (by omega)
    obtain ⟨ik1, hik1⟩ := hide (ik + 1)
    rw [← hik1] at hadd
    have hol : o.length ≤ l.length := by rw [ho, List.length_map, List.length_map]; exact List.length_take_le' _ _
    refine W_run ti_ok hz 400 (by cbv) ?_
    refine W_cond (by cbv) (fun h => ?_) (fun h => ?_)
    · have hlt : k < l.length := by
        rw [z_lss hz, hik, hlI] at h
        exact Int.ofNat_lt.1 (of_decide_eq_true h)
      have hlx : l[k]? = some (l[k]'hlt) := List.getElem?_eq_getElem hlt
      have hIk : I[k]? = some (itK (l[k]'hlt)) := by rw [hI, List.getElem?_map, hlx]; rfl
      have hst := takeMapS (f := rankOf l ord) hlx
      have cm := ct_isMissing _ (hwi _ (List.getElem_mem hlt))
      have hmem := List.getElem_mem hlt
      obtain ⟨x, hx⟩ := hide (l[k]'hlt)
      rw [← hx] at hIk cm hst hmem
      have hrk : rankOf l ord x = if missing x = true then ⟨0, 0, []⟩ else mkR (sumAt (fun i => sameIt (l.getD i ⟨0, 0, []⟩) x) 0 ord) (cntAt (fun i => sameIt (l.getD i ⟨0, 0, []⟩) x) ord) := rfl
      have hcp : 0 < cntAt (fun i => sameIt (l.getD i ⟨0, 0, []⟩) x) ord := by
        obtain ⟨i, hi, e⟩ := List.getElem_of_mem hmem
        exact cntAt_pos ((hordp i).2 hi) (by rw [sameIt_iff]; simp [hi, e])
      obtain ⟨rk, hrk'⟩ := hide (rankOf l ord x)
      rw [← hrk'] at hst hrk
      clear hx hrk'
      have hgd : ∀ i, sameIt (l.getD i ⟨0, 0, []⟩) x = sameIt (l.getD i ⟨0, 0, []⟩) x := fun _ => rfl
      obtain ⟨g, hgg⟩ : ∃ g : Nat → Bool, g = fun i => sameIt (l.getD i ⟨0, 0, []⟩) x := ⟨_, rfl⟩
      rw [← hgg] at hrk hcp
      obtain ⟨xn, xd, xs⟩ := x
      refine W_run ti_ok hz 400 (by cbv) ?_
      refine W_val (by cbv) (by cbv) (Val_elem ti_ok (by cbv) k hik hIk rfl) ?_
      refine W_run ti_ok hz 400 (by cbv) ?_
      refine W_keep [1, 2, 3, 5, 6, 8, 9, 10, 29, 30, 31, 35, 36, 37] [0, 1, 3, 4, 5] 6 (by cbv) (by cbv) ?_
      refine W_run ti_ok hz 1 (by cbv) ?_
      refine W_loop (fun n' a m => ∃ (q : Nat) (qk sk ck : Int), q ≤ n ∧ n' = n - q ∧ qk = (q : Int) ∧ sk = (sumAt g 0 (ord.take q) : Int) ∧ ck = (cntAt g (ord.take q) : Int) ∧
          a = [(1, T.pt 0 0), (2, T.pt 1 0), (3, T.c (C.s [])), (5, T.c (C.sl O)), (6, T.pt 3 0), (8, T.pt 5 0), (9, T.c (C.i IntKind.i64 sk)), (10, T.c (C.i IntKind.i64 ck)), (29, T.c (C.sl I)), (30, T.c (C.i IntKind.i64 (zl I))), (31, T.c (C.i IntKind.i64 ik)), (35, T.c (C.sl O)), (36, T.c (C.i IntKind.i64 (zl O))), (37, T.c (C.i IntKind.i64 qk))] ∧
          m = [(0, Obj.box [T.c (C.i IntKind.i64 kd), T.c (C.sl I), T.c (C.sl P), T.c (C.sl N), T.c (C.sl Q), T.c (C.sl L), T.c (C.i IntKind.i64 cd), T.c (C.i IntKind.i64 en)]), (1, Obj.box [T.c (C.i IntKind.i64 0), T.nil, T.nil, T.nil, T.nil, T.nil, T.c (C.i IntKind.i64 0), T.c (C.i IntKind.i64 0)]), (3, Obj.box [T.c (C.i IntKind.i64 2), T.sk 4 o, T.nil, T.c (C.sl N), T.nil, T.nil, T.c (C.i IntKind.i64 0), T.c (C.i IntKind.i64 0)]), (4, Obj.tok 3 o), (5, Obj.box [T.c (C.i IntKind.i64 xn), T.c (C.i IntKind.i64 xd), T.c (C.s xs)])]) n ⟨0, 0, 0, 0, Nat.zero_le _, rfl, rfl, rfl, rfl, rfl, rfl⟩ ?_
      rintro n'' a m ⟨q, qk, sk, ck, hq', hn'', hqk, hsk, hck, rfl, rfl⟩
      have hcb := cntAt_le g (ord.take q)
      have hsb := sumAt_le g (ord.take q) 0 40 (by rw [List.length_take]; omega)
      have htl : (ord.take q).length ≤ 40 := by rw [List.length_take]; omega
      have hsb2 : (ord.take q).length * 40 ≤ 40 * 40 := Nat.mul_le_mul_right _ htl
      have hqadd : zb .add .i64 qk 1 = qk + 1 := z_add hz (by omega) (by omega)
      obtain ⟨qk1, hqk1⟩ := hide (qk + 1)
      rw [← hqk1] at hqadd
      refine W_run ti_ok hz 400 (by cbv) ?_
      refine W_cond (by cbv) (fun h2 => ?_) (fun h2 => ?_)
      · have hqlt : q < n := by
          rw [z_lss hz, hqk, hlO] at h2
          exact Int.ofNat_lt.1 (of_decide_eq_true h2)
        have hqlt' : q < ord.length := by omega
        have hOk := hOg q hqlt'
        have hjm := hordm _ (List.getElem_mem hqlt')
        have hoj : ord[q]? = some (ord[q]'hqlt') := List.getElem?_eq_getElem hqlt'
        have hst2 := sum_take (g := g) hoj
        obtain ⟨j, hj⟩ := hide (ord[q]'hqlt')
        rw [← hj] at hOk hjm hst2
        obtain ⟨jk, hjk⟩ := hide (j : Int)
        have hOk' : O[q]? = some [C.i .i64 jk] := by rw [hOk, hjk]; rfl
        have hIj : I[j]? = some (itK (l[j]'hjm)) := by rw [hI, List.getElem?_map, List.getElem?_eq_getElem hjm]; rfl
        have hgj : g j = sameIt (l[j]'hjm) ⟨xn, xd, xs⟩ := by rw [hgg]; simp [hjm]
        obtain ⟨y, hy⟩ := hide (l[j]'hjm)
        rw [← hy] at hIj hgj
        clear hy
        obtain ⟨yn, yd, ys⟩ := y
        refine W_run ti_ok hz 400 (by cbv) ?_
        refine W_val (by cbv) (by cbv) (Val_elem ti_ok (by cbv) q hqk hOk' rfl) ?_
        refine W_run ti_ok hz 400 (by cbv) ?_
        refine W_draw mixedB [(2, 0), (1, 1), (2, 2), (2, 3), (1, 4), (1, 5), (2, 6)] [] (by kernel_rfl) ?_
        refine D_run ti_ok hz 400 (by cbv) ?_
        refine D_val (by cbv) (by cbv) (by cbv) (Val_elem ti_ok (by cbv) j hjk hIj rfl) ?_
        refine D_run ti_ok hz 400 (by cbv) ?_
        refine D_val (by cbv) (by cbv) (by cbv) (Val_eqIt rfl ⟨yn, yd, ys⟩ ⟨xn, xd, xs⟩ (by cbv) (by cbv) (by cbv)) ?_
        rw [← hgj]
        obtain ⟨b, hb⟩ := hide (g j)
        rw [← hb] at hst2 ⊢
        refine D_run ti_ok hz 400 (by cbv) ?_
        refine D_done ?_
        refine W_cond (by cbv) (fun h3 => ?_) (fun h3 => ?_)
        · rw [if_pos h3, if_pos h3] at hst2
          have e1 : zb .add .i64 sk qk = sk + qk := z_add hz (by omega) (by omega)
          obtain ⟨s1, hs1⟩ := hide (sk + qk)
          rw [← hs1] at e1
          have e2 : zb .add .i64 s1 1 = s1 + 1 := z_add hz (by omega) (by omega)
          obtain ⟨s2, hs2⟩ := hide (s1 + 1)
          rw [← hs2] at e2
          have e3 : zb .add .i64 ck 1 = ck + 1 := z_add hz (by omega) (by omega)
          obtain ⟨k2, hk2⟩ := hide (ck + 1)
          rw [← hk2] at e3
          have f1 : s2 = ((sumAt g 0 (ord.take (q + 1)) : Nat) : Int) := by rw [hst2.1, hs2, hs1, hsk, hqk]; omega
          have f2 : k2 = ((cntAt g (ord.take (q + 1)) : Nat) : Int) := by rw [hst2.2, hk2, hck]; omega
          refine W_run ti_ok hz 400 (by cbv) ?_
          rw [e1, e2, e3, hqadd]
          refine W_inv [1, 2, 3, 5, 6, 8, 9, 10, 29, 30, 31, 35, 36, 37] [0, 1, 3, 4, 5] (n - (q + 1)) (by omega) (by cbv) (by cbv) ⟨q + 1, qk1, s2, k2, hqlt, rfl, by rw [hqk1, hqk]; rfl, f1, f2, by cbv, by cbv⟩
        · have h3' : ¬ b = true := by rw [h3]; decide
          rw [if_neg h3', if_neg h3'] at hst2
          refine W_run ti_ok hz 400 (by cbv) ?_
          rw [hqadd]
          refine W_inv [1, 2, 3, 5, 6, 8, 9, 10, 29, 30, 31, 35, 36, 37] [0, 1, 3, 4, 5] (n - (q + 1)) (by omega) (by cbv) (by cbv) ⟨q + 1, qk1, sk, ck, hqlt, rfl, by rw [hqk1, hqk]; rfl, by rw [hst2.1]; omega, by rw [hst2.2]; omega, by cbv, by cbv⟩
      · have hqe : q = n := by
          rw [z_lss hz, hqk, hlO] at h2
          have h2 := of_decide_eq_false h2
          have : ¬ q < n := fun h' => h2 (Int.ofNat_lt.2 h')
          omega
        rw [hqe, hn, List.take_length] at hsk hck hcb hsb
        have cmk := ct_MakeR (sumAt g 0 ord) (cntAt g ord) hcp (by omega) (by omega)
        rw [← hsk, ← hck] at cmk
        refine W_run ti_ok hz 400 (by cbv) ?_
        refine W_call (by cbv) (by kernel_rfl) (cm) ?_
        rintro t rfl
        obtain ⟨mb, hmb⟩ := hide (missing ⟨xn, xd, xs⟩)
        rw [← hmb] at hrk ⊢
        refine W_run ti_ok hz 400 (by cbv) ?_
        refine W_cond (by cbv) (fun h3 => ?_) (fun h3 => ?_)
        · rw [if_pos h3] at hrk
          refine W_run ti_ok hz 400 (by cbv) ?_
          refine W_app ti_ok (by cbv) (by cbv) (by simp) (by simp; omega) ?_
          obtain ⟨o2, ho2⟩ := hide (o ++ [[C.i .i64 0, C.i .i64 0, C.s []]])
          rw [← ho2]
          refine W_run ti_ok hz 400 (by cbv) ?_
          rw [hadd]
          refine W_inv [1, 2, 3, 5, 6, 29, 30, 31] [0, 1, 3, 4] (l.length - (k + 1)) (by omega) (by cbv) (by cbv) ⟨k + 1, ik1, o2, hlt, rfl, by rw [hik1, hik]; rfl, by rw [hst, List.map_append, ho2, ho, hrk]; rfl, by cbv, by cbv⟩
        · rw [if_neg (by rw [h3]; decide)] at hrk
          rw [← hrk] at cmk
          obtain ⟨rn, rd, rs⟩ := rk
          refine W_run ti_ok hz 400 (by cbv) ?_
          refine W_draw mixedB [(2, 0), (1, 1), (2, 2), (2, 3), (0, 4), (0, 5), (0, 6), (2, 7), (0, 8)] [8] (by kernel_rfl) ?_
          refine D_run ti_ok hz 400 (by cbv) ?_
          refine D_call (by cbv) (by cbv) (by kernel_rfl) (cmk) ?_
          rintro t rfl
          refine D_run ti_ok hz 400 (by cbv) ?_
          refine D_app ti_ok (by cbv) (by cbv) (by cbv) (by simp) (by simp; omega) ?_
          obtain ⟨o2, ho2⟩ := hide (o ++ [[C.i .i64 rn, C.i .i64 rd, C.s rs]])
          rw [← ho2]
          refine D_run ti_ok hz 400 (by cbv) ?_
          refine D_last ti_ok hz (by cbv) (by cbv) (by cbv) (by cbv) (by cbv) ?_
          refine W_run ti_ok hz 400 (by cbv) ?_
          rw [hadd]
          refine W_inv [1, 2, 3, 5, 6, 29, 30, 31] [0, 1, 3, 4] (l.length - (k + 1)) (by omega) (by cbv) (by cbv) ⟨k + 1, ik1, o2, hlt, rfl, by rw [hik1, hik]; rfl, by rw [hst, List.map_append, ho2, ho]; rfl, by cbv, by cbv⟩
    · have hle : k = l.length := by
        rw [z_lss hz, hik, hlI] at h
        have h := of_decide_eq_false h
        have : ¬ k < l.length := fun h' => h (Int.ofNat_lt.2 h')
        omega
      have hfo : o = RI := by rw [ho, hle, List.take_length, hRI]
      refine W_run ti_ok hz 400 (by cbv) ?_
      refine W_ret ti_ok rfl (by cbv) ?_
      rw [hfo]
  · refine ⟨_, rfl, ?_⟩
    rw [h, hR]
    exact Le.tu ⟨Le.ag ⟨Le.refl _, Le.refl _, Le.nil, Le.refl _, Le.nil, Le.nil, Le.refl _, Le.refl _, trivial⟩ (by simp [T.one]), Le.refl _, trivial⟩
end Go.Proofs.Ytjdimlhdkmkmbaa
