/-
  Contracts: instructions are left out (impl.shorten, spec.l34Drop).
-/
import Derived.Test.YtjdfancbmjnjfaaGreatOptC
import Derived.Test.YtjdfancbmjnjfaaGreatOptD
namespace Go.Proofs.YtjdfancbmjnjfaaGreat
set_option maxRecDepth 100000
open Go.ChangeShapes Go.WideShapes Go.ChangeAt Go.RowKit Go.Deep
set_option linter.unusedVariables false
set_option linter.unusedSimpArgs false

theorem InstrsO.elems {S : Nat -> Prop} {w : World} {v : Value} {l : List InstrD} (h : InstrsO S w v l) : ∃ (A : Option Addr) (c : Nat) (f : Nat -> Nat), v = .slice A l.length c /\ l.length <= c /\ c <= maxLen /\
  Hid (∀ k (hk : k < l.length), ∃ b off cs, A = some ⟨b, off, none⟩ /\ b < w.heap.size /\ cs.length = 13 /\ At w b (off + k * 13) cs /\ InstrO (fun b => S b /\ f b = k + 1) w cs l[k]) := by
 rcases SlO.mid h with ⟨rfl, rfl⟩ | ⟨g, cap, f, post, ys, rfl, hn, hc, hp, hM⟩
 ·exact ⟨none, 0, fun _ => 0, rfl, Nat.le_refl _, by unfold maxLen; omega, fun k hk => absurd hk (by simp)⟩
 ·refine ⟨_, cap, f, rfl, hn, hc, fun k hk => ?_⟩
  obtain ⟨hy, pre, rest, h1, h2, _, h4⟩ := hM.at_ k hk
  exact ⟨g, 0, ys[k], rfl, hM.blk.lt, (hM.elem k hy hk).1, fun j u hu => by rw [Nat.zero_add]; exact h2.mid h1 j u hu, h4⟩
/-- places, as far as they are known -/
def plN (kp : Nat -> Bool) (j t : Nat) : Int := if t < j then (atN kp t : Int) else 0
def plM (kp : Nat -> Bool) (j t : Nat) : Int := if t <= j then (atN kp t : Int) else 0
theorem atN_one (kp : Nat -> Bool) (k : Nat) : atN kp (k + 1) = atN kp k + if kp k then 1 else 0 := rfl
theorem plN_set (kp : Nat -> Bool) (j n : Nat) : (intsL (plN kp j) n).set j (.int .i64 (atN kp j)) = intsL (plN kp (j + 1)) n :=
 intsL_set fun t _ => by
  unfold plN
  by_cases e : t = j
  ·subst e; simp
  ·have : (t < j + 1) ↔ (t < j) := by omega
   simp [e, this]
theorem plN_all (kp : Nat -> Bool) (n : Nat) : intsL (plN kp (n + 1)) (n + 1) = intsL (fun t => (atN kp t : Int)) (n + 1) := intsL_congr fun t ht => by unfold plN; rw [if_pos ht]
theorem plM_all (kp : Nat -> Bool) (n : Nat) : intsL (plM kp n) (n + 1) = intsL (fun t => (atN kp t : Int)) (n + 1) := intsL_congr fun t ht => by unfold plM; rw [if_pos (by omega)]
theorem plM_set (kp : Nat -> Bool) (j n : Nat) (x : Int) (hx : x = atN kp (j + 1)) : (intsL (plM kp j) n).set (j + 1) (.int .i64 x) = intsL (plM kp (j + 1)) n :=
 intsL_set fun t _ => by
  unfold plM
  by_cases e : t = j + 1
  ·subst e; simp [hx]
  ·have : (t <= j + 1) ↔ (t <= j) := by omega
   simp [e, this]
/-- the new list, as far as it goes -/
structure Drp (w0 : World) (S : Nat -> Prop) (f : Nat -> Nat) (kp : Nat -> Bool) (l : List InstrD) (ks : List Nat) (j : Nat) (lv : Value) (W : World) : Prop where
 row : ∃ yss : List (List Value), yss.length = atN kp j /\ W.ownsRow w0.heap.size 63 13 lv (atN kp j) yss.flatten /\
  ∀ q (h : q < yss.length), ∃ p, ∃ hp : p < l.length, kp p = true /\ atN kp p = q /\ yss[q].length = 13 /\ InstrO (fun b => S b /\ f b = p + 1) w0 yss[q] (mvI kp l[p])
 ne : ∀ b, lv.ownBlock = some b -> b ∉ ks
section
variable {w0 : World} {S : Nat -> Prop} {f : Nat -> Nat} {kp : Nat -> Bool} {l : List InstrD} {ks : List Nat} {j : Nat} {lv : Value} {W W' : World}
theorem Drp.start (w0 W : World) : Drp w0 S f kp l ks 0 (.slice none 0 0) W := ⟨⟨[], rfl, World.ownsRow_nil _ _ _ _, fun q h => absurd h (by simp)⟩, fun b hb => by simp [Value.ownBlock] at hb⟩
theorem Drp.step (h : Drp w0 S f kp l ks j lv W) (hb : Below W.heap.size W W') : Drp w0 S f kp l ks j lv W' := by
 obtain ⟨yss, h1, h2, h3⟩ := h.row
 exact ⟨⟨yss, h1, own_below h2 hb, h3⟩, h.ne⟩
theorem Drp.kept (h : Drp w0 S f kp l ks j lv W) (hk : ∀ b, lv.ownBlock = some b -> W'.heap[b]? = W.heap[b]?) : Drp w0 S f kp l ks j lv W' := by
 obtain ⟨yss, h1, h2, h3⟩ := h.row
 exact ⟨⟨yss, h1, own_far h2 hk, h3⟩, h.ne⟩
theorem Drp.skip (h : Drp w0 S f kp l ks j lv W) (hk : kp j = false) : Drp w0 S f kp l ks (j + 1) lv W := by
 have e : atN kp (j + 1) = atN kp j := by rw [atN_one, hk]; rfl
 obtain ⟨yss, h1, h2, h3⟩ := h.row
 exact ⟨⟨yss, by rw [e]; exact h1, by rw [e]; exact h2, h3⟩, h.ne⟩
theorem Drp.pushed {lv' : Value} {cs : List Value} {yss : List (List Value)} {x : Nat × Nat × List Value} {ρ : List (Nat × Nat × List Value)} (h1 : yss.length = atN kp j)
  (h3 : ∀ q (h : q < yss.length), ∃ p, ∃ hp : p < l.length, kp p = true /\ atN kp p = q /\ yss[q].length = 13 /\ InstrO (fun b => S b /\ f b = p + 1) w0 yss[q] (mvI kp l[p]))
  (hne : ∀ b, lv.ownBlock = some b -> b ∉ ks) (hks : ks = ρ.map (fun p => p.1)) (hF : Rws w0 (x :: ρ) W) (hk : kp j = true) (hj : j < l.length) (hcs : cs.length = 13) (hx : InstrO (fun b => S b /\ f b = j + 1) w0 cs (mvI kp l[j]))
  (ho : W'.ownsRow w0.heap.size 63 13 lv' (atN kp j + 1) (yss.flatten ++ cs)) (hg : W.grownBy W' lv.ownBlock) (hbk : lv'.ownBlock = lv.ownBlock \/ lv'.ownBlock = some (W.heap.size + 1)) (hb : Below w0.heap.size W W') :
  Drp w0 S f kp l ks (j + 1) lv' W' /\ Rws w0 ρ W' := by
 have e : atN kp (j + 1) = atN kp j + 1 := by rw [atN_one, hk]; rfl
 have hlt : ∀ b ∈ ks, b < W.heap.size := fun b hb => by
  subst hks
  obtain ⟨p, hp, rfl⟩ := List.mem_map.1 hb
  obtain ⟨i, hi, rfl⟩ := List.getElem_of_mem hp
  exact (hF.tail.blk i ρ[i] (List.getElem?_eq_getElem hi)).lt
 refine ⟨⟨⟨yss ++ [cs], by rw [e, List.length_append, h1]; rfl, by rw [e, List.flatten_append]; simpa using ho, fun q hq => ?_⟩, fun b hb => ?_⟩, ?_⟩
 ·by_cases hlt : q < yss.length
  ·obtain ⟨p, hp, a, b, c, d⟩ := h3 q hlt
   exact ⟨p, hp, a, b, by rw [List.getElem_append_left hlt]; exact c, by rw [List.getElem_append_left hlt]; exact d⟩
  ·have : q = yss.length := by simp at hq; omega
   subst this
   refine ⟨j, hj, hk, h1.symm, ?_, ?_⟩
   ·rw [List.getElem_append_right (by omega)]; simpa using hcs
   ·rw [List.getElem_append_right (by omega)]; simpa using hx
 ·rcases hbk with e | e
  ·exact hne b (e ▸ hb)
  ·rw [e] at hb
   injection hb with hb
   subst hb
   exact fun hm => absurd (hlt _ hm) (by omega)
 ·refine hF.tail.keep (hF.below.trans hb) ⟨hg.size, fun b hbs hp => hg.block b hbs fun e => ?_⟩
  obtain ⟨p, hp, rfl⟩ := hp
  exact hne _ e.symm (by rw [hks]; exact List.mem_map.2 ⟨p, hp, rfl⟩)
theorem Drp.own (h : Drp w0 S f kp l ks l.length lv W) (hb : Below w0.heap.size w0 W) (hS : ∀ b, S b -> b < w0.heap.size) : InstrsO (fun b => S b \/ Rng w0.heap.size W.heap.size b) W lv (dropN kp l l.length) := by
 obtain ⟨yss, h1, h2, h3⟩ := h.row
 have hl := dropN_len kp l l.length (Nat.le_refl _)
 refine ⟨yss, fun b => if b < w0.heap.size then (if f b = 0 then 0 else atN kp (f b - 1) + 1) else 0, by rw [h1, hl], fun q a b => ?_, by rw [hl]; exact own_base h2 (Nat.zero_le _), fun k hk => ?_⟩
 ·obtain ⟨p, hp, p1, p2, p3, p4⟩ := h3 q a
  have hg := dropN_get kp l l.length p hp (Nat.le_refl _) hp p1
  rw [p2, List.getElem?_eq_getElem b] at hg
  have hg2 := Option.some.inj hg
  rw [hg2]
  refine ⟨p3, (p4.keeps (Keeps.of_below _ hb)).mono fun b hb => ⟨.inl hb.1, ?_⟩⟩
  dsimp only
  rw [if_pos (hS b hb.1), if_neg (by have := hb.2; omega), hb.2, Nat.add_sub_cancel, p2]
 ·have h4 := h2.lt k hk
  exact ⟨.inr ⟨h4.1, h4.2⟩, by dsimp only; rw [if_neg (by omega)]⟩
end
theorem mvI_jmp {kp : Nat -> Bool} {x : InstrD} {W : World} {T : Nat -> Prop} {cs : List Value} (h : InstrO T W cs x) (hj : jmpOp x.op = true) (hb : atN kp x.arg.toNat <= 10000) : InstrO T W (cs.set 1 (.int .i64 (atN kp x.arg.toNat : Int))) (mvI kp x) := by
 unfold mvI
 rw [if_pos hj]
 exact h.setArg _ (by unfold I64; omega)
theorem mvI_id {kp : Nat -> Bool} {x : InstrD} (hj : jmpOp x.op = false) : mvI kp x = x := by unfold mvI; rw [if_neg (by rw [hj]; simp)]
/-- what leaving out gives back -/
def RetSh (S : Nat -> Prop) (B : Nat) (pre : List Value) (lv dv : Value) (rest : List Value) (l : List InstrD) (w : World) (e : Ending) (w' : World) : Prop :=
 e = .returned (.bool (!decide ((dropF l).length = l.length))) /\ ∃ iv', Blk w' B 49 (pre ++ [lv, dv, iv'] ++ rest) /\ InstrsO (fun b => S b \/ Rng w.heap.size w'.heap.size b) w' iv' (dropF l) /\ Keeps (fun b => b ≠ B) w w' /\ Below 0 w w'
def RetDr (S : Nat -> Prop) (l : List InstrD) (w : World) (e : Ending) (w' : World) : Prop :=
 ∃ iv', e = .returned iv' /\ InstrsO (fun b => S b \/ Rng w.heap.size w'.heap.size b) w' iv' (dropF l) /\ Below w.heap.size w w'

set_option maxHeartbeats 16000000 in
theorem impl_shorten (S : Nat -> Prop) (l : List InstrD) (iv lv dv : Value) (B o : Nat) (pre rest : List Value) (w : World) (hB : Blk w B 49 (pre ++ [lv, dv, iv] ++ rest)) (hpre : pre.length = o) (h : InstrsO S w iv l) (hS : ∀ b, S b -> b < w.heap.size) (hSB : ¬ S B)
  (ha : ArgOk l) (hb : BackOk l) (hop : ∀ x ∈ l, 0 <= x.op /\ x.op <= 33) (hl : l.length <= 1000) :
  Calls Tryz.prog 41 #[.pointer (some ⟨B, o, none⟩)] w (RetSh S B pre lv dv rest l w) := by
 have HLO := Lib.hid (impl_leftOut l iv w h.read ha hb hop hl)
 have HI := Lib.hid h
 have HBL := Lib.hid hB
 have HPR := Lib.hid hpre
 have HS := Lib.hid hS
 have HA := Lib.hid ha
 obtain ⟨A, c, f, rfl, hlc, hm, HC⟩ := h.elems
 have hBlt := hB.lt
 have T2 := Lib.hid (fun (V : World) (hv : Below w.heap.size w V) => show V.cell? ⟨B, o + 2, none⟩ = some (.slice A l.length c) from (hv.cell (p := ⟨B, o + 2, none⟩) hBlt).trans (hB.mid hpre 2 _ rfl))
 have T2F := Lib.hid (fun (V : World) (hv : Below w.heap.size w V) => show V.frozen? ⟨B, o + 2, none⟩ = false from (hv.frozen (p := ⟨B, o + 2, none⟩) hBlt).trans (hB.frozen _))
 clear h hB hpre hS ha hb hop
 unfold maxLen at hm
 have HDL := Lib.hid (dropF_len l)
 have HDA := Lib.hid (dropF_all HA.out)
 have HDN := Lib.hid (show dropF l = dropN (keepF l) l l.length from rfl)
 obtain ⟨kp, hkp⟩ : ∃ kp, keepF l = kp := ⟨_, rfl⟩
 rw [hkp] at HDL HDN
 have HKP := Lib.hid hkp
 clear hkp
 have t2 := T2.out w (Below.refl _ _)
 go_enter Tryz.func41, Tryz.ntmps41
 go_wp2_with fail
 refine Calls.mono HLO.out ?_
 rintro e w1 ⟨KG, rfl, hG, hlo, hb⟩
 have F1 := Rws.add (Rws.start w) hb hG hlo
 rw [HKP.out] at F1
 clear hG hlo hb t2
 have t2 := T2.out w1 F1.below
 have hmk := run_mk (P := Tryz.prog) w1 23 3 (.int .i64 0) 1 8 Tryz.underlying23 info_int (l.length + 1) (by omega) (by omega)
 rw [Nat.mul_one, show ((l.length + 1 : Nat) : Int) = (l.length : Int) + 1 from by omega] at hmk
 have HF := Lib.hid F1
 clear F1
 go_upto_region 3 with fail
 rw [intsL_made]
 have F2 := Rws.push HF.out 3 (intsL (fun _ => 0) (l.length + 1))
 generalize hK : w1.heap.size = KP at F2 ⊢
 clear hmk HF hK t2
 have e1 : intsL (fun _ => 0) (l.length + 1) = intsL (plN kp 0) (l.length + 1) := intsL_congr fun t _ => by simp [plN]
 rw [e1] at F2 ⊢
 clear e1
 refine gen_w (show Ok (Rws w _) _ from F2) ?_
 clear F2
 intro W0 F
 have t2 := T2.out W0 F.below
 go_wp2_with fail
 clear t2
 go_loopw [5, 27] (fun nn i wr => ∃ j : Nat, j <= l.length /\ i = .int .i64 j /\ nn = .int .i64 (atN kp j) /\ Ok (Rws w [(KP, 3, intsL (plN kp j) (l.length + 1)), (KG, 4, boolsL (fun p => !kp p) l.length)]) wr) (fun _ i _ => l.length - (intOf i).toNat)
 case atStart => exact ⟨0, Nat.zero_le _, rfl, rfl, F⟩
 case round =>
  clear F
  obtain ⟨j, hj, rfl, rfl, F⟩ := hrel
  have haj := atN_le kp j
  by_cases hlt : j < l.length
  ·have u0 := F.cell 0 _ rfl j _ (intsL_at _ (l.length + 1) j (by omega))
   have u1 := F.frozen 0 _ rfl j
   have g0 := F.cell 1 _ rfl j _ (boolsL_at _ l.length j hlt)
   have F2 := Rws.set F 0 KP _ _ rfl j (.int .i64 (atN kp j))
   rw [plN_set] at F2
   have HF := Lib.hid F2
   clear F2
   go_upto_region 8 with fail
   refine gen_w (show Ok (Rws w _) _ from HF.out) ?_
   clear HF F u0 u1 g0
   intro W2 F
   have g0 := F.cell 1 _ rfl j _ (boolsL_at _ l.length j hlt)
   have HE := Lib.hid (atN_one kp j)
   cases hk : kp j
   ·simp only [hk, Bool.not_false] at g0
    rw [hk] at HE
    clear hk
    go_wp2_with fail
    go_roundw
    case rel => exact ⟨j + 1, by omega, by go_num, by rw [HE.out]; rfl, F⟩
    case measure => simp [intOf] <;> omega
   ·simp only [hk, Bool.not_true] at g0
    rw [hk] at HE
    clear hk
    go_wp2_with fail
    go_roundw
    case rel => exact ⟨j + 1, by omega, by go_num, by rw [HE.out]; go_num, F⟩
    case measure => simp [intOf] <;> omega
  ·obtain rfl : j = l.length := by omega
   have t2 := T2.out wr F.below
   have u0 := F.cell 0 _ rfl l.length _ (intsL_at _ (l.length + 1) l.length (by omega))
   have u1 := F.frozen 0 _ rfl l.length
   have F2 := Rws.set F 0 KP _ _ rfl l.length (.int .i64 (atN kp l.length))
   rw [plN_set, plN_all] at F2
   have HF := Lib.hid F2
   clear F2
   go_upto_region 12 with fail
   refine gen_w (show Ok (Rws w _) _ from HF.out) ?_
   clear HF F u0 u1 t2
   intro W2 F
   have t2 := T2.out W2 F.below
   by_cases hd : atN kp l.length = l.length
   ·have HD := Lib.hid (show (dropF l).length = l.length by rw [HDL.out]; exact hd)
    have HE := Lib.hid (HDA.out HD.out)
    have b1 : ((atN kp l.length : Int) == (l.length : Int)) = true := by simp [hd]
    have b2 : (atN kp l.length == l.length) = true := by simp [hd]
    have HW := Lib.hid F.below
    clear hd F
    go_wp2_with fail
    go_ret
    refine ⟨ret_bool (by rw [HD.out]; simp), _, HBL.out.below HW.out, ?_, Keeps.of_below _ HW.out, HW.out.mono (Nat.zero_le _)⟩
    rw [HE.out]
    exact (HI.out.keeps (Keeps.of_below _ HW.out)).mono fun b hb => .inl hb
   ·have HD := Lib.hid (show ¬ (dropF l).length = l.length by rw [HDL.out]; exact hd)
    have b1 : ((atN kp l.length : Int) == (l.length : Int)) = false := by simp; omega
    have b2 : (atN kp l.length == l.length) = false := by simp [hd]
    clear hd haj
    go_wp2_with fail
    clear t2
    go_loopw [7, 62] (fun lw i wr => ∃ j : Nat, j <= l.length /\ i = .int .i64 j /\ Hid (Drp w S f kp l [KP, KG] j lw wr) /\ Ok (Rws w [(KP, 3, intsL (fun t => (atN kp t : Int)) (l.length + 1)), (KG, 4, boolsL (fun p => !kp p) l.length)]) wr) (fun _ i _ => l.length - (intOf i).toNat)
    case atStart => exact ⟨0, Nat.zero_le _, rfl, Drp.start _ _, F⟩
    case round =>
     clear F
     obtain ⟨j, hj, rfl, HR, F⟩ := hrel
     by_cases hlt : j < l.length
     ·obtain ⟨b, off, cs, rfl, hbl, hcs, hat, hr⟩ := HC.out j hlt
      obtain ⟨A4, c4, A1, c1, A2, c2, A3, c3, A5, c5, A6, c6, rfl⟩ := hr.shape
      have HRI := Lib.hid hr
      clear hr hcs
      have HAJ := Lib.hid (HA.out j hlt)
      have HMJ := Lib.hid (fun hj : jmpOp l[j].op = true => mvI_jmp (kp := kp) HRI.out hj (by have h1 := atN_le kp l[j].arg.toNat; have h2 := HAJ.out hj; omega))
      have HMI := Lib.hid (fun hj : jmpOp l[j].op = false => mvI_id (kp := kp) hj)
      have g0 := F.cell 1 _ rfl j _ (boolsL_at _ l.length j hlt)
      obtain ⟨op, hop⟩ : ∃ x, l[j].op = x := ⟨_, rfl⟩
      obtain ⟨arg, harg⟩ : ∃ x, l[j].arg = x := ⟨_, rfl⟩
      rw [hop, harg] at hat HRI HMJ HAJ
      rw [hop] at HMI
      clear hop harg
      obtain ⟨z0, z1, z2, z3, z4, z5, z6, z7, z8, z9, z10, z11, z12⟩ := pk_c13 F.below hbl hat
      clear hat
      go_upto_region 18 with fail
      have HR0 := HR
      have HR2 := Lib.hid (Drp.step HR.out ((Below.refl _ _).alloc (Nat.le_refl _) (.cells #[.int .i64 op, .int .i64 arg, .int .i64 l[j].count, .string (str l[j].text), .slice A4 l[j].labels.length c4, .int .i64 l[j].value.kind, .slice A1 l[j].value.items.length c1, .slice A2 l[j].value.parts.length c2, .slice A3 l[j].value.names.length c3, .slice A5 l[j].value.cls.length c5, .slice A6 l[j].value.levels.length c6, .int .i64 l[j].value.code, .int .i64 l[j].value.env] 63)))
      refine gen_w (G := fun V => Rws w ((wr.heap.size, 63, [.int .i64 op, .int .i64 arg, .int .i64 l[j].count, .string (str l[j].text), .slice A4 l[j].labels.length c4, .int .i64 l[j].value.kind, .slice A1 l[j].value.items.length c1, .slice A2 l[j].value.parts.length c2, .slice A3 l[j].value.names.length c3, .slice A5 l[j].value.cls.length c5, .slice A6 l[j].value.levels.length c6, .int .i64 l[j].value.code, .int .i64 l[j].value.env]) :: _) V /\ Drp w S f kp l [KP, KG] j _ V) ⟨Rws.push F _ _, HR2.out⟩ ?_
      clear F z0 z1 z2 z3 z4 z5 z6 z7 z8 z9 z10 z11 z12 g0 HR HR2
      rintro W2 ⟨F, hR⟩
      have HR := Lib.hid hR
      clear hR
      have g0 := F.cell 2 _ rfl j _ (boolsL_at _ l.length j hlt)
      have HNX := Lib.hid (show ∀ b, u7.ownBlock = some b -> b < wr.heap.size from fun b hb => by obtain ⟨yss, _, h2, _⟩ := HR0.out.row; exact (h2.lt b hb).2)
      generalize wr.heap.size = KX at F HNX ⊢
      have haj := atN_le kp j
      cases hk : kp j
      ·have HK := Lib.hid hk
       simp only [hk, Bool.not_false] at g0
       clear hk
       go_wp2_with fail
       go_roundw
       case rel => exact ⟨j + 1, by omega, by go_num, Drp.skip HR.out HK.out, F.tail⟩
       case measure => simp [intOf] <;> omega
      have HK := Lib.hid hk
      simp only [hk, Bool.not_true] at g0
      clear hk
      have y0 := F.cell 0 _ rfl 0 _ rfl
      have y1 := F.cell 0 _ rfl 1 _ rfl
      go_wp2_with fail
      refine Calls.mono (impl_isJumping op _) ?_
      rintro e w3 ⟨rfl, rfl⟩
      rw [isJ_jmp]
      cases J : jmpOp op
      ·have HJ := Lib.hid J
       clear J
       have HX := Lib.hid (show InstrO (fun b => S b /\ f b = j + 1) w [.int .i64 op, .int .i64 arg, .int .i64 l[j].count, .string (str l[j].text), .slice A4 l[j].labels.length c4, .int .i64 l[j].value.kind, .slice A1 l[j].value.items.length c1, .slice A2 l[j].value.parts.length c2, .slice A3 l[j].value.names.length c3, .slice A5 l[j].value.cls.length c5, .slice A6 l[j].value.levels.length c6, .int .i64 l[j].value.code, .int .i64 l[j].value.env] (mvI kp l[j]) by rw [HMI.out HJ.out]; exact HRI.out)
       have u0 := F.cell 0 _ rfl 0 _ rfl
       have u1 := F.cell 0 _ rfl 1 _ rfl
       have u2 := F.cell 0 _ rfl 2 _ rfl
       have u3 := F.cell 0 _ rfl 3 _ rfl
       have u4 := F.cell 0 _ rfl 4 _ rfl
       have u5 := F.cell 0 _ rfl 5 _ rfl
       have u6 := F.cell 0 _ rfl 6 _ rfl
       have u7 := F.cell 0 _ rfl 7 _ rfl
       have u8 := F.cell 0 _ rfl 8 _ rfl
       have u9 := F.cell 0 _ rfl 9 _ rfl
       have u10 := F.cell 0 _ rfl 10 _ rfl
       have u11 := F.cell 0 _ rfl 11 _ rfl
       have u12 := F.cell 0 _ rfl 12 _ rfl
       have HF := Lib.hid F
       have hlo : w.heap.size <= W2.heap.size := F.size
       obtain ⟨yss, hy1, hy2, hy3⟩ := HR.out.row
       have HO := Lib.hid hy2
       have HY := Lib.hid (And.intro hy1 hy3)
       clear hy1 hy2 hy3 F
       go_wp2_with (at_builtin; go_must (refine wpList_push rfl _ _ 47 rfl w.heap.size 63 (.agg #[.int .i64 0, .int .i64 0, .int .i64 0, .string ByteArray.empty, .slice none 0 0, .int .i64 0, .slice none 0 0, .slice none 0 0, .slice none 0 0, .slice none 0 0, .slice none 0 0, .int .i64 0, .int .i64 0]) 13 208 Tryz.underlying47 info_Instr rfl (by decide) _ _ _ _ _ rfl rfl (by exact HO.out) rfl (by simp [Value.oneCell']) (by omega) (by omega) hlo ?_); intro v1 w5 ho5 hg5 hbk5 hb5; have CR := Lib.hid (Drp.pushed HY.out.1 HY.out.2 HR.out.ne rfl HF.out HK.out hlt rfl HX.out (by simpa using ho5) hg5 hbk5 hb5); clear ho5 hg5 hbk5 hb5)
       go_roundw
       case rel => exact ⟨j + 1, by omega, by go_num, CR.out.1, CR.out.2⟩
       case measure => simp [intOf] <;> omega
      ·have HJ := Lib.hid J
       clear J
       have h0 := HAJ.out HJ.out
       obtain ⟨a, rfl⟩ := Int.eq_ofNat_of_zero_le h0.1
       have han : a < l.length + 1 := by omega
       have han2 : (a : Int) < (l.length : Int) + 1 := by omega
       have haa := atN_le kp a
       have p0 := F.cell 1 _ rfl a _ (intsL_at _ (l.length + 1) a han)
       have y1' := F.frozen 0 _ rfl 1
       have HX := Lib.hid (HMJ.out HJ.out)
       rw [Int.toNat_natCast] at HX
       have F3 := Rws.set F 0 KX _ _ rfl 1 (.int .i64 (atN kp a))
       have HF3 := Lib.hid F3
       clear F3 h0
       have HR3 := Lib.hid (Drp.kept (W' := W2.setCell ⟨KX, 1, none⟩ (.int .i64 (atN kp a))) HR.out (fun b hb => Below.heap_setCell _ _ _ _ (fun e => by have := HNX.out b hb; have e2 : b = KX := e; omega)))
       go_upto_region 21 with fail
       refine gen_w (G := fun V => Rws w _ V /\ Drp w S f kp l [KP, KG] j u7 V) ⟨HF3.out, HR3.out⟩ ?_
       clear F HF3 HR HR3 y0 y1 y1' p0 g0
       rintro W3 ⟨F, hR⟩
       have HR := Lib.hid hR
       clear hR
       have u0 := F.cell 0 _ rfl 0 _ rfl
       have u1 := F.cell 0 _ rfl 1 _ rfl
       have u2 := F.cell 0 _ rfl 2 _ rfl
       have u3 := F.cell 0 _ rfl 3 _ rfl
       have u4 := F.cell 0 _ rfl 4 _ rfl
       have u5 := F.cell 0 _ rfl 5 _ rfl
       have u6 := F.cell 0 _ rfl 6 _ rfl
       have u7 := F.cell 0 _ rfl 7 _ rfl
       have u8 := F.cell 0 _ rfl 8 _ rfl
       have u9 := F.cell 0 _ rfl 9 _ rfl
       have u10 := F.cell 0 _ rfl 10 _ rfl
       have u11 := F.cell 0 _ rfl 11 _ rfl
       have u12 := F.cell 0 _ rfl 12 _ rfl
       have HF := Lib.hid F
       have hlo : w.heap.size <= W3.heap.size := F.size
       obtain ⟨yss, hy1, hy2, hy3⟩ := HR.out.row
       have HO := Lib.hid hy2
       have HY := Lib.hid (And.intro hy1 hy3)
       clear hy1 hy2 hy3 F
       go_wp2_with (at_builtin; go_must (refine wpList_push rfl _ _ 47 rfl w.heap.size 63 (.agg #[.int .i64 0, .int .i64 0, .int .i64 0, .string ByteArray.empty, .slice none 0 0, .int .i64 0, .slice none 0 0, .slice none 0 0, .slice none 0 0, .slice none 0 0, .slice none 0 0, .int .i64 0, .int .i64 0]) 13 208 Tryz.underlying47 info_Instr rfl (by decide) _ _ _ _ _ rfl rfl (by exact HO.out) rfl (by simp [Value.oneCell']) (by omega) (by omega) hlo ?_); intro v1 w5 ho5 hg5 hbk5 hb5; have CR := Lib.hid (Drp.pushed HY.out.1 HY.out.2 HR.out.ne rfl HF.out HK.out hlt rfl HX.out (by simpa using ho5) hg5 hbk5 hb5); clear ho5 hg5 hbk5 hb5)
       go_roundw
       case rel => exact ⟨j + 1, by omega, by go_num, CR.out.1, CR.out.2⟩
       case measure => simp [intOf] <;> omega
     ·obtain rfl : j = l.length := by omega
      have t2 := T2.out wr F.below
      have t2f := T2F.out wr F.below
      have HW := Lib.hid F.below
      have HO := Lib.hid (Drp.own HR.out HW.out HS.out)
      have HB2 := Lib.hid (show Blk (wr.setCell ⟨B, o + 2, none⟩ u7) B 49 (pre ++ [lv, dv, u7] ++ rest) from Blk.mid_set (HBL.out.below HW.out) HPR.out 2 u7 (by simp))
      obtain ⟨A9, c9, hu⟩ : ∃ A9 c9, u7 = .slice A9 (atN kp l.length) c9 := by obtain ⟨yss, _, h2, _⟩ := HR.out.row; exact own_shp' h2
      subst hu
      clear F
      go_wp2_with fail
      go_ret
      refine ⟨ret_bool (by rw [decide_eq_false HD.out]; rfl), _, HB2.out, ?_, (Keeps.of_below _ HW.out).sc (by simp) _, below_sc (HW.out.mono (Nat.zero_le _)) (Nat.zero_le _) _⟩
      rw [HDN.out, size_sc]
      exact HO.out.keeps (Keeps.setCell wr ⟨B, o + 2, none⟩ _ (fun h => by rcases h with h | h; exact hSB h; have h2 : w.heap.size <= B := h.1; omega))

theorem Drp.start0 (w0 W : World) (S : Nat -> Prop) (f : Nat -> Nat) (kp : Nat -> Bool) (l : List InstrD) (K : Nat) (hw : w0.heap.size <= W.heap.size) (hK : K < W.heap.size) : Drp w0 S f kp l [K] 0 (.slice (some ⟨W.heap.size, 0, none⟩) 0 0) (W.alloc (.cells #[] 63)) :=
 ⟨⟨[], rfl, ⟨rfl, .inr ⟨W.heap.size, 0, #[], rfl, hw, heap_alloc_new W _, Nat.le_refl _, by unfold maxLen; omega, rfl, rfl⟩⟩, fun q h => absurd h (by simp)⟩, fun b hb => by
  simp only [Value.ownBlock, Option.some.injEq] at hb
  subst hb
  simp
  omega⟩
set_option maxHeartbeats 16000000 in
theorem spec_l34Drop (S : Nat -> Prop) (l : List InstrD) (iv : Value) (KG : Nat) (w : World) (h : InstrsO S w iv l) (hS : ∀ b, S b -> b < w.heap.size) (hG : Blk w KG 4 (boolsL (fun p => keepF l p) l.length)) (ha : ArgOk l) (hl : l.length <= 1000) :
  Calls Tryz.prog 103 #[iv, .slice (some ⟨KG, 0, none⟩) l.length l.length] w (RetDr S l w) := by
 have HI := Lib.hid h
 have HGB := Lib.hid hG
 have HS := Lib.hid hS
 have HA := Lib.hid ha
 obtain ⟨A, c, f, rfl, hlc, hm, HC⟩ := h.elems
 clear h hG hS ha
 unfold maxLen at hm
 have HDN := Lib.hid (show dropF l = dropN (keepF l) l l.length from rfl)
 obtain ⟨kp, hkp⟩ : ∃ kp, keepF l = kp := ⟨_, rfl⟩
 rw [hkp] at HDN HGB
 clear hkp
 have hmk := run_mk (P := Tryz.prog) w 23 3 (.int .i64 0) 1 8 Tryz.underlying23 info_int (l.length + 1) (by omega) (by omega)
 rw [Nat.mul_one, show ((l.length + 1 : Nat) : Int) = (l.length : Int) + 1 from by omega] at hmk
 go_enter Tryz.func103, Tryz.ntmps103
 go_upto_region 2 with fail
 rw [intsL_made]
 have F2 := Rws.push (Rws.start w) 3 (intsL (fun _ => 0) (l.length + 1))
 generalize hK : w.heap.size = KP at F2 ⊢
 clear hmk hK
 have e1 : intsL (fun _ => 0) (l.length + 1) = intsL (plM kp 0) (l.length + 1) := intsL_congr fun t _ => by
  unfold plM
  by_cases e : t <= 0
  ·obtain rfl : t = 0 := by omega
   simp [atN]
  ·rw [if_neg e]
 rw [e1] at F2 ⊢
 clear e1
 refine gen_w (show Ok (Rws w _) _ from F2) ?_
 clear F2
 intro W0 F
 go_wp2_with fail
 go_loopw [6] (fun i wr => ∃ j : Nat, j <= l.length /\ i = .int .i64 j /\ Ok (Rws w [(KP, 3, intsL (plM kp j) (l.length + 1))]) wr) (fun i _ => l.length - (intOf i).toNat)
 case atStart => exact ⟨0, Nat.zero_le _, rfl, F⟩
 case round =>
  clear F
  obtain ⟨j, hj, rfl, F⟩ := hrel
  have haj := atN_le kp j
  by_cases hlt : j < l.length
  ·have w0 : IntKind.i64.wrap ((j : Int) + 1) = (j : Int) + 1 := IntWalk.i64_in _ (by omega)
   have u0 := F.cell 0 _ rfl j _ (intsL_at _ (l.length + 1) j (by omega))
   rw [show plM kp j j = (atN kp j : Int) from by simp [plM]] at u0
   have u2 := F.cell 0 _ rfl (j + 1) _ (intsL_at _ (l.length + 1) (j + 1) (by omega))
   have u1 := F.frozen 0 _ rfl (j + 1)
   have g0 := (F.below.cell (p := ⟨KG, j, none⟩) HGB.out.lt).trans (HGB.out.cell j _ (boolsL_at _ l.length j hlt))
   have F2 := Rws.set F 0 KP _ _ rfl (j + 1) (.int .i64 (atN kp j))
   have HF := Lib.hid F2
   have HE := Lib.hid (atN_one kp j)
   clear F2
   go_upto_region 6 with fail
   refine gen_w (show Ok (Rws w _) _ from HF.out) ?_
   clear F u0 u1 u2 HF g0
   intro W2 F
   have g0 := (F.below.cell (p := ⟨KG, j, none⟩) HGB.out.lt).trans (HGB.out.cell j _ (boolsL_at _ l.length j hlt))
   cases hk : kp j
   ·have F3 := F
    have HK := Lib.hid hk
    simp only [hk] at g0
    clear hk
    have HX := Lib.hid (plM_set kp j (l.length + 1) (atN kp j) (by rw [HE.out, HK.out]; simp))
    go_wp2_with fail
    go_roundw
    case rel => exact ⟨j + 1, by omega, by go_num, show Rws w _ _ by rw [<- HX.out]; exact F3⟩
    case measure => simp [intOf] <;> omega
   ·have HK := Lib.hid hk
    simp only [hk] at g0
    clear hk
    have u0 := F.cell 0 _ rfl j _ (show (List.set (intsL (plM kp j) (l.length + 1)) (j + 1) (.int .i64 (atN kp j)))[j]? = some (.int .i64 (atN kp j)) from by
     rw [List.getElem?_set_ne (by omega), intsL_at _ _ _ (by omega)]
     simp [plM])
    have u2 := F.cell 0 _ rfl (j + 1) _ (show (List.set (intsL (plM kp j) (l.length + 1)) (j + 1) (.int .i64 (atN kp j)))[j + 1]? = some (.int .i64 (atN kp j)) from by
     rw [List.getElem?_set_self (by rw [intsL_len]; omega)])
    have u1 := F.frozen 0 _ rfl (j + 1)
    have F3 := Rws.set F 0 KP _ _ rfl (j + 1) (.int .i64 ((atN kp j : Int) + 1))
    rw [show ((intsL (plM kp j) (l.length + 1)).set (j + 1) (.int .i64 (atN kp j))).set (j + 1) (.int .i64 ((atN kp j : Int) + 1)) = intsL (plM kp (j + 1)) (l.length + 1) from by rw [List.set_set, plM_set kp j (l.length + 1) _ (by rw [HE.out, HK.out]; simp)]] at F3
    have HF := Lib.hid F3
    clear F3
    go_wp2_with fail
    go_roundw
    case rel => exact ⟨j + 1, by omega, by go_num, show Rws w _ _ from HF.out⟩
    case measure => simp [intOf] <;> omega
  ·obtain rfl : j = l.length := by omega
   rw [plM_all] at F
   clear haj
   go_upto_region 9 with fail
   have HR := Lib.hid (Drp.start0 w wr S f kp l KP F.size (F.blk 0 _ rfl).lt)
   refine gen_w (G := fun V => Rws w _ V /\ Drp w S f kp l [KP] 0 (.slice (some ⟨wr.heap.size, 0, none⟩) 0 0) V) ⟨Rws.step F ((Below.refl _ _).alloc (Nat.le_refl _) _), HR.out⟩ ?_
   clear F HR
   rintro W2 ⟨F, hR⟩
   generalize wr.heap.size = gE at hR ⊢
   have HR := Lib.hid hR
   clear hR
   go_wp2_with fail
   go_loopw [7, 8] (fun lw i wr => ∃ j : Nat, j <= l.length /\ i = .int .i64 j /\ Hid (Drp w S f kp l [KP] j lw wr) /\ Ok (Rws w [(KP, 3, intsL (fun t => (atN kp t : Int)) (l.length + 1))]) wr) (fun _ i _ => l.length - (intOf i).toNat)
   case atStart => exact ⟨0, Nat.zero_le _, rfl, HR.out, F⟩
   case round =>
    clear F HR
    obtain ⟨j, hj, rfl, HR, F⟩ := hrel
    by_cases hlt : j < l.length
    ·obtain ⟨b, off, cs, rfl, hbl, hcs, hat, hr⟩ := HC.out j hlt
     obtain ⟨A4, c4, A1, c1, A2, c2, A3, c3, A5, c5, A6, c6, rfl⟩ := hr.shape
     have HRI := Lib.hid hr
     clear hr hcs
     have HAJ := Lib.hid (HA.out j hlt)
     have HMJ := Lib.hid (fun hj : jmpOp l[j].op = true => mvI_jmp (kp := kp) HRI.out hj (by have h1 := atN_le kp l[j].arg.toNat; have h2 := HAJ.out hj; omega))
     have HMI := Lib.hid (fun hj : jmpOp l[j].op = false => mvI_id (kp := kp) hj)
     obtain ⟨op, hop⟩ : ∃ x, l[j].op = x := ⟨_, rfl⟩
     obtain ⟨arg, harg⟩ : ∃ x, l[j].arg = x := ⟨_, rfl⟩
     rw [hop, harg] at hat HRI HMJ HAJ
     rw [hop] at HMI
     clear hop harg
     obtain ⟨z0, z1, z2, z3, z4, z5, z6, z7, z8, z9, z10, z11, z12⟩ := pk_c13 F.below hbl hat
     clear hat
     go_upto_region 13 with fail
     have HR0 := HR
     have HR2 := Lib.hid (Drp.step HR.out ((Below.refl _ _).alloc (Nat.le_refl _) (.cells #[.int .i64 op, .int .i64 arg, .int .i64 l[j].count, .string (str l[j].text), .slice A4 l[j].labels.length c4, .int .i64 l[j].value.kind, .slice A1 l[j].value.items.length c1, .slice A2 l[j].value.parts.length c2, .slice A3 l[j].value.names.length c3, .slice A5 l[j].value.cls.length c5, .slice A6 l[j].value.levels.length c6, .int .i64 l[j].value.code, .int .i64 l[j].value.env] 63)))
     refine gen_w (G := fun V => Rws w ((wr.heap.size, 63, [.int .i64 op, .int .i64 arg, .int .i64 l[j].count, .string (str l[j].text), .slice A4 l[j].labels.length c4, .int .i64 l[j].value.kind, .slice A1 l[j].value.items.length c1, .slice A2 l[j].value.parts.length c2, .slice A3 l[j].value.names.length c3, .slice A5 l[j].value.cls.length c5, .slice A6 l[j].value.levels.length c6, .int .i64 l[j].value.code, .int .i64 l[j].value.env]) :: _) V /\ Drp w S f kp l [KP] j _ V) ⟨Rws.push F _ _, HR2.out⟩ ?_
     clear F z0 z1 z2 z3 z4 z5 z6 z7 z8 z9 z10 z11 z12 HR HR2
     rintro W2 ⟨F, hR⟩
     have HR := Lib.hid hR
     clear hR
     have HNX := Lib.hid (show ∀ b, u7.ownBlock = some b -> b < wr.heap.size from fun b hb => by obtain ⟨yss, _, h2, _⟩ := HR0.out.row; exact (h2.lt b hb).2)
     generalize wr.heap.size = KX at F HNX ⊢
     have haj := atN_le kp j
     have y0 := F.cell 0 _ rfl 0 _ rfl
     have y1 := F.cell 0 _ rfl 1 _ rfl
     go_wp2_with fail
     refine Calls.mono (spec_l32Jumps op _) ?_
     rintro e w3 ⟨rfl, rfl⟩
     rw [isJ_jmp]
     cases J : jmpOp op
     ·have HJ := Lib.hid J
      clear J
      have HX := Lib.hid (show InstrO (fun b => S b /\ f b = j + 1) w [.int .i64 op, .int .i64 arg, .int .i64 l[j].count, .string (str l[j].text), .slice A4 l[j].labels.length c4, .int .i64 l[j].value.kind, .slice A1 l[j].value.items.length c1, .slice A2 l[j].value.parts.length c2, .slice A3 l[j].value.names.length c3, .slice A5 l[j].value.cls.length c5, .slice A6 l[j].value.levels.length c6, .int .i64 l[j].value.code, .int .i64 l[j].value.env] (mvI kp l[j]) by rw [HMI.out HJ.out]; exact HRI.out)
      have g0 := (F.below.cell (p := ⟨KG, j, none⟩) HGB.out.lt).trans (HGB.out.cell j _ (boolsL_at _ l.length j hlt))
      cases hk : kp j
      ·have HK := Lib.hid hk
       simp only [hk] at g0
       clear hk
       go_wp2_with fail
       go_roundw
       case rel => exact ⟨j + 1, by omega, by go_num, Drp.skip HR.out HK.out, F.tail⟩
       case measure => simp [intOf] <;> omega
      have HK := Lib.hid hk
      simp only [hk] at g0
      clear hk
      have u0 := F.cell 0 _ rfl 0 _ rfl
      have u1 := F.cell 0 _ rfl 1 _ rfl
      have u2 := F.cell 0 _ rfl 2 _ rfl
      have u3 := F.cell 0 _ rfl 3 _ rfl
      have u4 := F.cell 0 _ rfl 4 _ rfl
      have u5 := F.cell 0 _ rfl 5 _ rfl
      have u6 := F.cell 0 _ rfl 6 _ rfl
      have u7 := F.cell 0 _ rfl 7 _ rfl
      have u8 := F.cell 0 _ rfl 8 _ rfl
      have u9 := F.cell 0 _ rfl 9 _ rfl
      have u10 := F.cell 0 _ rfl 10 _ rfl
      have u11 := F.cell 0 _ rfl 11 _ rfl
      have u12 := F.cell 0 _ rfl 12 _ rfl
      have HF := Lib.hid F
      have hlo : w.heap.size <= W2.heap.size := F.size
      obtain ⟨yss, hy1, hy2, hy3⟩ := HR.out.row
      have HO := Lib.hid hy2
      have HY := Lib.hid (And.intro hy1 hy3)
      clear hy1 hy2 hy3 F
      go_wp2_with (at_builtin; go_must (refine wpList_push rfl _ _ 47 rfl w.heap.size 63 (.agg #[.int .i64 0, .int .i64 0, .int .i64 0, .string ByteArray.empty, .slice none 0 0, .int .i64 0, .slice none 0 0, .slice none 0 0, .slice none 0 0, .slice none 0 0, .slice none 0 0, .int .i64 0, .int .i64 0]) 13 208 Tryz.underlying47 info_Instr rfl (by decide) _ _ _ _ _ rfl rfl (by exact HO.out) rfl (by simp [Value.oneCell']) (by omega) (by omega) hlo ?_); intro v1 w5 ho5 hg5 hbk5 hb5; have CR := Lib.hid (Drp.pushed HY.out.1 HY.out.2 HR.out.ne rfl HF.out HK.out hlt rfl HX.out (by simpa using ho5) hg5 hbk5 hb5); clear ho5 hg5 hbk5 hb5)
      go_roundw
      case rel => exact ⟨j + 1, by omega, by go_num, CR.out.1, CR.out.2⟩
      case measure => simp [intOf] <;> omega
     ·have HJ := Lib.hid J
      clear J
      have h0 := HAJ.out HJ.out
      obtain ⟨a, rfl⟩ := Int.eq_ofNat_of_zero_le h0.1
      have han : a < l.length + 1 := by omega
      have han2 : (a : Int) < (l.length : Int) + 1 := by omega
      have haa := atN_le kp a
      have p0 := F.cell 1 _ rfl a _ (intsL_at _ (l.length + 1) a han)
      have y1' := F.frozen 0 _ rfl 1
      have HX := Lib.hid (HMJ.out HJ.out)
      rw [Int.toNat_natCast] at HX
      have F3 := Rws.set F 0 KX _ _ rfl 1 (.int .i64 (atN kp a))
      have HF3 := Lib.hid F3
      clear F3 h0
      have HR3 := Lib.hid (Drp.kept (W' := W2.setCell ⟨KX, 1, none⟩ (.int .i64 (atN kp a))) HR.out (fun b hb => Below.heap_setCell _ _ _ _ (fun e => by have := HNX.out b hb; have e2 : b = KX := e; omega)))
      go_upto_region 15 with fail
      refine gen_w (G := fun V => Rws w _ V /\ Drp w S f kp l [KP] j u7 V) ⟨HF3.out, HR3.out⟩ ?_
      clear F HF3 HR HR3 y0 y1 y1' p0
      rintro W3 ⟨F, hR⟩
      have HR := Lib.hid hR
      clear hR
      have g0 := (F.below.cell (p := ⟨KG, j, none⟩) HGB.out.lt).trans (HGB.out.cell j _ (boolsL_at _ l.length j hlt))
      cases hk : kp j
      ·have HK := Lib.hid hk
       simp only [hk] at g0
       clear hk
       go_wp2_with fail
       go_roundw
       case rel => exact ⟨j + 1, by omega, by go_num, Drp.skip HR.out HK.out, Rws.tail F⟩
       case measure => simp [intOf] <;> omega
      have HK := Lib.hid hk
      simp only [hk] at g0
      clear hk
      have u0 := F.cell 0 _ rfl 0 _ rfl
      have u1 := F.cell 0 _ rfl 1 _ rfl
      have u2 := F.cell 0 _ rfl 2 _ rfl
      have u3 := F.cell 0 _ rfl 3 _ rfl
      have u4 := F.cell 0 _ rfl 4 _ rfl
      have u5 := F.cell 0 _ rfl 5 _ rfl
      have u6 := F.cell 0 _ rfl 6 _ rfl
      have u7 := F.cell 0 _ rfl 7 _ rfl
      have u8 := F.cell 0 _ rfl 8 _ rfl
      have u9 := F.cell 0 _ rfl 9 _ rfl
      have u10 := F.cell 0 _ rfl 10 _ rfl
      have u11 := F.cell 0 _ rfl 11 _ rfl
      have u12 := F.cell 0 _ rfl 12 _ rfl
      have HF := Lib.hid F
      have hlo : w.heap.size <= W3.heap.size := F.size
      obtain ⟨yss, hy1, hy2, hy3⟩ := HR.out.row
      have HO := Lib.hid hy2
      have HY := Lib.hid (And.intro hy1 hy3)
      clear hy1 hy2 hy3 F
      go_wp2_with (at_builtin; go_must (refine wpList_push rfl _ _ 47 rfl w.heap.size 63 (.agg #[.int .i64 0, .int .i64 0, .int .i64 0, .string ByteArray.empty, .slice none 0 0, .int .i64 0, .slice none 0 0, .slice none 0 0, .slice none 0 0, .slice none 0 0, .slice none 0 0, .int .i64 0, .int .i64 0]) 13 208 Tryz.underlying47 info_Instr rfl (by decide) _ _ _ _ _ rfl rfl (by exact HO.out) rfl (by simp [Value.oneCell']) (by omega) (by omega) hlo ?_); intro v1 w5 ho5 hg5 hbk5 hb5; have CR := Lib.hid (Drp.pushed HY.out.1 HY.out.2 HR.out.ne rfl HF.out HK.out hlt rfl HX.out (by simpa using ho5) hg5 hbk5 hb5); clear ho5 hg5 hbk5 hb5)
      go_roundw
      case rel => exact ⟨j + 1, by omega, by go_num, CR.out.1, CR.out.2⟩
      case measure => simp [intOf] <;> omega
    ·obtain rfl : j = l.length := by omega
     have HW := Lib.hid F.below
     have HO := Lib.hid (Drp.own HR.out HW.out HS.out)
     rw [<- HDN.out] at HO
     obtain ⟨A9, c9, hu⟩ : ∃ A9 c9, u7 = .slice A9 (atN kp l.length) c9 := by obtain ⟨yss, _, h2, _⟩ := HR.out.row; exact own_shp' h2
     subst hu
     clear F
     go_wp2_with fail
     go_ret
     exact ⟨_, rfl, HO.out, HW.out⟩

end Go.Proofs.YtjdfancbmjnjfaaGreat
