/-
  Contracts: instructions are copied (spec.l34Fresh) and optimized (spec.l34Instrs).
-/
import Derived.Test.YtjdfancbmjnjfaaGreatOptE
import Derived.Test.YtjdfancbmjnjfaaGreatKCopy
namespace Go.Proofs.YtjdfancbmjnjfaaGreat
set_option maxRecDepth 100000
open Go.ChangeShapes Go.WideShapes Go.ChangeAt Go.RowKit Go.Deep
set_option linter.unusedVariables false
set_option linter.unusedSimpArgs false

theorem spec_l4CopyV (d : VecD) (cs : List Value) (w : World) (h : VecR w cs d) (hok : okN 3 d = true) (hz : szVector d <= 1000000000000) : Calls Tryz.prog 105 #[.agg cs.toArray] w (RetVec w d) := by
 obtain ⟨n, h⟩ := h
 refine Calls.mono (spec_l4Copy_all n d cs w h hok hz) ?_
 rintro e w' ⟨cs', he, ho, hb⟩
 exact ⟨cs', he, ⟨n, ho⟩, hb⟩
theorem impl_copyVectorV (d : VecD) (cs : List Value) (w : World) (h : VecR w cs d) (hz : szVector d <= 900000000000) : Calls Tryz.prog 70 #[.agg cs.toArray] w (RetVec w d) := by
 obtain ⟨n, h⟩ := h
 refine Calls.mono (impl_copyVector_all n d cs w h hz) ?_
 rintro e w' ⟨cs', he, ho, hb⟩
 exact ⟨cs', he, ⟨n, ho⟩, hb⟩
def RetIns (w : World) (l : List InstrD) (e : Ending) (w' : World) : Prop := ∃ v', e = .returned v' /\ InstrsO (Rng w.heap.size w'.heap.size) w' v' l /\ Below w.heap.size w w'
theorem SlO.empty {α : Type} (w : World) (e : TypeId) (size : Nat) (RO : (Nat -> Prop) -> World -> List Value -> α -> Prop) : SlO (Rng w.heap.size (w.alloc (.cells #[] e)).heap.size) (w.alloc (.cells #[] e)) e size RO (.slice (some ⟨w.heap.size, 0, none⟩) 0 0) [] :=
 ⟨[], fun _ => 0, rfl, fun k h => absurd h (by simp), (FlO.of_own (owns_new w e size 0 #[] 0 [] (by simp) (Nat.le_refl _) (by unfold maxLen; omega) (by simp) (by simp))).mono fun b hb => ⟨hb, rfl⟩⟩
theorem InstrsO.shape {S : Nat -> Prop} {w : World} {v : Value} {l : List InstrD} (h : InstrsO S w v l) : ∃ A c, v = .slice A l.length c := by
 obtain ⟨A, c, f, h1, _⟩ := h.elems
 exact ⟨A, c, h1⟩
theorem InstrR.slices9 {w : World} {cs : List Value} {d : InstrD} (h : InstrR w cs d) : ∃ (A4 : Option Addr) (c4 : Nat) (A1 : Option Addr) (c1 : Nat) (A2 : Option Addr) (c2 : Nat) (A3 : Option Addr) (c3 : Nat) (A5 : Option Addr) (c5 : Nat) (A6 : Option Addr) (c6 : Nat), cs = [.int .i64 d.op, .int .i64 d.arg, .int .i64 d.count, .string (str d.text), .slice A4 d.labels.length c4, .int .i64 d.value.kind, .slice A1 d.value.items.length c1, .slice A2 d.value.parts.length c2, .slice A3 d.value.names.length c3, .slice A5 d.value.cls.length c5, .slice A6 d.value.levels.length c6, .int .i64 d.value.code, .int .i64 d.value.env] /\
  I64 d.op /\ I64 d.arg /\ I64 d.count /\ d.text.length <= maxLen /\ Txts w (.slice A4 d.labels.length c4) d.labels /\ VecR w [.int .i64 d.value.kind, .slice A1 d.value.items.length c1, .slice A2 d.value.parts.length c2, .slice A3 d.value.names.length c3, .slice A5 d.value.cls.length c5, .slice A6 d.value.levels.length c6, .int .i64 d.value.code, .int .i64 d.value.env] d.value := by
 have h9 := h
 obtain ⟨A4, c4, A1, c1, A2, c2, A3, c3, A5, c5, A6, c6, hs⟩ := h9.slices
 obtain ⟨v4, v51, v52, v53, v54, v55, rfl, h0, h1, h2, h3, h4, h5⟩ := h
 injection hs with _ hs
 injection hs with _ hs
 injection hs with _ hs
 injection hs with _ hs
 injection hs with e4 hs
 injection hs with _ hs
 injection hs with e51 hs
 injection hs with e52 hs
 injection hs with e53 hs
 injection hs with e54 hs
 injection hs with e55 hs
 subst e4 e51 e52 e53 e54 e55
 exact ⟨A4, c4, A1, c1, A2, c2, A3, c3, A5, c5, A6, c6, rfl, h0, h1, h2, h3, h4, h5⟩

set_option maxHeartbeats 8000000 in
theorem spec_l34Fresh (l : List InstrD) (v : Value) (w : World) (h : Instrs w v l) (hok : ∀ x ∈ l, okN 3 x.value = true) (hz : szS szInstr l <= 1048576) :
  Calls Tryz.prog 68 #[v] w (RetIns w l) := by
 obtain ⟨A, c, rfl, hlc, hm, HC⟩ := SlR.open_ h
 clear h
 unfold maxLen at hm
 have HOK := Lib.hid hok
 have hl := szS_length szInstr l
 clear hok
 go_enter Tryz.func68, Tryz.ntmps68
 go_upto_region 2 with fail
 have HO := Lib.hid (SlO.empty w 63 13 InstrO)
 refine gen_w (G := fun V => InstrsO (Rng w.heap.size V.heap.size) V (.slice (some ⟨w.heap.size, 0, none⟩) 0 0) [] /\ Below w.heap.size w V) ⟨HO.out, (Below.refl _ _).alloc (Nat.le_refl _) _⟩ ?_
 clear HO
 rintro W0 ⟨hO, hB⟩
 generalize hgE : (some ⟨w.heap.size, 0, none⟩ : Option Addr) = gE at hO ⊢
 have HO := Lib.hid hO
 have HB := Lib.hid hB
 clear hO hB hgE
 go_wp2_with fail
 go_loopw [3, 4] (fun u i wr => ∃ j : Nat, j <= l.length /\ i = .int .i64 j /\ Hid (InstrsO (Rng w.heap.size wr.heap.size) wr u (l.take j)) /\ Hid (Below w.heap.size w wr)) (fun _ i _ => l.length - (intOf i).toNat)
 case atStart => exact ⟨0, Nat.zero_le _, rfl, HO.out, HB.out⟩
 case round =>
  clear HO HB
  obtain ⟨j, hj, rfl, HO, HB⟩ := hrel
  obtain ⟨U, q, rfl⟩ := HO.out.shape
  have hlj : (l.take j).length = j := by rw [List.length_take]; omega
  rw [hlj] at HO ⊢
  by_cases hlt : j < l.length
  ·have htk := List.take_succ_eq_append_getElem hlt
   have HTK := Lib.hid htk
   clear htk hlj
   obtain ⟨b, off, cs, rfl, hbl, hcs, hat, hr⟩ := HC.out j hlt
   obtain ⟨A4, c4, A1, c1, A2, c2, A3, c3, A5, c5, A6, c6, rfl, i0, i1, i2, i3, hL, hV⟩ := hr.slices9
   have hzj := szS_at szInstr l j hlt
   have hzx : szInstr l[j] = l[j].text.length + szL l[j].labels + szVector l[j].value := rfl
   have hzl := szL_length l[j].labels
   have HOKJ := Lib.hid (HOK.out _ (List.getElem_mem hlt))
   have HII := Lib.hid (And.intro i0 (And.intro i1 (And.intro i2 i3)))
   have HL := Lib.hid hL
   have HV := Lib.hid hV
   have hzv : szVector l[j].value <= 1048576 := by omega
   have hzl2 : l[j].labels.length <= 1048576 := by omega
   clear hr hcs i0 i1 i2 i3 hL hV hzj hzx hzl
   have hwr := HB.out.size
   obtain ⟨z0, z1, z2, z3, z4, z5, z6, z7, z8, z9, z10, z11, z12⟩ := pk_c13 HB.out hbl hat
   go_wp2_with fail
   clear z0 z1 z2 z3 z4 z5 z6 z7 z8 z9 z10 z11 z12
   refine Calls.mono (spec_l4CopyV l[j].value _ _ (HV.out.below HB.out) HOKJ.out (by omega)) ?_
   rintro e w2 ⟨cs2, rfl, ho, hb⟩
   obtain ⟨E1, e1, E2, e2, E3, e3, E4, e4, E5, e5, rfl⟩ := ho.shape
   have HVO := Lib.hid ho
   have HB2 := Lib.hid hb
   have hw2 := hb.size
   clear ho hb
   go_upto_region 6 with fail
   refine gen_w (G := fun V => Blk V w2.heap.size 61 [.int .i64 l[j].value.kind, .slice E1 l[j].value.items.length e1, .slice E2 l[j].value.parts.length e2, .slice E3 l[j].value.names.length e3, .slice E4 l[j].value.cls.length e4, .slice E5 l[j].value.levels.length e5, .int .i64 l[j].value.code, .int .i64 l[j].value.env] /\ Below w2.heap.size w2 V) ⟨Blk.new w2 _ [.int .i64 l[j].value.kind, .slice E1 l[j].value.items.length e1, .slice E2 l[j].value.parts.length e2, .slice E3 l[j].value.names.length e3, .slice E4 l[j].value.cls.length e4, .slice E5 l[j].value.levels.length e5, .int .i64 l[j].value.code, .int .i64 l[j].value.env], (Below.refl _ _).alloc (Nat.le_refl _) _⟩ ?_
   rintro V ⟨hBx, hbV⟩
   have HBX := Lib.hid hBx
   have HBV := Lib.hid hbV
   have hV2 := HBX.out.lt
   clear hBx hbV
   have hb0 := (Below.refl V.heap.size V).alloc (Nat.le_refl _) (.cells #[] 9)
   have HWV := Lib.hid (HB.out.trans ((HB2.out.trans (HBV.out.mono hw2)).mono hwr))
   have HW0 := Lib.hid (HWV.out.trans (hb0.mono HWV.out.size))
   have HE := Lib.hid (owns_new V 9 1 0 #[] 0 [] (by simp) (Nat.le_refl _) (by unfold maxLen; omega) (by simp) (by simp))
   have HSR := Lib.hid (Txts.src (HL.out.below HW0.out)).2
   have HB0 := Lib.hid hb0
   clear hb0
   have z4 := (HW0.out.cell (p := ⟨b, off + j * 13 + 4, none⟩) hbl).trans (hat 4 _ rfl)
   go_upto_region 7 with (at_builtin; go_must (refine wpList_cat rfl _ _ 46 rfl V.heap.size 9 (.string ByteArray.empty) 1 16 Tryz.underlying46 info_strK rfl (by decide) _ _ 0 [] rfl (by exact HE.out) _ _ _ _ rfl (by exact HSR.out) (by omega) (by omega) (by simp) ?_); intro v1 w3 ho3 hg3 hbk3 hb3; rw [Nat.zero_add, List.nil_append] at ho3; obtain ⟨Q, cq, rfl⟩ := own_shp' ho3)
   have HBW3 := Lib.hid (HB0.out.trans hb3)
   have hw3 := HBW3.out.size
   have HT3 := Lib.hid (show TxtO (Rng V.heap.size w3.heap.size) w3 (.slice Q l[j].labels.length cq) l[j].labels from ⟨FlO.of_own ho3, Txts.small HL.out⟩)
   clear ho3 hg3 hbk3 hb3 HE HSR HB0 z4 HW0
   have HX3 := Lib.hid (HBX.out.below HBW3.out)
   have HW3 := Lib.hid (HWV.out.trans (HBW3.out.mono HWV.out.size))
   obtain ⟨T, hT⟩ : ∃ T : World -> Prop, T = fun V2 => Blk V2 w2.heap.size 61 [.int .i64 l[j].value.kind, .slice E1 l[j].value.items.length e1, .slice E2 l[j].value.parts.length e2, .slice E3 l[j].value.names.length e3, .slice E4 l[j].value.cls.length e4, .slice E5 l[j].value.levels.length e5, .int .i64 l[j].value.code, .int .i64 l[j].value.env] /\ Below w.heap.size w V2 := ⟨_, rfl⟩
   have HTI := Lib.hid (fun (V2 : World) (h : Ok T V2) => show Blk V2 w2.heap.size 61 [.int .i64 l[j].value.kind, .slice E1 l[j].value.items.length e1, .slice E2 l[j].value.parts.length e2, .slice E3 l[j].value.names.length e3, .slice E4 l[j].value.cls.length e4, .slice E5 l[j].value.levels.length e5, .int .i64 l[j].value.code, .int .i64 l[j].value.env] /\ Below w.heap.size w V2 by rw [hT] at h; exact h)
   have HTO := Lib.hid (fun (V2 : World) (h1 : Blk V2 w2.heap.size 61 [.int .i64 l[j].value.kind, .slice E1 l[j].value.items.length e1, .slice E2 l[j].value.parts.length e2, .slice E3 l[j].value.names.length e3, .slice E4 l[j].value.cls.length e4, .slice E5 l[j].value.levels.length e5, .int .i64 l[j].value.code, .int .i64 l[j].value.env]) (h2 : Below w.heap.size w V2) => show Ok T V2 by rw [hT]; exact ⟨h1, h2⟩)
   have g1 : Ok T w3.drew := HTO.out _ (HX3.out.below (Below.drew (Below.refl _ _))) (HW3.out.trans ((Below.drew (Below.refl _ _))))
   clear hT
   have q0 := fun V2 (h : Ok T V2) => (HTI.out _ h).1.cell 0 _ rfl
   have q1 := fun V2 (h : Ok T V2) => (HTI.out _ h).1.cell 1 _ rfl
   have q2 := fun V2 (h : Ok T V2) => (HTI.out _ h).1.cell 2 _ rfl
   have q3 := fun V2 (h : Ok T V2) => (HTI.out _ h).1.cell 3 _ rfl
   have q4 := fun V2 (h : Ok T V2) => (HTI.out _ h).1.cell 4 _ rfl
   have q5 := fun V2 (h : Ok T V2) => (HTI.out _ h).1.cell 5 _ rfl
   have q6 := fun V2 (h : Ok T V2) => (HTI.out _ h).1.cell 6 _ rfl
   have q7 := fun V2 (h : Ok T V2) => (HTI.out _ h).1.cell 7 _ rfl
   have z0 := fun V2 (h : Ok T V2) => ((HTI.out _ h).2.cell (p := ⟨b, off + j * 13, none⟩) hbl).trans (by simpa using hat 0 _ rfl)
   have z1 := fun V2 (h : Ok T V2) => ((HTI.out _ h).2.cell (p := ⟨b, off + j * 13 + 1, none⟩) hbl).trans (hat 1 _ rfl)
   have z2 := fun V2 (h : Ok T V2) => ((HTI.out _ h).2.cell (p := ⟨b, off + j * 13 + 2, none⟩) hbl).trans (hat 2 _ rfl)
   have z3 := fun V2 (h : Ok T V2) => ((HTI.out _ h).2.cell (p := ⟨b, off + j * 13 + 3, none⟩) hbl).trans (hat 3 _ rfl)
   clear hat
   have hlen3 : w.heap.size <= w3.heap.size := HW3.out.size
   refine wp_region_plan (S := Ok T) (by kernel_rfl) [(true, 0), (true, 1), (true, 2), (true, 3), (true, 4), (true, 5), (true, 6), (true, 7), (true, 8), (true, 9), (true, 10), (true, 11), (true, 12), (true, 13), (true, 14), (true, 15), (true, 16), (true, 17), (true, 18), (true, 19), (true, 20), (true, 21), (true, 22), (true, 23), (false, 24), (false, 25), (true, 26)] (by kernel_rfl) g1 ?_
   repeat (refine dyn_take rfl rfl (fun W g => by go_simp; rfl) ?_; go_simp)
   have HEL := Lib.hid (show InstrO (Rng wr.heap.size w3.heap.size) w3.drew [.int .i64 l[j].op, .int .i64 l[j].arg, .int .i64 l[j].count, .string (str l[j].text), .slice Q l[j].labels.length cq, .int .i64 l[j].value.kind, .slice E1 l[j].value.items.length e1, .slice E2 l[j].value.parts.length e2, .slice E3 l[j].value.names.length e3, .slice E4 l[j].value.cls.length e4, .slice E5 l[j].value.levels.length e5, .int .i64 l[j].value.code, .int .i64 l[j].value.env] l[j] from
    ⟨_, _, _, _, _, _, _, _, _, _, _, _, fun x => if x < w2.heap.size then 5 else 4, rfl, HII.out.1, HII.out.2.1, HII.out.2.2.1, HII.out.2.2.2,
     (HT3.out.keeps (Keeps.of_below _ (Below.drew (Below.refl _ _)))).mono (fun x hx => ⟨⟨by have := hx.1; omega, hx.2⟩, by dsimp only; rw [if_neg (by have := hx.1; omega)]⟩),
     (HVO.out.keeps (Keeps.of_below _ (HBV.out.trans ((HBW3.out.mono (by omega)).trans (Below.drew (Below.refl _ _)))))).mono (fun x hx => ⟨⟨hx.1, by have := hx.2; omega⟩, by dsimp only; rw [if_pos hx.2]⟩)⟩)
   obtain ⟨xs, hown, hpush⟩ := SlO.push (fun h k => h.keeps k) (fun h k => h.mono k) HO.out hwr ((HB2.out.trans ((HBV.out.mono hw2).trans ((HBW3.out.mono (by omega)).trans (Below.drew (Below.refl _ _)))))) l[j] _ rfl (HEL.out.mono (fun x hx => hx))
   have HPU := Lib.hid hpush
   have HOW := Lib.hid hown
   clear hpush hown
   rw [List.length_take, Nat.min_eq_left hj] at HPU HOW
   have HUB := Lib.hid (show ∀ k, (Value.slice U j q).ownBlock = some k -> k < wr.heap.size from fun k hk => by
    obtain ⟨_, _, _, _, h8⟩ := HO.out
    exact (h8.2 k hk).1.2)
   refine dyn_act rfl rfl (fun K hK => ?_)
   go_wp2_with fail
   refine hK.out _ _ (HTO.out _ ((HTI.out _ g1).1.below ((Below.refl _ _).alloc (Nat.le_refl _) _)) ((HTI.out _ g1).2.trans (((Below.refl _ _).alloc (Nat.le_refl _) _).mono (by simp; omega)))) ?_
   clear hK
   refine dyn_act rfl rfl (fun K hK => ?_)
   refine wp_push (.tmp 27) (.tmp 51) 47 rfl w.heap.size 63 (.agg #[.int .i64 0, .int .i64 0, .int .i64 0, .string ByteArray.empty, .slice none 0 0, .int .i64 0, .slice none 0 0, .slice none 0 0, .slice none 0 0, .slice none 0 0, .slice none 0 0, .int .i64 0, .int .i64 0]) 13 208 Tryz.underlying47 info_Instr rfl (by decide) w3.drew (.slice U j q) j xs #[.int .i64 l[j].op, .int .i64 l[j].arg, .int .i64 l[j].count, .string (str l[j].text), .slice Q l[j].labels.length cq, .int .i64 l[j].value.kind, .slice E1 l[j].value.items.length e1, .slice E2 l[j].value.parts.length e2, .slice E3 l[j].value.names.length e3, .slice E4 l[j].value.cls.length e4, .slice E5 l[j].value.levels.length e5, .int .i64 l[j].value.code, .int .i64 l[j].value.env] rfl rfl HOW.out rfl (by simp [Value.oneCell']) (by omega) (by omega) (by simp; omega) ?_
   intro v9 w5 ho5 hg5 hbk5 hb5
   have HP5 := Lib.hid (HPU.out _ _ ho5 hg5 hbk5)
   rw [<- HTK.out] at HP5
   have HB5 := Lib.hid ((HTI.out _ g1).2.trans hb5)
   have g5 : Ok T w5 := HTO.out _ ((hg5.block _ (HTI.out _ g1).1.lt (fun e9 => by have := HUB.out _ e9.symm; omega)).trans (HTI.out _ g1).1) HB5.out
   obtain ⟨U2, cu, rfl⟩ := own_shp' ho5
   clear ho5 hg5 hbk5 hb5
   refine hK.out _ _ g5 ?_
   clear hK
   go_simp
   repeat (refine dyn_take rfl rfl (fun W g => by go_simp; rfl) ?_; go_simp)
   refine dyn_done ?_
   clear g5 g1 q0 q1 q2 q3 q4 q5 q6 q7 z0 z1 z2 z3
   go_wp2_with fail
   go_roundw
   case rel => exact ⟨j + 1, by omega, by go_num, HP5.out, HB5.out⟩
   case measure => simp [intOf] <;> omega
  ·obtain rfl : j = l.length := by omega
   rw [List.take_length] at HO
   go_wp2_with fail
   go_ret
   exact ⟨_, rfl, HO.out, HB.out⟩

theorem thrF_ops {l : List InstrD} (ha : ArgOk l) (h : ∀ x ∈ l, 0 <= x.op /\ x.op <= 33) : ∀ x ∈ thrF l, 0 <= x.op /\ x.op <= 33 := by
 intro x hx
 obtain ⟨i, hi, rfl⟩ := List.getElem_of_mem hx
 have hi2 : i < l.length := by rw [thrF_len] at hi; exact hi
 rw [(thrF_Thr l ha).sim.op hi2 hi]
 exact h _ (List.getElem_mem hi2)
theorem dropF_ops {l : List InstrD} (h : ∀ x ∈ l, 0 <= x.op /\ x.op <= 33) : ∀ x ∈ dropF l, 0 <= x.op /\ x.op <= 33 := by
 intro x hx
 obtain ⟨i, hi, rfl⟩ := List.getElem_of_mem hx
 obtain ⟨p, hp, _, _, e⟩ := dropF_at hi
 rw [e, mvI_op]
 exact h _ (List.getElem_mem hp)
theorem below_of_keeps {lo : Nat} {w w' : World} (h0 : Below 0 w w') (hk : Keeps (fun b => ¬ Rng lo w.heap.size b) w w') (hlo : lo <= w.heap.size) : Below lo w w' :=
 ⟨h0.os, h0.tape, h0.output, hk.1, fun b hb => hk.2 b (by omega) (fun hr => by have := hr.1; omega)⟩
def RetOpt (lo : Nat) (w : World) (l : List InstrD) (e : Ending) (w' : World) : Prop := ∃ v', e = .returned v' /\ InstrsO (Rng lo w'.heap.size) w' v' l /\ Below lo w w'
/-- where the rounds stand -/
def OptSt (l c : List InstrD) (nn : Int) (g : Nat) : Prop := (nn ≠ c.length /\ c.length < g /\ ∃ f, c.length <= f /\ optL l = optF (f + 1) c) \/ (nn = c.length /\ optL l = c)
theorem OptSt.start (l : List InstrD) : OptSt l l (-1) (l.length + 1) := .inl ⟨by omega, by omega, l.length, Nat.le_refl _, rfl⟩
theorem OptSt.next {l c : List InstrD} {nn : Int} {g : Nat} (h : OptSt l c nn g) (hn : nn ≠ c.length) : ∃ g', g' < g /\ OptSt l (dropF (thrF c)) c.length g' := by
 rcases h with ⟨_, h1, f, h2, h3⟩ | ⟨h1, _⟩
 ·have hle := dropF_le (thrF c)
  rw [thrF_len] at hle
  by_cases e : (dropF (thrF c)).length = c.length
  ·refine ⟨0, by omega, .inr ⟨by rw [e], ?_⟩⟩
   rw [h3, optF, if_pos e]
  ·refine ⟨c.length, by omega, .inl ⟨by omega, by omega, f - 1, by omega, ?_⟩⟩
   rw [h3, optF, if_neg e]
   congr 1
   omega
 ·exact absurd h1 hn
set_option maxHeartbeats 4000000 in
theorem spec_l34Instrs (lo : Nat) (l : List InstrD) (v : Value) (w : World) (h : InstrsO (Rng lo w.heap.size) w v l) (hlo : lo <= w.heap.size) (ha : ArgOk l) (hop : ∀ x ∈ l, 0 <= x.op /\ x.op <= 33) (hl : l.length <= 1000) :
  Calls Tryz.prog 67 #[v] w (RetOpt lo w (optL l)) := by
 obtain ⟨A, c, rfl⟩ := h.shape
 have HI := Lib.hid h
 have HA := Lib.hid ha
 have HOP := Lib.hid hop
 have HS0 := Lib.hid (OptSt.start l)
 clear h ha hop
 go_enter Tryz.func67, Tryz.ntmps67
 go_wp2_with fail
 go_loopg [0, 3] (l.length + 1) (fun gk u i wr => ∃ (cu : List InstrD) (A : Option Addr) (c : Nat) (nn : Int), u = .slice A cu.length c /\ i = .int .i64 nn /\ Hid (InstrsO (Rng lo wr.heap.size) wr (.slice A cu.length c) cu) /\ Hid (Below lo w wr) /\ Hid (ArgOk cu) /\ Hid (∀ x ∈ cu, 0 <= x.op /\ x.op <= 33) /\ cu.length <= 1000 /\ Hid (OptSt l cu nn gk))
 case atStart => exact ⟨l, A, c, -1, rfl, rfl, HI.out, Below.refl _ _, HA.out, HOP.out, hl, HS0.out⟩
 case round =>
  obtain ⟨cu, A, c, nn, rfl, rfl, HC, HB, HAC, HOC, hlc, HS⟩ := hrel
  have hwr := HB.out.size
  by_cases hn : nn = (cu.length : Int)
  ·have HE := Lib.hid (show optL l = cu by rcases HS.out with ⟨h1, _⟩ | ⟨_, h2⟩; exact absurd hn h1; exact h2)
   obtain rfl := hn
   have b1 : ((cu.length : Int) != (cu.length : Int)) = false := by simp
   go_wp2_with fail
   go_ret
   exact ⟨_, rfl, by rw [HE.out]; exact HC.out, HB.out⟩
  ·have b1 : (nn != (cu.length : Int)) = true := by simp [hn]
   obtain ⟨g2, hg2, hst⟩ := HS.out.next hn
   have HG2 := Lib.hid hg2
   have HST := Lib.hid hst
   clear hn hg2 hst
   go_wp2_with fail
   refine Calls.mono (spec_l34Thread _ cu _ _ HC.out HAC.out hlc) ?_
   rintro e w1 ⟨rfl, ho, hk, h0⟩
   have HB1 := Lib.hid (below_of_keeps h0 hk (by omega))
   have H1 := Lib.hid ho
   have HA1 := Lib.hid (thrF_ok HAC.out)
   have HO1 := Lib.hid (thrF_ops HAC.out HOC.out)
   have hl1 : (thrF cu).length = cu.length := thrF_len cu
   have hw1 := hk.1
   clear ho hk h0
   generalize hth : thrF cu = c1 at H1 HA1 HO1 hl1 HST
   clear hth
   rw [<- hl1] at H1
   have HL1 := Lib.hid hl1
   have hlc1 : c1.length <= 1000 := by omega
   clear hl1
   go_wp2_with fail
   have HKE := Lib.hid (spec_l34Keep c1 _ w1 H1.out.read HA1.out HO1.out hlc1)
   rw [<- HL1.out]
   refine Calls.mono HKE.out ?_
   rintro e w2 ⟨KG, rfl, hG, hlg, hb2⟩
   have HDR := Lib.hid (spec_l34Drop (Rng lo wr.heap.size) c1 _ KG w2 (H1.out.keeps (Keeps.of_below _ hb2)) (fun b hb => by have := hb.2; have := hb2.size; omega) hG HA1.out hlc1)
   have HB2 := Lib.hid hb2
   have hw2 := hb2.size
   clear hG hlg hb2 HKE
   go_wp2_with fail
   refine Calls.mono HDR.out ?_
   rintro e w3 ⟨iv, rfl, ho, hb3⟩
   have hw3 := hb3.size
   have HI3 := Lib.hid (show InstrsO (Rng lo w3.heap.size) w3 iv (dropF c1) from SlO.mono (fun _ h k => h.mono k) ho (fun b hb => by
    rcases hb with hb | hb
    ·exact ⟨hb.1, by have := hb.2; omega⟩
    ·exact ⟨by have := hb.1; omega, hb.2⟩))
   have HB3 := Lib.hid (HB.out.trans (HB1.out.trans ((HB2.out.mono (by omega)).trans (hb3.mono (by omega)))))
   have HA3 := Lib.hid (dropF_ok HA1.out)
   have HO3 := Lib.hid (dropF_ops HO1.out)
   have hl3 := dropF_le c1
   obtain ⟨A3, c3, rfl⟩ := HI3.out.shape
   clear ho hb3 HDR
   rw [HL1.out]
   go_wp2_with fail
   go_roundg g2
   case measure => exact HG2.out
   case rel => exact ⟨dropF c1, A3, c3, (cu.length : Int), rfl, rfl, HI3.out, HB3.out, HA3.out, HO3.out, by omega, HST.out⟩
end Go.Proofs.YtjdfancbmjnjfaaGreat
