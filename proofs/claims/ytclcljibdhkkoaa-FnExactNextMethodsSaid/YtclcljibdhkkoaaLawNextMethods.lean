/-
  The law FnExactNextMethods returns true for every two strings and every list of strings.
-/
import Derived.Test.YtclcljibdhkkoaaNext
import Derived.Test.YtclcljibdhkkoaaOpen
namespace Go.Proofs.Ytclcljibdhkkoaa
open Go.ChangeShapes Go.WideShapes Go.ChangeAt Go.RowKit Go.Deep
open Go.ChangeMaps (open_string shut_string)
set_option linter.unusedVariables false

namespace fnExactNextMethods
set_option maxHeartbeats 1000000 in
theorem walk (g : List UInt8) (hg0 : g.length ≤ maxLen) (v : Value) (l : List (List UInt8)) {w : World} (h : Txts w v l) (m : List UInt8) (hm0 : m.length ≤ maxLen) :
    Calls Try.prog 9 #[.string (str g), v, .string (str m)] w fun e w' => e = .returned (.bool true) ∧ Below w.heap.size w w' := by
  unfold maxLen at hg0 hm0
  by_cases hg : g.length ≤ 1048576
  · by_cases hm : m.length ≤ 1048576
    rotate_left
    · go_enter Try.func9, Try.ntmps9
      go_wp2_with fail
      go_ret
      exact ⟨rfl, Below.refl _ _⟩
    by_cases hz : (szL l : Int) ≤ 1048576
    · have hz1 := szR_pos hz
      have hll := szL_length l
      have hl : l.length ≤ 1048576 := by omega
      have hs : ∀ s ∈ l, s.length ≤ 1048576 := fun s hx => by have := szL_mem l s hx; omega
      have HS := Lib.hid hs
      have HZ := Lib.hid hz1
      have hnl := nextB_len g l m
      have hsm := nextB_small g l m hg hs
      generalize hN : nextB g l m = N at hnl hsm
      obtain ⟨nl, nb⟩ := N
      have HN := Lib.hid hN
      have HSM := Lib.hid hsm
      clear hs hz1 hsm hN
      simp only at hnl
      have HT := Lib.hid h
      clear h
      go_enter Try.func9, Try.ntmps9
      go_wp2_with fail
      refine (laws_szStringS l v 1048576 _ HT.out (by omega) (by omega)).mono ?_
      rintro e w' ⟨rfl, rfl⟩
      rw [HZ.out]
      go_wp2_with fail
      -- w0
      refine (laws_toStringS l v _ HT.out hl).mono ?_
      rintro e w1 ⟨va, rfl, _, ta, hb1⟩
      have HB1 := Lib.hid hb1
      clear hb1
      go_wp2_with fail
      refine (spec_NextMethods g l m va _ ta hg hl HS).mono ?_
      rw [HN.out]
      rintro e w2 ⟨v0, rfl, o0, hb2⟩
      dsimp only at o0 ⊢
      have HB2 := Lib.hid (HB1.out.trans (hb2.mono HB1.out.size))
      have O0 := Lib.hid o0
      clear hb2 o0 ta HB1
      go_wp2_with fail
      -- x1
      refine (laws_toStringS l v _ (HT.out.below HB2.out) hl).mono ?_
      rintro e w3 ⟨x1, rfl, ox, tx, hb3⟩
      have HB3 := Lib.hid hb3
      have OX := Lib.hid ox
      have TX := Lib.hid tx
      clear hb3 ox tx
      go_wp2_with fail
      -- g0
      refine (impl_NextMethods g l m x1 _ TX.out hg hl HS).mono ?_
      rw [HN.out]
      rintro e w4 ⟨g0, rfl, og, hb4⟩
      dsimp only at og ⊢
      have HB4 := Lib.hid hb4
      have OG := Lib.hid og
      clear hb4 og
      have O04 := Lib.hid (own_below (own_below O0.out HB3.out) HB4.out)
      have OX4 := Lib.hid (own_below OX.out HB4.out)
      go_wp2_with fail
      refine (laws_eqStringS_same nl g0 v0 _ (Txts.of_own OG.out HSM.out) (Txts.of_own O04.out HSM.out)).mono ?_
      rintro e w5 ⟨rfl, hb5⟩
      have HB5 := Lib.hid hb5
      clear hb5
      go_wp2_with fail
      -- x1 is as it was
      refine (laws_toStringS l v _ (((HT.out.below HB2.out).below (HB3.out.trans (HB4.out.mono HB3.out.size))).below HB5.out) hl).mono ?_
      rintro e w6 ⟨xb, rfl, _, txb, hb6⟩
      have HB6 := Lib.hid hb6
      clear hb6
      go_wp2_with fail
      refine (laws_eqStringS_same l x1 xb _ ((TX.out.below HB4.out).below (HB5.out.trans (HB6.out.mono HB5.out.size))) txb).mono ?_
      rintro e w7 ⟨rfl, hb7⟩
      have HB47 := Lib.hid ((HB5.out.trans (HB6.out.mono HB5.out.size)).trans (hb7.mono (Nat.le_trans HB5.out.size HB6.out.size)))
      clear hb7 txb HB5 HB6
      have OG7 := Lib.hid (own_below OG.out HB47.out)
      have O07 := Lib.hid (own_below O04.out HB47.out)
      have OX7 := Lib.hid (own_below OX4.out HB47.out)
      have nGX := Lib.hid (own_apart OX.out OG.out)
      have n0X := Lib.hid (own_apart' O0.out OX.out)
      have n0G := Lib.hid (own_apart' (own_below O0.out HB3.out) OG.out)
      go_wp2_with fail
      refine (laws_markStringS _ _ _ x1 1 _ _ OX7.out (by omega) (by omega)).mono ?_
      rintro e w8 ⟨rfl, ox8, hg8⟩
      have OG8 := Lib.hid (own_kept OG7.out hg8 nGX.out)
      have O08 := Lib.hid (own_kept O07.out hg8 n0X.out)
      have HB27 := Lib.hid ((HB3.out.trans (HB4.out.mono HB3.out.size)).trans (HB47.out.mono (Nat.le_trans HB3.out.size HB4.out.size)))
      have HB8 := Lib.hid (below_mark (HB2.out.trans (HB27.out.mono HB2.out.size)) OX7.out HB2.out.size (Nat.le_trans HB2.out.size HB27.out.size) hg8)
      clear ox8 hg8
      go_wp2_with fail
      refine (laws_eqStringS_same nl g0 v0 _ (Txts.of_own OG8.out HSM.out) (Txts.of_own O08.out HSM.out)).mono ?_
      rintro e w9 ⟨rfl, hb9⟩
      have OG9 := Lib.hid (own_below OG8.out hb9)
      have O09 := Lib.hid (own_below O08.out hb9)
      have HB9 := Lib.hid (HB8.out.trans (hb9.mono HB8.out.size))
      clear hb9
      go_wp2_with fail
      -- marks in g0
      refine (laws_markStringS _ _ _ g0 1 _ _ OG9.out (by omega) (by omega)).mono ?_
      rintro e w10 ⟨rfl, og10, hg10⟩
      have O010 := Lib.hid (own_kept O09.out hg10 n0G.out)
      have HB10 := Lib.hid (below_mark HB9.out OG9.out (Nat.le_trans HB2.out.size HB3.out.size) HB9.out.size hg10)
      have OG10 := Lib.hid og10
      clear og10 hg10
      go_wp2_with fail
      refine (laws_heldStringS nl.length g0 1 _ (by omega) (by omega) (txts_marked OG10.out (by simp; omega))).mono ?_
      rintro e w11 ⟨rfl, hb11⟩
      have OG11 := Lib.hid (own_below OG10.out hb11)
      have O011 := Lib.hid (own_below O010.out hb11)
      have HB11 := Lib.hid (HB10.out.trans (hb11.mono HB10.out.size))
      clear hb11
      go_wp2_with fail
      -- another call
      refine (laws_toStringS l v _ (HT.out.below HB11.out) hl).mono ?_
      rintro e w12 ⟨xc, rfl, _, txc, hb12⟩
      have HB12 := Lib.hid hb12
      have TXC := Lib.hid txc
      clear txc hb12
      go_wp2_with fail
      refine (impl_NextMethods g l m xc _ TXC.out hg hl HS).mono ?_
      rw [HN.out]
      rintro e w13 ⟨h0, rfl, oh, hb13⟩
      dsimp only at oh ⊢
      have HB13 := Lib.hid (HB12.out.trans (hb13.mono HB12.out.size))
      have OH := Lib.hid oh
      clear oh hb13
      go_wp2_with fail
      refine (laws_eqStringS_same nl h0 v0 _ (Txts.of_own OH.out HSM.out) (Txts.of_own (own_below O011.out HB13.out) HSM.out)).mono ?_
      rintro e w14 ⟨rfl, hb14⟩
      have HB14 := Lib.hid (HB13.out.trans (hb14.mono HB13.out.size))
      clear hb14
      go_wp2_with fail
      refine (laws_heldStringS nl.length g0 1 _ (by omega) (by omega) (txts_marked (own_below OG11.out HB14.out) (by simp; omega))).mono ?_
      rintro e w15 ⟨rfl, hb15⟩
      have HB15 := Lib.hid ((HB11.out.trans (HB14.out.mono HB11.out.size)).trans (hb15.mono (Nat.le_trans HB11.out.size HB14.out.size)))
      clear hb15
      go_wp2_with fail
      go_ret
      exact ⟨rfl, HB15.out⟩
    · have hz1 := szR_neg hz
      have HZ := Lib.hid hz1
      clear hz1
      go_enter Try.func9, Try.ntmps9
      go_wp2_with fail
      refine (laws_szStringS l v 1048576 _ h (by omega) (by omega)).mono ?_
      rintro e w' ⟨rfl, rfl⟩
      rw [HZ.out]
      go_wp2_with fail
      go_ret
      exact ⟨rfl, Below.refl _ _⟩
  · go_enter Try.func9, Try.ntmps9
    go_wp2_with fail
    go_ret
    exact ⟨rfl, Below.refl _ _⟩
set_option maxRecDepth 100000 in
theorem lifted (os : Os) (started : os.Started) (H : Type) (enc : TypeId × Value → H) :
    ReturnsInHanded {} Try.checked os 9 .any (Rows.fnExactNextMethodsSpec.pre6 enc Try.prog Try.f9 Rows.fnExactNextMethodsRow.domain false) (Rows.fnExactNextMethodsSpec.post enc Try.prog Try.f9 false true false false) := by
  refine returnsInHanded_of_change (C := Try.checked) own started (by kernel_rfl) Try.func9
    (ChangeSpec.witness6 (enc := enc) (C := Try.checked) false ⟨#[], #[.string ByteArray.empty, .slice none 0 0, .string ByteArray.empty], []⟩ 8 (by kernel_rfl) (by kernel_rfl) (by kernel_rfl) (by kernel_rfl)) ?_
  intro W base args ds gs before hval0 hW hcnd _
  have hval : ∀ (j : Nat) t v, Try.f9.params[j]? = some t → args[j]? = some v → Value.okWide Try.prog W .any base t v := hval0
  have hW' := hW
  obtain ⟨p, q, hA0, hV, rfl, hfz, hnd⟩ := hW
  have hA : DataW.TrodAll enc Try.prog W 0 (fun _ => true) true Try.f9.params.toList args.toList ds p := hA0
  rw [Try.params9] at hA hval
  obtain ⟨v0, vs0, d0, ds0, p0, q0, hargs, rfl, rfl, h0, r0⟩ := trodAll_cons hA
  obtain ⟨v1, vs1, d1, ds1, p1, q1, rfl, rfl, rfl, h1, r1⟩ := trodAll_cons r0
  obtain ⟨v2, vs2, d2, ds2, p2, q2, rfl, rfl, rfl, h2, r2⟩ := trodAll_cons r1
  obtain ⟨rfl, rfl, rfl⟩ := trodAll_nil r2
  obtain rfl : args = #[v0, v1, v2] := by cases args; simp_all
  obtain ⟨rfl, rfl⟩ := trodVars_none hV
  obtain ⟨s0, rfl, rfl, rfl, u0⟩ := open_string Try.underlying9 (hval 0 9 v0 rfl rfl) h0
  obtain ⟨x0, rfl⟩ := exists_str s0
  rw [str_size] at u0
  obtain ⟨x1, u1⟩ := open_txts Try.underlying30 Try.underlying9 (by kernel_rfl) (hval 1 30 v1 rfl rfl) h1
  obtain ⟨s2, rfl, rfl, rfl, u2⟩ := open_string Try.underlying9 (hval 2 9 v2 rfl rfl) h2
  obtain ⟨x2, rfl⟩ := exists_str s2
  rw [str_size] at u2
  clear hA0 hval0
  refine (walk x0 u0 v1 x1 u1 x2 u2).mono fun e W' ⟨he, hg⟩ => ?_
  subst he
  exact ⟨_, rfl, law_post laidOut hW' rfl rfl Try.underlying4 rfl rfl rfl (by intro t ht; rw [Try.params9] at ht; have ht2 : t ∈ [9, 30, 9] := ht; simp only [List.mem_cons, List.not_mem_nil, or_false] at ht2; rcases ht2 with rfl | rfl | rfl <;> exact ⟨by kernel_rfl, of_decide_eq_true (by kernel_rfl)⟩) hg⟩

theorem over : Rows.fnExactNextMethodsRow.holds Try.pinned (OpenSpec.ofChange Rows.fnExactNextMethodsSpec) :=
  OpenClaim.holds_of_wide 9 Try.f9 rfl rfl rfl rfl rfl rfl rfl ⟨rfl, rfl, rfl, rfl, rfl⟩ rfl rfl rfl rfl rfl (by kernel_rfl) Try.func9 (by kernel_rfl)
    (of_decide_eq_true (by kernel_rfl)) (by unfold Func.isWrapper; first | (rw [if_pos (by decide +kernel)]; kernel_rfl) | (rw [if_neg (by decide +kernel)]; exact ⟨rfl, rfl⟩))
    (fun os started H enc _ => lifted os started H enc)

/-- THE STATEMENT -/
theorem proved : Rows.FnExactNextMethodsSaid :=
  over
#print axioms proved
end fnExactNextMethods
end Go.Proofs.Ytclcljibdhkkoaa
