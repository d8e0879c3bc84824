/-
  Runs of programs that the law FnDots looks at: each ends with the transcript that is written here. A long run is parted at some of its calls.
-/
import Derived.Test.YtdnnhlienddkoabGreatEngCut
namespace Go.Proofs.YtdnnhlienddkoabGreat
set_option maxRecDepth 100000
open Go.Proofs.YtdnnhlienddkoabGreat.Eng
namespace fnDots
def s0 : List Nat := [112, 97, 115, 115, 49, 32, 60, 45, 32, 102, 117, 110, 99, 116, 105, 111, 110, 40, 102, 105, 114, 115, 116, 44, 32, 46, 46, 46, 41, 32, 116, 97, 107, 101, 49, 40, 46, 46, 46, 41, 10, 116, 97, 107, 101, 49, 32, 60, 45, 32, 102, 117, 110, 99, 116, 105, 111, 110, 40, 46, 46, 46, 41, 32, 108, 105, 115, 116, 40, 46, 46, 46, 41, 10, 112, 97, 115, 115, 49, 40, 57, 57, 41]
def t0 : TR := ⟨0, (some [[108, 105, 115, 116, 40, 41]]), (some []), 2, 1⟩
set_option maxRecDepth 100000 in
theorem run0 : RunsTo Tryz.prog 28 s0 t0 := run_at (by kernel_rfl)
set_option maxRecDepth 100000 in
theorem par0 : ParsesTo Tryz.prog 27 s0 true := parses_to (sound 3000) (by kernel_rfl)
def s5 : List Nat := [112, 97, 115, 115, 49, 32, 60, 45, 32, 102, 117, 110, 99, 116, 105, 111, 110, 40, 102, 105, 114, 115, 116, 44, 32, 46, 46, 46, 41, 32, 116, 97, 107, 101, 49, 40, 46, 46, 46, 41, 10, 116, 97, 107, 101, 49, 32, 60, 45, 32, 102, 117, 110, 99, 116, 105, 111, 110, 40, 46, 46, 46, 41, 32, 108, 105, 115, 116, 40, 46, 46, 46, 41, 10, 112, 97, 115, 115, 49, 40, 57, 57, 44, 32, 49, 44, 32, 107, 50, 32, 61, 32, 50, 44, 32, 51, 44, 32, 107, 52, 32, 61, 32, 52, 44, 32, 53, 41]
def t5 : TR := ⟨0, (some [[108, 105, 115, 116, 40, 49, 44, 32, 107, 50, 32, 61, 32, 50, 44, 32, 51, 44, 32, 107, 52, 32, 61, 32, 52, 44, 32, 53, 41]]), (some [[46, 46, 46], [46, 46, 46], [46, 46, 46], [46, 46, 46], [46, 46, 46]]), 7, 1⟩
noncomputable def k5_0 : CO := .row [] 556
noncomputable def k5_1 : CO := .row [] 561
noncomputable def k5_2 : CO := .row [] 566
noncomputable def k5_3 : CO := .row [] 571
noncomputable def k5_4 : CO := .row [S []] 576
noncomputable def k5_5 : CO := .row [S [102, 105, 114, 115, 116], S [46, 46, 46]] 581
noncomputable def k5_6 : CO := .row [] 586
noncomputable def k5_7 : CO := .row [] 591
noncomputable def k5_8 : CO := .row [] 596
noncomputable def k5_9 : CO := .row [] 601
noncomputable def k5_10 : CO := .row [S []] 606
noncomputable def k5_11 : CO := .row [S [46, 46, 46]] 611
noncomputable def k5_12 : CO := .row [] 616
noncomputable def k5_13 : CO := .row [] 621
noncomputable def k5_14 : CO := .row [] 626
noncomputable def k5_15 : CO := .row [] 631
noncomputable def k5_16 : CO := .row [] 636
noncomputable def k5_17 : CO := .row [] 641
noncomputable def k5_18 : CO := .row [] 646
noncomputable def k5_19 : CO := .row [] 651
noncomputable def k5_20 : CO := .row [S [], S [], S [107, 50], S [], S [107, 52], S []] 656
noncomputable def k5_21 : CO := .row [] 661
noncomputable def k5_22 : CO := .row [I 1, I 0, S [], .sl 557 0 0 1, I 0, I 1, I 0, S [], .sl 562 0 0 1, I 0, I 7, I 0, S [116, 97, 107, 101, 49], .sl 567 0 0 1, I 0, I 7, I 0, S [46, 46, 46], .sl 572 0 0 1, I 0, I 9, I 0, S [], .sl 577 0 1 1, I 2, I 8, I 0, S [], .sl 582 0 2 1, I 3, I 22, I 0, S [112, 97, 115, 115, 49], .sl 587 0 0 1, I 1, I 1, I 0, S [], .sl 592 0 0 1, I 0, I 7, I 0, S [108, 105, 115, 116], .sl 597 0 0 1, I 0, I 7, I 0, S [46, 46, 46], .sl 602 0 0 1, I 0, I 9, I 0, S [], .sl 607 0 1 1, I 2, I 8, I 0, S [], .sl 612 0 1 1, I 2, I 22, I 0, S [116, 97, 107, 101, 49], .sl 617 0 0 1, I 1, I 7, I 0, S [112, 97, 115, 115, 49], .sl 622 0 0 1, I 0, I 2, I 99, S [], .sl 627 0 0 1, I 0, I 2, I 1, S [], .sl 632 0 0 1, I 0, I 2, I 2, S [], .sl 637 0 0 1, I 0, I 2, I 3, S [], .sl 642 0 0 1, I 0, I 2, I 4, S [], .sl 647 0 0 1, I 0, I 2, I 5, S [], .sl 652 0 0 1, I 0, I 9, I 0, S [], .sl 657 0 6 1, I 7, I 0, I 0, S [], .sl 662 0 0 1, I 3] 554
noncomputable def e5_0 : Ent := { f := 47, args := [S s5], n0 := 2, pre := [], preF := [], c := .sl 664 0 22 5, n1 := 665, post := [(557, k5_0), (562, k5_1), (567, k5_2), (572, k5_3), (577, k5_4), (582, k5_5), (587, k5_6), (592, k5_7), (597, k5_8), (602, k5_9), (607, k5_10), (612, k5_11), (617, k5_12), (622, k5_13), (627, k5_14), (632, k5_15), (637, k5_16), (642, k5_17), (647, k5_18), (652, k5_19), (657, k5_20), (662, k5_21), (664, k5_22)], postF := [(554, [(664, 110)]), (556, [(557, 0)]), (561, [(562, 0)]), (566, [(567, 0)]), (571, [(572, 0)]), (576, [(577, 1)]), (581, [(582, 2)]), (586, [(587, 0)]), (591, [(592, 0)]), (596, [(597, 0)]), (601, [(602, 0)]), (606, [(607, 1)]), (611, [(612, 1)]), (616, [(617, 0)]), (621, [(622, 0)]), (626, [(627, 0)]), (631, [(632, 0)]), (636, [(637, 0)]), (641, [(642, 0)]), (646, [(647, 0)]), (651, [(652, 0)]), (656, [(657, 6)]), (661, [(662, 0)])] }
set_option maxRecDepth 100000 in
theorem ok5_0 : EntOk Tryz.prog e5_0 := ent_at (es := []) .nil (by kernel_rfl) (by kernel_rfl)
set_option maxRecDepth 100000 in
theorem run5 : RunsTo Tryz.prog 28 s5 t5 := run_with (es := [e5_0]) (.cons ok5_0 .nil) (by kernel_rfl)
set_option maxRecDepth 100000 in
theorem par5 : ParsesTo Tryz.prog 27 s5 true := parses_to (sound 3000) (by kernel_rfl)
end fnDots
end Go.Proofs.YtdnnhlienddkoabGreat
