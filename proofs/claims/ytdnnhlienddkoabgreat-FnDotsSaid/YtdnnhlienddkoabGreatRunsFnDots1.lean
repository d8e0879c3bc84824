/-
  Runs of programs that the law FnDots looks at: each ends with the transcript that is written here. A long run is parted at some of its calls.
-/
import Derived.Test.YtdnnhlienddkoabGreatEngCut
namespace Go.Proofs.YtdnnhlienddkoabGreat
set_option maxRecDepth 100000
open Go.Proofs.YtdnnhlienddkoabGreat.Eng
namespace fnDots
def s1 : List Nat := [112, 97, 115, 115, 49, 32, 60, 45, 32, 102, 117, 110, 99, 116, 105, 111, 110, 40, 102, 105, 114, 115, 116, 44, 32, 46, 46, 46, 41, 32, 116, 97, 107, 101, 49, 40, 46, 46, 46, 41, 10, 116, 97, 107, 101, 49, 32, 60, 45, 32, 102, 117, 110, 99, 116, 105, 111, 110, 40, 46, 46, 46, 41, 32, 108, 105, 115, 116, 40, 46, 46, 46, 41, 10, 112, 97, 115, 115, 49, 40, 57, 57, 44, 32, 49, 41]
def t1 : TR := ⟨0, (some [[108, 105, 115, 116, 40, 49, 41]]), (some [[46, 46, 46]]), 3, 1⟩
set_option maxRecDepth 100000 in
theorem run1 : RunsTo Tryz.prog 28 s1 t1 := run_at (by kernel_rfl)
set_option maxRecDepth 100000 in
theorem par1 : ParsesTo Tryz.prog 27 s1 true := parses_to (sound 3000) (by kernel_rfl)
def s4 : List Nat := [112, 97, 115, 115, 49, 32, 60, 45, 32, 102, 117, 110, 99, 116, 105, 111, 110, 40, 102, 105, 114, 115, 116, 44, 32, 46, 46, 46, 41, 32, 116, 97, 107, 101, 49, 40, 46, 46, 46, 41, 10, 116, 97, 107, 101, 49, 32, 60, 45, 32, 102, 117, 110, 99, 116, 105, 111, 110, 40, 46, 46, 46, 41, 32, 108, 105, 115, 116, 40, 46, 46, 46, 41, 10, 112, 97, 115, 115, 49, 40, 57, 57, 44, 32, 49, 44, 32, 107, 50, 32, 61, 32, 50, 44, 32, 51, 44, 32, 107, 52, 32, 61, 32, 52, 41]
def t4 : TR := ⟨0, (some [[108, 105, 115, 116, 40, 49, 44, 32, 107, 50, 32, 61, 32, 50, 44, 32, 51, 44, 32, 107, 52, 32, 61, 32, 52, 41]]), (some [[46, 46, 46], [46, 46, 46], [46, 46, 46], [46, 46, 46]]), 6, 1⟩
noncomputable def k4_0 : CO := .row [] 526
noncomputable def k4_1 : CO := .row [] 531
noncomputable def k4_2 : CO := .row [] 536
noncomputable def k4_3 : CO := .row [] 541
noncomputable def k4_4 : CO := .row [S []] 546
noncomputable def k4_5 : CO := .row [S [102, 105, 114, 115, 116], S [46, 46, 46]] 551
noncomputable def k4_6 : CO := .row [] 556
noncomputable def k4_7 : CO := .row [] 561
noncomputable def k4_8 : CO := .row [] 566
noncomputable def k4_9 : CO := .row [] 571
noncomputable def k4_10 : CO := .row [S []] 576
noncomputable def k4_11 : CO := .row [S [46, 46, 46]] 581
noncomputable def k4_12 : CO := .row [] 586
noncomputable def k4_13 : CO := .row [] 591
noncomputable def k4_14 : CO := .row [] 596
noncomputable def k4_15 : CO := .row [] 601
noncomputable def k4_16 : CO := .row [] 606
noncomputable def k4_17 : CO := .row [] 611
noncomputable def k4_18 : CO := .row [] 616
noncomputable def k4_19 : CO := .row [S [], S [], S [107, 50], S [], S [107, 52]] 621
noncomputable def k4_20 : CO := .row [] 626
noncomputable def k4_21 : CO := .row [I 1, I 0, S [], .sl 527 0 0 1, I 0, I 1, I 0, S [], .sl 532 0 0 1, I 0, I 7, I 0, S [116, 97, 107, 101, 49], .sl 537 0 0 1, I 0, I 7, I 0, S [46, 46, 46], .sl 542 0 0 1, I 0, I 9, I 0, S [], .sl 547 0 1 1, I 2, I 8, I 0, S [], .sl 552 0 2 1, I 3, I 22, I 0, S [112, 97, 115, 115, 49], .sl 557 0 0 1, I 1, I 1, I 0, S [], .sl 562 0 0 1, I 0, I 7, I 0, S [108, 105, 115, 116], .sl 567 0 0 1, I 0, I 7, I 0, S [46, 46, 46], .sl 572 0 0 1, I 0, I 9, I 0, S [], .sl 577 0 1 1, I 2, I 8, I 0, S [], .sl 582 0 1 1, I 2, I 22, I 0, S [116, 97, 107, 101, 49], .sl 587 0 0 1, I 1, I 7, I 0, S [112, 97, 115, 115, 49], .sl 592 0 0 1, I 0, I 2, I 99, S [], .sl 597 0 0 1, I 0, I 2, I 1, S [], .sl 602 0 0 1, I 0, I 2, I 2, S [], .sl 607 0 0 1, I 0, I 2, I 3, S [], .sl 612 0 0 1, I 0, I 2, I 4, S [], .sl 617 0 0 1, I 0, I 9, I 0, S [], .sl 622 0 5 1, I 6, I 0, I 0, S [], .sl 627 0 0 1, I 3] 524
noncomputable def e4_0 : Ent := { f := 47, args := [S s4], n0 := 2, pre := [], preF := [], c := .sl 629 0 21 5, n1 := 630, post := [(527, k4_0), (532, k4_1), (537, k4_2), (542, k4_3), (547, k4_4), (552, k4_5), (557, k4_6), (562, k4_7), (567, k4_8), (572, k4_9), (577, k4_10), (582, k4_11), (587, k4_12), (592, k4_13), (597, k4_14), (602, k4_15), (607, k4_16), (612, k4_17), (617, k4_18), (622, k4_19), (627, k4_20), (629, k4_21)], postF := [(524, [(629, 105)]), (526, [(527, 0)]), (531, [(532, 0)]), (536, [(537, 0)]), (541, [(542, 0)]), (546, [(547, 1)]), (551, [(552, 2)]), (556, [(557, 0)]), (561, [(562, 0)]), (566, [(567, 0)]), (571, [(572, 0)]), (576, [(577, 1)]), (581, [(582, 1)]), (586, [(587, 0)]), (591, [(592, 0)]), (596, [(597, 0)]), (601, [(602, 0)]), (606, [(607, 0)]), (611, [(612, 0)]), (616, [(617, 0)]), (621, [(622, 5)]), (626, [(627, 0)])] }
set_option maxRecDepth 100000 in
theorem ok4_0 : EntOk Tryz.prog e4_0 := ent_at (es := []) .nil (by kernel_rfl) (by kernel_rfl)
set_option maxRecDepth 100000 in
theorem run4 : RunsTo Tryz.prog 28 s4 t4 := run_with (es := [e4_0]) (.cons ok4_0 .nil) (by kernel_rfl)
set_option maxRecDepth 100000 in
theorem par4 : ParsesTo Tryz.prog 27 s4 true := parses_to (sound 3000) (by kernel_rfl)
end fnDots
end Go.Proofs.YtdnnhlienddkoabGreat
