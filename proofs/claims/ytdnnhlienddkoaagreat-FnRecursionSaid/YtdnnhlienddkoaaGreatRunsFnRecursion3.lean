/-
  Runs of programs that the law FnRecursion looks at: each ends with the transcript that is written here. A long run is parted at some of its calls.
-/
import Derived.Test.YtdnnhlienddkoaaGreatEngCut
namespace Go.Proofs.YtdnnhlienddkoaaGreat
set_option maxRecDepth 100000
open Go.Proofs.YtdnnhlienddkoaaGreat.Eng
namespace fnRecursion
def s1 : List Nat := [102, 105, 98, 32, 60, 45, 32, 102, 117, 110, 99, 116, 105, 111, 110, 40, 110, 41, 32, 105, 102, 32, 40, 110, 32, 60, 32, 50, 41, 32, 110, 32, 101, 108, 115, 101, 32, 102, 105, 98, 40, 110, 32, 45, 32, 49, 41, 32, 43, 32, 102, 105, 98, 40, 110, 32, 45, 32, 50, 41, 10, 102, 105, 98, 40, 48, 41]
def t1 : TR := ⟨0, (some [[48]]), (some [[110]]), 2, 1⟩
set_option maxRecDepth 100000 in
theorem run1 : RunsTo Tryz.prog 12 s1 t1 := run_at (by kernel_rfl)
def s6 : List Nat := [102, 97, 99, 116, 32, 60, 45, 32, 102, 117, 110, 99, 116, 105, 111, 110, 40, 110, 41, 32, 105, 102, 32, 40, 110, 32, 60, 32, 50, 41, 32, 49, 32, 101, 108, 115, 101, 32, 110, 32, 42, 32, 102, 97, 99, 116, 40, 110, 32, 45, 32, 49, 41, 10, 102, 97, 99, 116, 40, 51, 41]
def t6 : TR := ⟨0, (some [[54]]), (some [[110], [110], [110]]), 6, 1⟩
set_option maxRecDepth 100000 in
theorem run6 : RunsTo Tryz.prog 12 s6 t6 := run_at (by kernel_rfl)
def s7 : List Nat := [102, 105, 98, 32, 60, 45, 32, 102, 117, 110, 99, 116, 105, 111, 110, 40, 110, 41, 32, 105, 102, 32, 40, 110, 32, 60, 32, 50, 41, 32, 110, 32, 101, 108, 115, 101, 32, 102, 105, 98, 40, 110, 32, 45, 32, 49, 41, 32, 43, 32, 102, 105, 98, 40, 110, 32, 45, 32, 50, 41, 10, 102, 105, 98, 40, 51, 41]
def t7 : TR := ⟨0, (some [[50]]), (some [[110], [110], [110], [110], [110]]), 10, 1⟩
set_option maxRecDepth 100000 in
theorem run7 : RunsTo Tryz.prog 12 s7 t7 := run_at (by kernel_rfl)
def s11 : List Nat := [102, 105, 98, 32, 60, 45, 32, 102, 117, 110, 99, 116, 105, 111, 110, 40, 110, 41, 32, 105, 102, 32, 40, 110, 32, 60, 32, 50, 41, 32, 110, 32, 101, 108, 115, 101, 32, 102, 105, 98, 40, 110, 32, 45, 32, 49, 41, 32, 43, 32, 102, 105, 98, 40, 110, 32, 45, 32, 50, 41, 10, 102, 105, 98, 40, 53, 41]
def t11 : TR := ⟨0, (some [[53]]), (some [[110], [110], [110], [110], [110], [110], [110], [110], [110], [110], [110], [110], [110], [110], [110]]), 30, 1⟩
noncomputable def k11_0 : CO := .row [] 442
noncomputable def k11_1 : CO := .row [] 447
noncomputable def k11_2 : CO := .row [] 452
noncomputable def k11_3 : CO := .row [] 457
noncomputable def k11_4 : CO := .row [] 462
noncomputable def k11_5 : CO := .row [] 467
noncomputable def k11_6 : CO := .row [] 472
noncomputable def k11_7 : CO := .row [] 477
noncomputable def k11_8 : CO := .row [] 482
noncomputable def k11_9 : CO := .row [S []] 487
noncomputable def k11_10 : CO := .row [] 492
noncomputable def k11_11 : CO := .row [] 497
noncomputable def k11_12 : CO := .row [] 502
noncomputable def k11_13 : CO := .row [] 507
noncomputable def k11_14 : CO := .row [S []] 512
noncomputable def k11_15 : CO := .row [] 517
noncomputable def k11_16 : CO := .row [] 522
noncomputable def k11_17 : CO := .row [S [110]] 527
noncomputable def k11_18 : CO := .row [] 532
noncomputable def k11_19 : CO := .row [] 537
noncomputable def k11_20 : CO := .row [] 542
noncomputable def k11_21 : CO := .row [S []] 547
noncomputable def k11_22 : CO := .row [] 552
noncomputable def k11_23 : CO := .row [I 1, I 0, S [], .sl 443 0 0 1, I 0, I 7, I 0, S [110], .sl 448 0 0 1, I 0, I 2, I 2, S [], .sl 453 0 0 1, I 0, I 11, I 0, S [60], .sl 458 0 0 1, I 2, I 7, I 0, S [110], .sl 463 0 0 1, I 0, I 7, I 0, S [102, 105, 98], .sl 468 0 0 1, I 0, I 7, I 0, S [110], .sl 473 0 0 1, I 0, I 2, I 1, S [], .sl 478 0 0 1, I 0, I 11, I 0, S [45], .sl 483 0 0 1, I 2, I 9, I 0, S [], .sl 488 0 1 1, I 2, I 7, I 0, S [102, 105, 98], .sl 493 0 0 1, I 0, I 7, I 0, S [110], .sl 498 0 0 1, I 0, I 2, I 2, S [], .sl 503 0 0 1, I 0, I 11, I 0, S [45], .sl 508 0 0 1, I 2, I 9, I 0, S [], .sl 513 0 1 1, I 2, I 11, I 0, S [43], .sl 518 0 0 1, I 2, I 16, I 0, S [], .sl 523 0 0 1, I 3, I 8, I 0, S [], .sl 528 0 1 1, I 2, I 22, I 0, S [102, 105, 98], .sl 533 0 0 1, I 1, I 7, I 0, S [102, 105, 98], .sl 538 0 0 1, I 0, I 2, I 5, S [], .sl 543 0 0 1, I 0, I 9, I 0, S [], .sl 548 0 1 1, I 2, I 0, I 0, S [], .sl 553 0 0 1, I 2] 440
noncomputable def k11_24 : CO := .row [S [53]] 6386
noncomputable def k11_25 : CO := .row [S [110], S [110], S [110], S [110], S [110], S [110], S [110], S [110], S [110], S [110], S [110], S [110], S [110], S [110], S [110]] 6388
noncomputable def e11_0 : Ent := { f := 15, args := [.sl 555 0 23 5, I 400], n0 := 556, pre := [(443, k11_0), (448, k11_1), (453, k11_2), (458, k11_3), (463, k11_4), (468, k11_5), (473, k11_6), (478, k11_7), (483, k11_8), (488, k11_9), (493, k11_10), (498, k11_11), (503, k11_12), (508, k11_13), (513, k11_14), (518, k11_15), (523, k11_16), (528, k11_17), (533, k11_18), (538, k11_19), (543, k11_20), (548, k11_21), (553, k11_22), (555, k11_23)], preF := [(440, [(555, 115)]), (442, [(443, 0)]), (447, [(448, 0)]), (452, [(453, 0)]), (457, [(458, 0)]), (462, [(463, 0)]), (467, [(468, 0)]), (472, [(473, 0)]), (477, [(478, 0)]), (482, [(483, 0)]), (487, [(488, 1)]), (492, [(493, 0)]), (497, [(498, 0)]), (502, [(503, 0)]), (507, [(508, 0)]), (512, [(513, 1)]), (517, [(518, 0)]), (522, [(523, 0)]), (527, [(528, 1)]), (532, [(533, 0)]), (537, [(538, 0)]), (542, [(543, 0)]), (547, [(548, 1)]), (552, [(553, 0)])], c := .agg [I 0, .sl 6387 0 1 1, .sl 6389 0 15 1, I 30, I 1], n1 := 6399, post := [(443, k11_0), (448, k11_1), (453, k11_2), (458, k11_3), (463, k11_4), (468, k11_5), (473, k11_6), (478, k11_7), (483, k11_8), (488, k11_9), (493, k11_10), (498, k11_11), (503, k11_12), (508, k11_13), (513, k11_14), (518, k11_15), (523, k11_16), (528, k11_17), (533, k11_18), (538, k11_19), (543, k11_20), (548, k11_21), (553, k11_22), (555, k11_23), (6387, k11_24), (6389, k11_25)], postF := [(440, [(555, 115)]), (442, [(443, 0)]), (447, [(448, 0)]), (452, [(453, 0)]), (457, [(458, 0)]), (462, [(463, 0)]), (467, [(468, 0)]), (472, [(473, 0)]), (477, [(478, 0)]), (482, [(483, 0)]), (487, [(488, 1)]), (492, [(493, 0)]), (497, [(498, 0)]), (502, [(503, 0)]), (507, [(508, 0)]), (512, [(513, 1)]), (517, [(518, 0)]), (522, [(523, 0)]), (527, [(528, 1)]), (532, [(533, 0)]), (537, [(538, 0)]), (542, [(543, 0)]), (547, [(548, 1)]), (552, [(553, 0)]), (6386, [(6387, 1)]), (6388, [(6389, 15)])] }
set_option maxRecDepth 100000 in
theorem ok11_0 : EntOk Tryz.prog e11_0 := ent_at (es := []) .nil (by kernel_rfl) (by kernel_rfl)
set_option maxRecDepth 100000 in
theorem run11 : RunsTo Tryz.prog 12 s11 t11 := run_with (es := [e11_0]) (.cons ok11_0 .nil) (by kernel_rfl)
end fnRecursion
end Go.Proofs.YtdnnhlienddkoaaGreat
