/-
  The law FnDispatch returns true for every list of bytes: it looks at the length alone; each case is a run of a program, and all of them are known.
-/
import Derived.Test.YtkdlekonfjeidaaGreatRows
import Derived.Test.YtkdlekonfjeidaaGreatJoin
import Derived.Test.YtkdlekonfjeidaaGreatBase
import Derived.IntWalk
import Derived.Test.YtkdlekonfjeidaaGreatRunsFnDispatch0
import Derived.Test.YtkdlekonfjeidaaGreatRunsFnDispatch1
import Derived.Test.YtkdlekonfjeidaaGreatRunsFnDispatch2
import Derived.Test.YtkdlekonfjeidaaGreatRunsFnDispatch3
import Derived.Test.YtkdlekonfjeidaaGreatRunsFnDispatch4
import Derived.Test.YtkdlekonfjeidaaGreatRunsFnDispatch5
import Derived.Test.YtkdlekonfjeidaaGreatRunsFnDispatch6
import Derived.Test.YtkdlekonfjeidaaGreatRunsFnDispatch7
import Derived.Test.YtkdlekonfjeidaaGreatRunsFnDispatch8
import Derived.Test.YtkdlekonfjeidaaGreatRunsFnDispatch9
import Derived.Test.YtkdlekonfjeidaaGreatRunsFnDispatch10
import Derived.Test.YtkdlekonfjeidaaGreatRunsFnDispatch11
namespace Go.Proofs.YtkdlekonfjeidaaGreat
set_option maxRecDepth 100000
open Go.ChangeShapes Go.WideShapes Go.ChangeAt Go.RowKit Go.Deep
open Go.Proofs.YtkdlekonfjeidaaGreat.Eng (CallOk RO RO_sound RunsTo ParsesTo TR isT law_at evalE TabOk Tab RR Hp.empty Hp)
namespace fnDispatch
theorem frun : ∃ fn, Tryz.prog.funcs[27]? = some fn ∧ fn.body.isSome = true ∧ fn.name ≠ "runtime.NumGoroutine" := fnOk Tryz.func27 rfl
theorem fpar : ∃ fn, Tryz.prog.funcs[35]? = some fn ∧ fn.body.isSome = true ∧ fn.name ≠ "runtime.NumGoroutine" := fnOk Tryz.func35 rfl
theorem ok0 (n : Nat) : CallOk Tryz.prog (RO Tryz.prog 27 35 [(s0, t0)] [(s0, true)] n).fn := (RO_sound Tryz.codeOk mixed fnames (fun p hp => by
    simp only [List.mem_cons, List.not_mem_nil, or_false] at hp
    subst hp; exact run0) (fun p hp => by
    simp only [List.mem_cons, List.not_mem_nil, or_false] at hp
    subst hp; exact par0) frun fpar n).1
set_option maxRecDepth 100000 in
theorem at0 : isT ((RO Tryz.prog 27 35 [(s0, t0)] [(s0, true)] 400).fn 4 [.slx [(.op .gtr .len 1048576, 0), (.op .rem .len 16, 0), (.op .rem (.op .quo .len 16) 8, 0)]] Hp.empty) = true := by kernel_rfl
theorem ok1 (n : Nat) : CallOk Tryz.prog (RO Tryz.prog 27 35 [(s1, t1)] [(s1, true)] n).fn := (RO_sound Tryz.codeOk mixed fnames (fun p hp => by
    simp only [List.mem_cons, List.not_mem_nil, or_false] at hp
    subst hp; exact run1) (fun p hp => by
    simp only [List.mem_cons, List.not_mem_nil, or_false] at hp
    subst hp; exact par1) frun fpar n).1
set_option maxRecDepth 100000 in
theorem at1 : isT ((RO Tryz.prog 27 35 [(s1, t1)] [(s1, true)] 400).fn 4 [.slx [(.op .gtr .len 1048576, 0), (.op .rem .len 16, 1), (.op .rem (.op .quo .len 16) 8, 0)]] Hp.empty) = true := by kernel_rfl
theorem ok2 (n : Nat) : CallOk Tryz.prog (RO Tryz.prog 27 35 [(s2, t2)] [(s2, true)] n).fn := (RO_sound Tryz.codeOk mixed fnames (fun p hp => by
    simp only [List.mem_cons, List.not_mem_nil, or_false] at hp
    subst hp; exact run2) (fun p hp => by
    simp only [List.mem_cons, List.not_mem_nil, or_false] at hp
    subst hp; exact par2) frun fpar n).1
set_option maxRecDepth 100000 in
theorem at2 : isT ((RO Tryz.prog 27 35 [(s2, t2)] [(s2, true)] 400).fn 4 [.slx [(.op .gtr .len 1048576, 0), (.op .rem .len 16, 2), (.op .rem (.op .quo .len 16) 8, 0)]] Hp.empty) = true := by kernel_rfl
theorem ok3 (n : Nat) : CallOk Tryz.prog (RO Tryz.prog 27 35 [(s3, t3)] [(s3, true)] n).fn := (RO_sound Tryz.codeOk mixed fnames (fun p hp => by
    simp only [List.mem_cons, List.not_mem_nil, or_false] at hp
    subst hp; exact run3) (fun p hp => by
    simp only [List.mem_cons, List.not_mem_nil, or_false] at hp
    subst hp; exact par3) frun fpar n).1
set_option maxRecDepth 100000 in
theorem at3 : isT ((RO Tryz.prog 27 35 [(s3, t3)] [(s3, true)] 400).fn 4 [.slx [(.op .gtr .len 1048576, 0), (.op .rem .len 16, 3), (.op .rem (.op .quo .len 16) 8, 0)]] Hp.empty) = true := by kernel_rfl
theorem ok4 (n : Nat) : CallOk Tryz.prog (RO Tryz.prog 27 35 [(s4, t4)] [(s4, true)] n).fn := (RO_sound Tryz.codeOk mixed fnames (fun p hp => by
    simp only [List.mem_cons, List.not_mem_nil, or_false] at hp
    subst hp; exact run4) (fun p hp => by
    simp only [List.mem_cons, List.not_mem_nil, or_false] at hp
    subst hp; exact par4) frun fpar n).1
set_option maxRecDepth 100000 in
theorem at4 : isT ((RO Tryz.prog 27 35 [(s4, t4)] [(s4, true)] 400).fn 4 [.slx [(.op .gtr .len 1048576, 0), (.op .rem .len 16, 4), (.op .rem (.op .quo .len 16) 8, 0)]] Hp.empty) = true := by kernel_rfl
theorem ok5 (n : Nat) : CallOk Tryz.prog (RO Tryz.prog 27 35 [(s5, t5)] [(s5, true)] n).fn := (RO_sound Tryz.codeOk mixed fnames (fun p hp => by
    simp only [List.mem_cons, List.not_mem_nil, or_false] at hp
    subst hp; exact run5) (fun p hp => by
    simp only [List.mem_cons, List.not_mem_nil, or_false] at hp
    subst hp; exact par5) frun fpar n).1
set_option maxRecDepth 100000 in
theorem at5 : isT ((RO Tryz.prog 27 35 [(s5, t5)] [(s5, true)] 400).fn 4 [.slx [(.op .gtr .len 1048576, 0), (.op .rem .len 16, 5), (.op .rem (.op .quo .len 16) 8, 0)]] Hp.empty) = true := by kernel_rfl
theorem ok6 (n : Nat) : CallOk Tryz.prog (RO Tryz.prog 27 35 [(s6, t6)] [(s6, true)] n).fn := (RO_sound Tryz.codeOk mixed fnames (fun p hp => by
    simp only [List.mem_cons, List.not_mem_nil, or_false] at hp
    subst hp; exact run6) (fun p hp => by
    simp only [List.mem_cons, List.not_mem_nil, or_false] at hp
    subst hp; exact par6) frun fpar n).1
set_option maxRecDepth 100000 in
theorem at6 : isT ((RO Tryz.prog 27 35 [(s6, t6)] [(s6, true)] 400).fn 4 [.slx [(.op .gtr .len 1048576, 0), (.op .rem .len 16, 6), (.op .rem (.op .quo .len 16) 8, 0)]] Hp.empty) = true := by kernel_rfl
theorem ok7 (n : Nat) : CallOk Tryz.prog (RO Tryz.prog 27 35 [(s7, t7)] [(s7, true)] n).fn := (RO_sound Tryz.codeOk mixed fnames (fun p hp => by
    simp only [List.mem_cons, List.not_mem_nil, or_false] at hp
    subst hp; exact run7) (fun p hp => by
    simp only [List.mem_cons, List.not_mem_nil, or_false] at hp
    subst hp; exact par7) frun fpar n).1
set_option maxRecDepth 100000 in
theorem at7 : isT ((RO Tryz.prog 27 35 [(s7, t7)] [(s7, true)] 400).fn 4 [.slx [(.op .gtr .len 1048576, 0), (.op .rem .len 16, 7), (.op .rem (.op .quo .len 16) 8, 0)]] Hp.empty) = true := by kernel_rfl
theorem ok8 (n : Nat) : CallOk Tryz.prog (RO Tryz.prog 27 35 [(s8, t8)] [] n).fn := (RO_sound Tryz.codeOk mixed fnames (fun p hp => by
    simp only [List.mem_cons, List.not_mem_nil, or_false] at hp
    subst hp; exact run8) (fun p hp => by
    cases hp) frun fpar n).1
set_option maxRecDepth 100000 in
theorem at8 : isT ((RO Tryz.prog 27 35 [(s8, t8)] [] 400).fn 4 [.slx [(.op .gtr .len 1048576, 0), (.op .rem .len 16, 8), (.op .rem (.op .quo .len 16) 8, 0)]] Hp.empty) = true := by kernel_rfl
theorem ok9 (n : Nat) : CallOk Tryz.prog (RO Tryz.prog 27 35 [(s9, t9)] [] n).fn := (RO_sound Tryz.codeOk mixed fnames (fun p hp => by
    simp only [List.mem_cons, List.not_mem_nil, or_false] at hp
    subst hp; exact run9) (fun p hp => by
    cases hp) frun fpar n).1
set_option maxRecDepth 100000 in
theorem at9 : isT ((RO Tryz.prog 27 35 [(s9, t9)] [] 400).fn 4 [.slx [(.op .gtr .len 1048576, 0), (.op .rem .len 16, 9), (.op .rem (.op .quo .len 16) 8, 0)]] Hp.empty) = true := by kernel_rfl
theorem ok10 (n : Nat) : CallOk Tryz.prog (RO Tryz.prog 27 35 [(s10, t10)] [] n).fn := (RO_sound Tryz.codeOk mixed fnames (fun p hp => by
    simp only [List.mem_cons, List.not_mem_nil, or_false] at hp
    subst hp; exact run10) (fun p hp => by
    cases hp) frun fpar n).1
set_option maxRecDepth 100000 in
theorem at10 : isT ((RO Tryz.prog 27 35 [(s10, t10)] [] 400).fn 4 [.slx [(.op .gtr .len 1048576, 0), (.op .rem .len 16, 10), (.op .rem (.op .quo .len 16) 8, 0)]] Hp.empty) = true := by kernel_rfl
theorem ok11 (n : Nat) : CallOk Tryz.prog (RO Tryz.prog 27 35 [(s11, t11)] [] n).fn := (RO_sound Tryz.codeOk mixed fnames (fun p hp => by
    simp only [List.mem_cons, List.not_mem_nil, or_false] at hp
    subst hp; exact run11) (fun p hp => by
    cases hp) frun fpar n).1
set_option maxRecDepth 100000 in
theorem at11 : isT ((RO Tryz.prog 27 35 [(s11, t11)] [] 400).fn 4 [.slx [(.op .gtr .len 1048576, 0), (.op .rem .len 16, 11), (.op .rem (.op .quo .len 16) 8, 0)]] Hp.empty) = true := by kernel_rfl
theorem ok12 (n : Nat) : CallOk Tryz.prog (RO Tryz.prog 27 35 [(s12, t12)] [] n).fn := (RO_sound Tryz.codeOk mixed fnames (fun p hp => by
    simp only [List.mem_cons, List.not_mem_nil, or_false] at hp
    subst hp; exact run12) (fun p hp => by
    cases hp) frun fpar n).1
set_option maxRecDepth 100000 in
theorem at12 : isT ((RO Tryz.prog 27 35 [(s12, t12)] [] 400).fn 4 [.slx [(.op .gtr .len 1048576, 0), (.op .rem .len 16, 12), (.op .rem (.op .quo .len 16) 8, 0)]] Hp.empty) = true := by kernel_rfl
theorem ok13 (n : Nat) : CallOk Tryz.prog (RO Tryz.prog 27 35 [(s13, t13)] [] n).fn := (RO_sound Tryz.codeOk mixed fnames (fun p hp => by
    simp only [List.mem_cons, List.not_mem_nil, or_false] at hp
    subst hp; exact run13) (fun p hp => by
    cases hp) frun fpar n).1
set_option maxRecDepth 100000 in
theorem at13 : isT ((RO Tryz.prog 27 35 [(s13, t13)] [] 400).fn 4 [.slx [(.op .gtr .len 1048576, 0), (.op .rem .len 16, 13), (.op .rem (.op .quo .len 16) 8, 0)]] Hp.empty) = true := by kernel_rfl
theorem ok14 (n : Nat) : CallOk Tryz.prog (RO Tryz.prog 27 35 [(s14, t14)] [] n).fn := (RO_sound Tryz.codeOk mixed fnames (fun p hp => by
    simp only [List.mem_cons, List.not_mem_nil, or_false] at hp
    subst hp; exact run14) (fun p hp => by
    cases hp) frun fpar n).1
set_option maxRecDepth 100000 in
theorem at14 : isT ((RO Tryz.prog 27 35 [(s14, t14)] [] 400).fn 4 [.slx [(.op .gtr .len 1048576, 0), (.op .rem .len 16, 14), (.op .rem (.op .quo .len 16) 8, 0)]] Hp.empty) = true := by kernel_rfl
theorem ok15 (n : Nat) : CallOk Tryz.prog (RO Tryz.prog 27 35 [(s15, t15)] [] n).fn := (RO_sound Tryz.codeOk mixed fnames (fun p hp => by
    simp only [List.mem_cons, List.not_mem_nil, or_false] at hp
    subst hp; exact run15) (fun p hp => by
    cases hp) frun fpar n).1
set_option maxRecDepth 100000 in
theorem at15 : isT ((RO Tryz.prog 27 35 [(s15, t15)] [] 400).fn 4 [.slx [(.op .gtr .len 1048576, 0), (.op .rem .len 16, 15), (.op .rem (.op .quo .len 16) 8, 0)]] Hp.empty) = true := by kernel_rfl
theorem ok16 (n : Nat) : CallOk Tryz.prog (RO Tryz.prog 27 35 [(s16, t16)] [(s16, true)] n).fn := (RO_sound Tryz.codeOk mixed fnames (fun p hp => by
    simp only [List.mem_cons, List.not_mem_nil, or_false] at hp
    subst hp; exact run16) (fun p hp => by
    simp only [List.mem_cons, List.not_mem_nil, or_false] at hp
    subst hp; exact par16) frun fpar n).1
set_option maxRecDepth 100000 in
theorem at16 : isT ((RO Tryz.prog 27 35 [(s16, t16)] [(s16, true)] 400).fn 4 [.slx [(.op .gtr .len 1048576, 0), (.op .rem .len 16, 0), (.op .rem (.op .quo .len 16) 8, 1)]] Hp.empty) = true := by kernel_rfl
theorem ok17 (n : Nat) : CallOk Tryz.prog (RO Tryz.prog 27 35 [(s17, t17)] [] n).fn := (RO_sound Tryz.codeOk mixed fnames (fun p hp => by
    simp only [List.mem_cons, List.not_mem_nil, or_false] at hp
    subst hp; exact run17) (fun p hp => by
    cases hp) frun fpar n).1
set_option maxRecDepth 100000 in
theorem at17 : isT ((RO Tryz.prog 27 35 [(s17, t17)] [] 400).fn 4 [.slx [(.op .gtr .len 1048576, 0), (.op .rem .len 16, 1), (.op .rem (.op .quo .len 16) 8, 1)]] Hp.empty) = true := by kernel_rfl
theorem ok18 (n : Nat) : CallOk Tryz.prog (RO Tryz.prog 27 35 [(s18, t18)] [(s18, true)] n).fn := (RO_sound Tryz.codeOk mixed fnames (fun p hp => by
    simp only [List.mem_cons, List.not_mem_nil, or_false] at hp
    subst hp; exact run18) (fun p hp => by
    simp only [List.mem_cons, List.not_mem_nil, or_false] at hp
    subst hp; exact par18) frun fpar n).1
set_option maxRecDepth 100000 in
theorem at18 : isT ((RO Tryz.prog 27 35 [(s18, t18)] [(s18, true)] 400).fn 4 [.slx [(.op .gtr .len 1048576, 0), (.op .rem .len 16, 2), (.op .rem (.op .quo .len 16) 8, 1)]] Hp.empty) = true := by kernel_rfl
theorem ok19 (n : Nat) : CallOk Tryz.prog (RO Tryz.prog 27 35 [(s19, t19)] [] n).fn := (RO_sound Tryz.codeOk mixed fnames (fun p hp => by
    simp only [List.mem_cons, List.not_mem_nil, or_false] at hp
    subst hp; exact run19) (fun p hp => by
    cases hp) frun fpar n).1
set_option maxRecDepth 100000 in
theorem at19 : isT ((RO Tryz.prog 27 35 [(s19, t19)] [] 400).fn 4 [.slx [(.op .gtr .len 1048576, 0), (.op .rem .len 16, 3), (.op .rem (.op .quo .len 16) 8, 1)]] Hp.empty) = true := by kernel_rfl
theorem ok20 (n : Nat) : CallOk Tryz.prog (RO Tryz.prog 27 35 [(s20, t20)] [(s20, true)] n).fn := (RO_sound Tryz.codeOk mixed fnames (fun p hp => by
    simp only [List.mem_cons, List.not_mem_nil, or_false] at hp
    subst hp; exact run20) (fun p hp => by
    simp only [List.mem_cons, List.not_mem_nil, or_false] at hp
    subst hp; exact par20) frun fpar n).1
set_option maxRecDepth 100000 in
theorem at20 : isT ((RO Tryz.prog 27 35 [(s20, t20)] [(s20, true)] 400).fn 4 [.slx [(.op .gtr .len 1048576, 0), (.op .rem .len 16, 4), (.op .rem (.op .quo .len 16) 8, 1)]] Hp.empty) = true := by kernel_rfl
theorem ok21 (n : Nat) : CallOk Tryz.prog (RO Tryz.prog 27 35 [(s21, t21)] [] n).fn := (RO_sound Tryz.codeOk mixed fnames (fun p hp => by
    simp only [List.mem_cons, List.not_mem_nil, or_false] at hp
    subst hp; exact run21) (fun p hp => by
    cases hp) frun fpar n).1
set_option maxRecDepth 100000 in
theorem at21 : isT ((RO Tryz.prog 27 35 [(s21, t21)] [] 400).fn 4 [.slx [(.op .gtr .len 1048576, 0), (.op .rem .len 16, 5), (.op .rem (.op .quo .len 16) 8, 1)]] Hp.empty) = true := by kernel_rfl
theorem ok22 (n : Nat) : CallOk Tryz.prog (RO Tryz.prog 27 35 [(s22, t22)] [(s22, true)] n).fn := (RO_sound Tryz.codeOk mixed fnames (fun p hp => by
    simp only [List.mem_cons, List.not_mem_nil, or_false] at hp
    subst hp; exact run22) (fun p hp => by
    simp only [List.mem_cons, List.not_mem_nil, or_false] at hp
    subst hp; exact par22) frun fpar n).1
set_option maxRecDepth 100000 in
theorem at22 : isT ((RO Tryz.prog 27 35 [(s22, t22)] [(s22, true)] 400).fn 4 [.slx [(.op .gtr .len 1048576, 0), (.op .rem .len 16, 6), (.op .rem (.op .quo .len 16) 8, 1)]] Hp.empty) = true := by kernel_rfl
theorem ok23 (n : Nat) : CallOk Tryz.prog (RO Tryz.prog 27 35 [(s23, t23)] [] n).fn := (RO_sound Tryz.codeOk mixed fnames (fun p hp => by
    simp only [List.mem_cons, List.not_mem_nil, or_false] at hp
    subst hp; exact run23) (fun p hp => by
    cases hp) frun fpar n).1
set_option maxRecDepth 100000 in
theorem at23 : isT ((RO Tryz.prog 27 35 [(s23, t23)] [] 400).fn 4 [.slx [(.op .gtr .len 1048576, 0), (.op .rem .len 16, 7), (.op .rem (.op .quo .len 16) 8, 1)]] Hp.empty) = true := by kernel_rfl
theorem ok24 (n : Nat) : CallOk Tryz.prog (RO Tryz.prog 27 35 [(s24, t24)] [(s24, true)] n).fn := (RO_sound Tryz.codeOk mixed fnames (fun p hp => by
    simp only [List.mem_cons, List.not_mem_nil, or_false] at hp
    subst hp; exact run24) (fun p hp => by
    simp only [List.mem_cons, List.not_mem_nil, or_false] at hp
    subst hp; exact par24) frun fpar n).1
set_option maxRecDepth 100000 in
theorem at24 : isT ((RO Tryz.prog 27 35 [(s24, t24)] [(s24, true)] 400).fn 4 [.slx [(.op .gtr .len 1048576, 0), (.op .rem .len 16, 8), (.op .rem (.op .quo .len 16) 8, 1)]] Hp.empty) = true := by kernel_rfl
theorem ok25 (n : Nat) : CallOk Tryz.prog (RO Tryz.prog 27 35 [(s25, t25)] [] n).fn := (RO_sound Tryz.codeOk mixed fnames (fun p hp => by
    simp only [List.mem_cons, List.not_mem_nil, or_false] at hp
    subst hp; exact run25) (fun p hp => by
    cases hp) frun fpar n).1
set_option maxRecDepth 100000 in
theorem at25 : isT ((RO Tryz.prog 27 35 [(s25, t25)] [] 400).fn 4 [.slx [(.op .gtr .len 1048576, 0), (.op .rem .len 16, 9), (.op .rem (.op .quo .len 16) 8, 1)]] Hp.empty) = true := by kernel_rfl
theorem ok26 (n : Nat) : CallOk Tryz.prog (RO Tryz.prog 27 35 [(s26, t26)] [(s26, true)] n).fn := (RO_sound Tryz.codeOk mixed fnames (fun p hp => by
    simp only [List.mem_cons, List.not_mem_nil, or_false] at hp
    subst hp; exact run26) (fun p hp => by
    simp only [List.mem_cons, List.not_mem_nil, or_false] at hp
    subst hp; exact par26) frun fpar n).1
set_option maxRecDepth 100000 in
theorem at26 : isT ((RO Tryz.prog 27 35 [(s26, t26)] [(s26, true)] 400).fn 4 [.slx [(.op .gtr .len 1048576, 0), (.op .rem .len 16, 10), (.op .rem (.op .quo .len 16) 8, 1)]] Hp.empty) = true := by kernel_rfl
theorem ok27 (n : Nat) : CallOk Tryz.prog (RO Tryz.prog 27 35 [(s27, t27)] [] n).fn := (RO_sound Tryz.codeOk mixed fnames (fun p hp => by
    simp only [List.mem_cons, List.not_mem_nil, or_false] at hp
    subst hp; exact run27) (fun p hp => by
    cases hp) frun fpar n).1
set_option maxRecDepth 100000 in
theorem at27 : isT ((RO Tryz.prog 27 35 [(s27, t27)] [] 400).fn 4 [.slx [(.op .gtr .len 1048576, 0), (.op .rem .len 16, 11), (.op .rem (.op .quo .len 16) 8, 1)]] Hp.empty) = true := by kernel_rfl
theorem ok28 (n : Nat) : CallOk Tryz.prog (RO Tryz.prog 27 35 [(s28, t28)] [(s28, true)] n).fn := (RO_sound Tryz.codeOk mixed fnames (fun p hp => by
    simp only [List.mem_cons, List.not_mem_nil, or_false] at hp
    subst hp; exact run28) (fun p hp => by
    simp only [List.mem_cons, List.not_mem_nil, or_false] at hp
    subst hp; exact par28) frun fpar n).1
set_option maxRecDepth 100000 in
theorem at28 : isT ((RO Tryz.prog 27 35 [(s28, t28)] [(s28, true)] 400).fn 4 [.slx [(.op .gtr .len 1048576, 0), (.op .rem .len 16, 12), (.op .rem (.op .quo .len 16) 8, 1)]] Hp.empty) = true := by kernel_rfl
theorem ok29 (n : Nat) : CallOk Tryz.prog (RO Tryz.prog 27 35 [(s29, t29)] [] n).fn := (RO_sound Tryz.codeOk mixed fnames (fun p hp => by
    simp only [List.mem_cons, List.not_mem_nil, or_false] at hp
    subst hp; exact run29) (fun p hp => by
    cases hp) frun fpar n).1
set_option maxRecDepth 100000 in
theorem at29 : isT ((RO Tryz.prog 27 35 [(s29, t29)] [] 400).fn 4 [.slx [(.op .gtr .len 1048576, 0), (.op .rem .len 16, 13), (.op .rem (.op .quo .len 16) 8, 1)]] Hp.empty) = true := by kernel_rfl
theorem ok30 (n : Nat) : CallOk Tryz.prog (RO Tryz.prog 27 35 [(s30, t30)] [(s30, true)] n).fn := (RO_sound Tryz.codeOk mixed fnames (fun p hp => by
    simp only [List.mem_cons, List.not_mem_nil, or_false] at hp
    subst hp; exact run30) (fun p hp => by
    simp only [List.mem_cons, List.not_mem_nil, or_false] at hp
    subst hp; exact par30) frun fpar n).1
set_option maxRecDepth 100000 in
theorem at30 : isT ((RO Tryz.prog 27 35 [(s30, t30)] [(s30, true)] 400).fn 4 [.slx [(.op .gtr .len 1048576, 0), (.op .rem .len 16, 14), (.op .rem (.op .quo .len 16) 8, 1)]] Hp.empty) = true := by kernel_rfl
theorem ok31 (n : Nat) : CallOk Tryz.prog (RO Tryz.prog 27 35 [(s31, t31)] [] n).fn := (RO_sound Tryz.codeOk mixed fnames (fun p hp => by
    simp only [List.mem_cons, List.not_mem_nil, or_false] at hp
    subst hp; exact run31) (fun p hp => by
    cases hp) frun fpar n).1
set_option maxRecDepth 100000 in
theorem at31 : isT ((RO Tryz.prog 27 35 [(s31, t31)] [] 400).fn 4 [.slx [(.op .gtr .len 1048576, 0), (.op .rem .len 16, 15), (.op .rem (.op .quo .len 16) 8, 1)]] Hp.empty) = true := by kernel_rfl
theorem ok32 (n : Nat) : CallOk Tryz.prog (RO Tryz.prog 27 35 [(s32, t32)] [(s32, true)] n).fn := (RO_sound Tryz.codeOk mixed fnames (fun p hp => by
    simp only [List.mem_cons, List.not_mem_nil, or_false] at hp
    subst hp; exact run32) (fun p hp => by
    simp only [List.mem_cons, List.not_mem_nil, or_false] at hp
    subst hp; exact par32) frun fpar n).1
set_option maxRecDepth 100000 in
theorem at32 : isT ((RO Tryz.prog 27 35 [(s32, t32)] [(s32, true)] 400).fn 4 [.slx [(.op .gtr .len 1048576, 0), (.op .rem .len 16, 0), (.op .rem (.op .quo .len 16) 8, 2)]] Hp.empty) = true := by kernel_rfl
theorem ok33 (n : Nat) : CallOk Tryz.prog (RO Tryz.prog 27 35 [(s33, t33)] [(s33, true)] n).fn := (RO_sound Tryz.codeOk mixed fnames (fun p hp => by
    simp only [List.mem_cons, List.not_mem_nil, or_false] at hp
    subst hp; exact run33) (fun p hp => by
    simp only [List.mem_cons, List.not_mem_nil, or_false] at hp
    subst hp; exact par33) frun fpar n).1
set_option maxRecDepth 100000 in
theorem at33 : isT ((RO Tryz.prog 27 35 [(s33, t33)] [(s33, true)] 400).fn 4 [.slx [(.op .gtr .len 1048576, 0), (.op .rem .len 16, 1), (.op .rem (.op .quo .len 16) 8, 2)]] Hp.empty) = true := by kernel_rfl
theorem ok34 (n : Nat) : CallOk Tryz.prog (RO Tryz.prog 27 35 [(s34, t34)] [] n).fn := (RO_sound Tryz.codeOk mixed fnames (fun p hp => by
    simp only [List.mem_cons, List.not_mem_nil, or_false] at hp
    subst hp; exact run34) (fun p hp => by
    cases hp) frun fpar n).1
set_option maxRecDepth 100000 in
theorem at34 : isT ((RO Tryz.prog 27 35 [(s34, t34)] [] 400).fn 4 [.slx [(.op .gtr .len 1048576, 0), (.op .rem .len 16, 2), (.op .rem (.op .quo .len 16) 8, 2)]] Hp.empty) = true := by kernel_rfl
theorem ok35 (n : Nat) : CallOk Tryz.prog (RO Tryz.prog 27 35 [(s35, t35)] [] n).fn := (RO_sound Tryz.codeOk mixed fnames (fun p hp => by
    simp only [List.mem_cons, List.not_mem_nil, or_false] at hp
    subst hp; exact run35) (fun p hp => by
    cases hp) frun fpar n).1
set_option maxRecDepth 100000 in
theorem at35 : isT ((RO Tryz.prog 27 35 [(s35, t35)] [] 400).fn 4 [.slx [(.op .gtr .len 1048576, 0), (.op .rem .len 16, 3), (.op .rem (.op .quo .len 16) 8, 2)]] Hp.empty) = true := by kernel_rfl
theorem ok36 (n : Nat) : CallOk Tryz.prog (RO Tryz.prog 27 35 [(s36, t36)] [(s36, true)] n).fn := (RO_sound Tryz.codeOk mixed fnames (fun p hp => by
    simp only [List.mem_cons, List.not_mem_nil, or_false] at hp
    subst hp; exact run36) (fun p hp => by
    simp only [List.mem_cons, List.not_mem_nil, or_false] at hp
    subst hp; exact par36) frun fpar n).1
set_option maxRecDepth 100000 in
theorem at36 : isT ((RO Tryz.prog 27 35 [(s36, t36)] [(s36, true)] 400).fn 4 [.slx [(.op .gtr .len 1048576, 0), (.op .rem .len 16, 4), (.op .rem (.op .quo .len 16) 8, 2)]] Hp.empty) = true := by kernel_rfl
theorem ok37 (n : Nat) : CallOk Tryz.prog (RO Tryz.prog 27 35 [(s37, t37)] [(s37, true)] n).fn := (RO_sound Tryz.codeOk mixed fnames (fun p hp => by
    simp only [List.mem_cons, List.not_mem_nil, or_false] at hp
    subst hp; exact run37) (fun p hp => by
    simp only [List.mem_cons, List.not_mem_nil, or_false] at hp
    subst hp; exact par37) frun fpar n).1
set_option maxRecDepth 100000 in
theorem at37 : isT ((RO Tryz.prog 27 35 [(s37, t37)] [(s37, true)] 400).fn 4 [.slx [(.op .gtr .len 1048576, 0), (.op .rem .len 16, 5), (.op .rem (.op .quo .len 16) 8, 2)]] Hp.empty) = true := by kernel_rfl
theorem ok38 (n : Nat) : CallOk Tryz.prog (RO Tryz.prog 27 35 [(s38, t38)] [] n).fn := (RO_sound Tryz.codeOk mixed fnames (fun p hp => by
    simp only [List.mem_cons, List.not_mem_nil, or_false] at hp
    subst hp; exact run38) (fun p hp => by
    cases hp) frun fpar n).1
set_option maxRecDepth 100000 in
theorem at38 : isT ((RO Tryz.prog 27 35 [(s38, t38)] [] 400).fn 4 [.slx [(.op .gtr .len 1048576, 0), (.op .rem .len 16, 6), (.op .rem (.op .quo .len 16) 8, 2)]] Hp.empty) = true := by kernel_rfl
theorem ok39 (n : Nat) : CallOk Tryz.prog (RO Tryz.prog 27 35 [(s39, t39)] [] n).fn := (RO_sound Tryz.codeOk mixed fnames (fun p hp => by
    simp only [List.mem_cons, List.not_mem_nil, or_false] at hp
    subst hp; exact run39) (fun p hp => by
    cases hp) frun fpar n).1
set_option maxRecDepth 100000 in
theorem at39 : isT ((RO Tryz.prog 27 35 [(s39, t39)] [] 400).fn 4 [.slx [(.op .gtr .len 1048576, 0), (.op .rem .len 16, 7), (.op .rem (.op .quo .len 16) 8, 2)]] Hp.empty) = true := by kernel_rfl
theorem ok40 (n : Nat) : CallOk Tryz.prog (RO Tryz.prog 27 35 [(s40, t40)] [(s40, true)] n).fn := (RO_sound Tryz.codeOk mixed fnames (fun p hp => by
    simp only [List.mem_cons, List.not_mem_nil, or_false] at hp
    subst hp; exact run40) (fun p hp => by
    simp only [List.mem_cons, List.not_mem_nil, or_false] at hp
    subst hp; exact par40) frun fpar n).1
set_option maxRecDepth 100000 in
theorem at40 : isT ((RO Tryz.prog 27 35 [(s40, t40)] [(s40, true)] 400).fn 4 [.slx [(.op .gtr .len 1048576, 0), (.op .rem .len 16, 8), (.op .rem (.op .quo .len 16) 8, 2)]] Hp.empty) = true := by kernel_rfl
theorem ok41 (n : Nat) : CallOk Tryz.prog (RO Tryz.prog 27 35 [(s41, t41)] [(s41, true)] n).fn := (RO_sound Tryz.codeOk mixed fnames (fun p hp => by
    simp only [List.mem_cons, List.not_mem_nil, or_false] at hp
    subst hp; exact run41) (fun p hp => by
    simp only [List.mem_cons, List.not_mem_nil, or_false] at hp
    subst hp; exact par41) frun fpar n).1
set_option maxRecDepth 100000 in
theorem at41 : isT ((RO Tryz.prog 27 35 [(s41, t41)] [(s41, true)] 400).fn 4 [.slx [(.op .gtr .len 1048576, 0), (.op .rem .len 16, 9), (.op .rem (.op .quo .len 16) 8, 2)]] Hp.empty) = true := by kernel_rfl
theorem ok42 (n : Nat) : CallOk Tryz.prog (RO Tryz.prog 27 35 [(s42, t42)] [] n).fn := (RO_sound Tryz.codeOk mixed fnames (fun p hp => by
    simp only [List.mem_cons, List.not_mem_nil, or_false] at hp
    subst hp; exact run42) (fun p hp => by
    cases hp) frun fpar n).1
set_option maxRecDepth 100000 in
theorem at42 : isT ((RO Tryz.prog 27 35 [(s42, t42)] [] 400).fn 4 [.slx [(.op .gtr .len 1048576, 0), (.op .rem .len 16, 10), (.op .rem (.op .quo .len 16) 8, 2)]] Hp.empty) = true := by kernel_rfl
theorem ok43 (n : Nat) : CallOk Tryz.prog (RO Tryz.prog 27 35 [(s43, t43)] [] n).fn := (RO_sound Tryz.codeOk mixed fnames (fun p hp => by
    simp only [List.mem_cons, List.not_mem_nil, or_false] at hp
    subst hp; exact run43) (fun p hp => by
    cases hp) frun fpar n).1
set_option maxRecDepth 100000 in
theorem at43 : isT ((RO Tryz.prog 27 35 [(s43, t43)] [] 400).fn 4 [.slx [(.op .gtr .len 1048576, 0), (.op .rem .len 16, 11), (.op .rem (.op .quo .len 16) 8, 2)]] Hp.empty) = true := by kernel_rfl
theorem ok44 (n : Nat) : CallOk Tryz.prog (RO Tryz.prog 27 35 [(s44, t44)] [(s44, true)] n).fn := (RO_sound Tryz.codeOk mixed fnames (fun p hp => by
    simp only [List.mem_cons, List.not_mem_nil, or_false] at hp
    subst hp; exact run44) (fun p hp => by
    simp only [List.mem_cons, List.not_mem_nil, or_false] at hp
    subst hp; exact par44) frun fpar n).1
set_option maxRecDepth 100000 in
theorem at44 : isT ((RO Tryz.prog 27 35 [(s44, t44)] [(s44, true)] 400).fn 4 [.slx [(.op .gtr .len 1048576, 0), (.op .rem .len 16, 12), (.op .rem (.op .quo .len 16) 8, 2)]] Hp.empty) = true := by kernel_rfl
theorem ok45 (n : Nat) : CallOk Tryz.prog (RO Tryz.prog 27 35 [(s45, t45)] [(s45, true)] n).fn := (RO_sound Tryz.codeOk mixed fnames (fun p hp => by
    simp only [List.mem_cons, List.not_mem_nil, or_false] at hp
    subst hp; exact run45) (fun p hp => by
    simp only [List.mem_cons, List.not_mem_nil, or_false] at hp
    subst hp; exact par45) frun fpar n).1
set_option maxRecDepth 100000 in
theorem at45 : isT ((RO Tryz.prog 27 35 [(s45, t45)] [(s45, true)] 400).fn 4 [.slx [(.op .gtr .len 1048576, 0), (.op .rem .len 16, 13), (.op .rem (.op .quo .len 16) 8, 2)]] Hp.empty) = true := by kernel_rfl
theorem ok46 (n : Nat) : CallOk Tryz.prog (RO Tryz.prog 27 35 [(s46, t46)] [] n).fn := (RO_sound Tryz.codeOk mixed fnames (fun p hp => by
    simp only [List.mem_cons, List.not_mem_nil, or_false] at hp
    subst hp; exact run46) (fun p hp => by
    cases hp) frun fpar n).1
set_option maxRecDepth 100000 in
theorem at46 : isT ((RO Tryz.prog 27 35 [(s46, t46)] [] 400).fn 4 [.slx [(.op .gtr .len 1048576, 0), (.op .rem .len 16, 14), (.op .rem (.op .quo .len 16) 8, 2)]] Hp.empty) = true := by kernel_rfl
theorem ok47 (n : Nat) : CallOk Tryz.prog (RO Tryz.prog 27 35 [(s47, t47)] [] n).fn := (RO_sound Tryz.codeOk mixed fnames (fun p hp => by
    simp only [List.mem_cons, List.not_mem_nil, or_false] at hp
    subst hp; exact run47) (fun p hp => by
    cases hp) frun fpar n).1
set_option maxRecDepth 100000 in
theorem at47 : isT ((RO Tryz.prog 27 35 [(s47, t47)] [] 400).fn 4 [.slx [(.op .gtr .len 1048576, 0), (.op .rem .len 16, 15), (.op .rem (.op .quo .len 16) 8, 2)]] Hp.empty) = true := by kernel_rfl
theorem ok48 (n : Nat) : CallOk Tryz.prog (RO Tryz.prog 27 35 [(s48, t48)] [(s48, true)] n).fn := (RO_sound Tryz.codeOk mixed fnames (fun p hp => by
    simp only [List.mem_cons, List.not_mem_nil, or_false] at hp
    subst hp; exact run48) (fun p hp => by
    simp only [List.mem_cons, List.not_mem_nil, or_false] at hp
    subst hp; exact par48) frun fpar n).1
set_option maxRecDepth 100000 in
theorem at48 : isT ((RO Tryz.prog 27 35 [(s48, t48)] [(s48, true)] 400).fn 4 [.slx [(.op .gtr .len 1048576, 0), (.op .rem .len 16, 0), (.op .rem (.op .quo .len 16) 8, 3)]] Hp.empty) = true := by kernel_rfl
theorem ok49 (n : Nat) : CallOk Tryz.prog (RO Tryz.prog 27 35 [(s49, t49)] [] n).fn := (RO_sound Tryz.codeOk mixed fnames (fun p hp => by
    simp only [List.mem_cons, List.not_mem_nil, or_false] at hp
    subst hp; exact run49) (fun p hp => by
    cases hp) frun fpar n).1
set_option maxRecDepth 100000 in
theorem at49 : isT ((RO Tryz.prog 27 35 [(s49, t49)] [] 400).fn 4 [.slx [(.op .gtr .len 1048576, 0), (.op .rem .len 16, 1), (.op .rem (.op .quo .len 16) 8, 3)]] Hp.empty) = true := by kernel_rfl
theorem ok50 (n : Nat) : CallOk Tryz.prog (RO Tryz.prog 27 35 [(s50, t50)] [] n).fn := (RO_sound Tryz.codeOk mixed fnames (fun p hp => by
    simp only [List.mem_cons, List.not_mem_nil, or_false] at hp
    subst hp; exact run50) (fun p hp => by
    cases hp) frun fpar n).1
set_option maxRecDepth 100000 in
theorem at50 : isT ((RO Tryz.prog 27 35 [(s50, t50)] [] 400).fn 4 [.slx [(.op .gtr .len 1048576, 0), (.op .rem .len 16, 2), (.op .rem (.op .quo .len 16) 8, 3)]] Hp.empty) = true := by kernel_rfl
theorem ok51 (n : Nat) : CallOk Tryz.prog (RO Tryz.prog 27 35 [(s51, t51)] [] n).fn := (RO_sound Tryz.codeOk mixed fnames (fun p hp => by
    simp only [List.mem_cons, List.not_mem_nil, or_false] at hp
    subst hp; exact run51) (fun p hp => by
    cases hp) frun fpar n).1
set_option maxRecDepth 100000 in
theorem at51 : isT ((RO Tryz.prog 27 35 [(s51, t51)] [] 400).fn 4 [.slx [(.op .gtr .len 1048576, 0), (.op .rem .len 16, 3), (.op .rem (.op .quo .len 16) 8, 3)]] Hp.empty) = true := by kernel_rfl
theorem ok52 (n : Nat) : CallOk Tryz.prog (RO Tryz.prog 27 35 [(s52, t52)] [(s52, true)] n).fn := (RO_sound Tryz.codeOk mixed fnames (fun p hp => by
    simp only [List.mem_cons, List.not_mem_nil, or_false] at hp
    subst hp; exact run52) (fun p hp => by
    simp only [List.mem_cons, List.not_mem_nil, or_false] at hp
    subst hp; exact par52) frun fpar n).1
set_option maxRecDepth 100000 in
theorem at52 : isT ((RO Tryz.prog 27 35 [(s52, t52)] [(s52, true)] 400).fn 4 [.slx [(.op .gtr .len 1048576, 0), (.op .rem .len 16, 4), (.op .rem (.op .quo .len 16) 8, 3)]] Hp.empty) = true := by kernel_rfl
theorem ok53 (n : Nat) : CallOk Tryz.prog (RO Tryz.prog 27 35 [(s53, t53)] [] n).fn := (RO_sound Tryz.codeOk mixed fnames (fun p hp => by
    simp only [List.mem_cons, List.not_mem_nil, or_false] at hp
    subst hp; exact run53) (fun p hp => by
    cases hp) frun fpar n).1
set_option maxRecDepth 100000 in
theorem at53 : isT ((RO Tryz.prog 27 35 [(s53, t53)] [] 400).fn 4 [.slx [(.op .gtr .len 1048576, 0), (.op .rem .len 16, 5), (.op .rem (.op .quo .len 16) 8, 3)]] Hp.empty) = true := by kernel_rfl
theorem ok54 (n : Nat) : CallOk Tryz.prog (RO Tryz.prog 27 35 [(s54, t54)] [] n).fn := (RO_sound Tryz.codeOk mixed fnames (fun p hp => by
    simp only [List.mem_cons, List.not_mem_nil, or_false] at hp
    subst hp; exact run54) (fun p hp => by
    cases hp) frun fpar n).1
set_option maxRecDepth 100000 in
theorem at54 : isT ((RO Tryz.prog 27 35 [(s54, t54)] [] 400).fn 4 [.slx [(.op .gtr .len 1048576, 0), (.op .rem .len 16, 6), (.op .rem (.op .quo .len 16) 8, 3)]] Hp.empty) = true := by kernel_rfl
theorem ok55 (n : Nat) : CallOk Tryz.prog (RO Tryz.prog 27 35 [(s55, t55)] [] n).fn := (RO_sound Tryz.codeOk mixed fnames (fun p hp => by
    simp only [List.mem_cons, List.not_mem_nil, or_false] at hp
    subst hp; exact run55) (fun p hp => by
    cases hp) frun fpar n).1
set_option maxRecDepth 100000 in
theorem at55 : isT ((RO Tryz.prog 27 35 [(s55, t55)] [] 400).fn 4 [.slx [(.op .gtr .len 1048576, 0), (.op .rem .len 16, 7), (.op .rem (.op .quo .len 16) 8, 3)]] Hp.empty) = true := by kernel_rfl
theorem ok56 (n : Nat) : CallOk Tryz.prog (RO Tryz.prog 27 35 [(s56, t56)] [(s56, true)] n).fn := (RO_sound Tryz.codeOk mixed fnames (fun p hp => by
    simp only [List.mem_cons, List.not_mem_nil, or_false] at hp
    subst hp; exact run56) (fun p hp => by
    simp only [List.mem_cons, List.not_mem_nil, or_false] at hp
    subst hp; exact par56) frun fpar n).1
set_option maxRecDepth 100000 in
theorem at56 : isT ((RO Tryz.prog 27 35 [(s56, t56)] [(s56, true)] 400).fn 4 [.slx [(.op .gtr .len 1048576, 0), (.op .rem .len 16, 8), (.op .rem (.op .quo .len 16) 8, 3)]] Hp.empty) = true := by kernel_rfl
theorem ok57 (n : Nat) : CallOk Tryz.prog (RO Tryz.prog 27 35 [(s57, t57)] [] n).fn := (RO_sound Tryz.codeOk mixed fnames (fun p hp => by
    simp only [List.mem_cons, List.not_mem_nil, or_false] at hp
    subst hp; exact run57) (fun p hp => by
    cases hp) frun fpar n).1
set_option maxRecDepth 100000 in
theorem at57 : isT ((RO Tryz.prog 27 35 [(s57, t57)] [] 400).fn 4 [.slx [(.op .gtr .len 1048576, 0), (.op .rem .len 16, 9), (.op .rem (.op .quo .len 16) 8, 3)]] Hp.empty) = true := by kernel_rfl
theorem ok58 (n : Nat) : CallOk Tryz.prog (RO Tryz.prog 27 35 [(s58, t58)] [] n).fn := (RO_sound Tryz.codeOk mixed fnames (fun p hp => by
    simp only [List.mem_cons, List.not_mem_nil, or_false] at hp
    subst hp; exact run58) (fun p hp => by
    cases hp) frun fpar n).1
set_option maxRecDepth 100000 in
theorem at58 : isT ((RO Tryz.prog 27 35 [(s58, t58)] [] 400).fn 4 [.slx [(.op .gtr .len 1048576, 0), (.op .rem .len 16, 10), (.op .rem (.op .quo .len 16) 8, 3)]] Hp.empty) = true := by kernel_rfl
theorem ok59 (n : Nat) : CallOk Tryz.prog (RO Tryz.prog 27 35 [(s59, t59)] [] n).fn := (RO_sound Tryz.codeOk mixed fnames (fun p hp => by
    simp only [List.mem_cons, List.not_mem_nil, or_false] at hp
    subst hp; exact run59) (fun p hp => by
    cases hp) frun fpar n).1
set_option maxRecDepth 100000 in
theorem at59 : isT ((RO Tryz.prog 27 35 [(s59, t59)] [] 400).fn 4 [.slx [(.op .gtr .len 1048576, 0), (.op .rem .len 16, 11), (.op .rem (.op .quo .len 16) 8, 3)]] Hp.empty) = true := by kernel_rfl
theorem ok60 (n : Nat) : CallOk Tryz.prog (RO Tryz.prog 27 35 [(s60, t60)] [(s60, true)] n).fn := (RO_sound Tryz.codeOk mixed fnames (fun p hp => by
    simp only [List.mem_cons, List.not_mem_nil, or_false] at hp
    subst hp; exact run60) (fun p hp => by
    simp only [List.mem_cons, List.not_mem_nil, or_false] at hp
    subst hp; exact par60) frun fpar n).1
set_option maxRecDepth 100000 in
theorem at60 : isT ((RO Tryz.prog 27 35 [(s60, t60)] [(s60, true)] 400).fn 4 [.slx [(.op .gtr .len 1048576, 0), (.op .rem .len 16, 12), (.op .rem (.op .quo .len 16) 8, 3)]] Hp.empty) = true := by kernel_rfl
theorem ok61 (n : Nat) : CallOk Tryz.prog (RO Tryz.prog 27 35 [(s61, t61)] [] n).fn := (RO_sound Tryz.codeOk mixed fnames (fun p hp => by
    simp only [List.mem_cons, List.not_mem_nil, or_false] at hp
    subst hp; exact run61) (fun p hp => by
    cases hp) frun fpar n).1
set_option maxRecDepth 100000 in
theorem at61 : isT ((RO Tryz.prog 27 35 [(s61, t61)] [] 400).fn 4 [.slx [(.op .gtr .len 1048576, 0), (.op .rem .len 16, 13), (.op .rem (.op .quo .len 16) 8, 3)]] Hp.empty) = true := by kernel_rfl
theorem ok62 (n : Nat) : CallOk Tryz.prog (RO Tryz.prog 27 35 [(s62, t62)] [] n).fn := (RO_sound Tryz.codeOk mixed fnames (fun p hp => by
    simp only [List.mem_cons, List.not_mem_nil, or_false] at hp
    subst hp; exact run62) (fun p hp => by
    cases hp) frun fpar n).1
set_option maxRecDepth 100000 in
theorem at62 : isT ((RO Tryz.prog 27 35 [(s62, t62)] [] 400).fn 4 [.slx [(.op .gtr .len 1048576, 0), (.op .rem .len 16, 14), (.op .rem (.op .quo .len 16) 8, 3)]] Hp.empty) = true := by kernel_rfl
theorem ok63 (n : Nat) : CallOk Tryz.prog (RO Tryz.prog 27 35 [(s63, t63)] [] n).fn := (RO_sound Tryz.codeOk mixed fnames (fun p hp => by
    simp only [List.mem_cons, List.not_mem_nil, or_false] at hp
    subst hp; exact run63) (fun p hp => by
    cases hp) frun fpar n).1
set_option maxRecDepth 100000 in
theorem at63 : isT ((RO Tryz.prog 27 35 [(s63, t63)] [] 400).fn 4 [.slx [(.op .gtr .len 1048576, 0), (.op .rem .len 16, 15), (.op .rem (.op .quo .len 16) 8, 3)]] Hp.empty) = true := by kernel_rfl
theorem ok64 (n : Nat) : CallOk Tryz.prog (RO Tryz.prog 27 35 [(s64, t64)] [(s64, true)] n).fn := (RO_sound Tryz.codeOk mixed fnames (fun p hp => by
    simp only [List.mem_cons, List.not_mem_nil, or_false] at hp
    subst hp; exact run64) (fun p hp => by
    simp only [List.mem_cons, List.not_mem_nil, or_false] at hp
    subst hp; exact par64) frun fpar n).1
set_option maxRecDepth 100000 in
theorem at64 : isT ((RO Tryz.prog 27 35 [(s64, t64)] [(s64, true)] 400).fn 4 [.slx [(.op .gtr .len 1048576, 0), (.op .rem .len 16, 0), (.op .rem (.op .quo .len 16) 8, 4)]] Hp.empty) = true := by kernel_rfl
theorem ok65 (n : Nat) : CallOk Tryz.prog (RO Tryz.prog 27 35 [(s65, t65)] [(s65, true)] n).fn := (RO_sound Tryz.codeOk mixed fnames (fun p hp => by
    simp only [List.mem_cons, List.not_mem_nil, or_false] at hp
    subst hp; exact run65) (fun p hp => by
    simp only [List.mem_cons, List.not_mem_nil, or_false] at hp
    subst hp; exact par65) frun fpar n).1
set_option maxRecDepth 100000 in
theorem at65 : isT ((RO Tryz.prog 27 35 [(s65, t65)] [(s65, true)] 400).fn 4 [.slx [(.op .gtr .len 1048576, 0), (.op .rem .len 16, 1), (.op .rem (.op .quo .len 16) 8, 4)]] Hp.empty) = true := by kernel_rfl
theorem ok66 (n : Nat) : CallOk Tryz.prog (RO Tryz.prog 27 35 [(s66, t66)] [(s66, true)] n).fn := (RO_sound Tryz.codeOk mixed fnames (fun p hp => by
    simp only [List.mem_cons, List.not_mem_nil, or_false] at hp
    subst hp; exact run66) (fun p hp => by
    simp only [List.mem_cons, List.not_mem_nil, or_false] at hp
    subst hp; exact par66) frun fpar n).1
set_option maxRecDepth 100000 in
theorem at66 : isT ((RO Tryz.prog 27 35 [(s66, t66)] [(s66, true)] 400).fn 4 [.slx [(.op .gtr .len 1048576, 0), (.op .rem .len 16, 2), (.op .rem (.op .quo .len 16) 8, 4)]] Hp.empty) = true := by kernel_rfl
theorem ok67 (n : Nat) : CallOk Tryz.prog (RO Tryz.prog 27 35 [(s67, t67)] [(s67, true)] n).fn := (RO_sound Tryz.codeOk mixed fnames (fun p hp => by
    simp only [List.mem_cons, List.not_mem_nil, or_false] at hp
    subst hp; exact run67) (fun p hp => by
    simp only [List.mem_cons, List.not_mem_nil, or_false] at hp
    subst hp; exact par67) frun fpar n).1
set_option maxRecDepth 100000 in
theorem at67 : isT ((RO Tryz.prog 27 35 [(s67, t67)] [(s67, true)] 400).fn 4 [.slx [(.op .gtr .len 1048576, 0), (.op .rem .len 16, 3), (.op .rem (.op .quo .len 16) 8, 4)]] Hp.empty) = true := by kernel_rfl
theorem ok68 (n : Nat) : CallOk Tryz.prog (RO Tryz.prog 27 35 [(s68, t68)] [] n).fn := (RO_sound Tryz.codeOk mixed fnames (fun p hp => by
    simp only [List.mem_cons, List.not_mem_nil, or_false] at hp
    subst hp; exact run68) (fun p hp => by
    cases hp) frun fpar n).1
set_option maxRecDepth 100000 in
theorem at68 : isT ((RO Tryz.prog 27 35 [(s68, t68)] [] 400).fn 4 [.slx [(.op .gtr .len 1048576, 0), (.op .rem .len 16, 4), (.op .rem (.op .quo .len 16) 8, 4)]] Hp.empty) = true := by kernel_rfl
theorem ok69 (n : Nat) : CallOk Tryz.prog (RO Tryz.prog 27 35 [(s69, t69)] [] n).fn := (RO_sound Tryz.codeOk mixed fnames (fun p hp => by
    simp only [List.mem_cons, List.not_mem_nil, or_false] at hp
    subst hp; exact run69) (fun p hp => by
    cases hp) frun fpar n).1
set_option maxRecDepth 100000 in
theorem at69 : isT ((RO Tryz.prog 27 35 [(s69, t69)] [] 400).fn 4 [.slx [(.op .gtr .len 1048576, 0), (.op .rem .len 16, 5), (.op .rem (.op .quo .len 16) 8, 4)]] Hp.empty) = true := by kernel_rfl
theorem ok70 (n : Nat) : CallOk Tryz.prog (RO Tryz.prog 27 35 [(s70, t70)] [] n).fn := (RO_sound Tryz.codeOk mixed fnames (fun p hp => by
    simp only [List.mem_cons, List.not_mem_nil, or_false] at hp
    subst hp; exact run70) (fun p hp => by
    cases hp) frun fpar n).1
set_option maxRecDepth 100000 in
theorem at70 : isT ((RO Tryz.prog 27 35 [(s70, t70)] [] 400).fn 4 [.slx [(.op .gtr .len 1048576, 0), (.op .rem .len 16, 6), (.op .rem (.op .quo .len 16) 8, 4)]] Hp.empty) = true := by kernel_rfl
theorem ok71 (n : Nat) : CallOk Tryz.prog (RO Tryz.prog 27 35 [(s71, t71)] [] n).fn := (RO_sound Tryz.codeOk mixed fnames (fun p hp => by
    simp only [List.mem_cons, List.not_mem_nil, or_false] at hp
    subst hp; exact run71) (fun p hp => by
    cases hp) frun fpar n).1
set_option maxRecDepth 100000 in
theorem at71 : isT ((RO Tryz.prog 27 35 [(s71, t71)] [] 400).fn 4 [.slx [(.op .gtr .len 1048576, 0), (.op .rem .len 16, 7), (.op .rem (.op .quo .len 16) 8, 4)]] Hp.empty) = true := by kernel_rfl
theorem ok72 (n : Nat) : CallOk Tryz.prog (RO Tryz.prog 27 35 [(s72, t72)] [(s72, true)] n).fn := (RO_sound Tryz.codeOk mixed fnames (fun p hp => by
    simp only [List.mem_cons, List.not_mem_nil, or_false] at hp
    subst hp; exact run72) (fun p hp => by
    simp only [List.mem_cons, List.not_mem_nil, or_false] at hp
    subst hp; exact par72) frun fpar n).1
set_option maxRecDepth 100000 in
theorem at72 : isT ((RO Tryz.prog 27 35 [(s72, t72)] [(s72, true)] 400).fn 4 [.slx [(.op .gtr .len 1048576, 0), (.op .rem .len 16, 8), (.op .rem (.op .quo .len 16) 8, 4)]] Hp.empty) = true := by kernel_rfl
theorem ok73 (n : Nat) : CallOk Tryz.prog (RO Tryz.prog 27 35 [(s73, t73)] [(s73, true)] n).fn := (RO_sound Tryz.codeOk mixed fnames (fun p hp => by
    simp only [List.mem_cons, List.not_mem_nil, or_false] at hp
    subst hp; exact run73) (fun p hp => by
    simp only [List.mem_cons, List.not_mem_nil, or_false] at hp
    subst hp; exact par73) frun fpar n).1
set_option maxRecDepth 100000 in
theorem at73 : isT ((RO Tryz.prog 27 35 [(s73, t73)] [(s73, true)] 400).fn 4 [.slx [(.op .gtr .len 1048576, 0), (.op .rem .len 16, 9), (.op .rem (.op .quo .len 16) 8, 4)]] Hp.empty) = true := by kernel_rfl
theorem ok74 (n : Nat) : CallOk Tryz.prog (RO Tryz.prog 27 35 [(s74, t74)] [(s74, true)] n).fn := (RO_sound Tryz.codeOk mixed fnames (fun p hp => by
    simp only [List.mem_cons, List.not_mem_nil, or_false] at hp
    subst hp; exact run74) (fun p hp => by
    simp only [List.mem_cons, List.not_mem_nil, or_false] at hp
    subst hp; exact par74) frun fpar n).1
set_option maxRecDepth 100000 in
theorem at74 : isT ((RO Tryz.prog 27 35 [(s74, t74)] [(s74, true)] 400).fn 4 [.slx [(.op .gtr .len 1048576, 0), (.op .rem .len 16, 10), (.op .rem (.op .quo .len 16) 8, 4)]] Hp.empty) = true := by kernel_rfl
theorem ok75 (n : Nat) : CallOk Tryz.prog (RO Tryz.prog 27 35 [(s75, t75)] [(s75, true)] n).fn := (RO_sound Tryz.codeOk mixed fnames (fun p hp => by
    simp only [List.mem_cons, List.not_mem_nil, or_false] at hp
    subst hp; exact run75) (fun p hp => by
    simp only [List.mem_cons, List.not_mem_nil, or_false] at hp
    subst hp; exact par75) frun fpar n).1
set_option maxRecDepth 100000 in
theorem at75 : isT ((RO Tryz.prog 27 35 [(s75, t75)] [(s75, true)] 400).fn 4 [.slx [(.op .gtr .len 1048576, 0), (.op .rem .len 16, 11), (.op .rem (.op .quo .len 16) 8, 4)]] Hp.empty) = true := by kernel_rfl
theorem ok76 (n : Nat) : CallOk Tryz.prog (RO Tryz.prog 27 35 [(s76, t76)] [] n).fn := (RO_sound Tryz.codeOk mixed fnames (fun p hp => by
    simp only [List.mem_cons, List.not_mem_nil, or_false] at hp
    subst hp; exact run76) (fun p hp => by
    cases hp) frun fpar n).1
set_option maxRecDepth 100000 in
theorem at76 : isT ((RO Tryz.prog 27 35 [(s76, t76)] [] 400).fn 4 [.slx [(.op .gtr .len 1048576, 0), (.op .rem .len 16, 12), (.op .rem (.op .quo .len 16) 8, 4)]] Hp.empty) = true := by kernel_rfl
theorem ok77 (n : Nat) : CallOk Tryz.prog (RO Tryz.prog 27 35 [(s77, t77)] [] n).fn := (RO_sound Tryz.codeOk mixed fnames (fun p hp => by
    simp only [List.mem_cons, List.not_mem_nil, or_false] at hp
    subst hp; exact run77) (fun p hp => by
    cases hp) frun fpar n).1
set_option maxRecDepth 100000 in
theorem at77 : isT ((RO Tryz.prog 27 35 [(s77, t77)] [] 400).fn 4 [.slx [(.op .gtr .len 1048576, 0), (.op .rem .len 16, 13), (.op .rem (.op .quo .len 16) 8, 4)]] Hp.empty) = true := by kernel_rfl
theorem ok78 (n : Nat) : CallOk Tryz.prog (RO Tryz.prog 27 35 [(s78, t78)] [] n).fn := (RO_sound Tryz.codeOk mixed fnames (fun p hp => by
    simp only [List.mem_cons, List.not_mem_nil, or_false] at hp
    subst hp; exact run78) (fun p hp => by
    cases hp) frun fpar n).1
set_option maxRecDepth 100000 in
theorem at78 : isT ((RO Tryz.prog 27 35 [(s78, t78)] [] 400).fn 4 [.slx [(.op .gtr .len 1048576, 0), (.op .rem .len 16, 14), (.op .rem (.op .quo .len 16) 8, 4)]] Hp.empty) = true := by kernel_rfl
theorem ok79 (n : Nat) : CallOk Tryz.prog (RO Tryz.prog 27 35 [(s79, t79)] [] n).fn := (RO_sound Tryz.codeOk mixed fnames (fun p hp => by
    simp only [List.mem_cons, List.not_mem_nil, or_false] at hp
    subst hp; exact run79) (fun p hp => by
    cases hp) frun fpar n).1
set_option maxRecDepth 100000 in
theorem at79 : isT ((RO Tryz.prog 27 35 [(s79, t79)] [] 400).fn 4 [.slx [(.op .gtr .len 1048576, 0), (.op .rem .len 16, 15), (.op .rem (.op .quo .len 16) 8, 4)]] Hp.empty) = true := by kernel_rfl
theorem ok80 (n : Nat) : CallOk Tryz.prog (RO Tryz.prog 27 35 [(s80, t80)] [(s80, true)] n).fn := (RO_sound Tryz.codeOk mixed fnames (fun p hp => by
    simp only [List.mem_cons, List.not_mem_nil, or_false] at hp
    subst hp; exact run80) (fun p hp => by
    simp only [List.mem_cons, List.not_mem_nil, or_false] at hp
    subst hp; exact par80) frun fpar n).1
set_option maxRecDepth 100000 in
theorem at80 : isT ((RO Tryz.prog 27 35 [(s80, t80)] [(s80, true)] 400).fn 4 [.slx [(.op .gtr .len 1048576, 0), (.op .rem .len 16, 0), (.op .rem (.op .quo .len 16) 8, 5)]] Hp.empty) = true := by kernel_rfl
theorem ok81 (n : Nat) : CallOk Tryz.prog (RO Tryz.prog 27 35 [(s81, t81)] [] n).fn := (RO_sound Tryz.codeOk mixed fnames (fun p hp => by
    simp only [List.mem_cons, List.not_mem_nil, or_false] at hp
    subst hp; exact run81) (fun p hp => by
    cases hp) frun fpar n).1
set_option maxRecDepth 100000 in
theorem at81 : isT ((RO Tryz.prog 27 35 [(s81, t81)] [] 400).fn 4 [.slx [(.op .gtr .len 1048576, 0), (.op .rem .len 16, 1), (.op .rem (.op .quo .len 16) 8, 5)]] Hp.empty) = true := by kernel_rfl
theorem ok82 (n : Nat) : CallOk Tryz.prog (RO Tryz.prog 27 35 [(s82, t82)] [(s82, true)] n).fn := (RO_sound Tryz.codeOk mixed fnames (fun p hp => by
    simp only [List.mem_cons, List.not_mem_nil, or_false] at hp
    subst hp; exact run82) (fun p hp => by
    simp only [List.mem_cons, List.not_mem_nil, or_false] at hp
    subst hp; exact par82) frun fpar n).1
set_option maxRecDepth 100000 in
theorem at82 : isT ((RO Tryz.prog 27 35 [(s82, t82)] [(s82, true)] 400).fn 4 [.slx [(.op .gtr .len 1048576, 0), (.op .rem .len 16, 2), (.op .rem (.op .quo .len 16) 8, 5)]] Hp.empty) = true := by kernel_rfl
theorem ok83 (n : Nat) : CallOk Tryz.prog (RO Tryz.prog 27 35 [(s83, t83)] [] n).fn := (RO_sound Tryz.codeOk mixed fnames (fun p hp => by
    simp only [List.mem_cons, List.not_mem_nil, or_false] at hp
    subst hp; exact run83) (fun p hp => by
    cases hp) frun fpar n).1
set_option maxRecDepth 100000 in
theorem at83 : isT ((RO Tryz.prog 27 35 [(s83, t83)] [] 400).fn 4 [.slx [(.op .gtr .len 1048576, 0), (.op .rem .len 16, 3), (.op .rem (.op .quo .len 16) 8, 5)]] Hp.empty) = true := by kernel_rfl
theorem ok84 (n : Nat) : CallOk Tryz.prog (RO Tryz.prog 27 35 [(s84, t84)] [] n).fn := (RO_sound Tryz.codeOk mixed fnames (fun p hp => by
    simp only [List.mem_cons, List.not_mem_nil, or_false] at hp
    subst hp; exact run84) (fun p hp => by
    cases hp) frun fpar n).1
set_option maxRecDepth 100000 in
theorem at84 : isT ((RO Tryz.prog 27 35 [(s84, t84)] [] 400).fn 4 [.slx [(.op .gtr .len 1048576, 0), (.op .rem .len 16, 4), (.op .rem (.op .quo .len 16) 8, 5)]] Hp.empty) = true := by kernel_rfl
theorem ok85 (n : Nat) : CallOk Tryz.prog (RO Tryz.prog 27 35 [(s85, t85)] [] n).fn := (RO_sound Tryz.codeOk mixed fnames (fun p hp => by
    simp only [List.mem_cons, List.not_mem_nil, or_false] at hp
    subst hp; exact run85) (fun p hp => by
    cases hp) frun fpar n).1
set_option maxRecDepth 100000 in
theorem at85 : isT ((RO Tryz.prog 27 35 [(s85, t85)] [] 400).fn 4 [.slx [(.op .gtr .len 1048576, 0), (.op .rem .len 16, 5), (.op .rem (.op .quo .len 16) 8, 5)]] Hp.empty) = true := by kernel_rfl
theorem ok86 (n : Nat) : CallOk Tryz.prog (RO Tryz.prog 27 35 [(s86, t86)] [] n).fn := (RO_sound Tryz.codeOk mixed fnames (fun p hp => by
    simp only [List.mem_cons, List.not_mem_nil, or_false] at hp
    subst hp; exact run86) (fun p hp => by
    cases hp) frun fpar n).1
set_option maxRecDepth 100000 in
theorem at86 : isT ((RO Tryz.prog 27 35 [(s86, t86)] [] 400).fn 4 [.slx [(.op .gtr .len 1048576, 0), (.op .rem .len 16, 6), (.op .rem (.op .quo .len 16) 8, 5)]] Hp.empty) = true := by kernel_rfl
theorem ok87 (n : Nat) : CallOk Tryz.prog (RO Tryz.prog 27 35 [(s87, t87)] [] n).fn := (RO_sound Tryz.codeOk mixed fnames (fun p hp => by
    simp only [List.mem_cons, List.not_mem_nil, or_false] at hp
    subst hp; exact run87) (fun p hp => by
    cases hp) frun fpar n).1
set_option maxRecDepth 100000 in
theorem at87 : isT ((RO Tryz.prog 27 35 [(s87, t87)] [] 400).fn 4 [.slx [(.op .gtr .len 1048576, 0), (.op .rem .len 16, 7), (.op .rem (.op .quo .len 16) 8, 5)]] Hp.empty) = true := by kernel_rfl
theorem ok88 (n : Nat) : CallOk Tryz.prog (RO Tryz.prog 27 35 [(s88, t88)] [(s88, true)] n).fn := (RO_sound Tryz.codeOk mixed fnames (fun p hp => by
    simp only [List.mem_cons, List.not_mem_nil, or_false] at hp
    subst hp; exact run88) (fun p hp => by
    simp only [List.mem_cons, List.not_mem_nil, or_false] at hp
    subst hp; exact par88) frun fpar n).1
set_option maxRecDepth 100000 in
theorem at88 : isT ((RO Tryz.prog 27 35 [(s88, t88)] [(s88, true)] 400).fn 4 [.slx [(.op .gtr .len 1048576, 0), (.op .rem .len 16, 8), (.op .rem (.op .quo .len 16) 8, 5)]] Hp.empty) = true := by kernel_rfl
theorem ok89 (n : Nat) : CallOk Tryz.prog (RO Tryz.prog 27 35 [(s89, t89)] [] n).fn := (RO_sound Tryz.codeOk mixed fnames (fun p hp => by
    simp only [List.mem_cons, List.not_mem_nil, or_false] at hp
    subst hp; exact run89) (fun p hp => by
    cases hp) frun fpar n).1
set_option maxRecDepth 100000 in
theorem at89 : isT ((RO Tryz.prog 27 35 [(s89, t89)] [] 400).fn 4 [.slx [(.op .gtr .len 1048576, 0), (.op .rem .len 16, 9), (.op .rem (.op .quo .len 16) 8, 5)]] Hp.empty) = true := by kernel_rfl
theorem ok90 (n : Nat) : CallOk Tryz.prog (RO Tryz.prog 27 35 [(s90, t90)] [(s90, true)] n).fn := (RO_sound Tryz.codeOk mixed fnames (fun p hp => by
    simp only [List.mem_cons, List.not_mem_nil, or_false] at hp
    subst hp; exact run90) (fun p hp => by
    simp only [List.mem_cons, List.not_mem_nil, or_false] at hp
    subst hp; exact par90) frun fpar n).1
set_option maxRecDepth 100000 in
theorem at90 : isT ((RO Tryz.prog 27 35 [(s90, t90)] [(s90, true)] 400).fn 4 [.slx [(.op .gtr .len 1048576, 0), (.op .rem .len 16, 10), (.op .rem (.op .quo .len 16) 8, 5)]] Hp.empty) = true := by kernel_rfl
theorem ok91 (n : Nat) : CallOk Tryz.prog (RO Tryz.prog 27 35 [(s91, t91)] [] n).fn := (RO_sound Tryz.codeOk mixed fnames (fun p hp => by
    simp only [List.mem_cons, List.not_mem_nil, or_false] at hp
    subst hp; exact run91) (fun p hp => by
    cases hp) frun fpar n).1
set_option maxRecDepth 100000 in
theorem at91 : isT ((RO Tryz.prog 27 35 [(s91, t91)] [] 400).fn 4 [.slx [(.op .gtr .len 1048576, 0), (.op .rem .len 16, 11), (.op .rem (.op .quo .len 16) 8, 5)]] Hp.empty) = true := by kernel_rfl
theorem ok92 (n : Nat) : CallOk Tryz.prog (RO Tryz.prog 27 35 [(s92, t92)] [] n).fn := (RO_sound Tryz.codeOk mixed fnames (fun p hp => by
    simp only [List.mem_cons, List.not_mem_nil, or_false] at hp
    subst hp; exact run92) (fun p hp => by
    cases hp) frun fpar n).1
set_option maxRecDepth 100000 in
theorem at92 : isT ((RO Tryz.prog 27 35 [(s92, t92)] [] 400).fn 4 [.slx [(.op .gtr .len 1048576, 0), (.op .rem .len 16, 12), (.op .rem (.op .quo .len 16) 8, 5)]] Hp.empty) = true := by kernel_rfl
theorem ok93 (n : Nat) : CallOk Tryz.prog (RO Tryz.prog 27 35 [(s93, t93)] [] n).fn := (RO_sound Tryz.codeOk mixed fnames (fun p hp => by
    simp only [List.mem_cons, List.not_mem_nil, or_false] at hp
    subst hp; exact run93) (fun p hp => by
    cases hp) frun fpar n).1
set_option maxRecDepth 100000 in
theorem at93 : isT ((RO Tryz.prog 27 35 [(s93, t93)] [] 400).fn 4 [.slx [(.op .gtr .len 1048576, 0), (.op .rem .len 16, 13), (.op .rem (.op .quo .len 16) 8, 5)]] Hp.empty) = true := by kernel_rfl
theorem ok94 (n : Nat) : CallOk Tryz.prog (RO Tryz.prog 27 35 [(s94, t94)] [] n).fn := (RO_sound Tryz.codeOk mixed fnames (fun p hp => by
    simp only [List.mem_cons, List.not_mem_nil, or_false] at hp
    subst hp; exact run94) (fun p hp => by
    cases hp) frun fpar n).1
set_option maxRecDepth 100000 in
theorem at94 : isT ((RO Tryz.prog 27 35 [(s94, t94)] [] 400).fn 4 [.slx [(.op .gtr .len 1048576, 0), (.op .rem .len 16, 14), (.op .rem (.op .quo .len 16) 8, 5)]] Hp.empty) = true := by kernel_rfl
theorem ok95 (n : Nat) : CallOk Tryz.prog (RO Tryz.prog 27 35 [(s95, t95)] [] n).fn := (RO_sound Tryz.codeOk mixed fnames (fun p hp => by
    simp only [List.mem_cons, List.not_mem_nil, or_false] at hp
    subst hp; exact run95) (fun p hp => by
    cases hp) frun fpar n).1
set_option maxRecDepth 100000 in
theorem at95 : isT ((RO Tryz.prog 27 35 [(s95, t95)] [] 400).fn 4 [.slx [(.op .gtr .len 1048576, 0), (.op .rem .len 16, 15), (.op .rem (.op .quo .len 16) 8, 5)]] Hp.empty) = true := by kernel_rfl
theorem ok96 (n : Nat) : CallOk Tryz.prog (RO Tryz.prog 27 35 [(s96, t96)] [(s96, true)] n).fn := (RO_sound Tryz.codeOk mixed fnames (fun p hp => by
    simp only [List.mem_cons, List.not_mem_nil, or_false] at hp
    subst hp; exact run96) (fun p hp => by
    simp only [List.mem_cons, List.not_mem_nil, or_false] at hp
    subst hp; exact par96) frun fpar n).1
set_option maxRecDepth 100000 in
theorem at96 : isT ((RO Tryz.prog 27 35 [(s96, t96)] [(s96, true)] 400).fn 4 [.slx [(.op .gtr .len 1048576, 0), (.op .rem .len 16, 0), (.op .rem (.op .quo .len 16) 8, 6)]] Hp.empty) = true := by kernel_rfl
theorem ok97 (n : Nat) : CallOk Tryz.prog (RO Tryz.prog 27 35 [(s97, t97)] [(s97, true)] n).fn := (RO_sound Tryz.codeOk mixed fnames (fun p hp => by
    simp only [List.mem_cons, List.not_mem_nil, or_false] at hp
    subst hp; exact run97) (fun p hp => by
    simp only [List.mem_cons, List.not_mem_nil, or_false] at hp
    subst hp; exact par97) frun fpar n).1
set_option maxRecDepth 100000 in
theorem at97 : isT ((RO Tryz.prog 27 35 [(s97, t97)] [(s97, true)] 400).fn 4 [.slx [(.op .gtr .len 1048576, 0), (.op .rem .len 16, 1), (.op .rem (.op .quo .len 16) 8, 6)]] Hp.empty) = true := by kernel_rfl
theorem ok98 (n : Nat) : CallOk Tryz.prog (RO Tryz.prog 27 35 [(s98, t98)] [] n).fn := (RO_sound Tryz.codeOk mixed fnames (fun p hp => by
    simp only [List.mem_cons, List.not_mem_nil, or_false] at hp
    subst hp; exact run98) (fun p hp => by
    cases hp) frun fpar n).1
set_option maxRecDepth 100000 in
theorem at98 : isT ((RO Tryz.prog 27 35 [(s98, t98)] [] 400).fn 4 [.slx [(.op .gtr .len 1048576, 0), (.op .rem .len 16, 2), (.op .rem (.op .quo .len 16) 8, 6)]] Hp.empty) = true := by kernel_rfl
theorem ok99 (n : Nat) : CallOk Tryz.prog (RO Tryz.prog 27 35 [(s99, t99)] [] n).fn := (RO_sound Tryz.codeOk mixed fnames (fun p hp => by
    simp only [List.mem_cons, List.not_mem_nil, or_false] at hp
    subst hp; exact run99) (fun p hp => by
    cases hp) frun fpar n).1
set_option maxRecDepth 100000 in
theorem at99 : isT ((RO Tryz.prog 27 35 [(s99, t99)] [] 400).fn 4 [.slx [(.op .gtr .len 1048576, 0), (.op .rem .len 16, 3), (.op .rem (.op .quo .len 16) 8, 6)]] Hp.empty) = true := by kernel_rfl
theorem ok100 (n : Nat) : CallOk Tryz.prog (RO Tryz.prog 27 35 [(s100, t100)] [] n).fn := (RO_sound Tryz.codeOk mixed fnames (fun p hp => by
    simp only [List.mem_cons, List.not_mem_nil, or_false] at hp
    subst hp; exact run100) (fun p hp => by
    cases hp) frun fpar n).1
set_option maxRecDepth 100000 in
theorem at100 : isT ((RO Tryz.prog 27 35 [(s100, t100)] [] 400).fn 4 [.slx [(.op .gtr .len 1048576, 0), (.op .rem .len 16, 4), (.op .rem (.op .quo .len 16) 8, 6)]] Hp.empty) = true := by kernel_rfl
theorem ok101 (n : Nat) : CallOk Tryz.prog (RO Tryz.prog 27 35 [(s101, t101)] [] n).fn := (RO_sound Tryz.codeOk mixed fnames (fun p hp => by
    simp only [List.mem_cons, List.not_mem_nil, or_false] at hp
    subst hp; exact run101) (fun p hp => by
    cases hp) frun fpar n).1
set_option maxRecDepth 100000 in
theorem at101 : isT ((RO Tryz.prog 27 35 [(s101, t101)] [] 400).fn 4 [.slx [(.op .gtr .len 1048576, 0), (.op .rem .len 16, 5), (.op .rem (.op .quo .len 16) 8, 6)]] Hp.empty) = true := by kernel_rfl
theorem ok102 (n : Nat) : CallOk Tryz.prog (RO Tryz.prog 27 35 [(s102, t102)] [] n).fn := (RO_sound Tryz.codeOk mixed fnames (fun p hp => by
    simp only [List.mem_cons, List.not_mem_nil, or_false] at hp
    subst hp; exact run102) (fun p hp => by
    cases hp) frun fpar n).1
set_option maxRecDepth 100000 in
theorem at102 : isT ((RO Tryz.prog 27 35 [(s102, t102)] [] 400).fn 4 [.slx [(.op .gtr .len 1048576, 0), (.op .rem .len 16, 6), (.op .rem (.op .quo .len 16) 8, 6)]] Hp.empty) = true := by kernel_rfl
theorem ok103 (n : Nat) : CallOk Tryz.prog (RO Tryz.prog 27 35 [(s103, t103)] [] n).fn := (RO_sound Tryz.codeOk mixed fnames (fun p hp => by
    simp only [List.mem_cons, List.not_mem_nil, or_false] at hp
    subst hp; exact run103) (fun p hp => by
    cases hp) frun fpar n).1
set_option maxRecDepth 100000 in
theorem at103 : isT ((RO Tryz.prog 27 35 [(s103, t103)] [] 400).fn 4 [.slx [(.op .gtr .len 1048576, 0), (.op .rem .len 16, 7), (.op .rem (.op .quo .len 16) 8, 6)]] Hp.empty) = true := by kernel_rfl
theorem ok104 (n : Nat) : CallOk Tryz.prog (RO Tryz.prog 27 35 [(s104, t104)] [(s104, true)] n).fn := (RO_sound Tryz.codeOk mixed fnames (fun p hp => by
    simp only [List.mem_cons, List.not_mem_nil, or_false] at hp
    subst hp; exact run104) (fun p hp => by
    simp only [List.mem_cons, List.not_mem_nil, or_false] at hp
    subst hp; exact par104) frun fpar n).1
set_option maxRecDepth 100000 in
theorem at104 : isT ((RO Tryz.prog 27 35 [(s104, t104)] [(s104, true)] 400).fn 4 [.slx [(.op .gtr .len 1048576, 0), (.op .rem .len 16, 8), (.op .rem (.op .quo .len 16) 8, 6)]] Hp.empty) = true := by kernel_rfl
theorem ok105 (n : Nat) : CallOk Tryz.prog (RO Tryz.prog 27 35 [(s105, t105)] [(s105, true)] n).fn := (RO_sound Tryz.codeOk mixed fnames (fun p hp => by
    simp only [List.mem_cons, List.not_mem_nil, or_false] at hp
    subst hp; exact run105) (fun p hp => by
    simp only [List.mem_cons, List.not_mem_nil, or_false] at hp
    subst hp; exact par105) frun fpar n).1
set_option maxRecDepth 100000 in
theorem at105 : isT ((RO Tryz.prog 27 35 [(s105, t105)] [(s105, true)] 400).fn 4 [.slx [(.op .gtr .len 1048576, 0), (.op .rem .len 16, 9), (.op .rem (.op .quo .len 16) 8, 6)]] Hp.empty) = true := by kernel_rfl
theorem ok106 (n : Nat) : CallOk Tryz.prog (RO Tryz.prog 27 35 [(s106, t106)] [] n).fn := (RO_sound Tryz.codeOk mixed fnames (fun p hp => by
    simp only [List.mem_cons, List.not_mem_nil, or_false] at hp
    subst hp; exact run106) (fun p hp => by
    cases hp) frun fpar n).1
set_option maxRecDepth 100000 in
theorem at106 : isT ((RO Tryz.prog 27 35 [(s106, t106)] [] 400).fn 4 [.slx [(.op .gtr .len 1048576, 0), (.op .rem .len 16, 10), (.op .rem (.op .quo .len 16) 8, 6)]] Hp.empty) = true := by kernel_rfl
theorem ok107 (n : Nat) : CallOk Tryz.prog (RO Tryz.prog 27 35 [(s107, t107)] [] n).fn := (RO_sound Tryz.codeOk mixed fnames (fun p hp => by
    simp only [List.mem_cons, List.not_mem_nil, or_false] at hp
    subst hp; exact run107) (fun p hp => by
    cases hp) frun fpar n).1
set_option maxRecDepth 100000 in
theorem at107 : isT ((RO Tryz.prog 27 35 [(s107, t107)] [] 400).fn 4 [.slx [(.op .gtr .len 1048576, 0), (.op .rem .len 16, 11), (.op .rem (.op .quo .len 16) 8, 6)]] Hp.empty) = true := by kernel_rfl
theorem ok108 (n : Nat) : CallOk Tryz.prog (RO Tryz.prog 27 35 [(s108, t108)] [] n).fn := (RO_sound Tryz.codeOk mixed fnames (fun p hp => by
    simp only [List.mem_cons, List.not_mem_nil, or_false] at hp
    subst hp; exact run108) (fun p hp => by
    cases hp) frun fpar n).1
set_option maxRecDepth 100000 in
theorem at108 : isT ((RO Tryz.prog 27 35 [(s108, t108)] [] 400).fn 4 [.slx [(.op .gtr .len 1048576, 0), (.op .rem .len 16, 12), (.op .rem (.op .quo .len 16) 8, 6)]] Hp.empty) = true := by kernel_rfl
theorem ok109 (n : Nat) : CallOk Tryz.prog (RO Tryz.prog 27 35 [(s109, t109)] [] n).fn := (RO_sound Tryz.codeOk mixed fnames (fun p hp => by
    simp only [List.mem_cons, List.not_mem_nil, or_false] at hp
    subst hp; exact run109) (fun p hp => by
    cases hp) frun fpar n).1
set_option maxRecDepth 100000 in
theorem at109 : isT ((RO Tryz.prog 27 35 [(s109, t109)] [] 400).fn 4 [.slx [(.op .gtr .len 1048576, 0), (.op .rem .len 16, 13), (.op .rem (.op .quo .len 16) 8, 6)]] Hp.empty) = true := by kernel_rfl
theorem ok110 (n : Nat) : CallOk Tryz.prog (RO Tryz.prog 27 35 [(s110, t110)] [] n).fn := (RO_sound Tryz.codeOk mixed fnames (fun p hp => by
    simp only [List.mem_cons, List.not_mem_nil, or_false] at hp
    subst hp; exact run110) (fun p hp => by
    cases hp) frun fpar n).1
set_option maxRecDepth 100000 in
theorem at110 : isT ((RO Tryz.prog 27 35 [(s110, t110)] [] 400).fn 4 [.slx [(.op .gtr .len 1048576, 0), (.op .rem .len 16, 14), (.op .rem (.op .quo .len 16) 8, 6)]] Hp.empty) = true := by kernel_rfl
theorem ok111 (n : Nat) : CallOk Tryz.prog (RO Tryz.prog 27 35 [(s111, t111)] [] n).fn := (RO_sound Tryz.codeOk mixed fnames (fun p hp => by
    simp only [List.mem_cons, List.not_mem_nil, or_false] at hp
    subst hp; exact run111) (fun p hp => by
    cases hp) frun fpar n).1
set_option maxRecDepth 100000 in
theorem at111 : isT ((RO Tryz.prog 27 35 [(s111, t111)] [] 400).fn 4 [.slx [(.op .gtr .len 1048576, 0), (.op .rem .len 16, 15), (.op .rem (.op .quo .len 16) 8, 6)]] Hp.empty) = true := by kernel_rfl
theorem ok112 (n : Nat) : CallOk Tryz.prog (RO Tryz.prog 27 35 [(s112, t112)] [(s112, true)] n).fn := (RO_sound Tryz.codeOk mixed fnames (fun p hp => by
    simp only [List.mem_cons, List.not_mem_nil, or_false] at hp
    subst hp; exact run112) (fun p hp => by
    simp only [List.mem_cons, List.not_mem_nil, or_false] at hp
    subst hp; exact par112) frun fpar n).1
set_option maxRecDepth 100000 in
theorem at112 : isT ((RO Tryz.prog 27 35 [(s112, t112)] [(s112, true)] 400).fn 4 [.slx [(.op .gtr .len 1048576, 0), (.op .rem .len 16, 0), (.op .rem (.op .quo .len 16) 8, 7)]] Hp.empty) = true := by kernel_rfl
theorem ok113 (n : Nat) : CallOk Tryz.prog (RO Tryz.prog 27 35 [(s113, t113)] [] n).fn := (RO_sound Tryz.codeOk mixed fnames (fun p hp => by
    simp only [List.mem_cons, List.not_mem_nil, or_false] at hp
    subst hp; exact run113) (fun p hp => by
    cases hp) frun fpar n).1
set_option maxRecDepth 100000 in
theorem at113 : isT ((RO Tryz.prog 27 35 [(s113, t113)] [] 400).fn 4 [.slx [(.op .gtr .len 1048576, 0), (.op .rem .len 16, 1), (.op .rem (.op .quo .len 16) 8, 7)]] Hp.empty) = true := by kernel_rfl
theorem ok114 (n : Nat) : CallOk Tryz.prog (RO Tryz.prog 27 35 [(s114, t114)] [] n).fn := (RO_sound Tryz.codeOk mixed fnames (fun p hp => by
    simp only [List.mem_cons, List.not_mem_nil, or_false] at hp
    subst hp; exact run114) (fun p hp => by
    cases hp) frun fpar n).1
set_option maxRecDepth 100000 in
theorem at114 : isT ((RO Tryz.prog 27 35 [(s114, t114)] [] 400).fn 4 [.slx [(.op .gtr .len 1048576, 0), (.op .rem .len 16, 2), (.op .rem (.op .quo .len 16) 8, 7)]] Hp.empty) = true := by kernel_rfl
theorem ok115 (n : Nat) : CallOk Tryz.prog (RO Tryz.prog 27 35 [(s115, t115)] [] n).fn := (RO_sound Tryz.codeOk mixed fnames (fun p hp => by
    simp only [List.mem_cons, List.not_mem_nil, or_false] at hp
    subst hp; exact run115) (fun p hp => by
    cases hp) frun fpar n).1
set_option maxRecDepth 100000 in
theorem at115 : isT ((RO Tryz.prog 27 35 [(s115, t115)] [] 400).fn 4 [.slx [(.op .gtr .len 1048576, 0), (.op .rem .len 16, 3), (.op .rem (.op .quo .len 16) 8, 7)]] Hp.empty) = true := by kernel_rfl
theorem ok116 (n : Nat) : CallOk Tryz.prog (RO Tryz.prog 27 35 [(s116, t116)] [] n).fn := (RO_sound Tryz.codeOk mixed fnames (fun p hp => by
    simp only [List.mem_cons, List.not_mem_nil, or_false] at hp
    subst hp; exact run116) (fun p hp => by
    cases hp) frun fpar n).1
set_option maxRecDepth 100000 in
theorem at116 : isT ((RO Tryz.prog 27 35 [(s116, t116)] [] 400).fn 4 [.slx [(.op .gtr .len 1048576, 0), (.op .rem .len 16, 4), (.op .rem (.op .quo .len 16) 8, 7)]] Hp.empty) = true := by kernel_rfl
theorem ok117 (n : Nat) : CallOk Tryz.prog (RO Tryz.prog 27 35 [(s117, t117)] [] n).fn := (RO_sound Tryz.codeOk mixed fnames (fun p hp => by
    simp only [List.mem_cons, List.not_mem_nil, or_false] at hp
    subst hp; exact run117) (fun p hp => by
    cases hp) frun fpar n).1
set_option maxRecDepth 100000 in
theorem at117 : isT ((RO Tryz.prog 27 35 [(s117, t117)] [] 400).fn 4 [.slx [(.op .gtr .len 1048576, 0), (.op .rem .len 16, 5), (.op .rem (.op .quo .len 16) 8, 7)]] Hp.empty) = true := by kernel_rfl
theorem ok118 (n : Nat) : CallOk Tryz.prog (RO Tryz.prog 27 35 [(s118, t118)] [] n).fn := (RO_sound Tryz.codeOk mixed fnames (fun p hp => by
    simp only [List.mem_cons, List.not_mem_nil, or_false] at hp
    subst hp; exact run118) (fun p hp => by
    cases hp) frun fpar n).1
set_option maxRecDepth 100000 in
theorem at118 : isT ((RO Tryz.prog 27 35 [(s118, t118)] [] 400).fn 4 [.slx [(.op .gtr .len 1048576, 0), (.op .rem .len 16, 6), (.op .rem (.op .quo .len 16) 8, 7)]] Hp.empty) = true := by kernel_rfl
theorem ok119 (n : Nat) : CallOk Tryz.prog (RO Tryz.prog 27 35 [(s119, t119)] [] n).fn := (RO_sound Tryz.codeOk mixed fnames (fun p hp => by
    simp only [List.mem_cons, List.not_mem_nil, or_false] at hp
    subst hp; exact run119) (fun p hp => by
    cases hp) frun fpar n).1
set_option maxRecDepth 100000 in
theorem at119 : isT ((RO Tryz.prog 27 35 [(s119, t119)] [] 400).fn 4 [.slx [(.op .gtr .len 1048576, 0), (.op .rem .len 16, 7), (.op .rem (.op .quo .len 16) 8, 7)]] Hp.empty) = true := by kernel_rfl
theorem ok120 (n : Nat) : CallOk Tryz.prog (RO Tryz.prog 27 35 [(s120, t120)] [(s120, true)] n).fn := (RO_sound Tryz.codeOk mixed fnames (fun p hp => by
    simp only [List.mem_cons, List.not_mem_nil, or_false] at hp
    subst hp; exact run120) (fun p hp => by
    simp only [List.mem_cons, List.not_mem_nil, or_false] at hp
    subst hp; exact par120) frun fpar n).1
set_option maxRecDepth 100000 in
theorem at120 : isT ((RO Tryz.prog 27 35 [(s120, t120)] [(s120, true)] 400).fn 4 [.slx [(.op .gtr .len 1048576, 0), (.op .rem .len 16, 8), (.op .rem (.op .quo .len 16) 8, 7)]] Hp.empty) = true := by kernel_rfl
theorem ok121 (n : Nat) : CallOk Tryz.prog (RO Tryz.prog 27 35 [(s121, t121)] [] n).fn := (RO_sound Tryz.codeOk mixed fnames (fun p hp => by
    simp only [List.mem_cons, List.not_mem_nil, or_false] at hp
    subst hp; exact run121) (fun p hp => by
    cases hp) frun fpar n).1
set_option maxRecDepth 100000 in
theorem at121 : isT ((RO Tryz.prog 27 35 [(s121, t121)] [] 400).fn 4 [.slx [(.op .gtr .len 1048576, 0), (.op .rem .len 16, 9), (.op .rem (.op .quo .len 16) 8, 7)]] Hp.empty) = true := by kernel_rfl
theorem ok122 (n : Nat) : CallOk Tryz.prog (RO Tryz.prog 27 35 [(s122, t122)] [] n).fn := (RO_sound Tryz.codeOk mixed fnames (fun p hp => by
    simp only [List.mem_cons, List.not_mem_nil, or_false] at hp
    subst hp; exact run122) (fun p hp => by
    cases hp) frun fpar n).1
set_option maxRecDepth 100000 in
theorem at122 : isT ((RO Tryz.prog 27 35 [(s122, t122)] [] 400).fn 4 [.slx [(.op .gtr .len 1048576, 0), (.op .rem .len 16, 10), (.op .rem (.op .quo .len 16) 8, 7)]] Hp.empty) = true := by kernel_rfl
theorem ok123 (n : Nat) : CallOk Tryz.prog (RO Tryz.prog 27 35 [(s123, t123)] [] n).fn := (RO_sound Tryz.codeOk mixed fnames (fun p hp => by
    simp only [List.mem_cons, List.not_mem_nil, or_false] at hp
    subst hp; exact run123) (fun p hp => by
    cases hp) frun fpar n).1
set_option maxRecDepth 100000 in
theorem at123 : isT ((RO Tryz.prog 27 35 [(s123, t123)] [] 400).fn 4 [.slx [(.op .gtr .len 1048576, 0), (.op .rem .len 16, 11), (.op .rem (.op .quo .len 16) 8, 7)]] Hp.empty) = true := by kernel_rfl
theorem ok124 (n : Nat) : CallOk Tryz.prog (RO Tryz.prog 27 35 [(s124, t124)] [] n).fn := (RO_sound Tryz.codeOk mixed fnames (fun p hp => by
    simp only [List.mem_cons, List.not_mem_nil, or_false] at hp
    subst hp; exact run124) (fun p hp => by
    cases hp) frun fpar n).1
set_option maxRecDepth 100000 in
theorem at124 : isT ((RO Tryz.prog 27 35 [(s124, t124)] [] 400).fn 4 [.slx [(.op .gtr .len 1048576, 0), (.op .rem .len 16, 12), (.op .rem (.op .quo .len 16) 8, 7)]] Hp.empty) = true := by kernel_rfl
theorem ok125 (n : Nat) : CallOk Tryz.prog (RO Tryz.prog 27 35 [(s125, t125)] [] n).fn := (RO_sound Tryz.codeOk mixed fnames (fun p hp => by
    simp only [List.mem_cons, List.not_mem_nil, or_false] at hp
    subst hp; exact run125) (fun p hp => by
    cases hp) frun fpar n).1
set_option maxRecDepth 100000 in
theorem at125 : isT ((RO Tryz.prog 27 35 [(s125, t125)] [] 400).fn 4 [.slx [(.op .gtr .len 1048576, 0), (.op .rem .len 16, 13), (.op .rem (.op .quo .len 16) 8, 7)]] Hp.empty) = true := by kernel_rfl
theorem ok126 (n : Nat) : CallOk Tryz.prog (RO Tryz.prog 27 35 [(s126, t126)] [] n).fn := (RO_sound Tryz.codeOk mixed fnames (fun p hp => by
    simp only [List.mem_cons, List.not_mem_nil, or_false] at hp
    subst hp; exact run126) (fun p hp => by
    cases hp) frun fpar n).1
set_option maxRecDepth 100000 in
theorem at126 : isT ((RO Tryz.prog 27 35 [(s126, t126)] [] 400).fn 4 [.slx [(.op .gtr .len 1048576, 0), (.op .rem .len 16, 14), (.op .rem (.op .quo .len 16) 8, 7)]] Hp.empty) = true := by kernel_rfl
theorem ok127 (n : Nat) : CallOk Tryz.prog (RO Tryz.prog 27 35 [(s127, t127)] [] n).fn := (RO_sound Tryz.codeOk mixed fnames (fun p hp => by
    simp only [List.mem_cons, List.not_mem_nil, or_false] at hp
    subst hp; exact run127) (fun p hp => by
    cases hp) frun fpar n).1
set_option maxRecDepth 100000 in
theorem at127 : isT ((RO Tryz.prog 27 35 [(s127, t127)] [] 400).fn 4 [.slx [(.op .gtr .len 1048576, 0), (.op .rem .len 16, 15), (.op .rem (.op .quo .len 16) 8, 7)]] Hp.empty) = true := by kernel_rfl
set_option maxRecDepth 100000 in
theorem atBig : isT ((RR Tryz.prog 400).fn 4 [.slx [(.op .gtr .len 1048576, 1)]] Hp.empty) = true := by kernel_rfl
theorem len_quo {L j k r : Nat} (hL : ¬ 1048576 < L) (hj : 1 ≤ j) (h : L / j % k = r) : evalE L (.op .rem (.op .quo .len j) k) = some (r : Int) := by
  simp only [evalE, Eng.evalOp, Option.bind_some, Option.some.injEq]
  rw [Go.IntWalk.i64_quo _ _ (by omega), Int.tmod_eq_emod_of_nonneg (Int.ediv_nonneg (by omega) (by omega)), ← h]
  rfl
theorem walk (A : Option Addr) (L cap : Nat) {w : World} : Calls Tryz.prog 4 #[.slice A L cap] w fun e w' => e = .returned (.bool true) ∧ Below w.heap.size w w' := by
  by_cases hb : 1048576 < L
  · exact law_at (sound 400) atBig (fun p hp => by simp only [List.mem_cons, List.not_mem_nil, or_false] at hp; subst hp; exact len_big hb) A cap w
  · have h0 := len_small hb
    have hq : L / 16 % 8 = 0 ∨ L / 16 % 8 = 1 ∨ L / 16 % 8 = 2 ∨ L / 16 % 8 = 3 ∨ L / 16 % 8 = 4 ∨ L / 16 % 8 = 5 ∨ L / 16 % 8 = 6 ∨ L / 16 % 8 = 7 := by omega
    have hp : L % 16 = 0 ∨ L % 16 = 1 ∨ L % 16 = 2 ∨ L % 16 = 3 ∨ L % 16 = 4 ∨ L % 16 = 5 ∨ L % 16 = 6 ∨ L % 16 = 7 ∨ L % 16 = 8 ∨ L % 16 = 9 ∨ L % 16 = 10 ∨ L % 16 = 11 ∨ L % 16 = 12 ∨ L % 16 = 13 ∨ L % 16 = 14 ∨ L % 16 = 15 := by omega
    rcases hq with g | g | g | g | g | g | g | g <;> rcases hp with f | f | f | f | f | f | f | f | f | f | f | f | f | f | f | f <;> have h := And.intro f g
    · exact law_at (ok0 400) at0 (fun p hp => by simp only [List.mem_cons, List.not_mem_nil, or_false] at hp; rcases hp with rfl | rfl | rfl <;> first | exact h0 | exact len_rem h.1 | exact len_quo hb (by decide) h.2) A cap w
    · exact law_at (ok1 400) at1 (fun p hp => by simp only [List.mem_cons, List.not_mem_nil, or_false] at hp; rcases hp with rfl | rfl | rfl <;> first | exact h0 | exact len_rem h.1 | exact len_quo hb (by decide) h.2) A cap w
    · exact law_at (ok2 400) at2 (fun p hp => by simp only [List.mem_cons, List.not_mem_nil, or_false] at hp; rcases hp with rfl | rfl | rfl <;> first | exact h0 | exact len_rem h.1 | exact len_quo hb (by decide) h.2) A cap w
    · exact law_at (ok3 400) at3 (fun p hp => by simp only [List.mem_cons, List.not_mem_nil, or_false] at hp; rcases hp with rfl | rfl | rfl <;> first | exact h0 | exact len_rem h.1 | exact len_quo hb (by decide) h.2) A cap w
    · exact law_at (ok4 400) at4 (fun p hp => by simp only [List.mem_cons, List.not_mem_nil, or_false] at hp; rcases hp with rfl | rfl | rfl <;> first | exact h0 | exact len_rem h.1 | exact len_quo hb (by decide) h.2) A cap w
    · exact law_at (ok5 400) at5 (fun p hp => by simp only [List.mem_cons, List.not_mem_nil, or_false] at hp; rcases hp with rfl | rfl | rfl <;> first | exact h0 | exact len_rem h.1 | exact len_quo hb (by decide) h.2) A cap w
    · exact law_at (ok6 400) at6 (fun p hp => by simp only [List.mem_cons, List.not_mem_nil, or_false] at hp; rcases hp with rfl | rfl | rfl <;> first | exact h0 | exact len_rem h.1 | exact len_quo hb (by decide) h.2) A cap w
    · exact law_at (ok7 400) at7 (fun p hp => by simp only [List.mem_cons, List.not_mem_nil, or_false] at hp; rcases hp with rfl | rfl | rfl <;> first | exact h0 | exact len_rem h.1 | exact len_quo hb (by decide) h.2) A cap w
    · exact law_at (ok8 400) at8 (fun p hp => by simp only [List.mem_cons, List.not_mem_nil, or_false] at hp; rcases hp with rfl | rfl | rfl <;> first | exact h0 | exact len_rem h.1 | exact len_quo hb (by decide) h.2) A cap w
    · exact law_at (ok9 400) at9 (fun p hp => by simp only [List.mem_cons, List.not_mem_nil, or_false] at hp; rcases hp with rfl | rfl | rfl <;> first | exact h0 | exact len_rem h.1 | exact len_quo hb (by decide) h.2) A cap w
    · exact law_at (ok10 400) at10 (fun p hp => by simp only [List.mem_cons, List.not_mem_nil, or_false] at hp; rcases hp with rfl | rfl | rfl <;> first | exact h0 | exact len_rem h.1 | exact len_quo hb (by decide) h.2) A cap w
    · exact law_at (ok11 400) at11 (fun p hp => by simp only [List.mem_cons, List.not_mem_nil, or_false] at hp; rcases hp with rfl | rfl | rfl <;> first | exact h0 | exact len_rem h.1 | exact len_quo hb (by decide) h.2) A cap w
    · exact law_at (ok12 400) at12 (fun p hp => by simp only [List.mem_cons, List.not_mem_nil, or_false] at hp; rcases hp with rfl | rfl | rfl <;> first | exact h0 | exact len_rem h.1 | exact len_quo hb (by decide) h.2) A cap w
    · exact law_at (ok13 400) at13 (fun p hp => by simp only [List.mem_cons, List.not_mem_nil, or_false] at hp; rcases hp with rfl | rfl | rfl <;> first | exact h0 | exact len_rem h.1 | exact len_quo hb (by decide) h.2) A cap w
    · exact law_at (ok14 400) at14 (fun p hp => by simp only [List.mem_cons, List.not_mem_nil, or_false] at hp; rcases hp with rfl | rfl | rfl <;> first | exact h0 | exact len_rem h.1 | exact len_quo hb (by decide) h.2) A cap w
    · exact law_at (ok15 400) at15 (fun p hp => by simp only [List.mem_cons, List.not_mem_nil, or_false] at hp; rcases hp with rfl | rfl | rfl <;> first | exact h0 | exact len_rem h.1 | exact len_quo hb (by decide) h.2) A cap w
    · exact law_at (ok16 400) at16 (fun p hp => by simp only [List.mem_cons, List.not_mem_nil, or_false] at hp; rcases hp with rfl | rfl | rfl <;> first | exact h0 | exact len_rem h.1 | exact len_quo hb (by decide) h.2) A cap w
    · exact law_at (ok17 400) at17 (fun p hp => by simp only [List.mem_cons, List.not_mem_nil, or_false] at hp; rcases hp with rfl | rfl | rfl <;> first | exact h0 | exact len_rem h.1 | exact len_quo hb (by decide) h.2) A cap w
    · exact law_at (ok18 400) at18 (fun p hp => by simp only [List.mem_cons, List.not_mem_nil, or_false] at hp; rcases hp with rfl | rfl | rfl <;> first | exact h0 | exact len_rem h.1 | exact len_quo hb (by decide) h.2) A cap w
    · exact law_at (ok19 400) at19 (fun p hp => by simp only [List.mem_cons, List.not_mem_nil, or_false] at hp; rcases hp with rfl | rfl | rfl <;> first | exact h0 | exact len_rem h.1 | exact len_quo hb (by decide) h.2) A cap w
    · exact law_at (ok20 400) at20 (fun p hp => by simp only [List.mem_cons, List.not_mem_nil, or_false] at hp; rcases hp with rfl | rfl | rfl <;> first | exact h0 | exact len_rem h.1 | exact len_quo hb (by decide) h.2) A cap w
    · exact law_at (ok21 400) at21 (fun p hp => by simp only [List.mem_cons, List.not_mem_nil, or_false] at hp; rcases hp with rfl | rfl | rfl <;> first | exact h0 | exact len_rem h.1 | exact len_quo hb (by decide) h.2) A cap w
    · exact law_at (ok22 400) at22 (fun p hp => by simp only [List.mem_cons, List.not_mem_nil, or_false] at hp; rcases hp with rfl | rfl | rfl <;> first | exact h0 | exact len_rem h.1 | exact len_quo hb (by decide) h.2) A cap w
    · exact law_at (ok23 400) at23 (fun p hp => by simp only [List.mem_cons, List.not_mem_nil, or_false] at hp; rcases hp with rfl | rfl | rfl <;> first | exact h0 | exact len_rem h.1 | exact len_quo hb (by decide) h.2) A cap w
    · exact law_at (ok24 400) at24 (fun p hp => by simp only [List.mem_cons, List.not_mem_nil, or_false] at hp; rcases hp with rfl | rfl | rfl <;> first | exact h0 | exact len_rem h.1 | exact len_quo hb (by decide) h.2) A cap w
    · exact law_at (ok25 400) at25 (fun p hp => by simp only [List.mem_cons, List.not_mem_nil, or_false] at hp; rcases hp with rfl | rfl | rfl <;> first | exact h0 | exact len_rem h.1 | exact len_quo hb (by decide) h.2) A cap w
    · exact law_at (ok26 400) at26 (fun p hp => by simp only [List.mem_cons, List.not_mem_nil, or_false] at hp; rcases hp with rfl | rfl | rfl <;> first | exact h0 | exact len_rem h.1 | exact len_quo hb (by decide) h.2) A cap w
    · exact law_at (ok27 400) at27 (fun p hp => by simp only [List.mem_cons, List.not_mem_nil, or_false] at hp; rcases hp with rfl | rfl | rfl <;> first | exact h0 | exact len_rem h.1 | exact len_quo hb (by decide) h.2) A cap w
    · exact law_at (ok28 400) at28 (fun p hp => by simp only [List.mem_cons, List.not_mem_nil, or_false] at hp; rcases hp with rfl | rfl | rfl <;> first | exact h0 | exact len_rem h.1 | exact len_quo hb (by decide) h.2) A cap w
    · exact law_at (ok29 400) at29 (fun p hp => by simp only [List.mem_cons, List.not_mem_nil, or_false] at hp; rcases hp with rfl | rfl | rfl <;> first | exact h0 | exact len_rem h.1 | exact len_quo hb (by decide) h.2) A cap w
    · exact law_at (ok30 400) at30 (fun p hp => by simp only [List.mem_cons, List.not_mem_nil, or_false] at hp; rcases hp with rfl | rfl | rfl <;> first | exact h0 | exact len_rem h.1 | exact len_quo hb (by decide) h.2) A cap w
    · exact law_at (ok31 400) at31 (fun p hp => by simp only [List.mem_cons, List.not_mem_nil, or_false] at hp; rcases hp with rfl | rfl | rfl <;> first | exact h0 | exact len_rem h.1 | exact len_quo hb (by decide) h.2) A cap w
    · exact law_at (ok32 400) at32 (fun p hp => by simp only [List.mem_cons, List.not_mem_nil, or_false] at hp; rcases hp with rfl | rfl | rfl <;> first | exact h0 | exact len_rem h.1 | exact len_quo hb (by decide) h.2) A cap w
    · exact law_at (ok33 400) at33 (fun p hp => by simp only [List.mem_cons, List.not_mem_nil, or_false] at hp; rcases hp with rfl | rfl | rfl <;> first | exact h0 | exact len_rem h.1 | exact len_quo hb (by decide) h.2) A cap w
    · exact law_at (ok34 400) at34 (fun p hp => by simp only [List.mem_cons, List.not_mem_nil, or_false] at hp; rcases hp with rfl | rfl | rfl <;> first | exact h0 | exact len_rem h.1 | exact len_quo hb (by decide) h.2) A cap w
    · exact law_at (ok35 400) at35 (fun p hp => by simp only [List.mem_cons, List.not_mem_nil, or_false] at hp; rcases hp with rfl | rfl | rfl <;> first | exact h0 | exact len_rem h.1 | exact len_quo hb (by decide) h.2) A cap w
    · exact law_at (ok36 400) at36 (fun p hp => by simp only [List.mem_cons, List.not_mem_nil, or_false] at hp; rcases hp with rfl | rfl | rfl <;> first | exact h0 | exact len_rem h.1 | exact len_quo hb (by decide) h.2) A cap w
    · exact law_at (ok37 400) at37 (fun p hp => by simp only [List.mem_cons, List.not_mem_nil, or_false] at hp; rcases hp with rfl | rfl | rfl <;> first | exact h0 | exact len_rem h.1 | exact len_quo hb (by decide) h.2) A cap w
    · exact law_at (ok38 400) at38 (fun p hp => by simp only [List.mem_cons, List.not_mem_nil, or_false] at hp; rcases hp with rfl | rfl | rfl <;> first | exact h0 | exact len_rem h.1 | exact len_quo hb (by decide) h.2) A cap w
    · exact law_at (ok39 400) at39 (fun p hp => by simp only [List.mem_cons, List.not_mem_nil, or_false] at hp; rcases hp with rfl | rfl | rfl <;> first | exact h0 | exact len_rem h.1 | exact len_quo hb (by decide) h.2) A cap w
    · exact law_at (ok40 400) at40 (fun p hp => by simp only [List.mem_cons, List.not_mem_nil, or_false] at hp; rcases hp with rfl | rfl | rfl <;> first | exact h0 | exact len_rem h.1 | exact len_quo hb (by decide) h.2) A cap w
    · exact law_at (ok41 400) at41 (fun p hp => by simp only [List.mem_cons, List.not_mem_nil, or_false] at hp; rcases hp with rfl | rfl | rfl <;> first | exact h0 | exact len_rem h.1 | exact len_quo hb (by decide) h.2) A cap w
    · exact law_at (ok42 400) at42 (fun p hp => by simp only [List.mem_cons, List.not_mem_nil, or_false] at hp; rcases hp with rfl | rfl | rfl <;> first | exact h0 | exact len_rem h.1 | exact len_quo hb (by decide) h.2) A cap w
    · exact law_at (ok43 400) at43 (fun p hp => by simp only [List.mem_cons, List.not_mem_nil, or_false] at hp; rcases hp with rfl | rfl | rfl <;> first | exact h0 | exact len_rem h.1 | exact len_quo hb (by decide) h.2) A cap w
    · exact law_at (ok44 400) at44 (fun p hp => by simp only [List.mem_cons, List.not_mem_nil, or_false] at hp; rcases hp with rfl | rfl | rfl <;> first | exact h0 | exact len_rem h.1 | exact len_quo hb (by decide) h.2) A cap w
    · exact law_at (ok45 400) at45 (fun p hp => by simp only [List.mem_cons, List.not_mem_nil, or_false] at hp; rcases hp with rfl | rfl | rfl <;> first | exact h0 | exact len_rem h.1 | exact len_quo hb (by decide) h.2) A cap w
    · exact law_at (ok46 400) at46 (fun p hp => by simp only [List.mem_cons, List.not_mem_nil, or_false] at hp; rcases hp with rfl | rfl | rfl <;> first | exact h0 | exact len_rem h.1 | exact len_quo hb (by decide) h.2) A cap w
    · exact law_at (ok47 400) at47 (fun p hp => by simp only [List.mem_cons, List.not_mem_nil, or_false] at hp; rcases hp with rfl | rfl | rfl <;> first | exact h0 | exact len_rem h.1 | exact len_quo hb (by decide) h.2) A cap w
    · exact law_at (ok48 400) at48 (fun p hp => by simp only [List.mem_cons, List.not_mem_nil, or_false] at hp; rcases hp with rfl | rfl | rfl <;> first | exact h0 | exact len_rem h.1 | exact len_quo hb (by decide) h.2) A cap w
    · exact law_at (ok49 400) at49 (fun p hp => by simp only [List.mem_cons, List.not_mem_nil, or_false] at hp; rcases hp with rfl | rfl | rfl <;> first | exact h0 | exact len_rem h.1 | exact len_quo hb (by decide) h.2) A cap w
    · exact law_at (ok50 400) at50 (fun p hp => by simp only [List.mem_cons, List.not_mem_nil, or_false] at hp; rcases hp with rfl | rfl | rfl <;> first | exact h0 | exact len_rem h.1 | exact len_quo hb (by decide) h.2) A cap w
    · exact law_at (ok51 400) at51 (fun p hp => by simp only [List.mem_cons, List.not_mem_nil, or_false] at hp; rcases hp with rfl | rfl | rfl <;> first | exact h0 | exact len_rem h.1 | exact len_quo hb (by decide) h.2) A cap w
    · exact law_at (ok52 400) at52 (fun p hp => by simp only [List.mem_cons, List.not_mem_nil, or_false] at hp; rcases hp with rfl | rfl | rfl <;> first | exact h0 | exact len_rem h.1 | exact len_quo hb (by decide) h.2) A cap w
    · exact law_at (ok53 400) at53 (fun p hp => by simp only [List.mem_cons, List.not_mem_nil, or_false] at hp; rcases hp with rfl | rfl | rfl <;> first | exact h0 | exact len_rem h.1 | exact len_quo hb (by decide) h.2) A cap w
    · exact law_at (ok54 400) at54 (fun p hp => by simp only [List.mem_cons, List.not_mem_nil, or_false] at hp; rcases hp with rfl | rfl | rfl <;> first | exact h0 | exact len_rem h.1 | exact len_quo hb (by decide) h.2) A cap w
    · exact law_at (ok55 400) at55 (fun p hp => by simp only [List.mem_cons, List.not_mem_nil, or_false] at hp; rcases hp with rfl | rfl | rfl <;> first | exact h0 | exact len_rem h.1 | exact len_quo hb (by decide) h.2) A cap w
    · exact law_at (ok56 400) at56 (fun p hp => by simp only [List.mem_cons, List.not_mem_nil, or_false] at hp; rcases hp with rfl | rfl | rfl <;> first | exact h0 | exact len_rem h.1 | exact len_quo hb (by decide) h.2) A cap w
    · exact law_at (ok57 400) at57 (fun p hp => by simp only [List.mem_cons, List.not_mem_nil, or_false] at hp; rcases hp with rfl | rfl | rfl <;> first | exact h0 | exact len_rem h.1 | exact len_quo hb (by decide) h.2) A cap w
    · exact law_at (ok58 400) at58 (fun p hp => by simp only [List.mem_cons, List.not_mem_nil, or_false] at hp; rcases hp with rfl | rfl | rfl <;> first | exact h0 | exact len_rem h.1 | exact len_quo hb (by decide) h.2) A cap w
    · exact law_at (ok59 400) at59 (fun p hp => by simp only [List.mem_cons, List.not_mem_nil, or_false] at hp; rcases hp with rfl | rfl | rfl <;> first | exact h0 | exact len_rem h.1 | exact len_quo hb (by decide) h.2) A cap w
    · exact law_at (ok60 400) at60 (fun p hp => by simp only [List.mem_cons, List.not_mem_nil, or_false] at hp; rcases hp with rfl | rfl | rfl <;> first | exact h0 | exact len_rem h.1 | exact len_quo hb (by decide) h.2) A cap w
    · exact law_at (ok61 400) at61 (fun p hp => by simp only [List.mem_cons, List.not_mem_nil, or_false] at hp; rcases hp with rfl | rfl | rfl <;> first | exact h0 | exact len_rem h.1 | exact len_quo hb (by decide) h.2) A cap w
    · exact law_at (ok62 400) at62 (fun p hp => by simp only [List.mem_cons, List.not_mem_nil, or_false] at hp; rcases hp with rfl | rfl | rfl <;> first | exact h0 | exact len_rem h.1 | exact len_quo hb (by decide) h.2) A cap w
    · exact law_at (ok63 400) at63 (fun p hp => by simp only [List.mem_cons, List.not_mem_nil, or_false] at hp; rcases hp with rfl | rfl | rfl <;> first | exact h0 | exact len_rem h.1 | exact len_quo hb (by decide) h.2) A cap w
    · exact law_at (ok64 400) at64 (fun p hp => by simp only [List.mem_cons, List.not_mem_nil, or_false] at hp; rcases hp with rfl | rfl | rfl <;> first | exact h0 | exact len_rem h.1 | exact len_quo hb (by decide) h.2) A cap w
    · exact law_at (ok65 400) at65 (fun p hp => by simp only [List.mem_cons, List.not_mem_nil, or_false] at hp; rcases hp with rfl | rfl | rfl <;> first | exact h0 | exact len_rem h.1 | exact len_quo hb (by decide) h.2) A cap w
    · exact law_at (ok66 400) at66 (fun p hp => by simp only [List.mem_cons, List.not_mem_nil, or_false] at hp; rcases hp with rfl | rfl | rfl <;> first | exact h0 | exact len_rem h.1 | exact len_quo hb (by decide) h.2) A cap w
    · exact law_at (ok67 400) at67 (fun p hp => by simp only [List.mem_cons, List.not_mem_nil, or_false] at hp; rcases hp with rfl | rfl | rfl <;> first | exact h0 | exact len_rem h.1 | exact len_quo hb (by decide) h.2) A cap w
    · exact law_at (ok68 400) at68 (fun p hp => by simp only [List.mem_cons, List.not_mem_nil, or_false] at hp; rcases hp with rfl | rfl | rfl <;> first | exact h0 | exact len_rem h.1 | exact len_quo hb (by decide) h.2) A cap w
    · exact law_at (ok69 400) at69 (fun p hp => by simp only [List.mem_cons, List.not_mem_nil, or_false] at hp; rcases hp with rfl | rfl | rfl <;> first | exact h0 | exact len_rem h.1 | exact len_quo hb (by decide) h.2) A cap w
    · exact law_at (ok70 400) at70 (fun p hp => by simp only [List.mem_cons, List.not_mem_nil, or_false] at hp; rcases hp with rfl | rfl | rfl <;> first | exact h0 | exact len_rem h.1 | exact len_quo hb (by decide) h.2) A cap w
    · exact law_at (ok71 400) at71 (fun p hp => by simp only [List.mem_cons, List.not_mem_nil, or_false] at hp; rcases hp with rfl | rfl | rfl <;> first | exact h0 | exact len_rem h.1 | exact len_quo hb (by decide) h.2) A cap w
    · exact law_at (ok72 400) at72 (fun p hp => by simp only [List.mem_cons, List.not_mem_nil, or_false] at hp; rcases hp with rfl | rfl | rfl <;> first | exact h0 | exact len_rem h.1 | exact len_quo hb (by decide) h.2) A cap w
    · exact law_at (ok73 400) at73 (fun p hp => by simp only [List.mem_cons, List.not_mem_nil, or_false] at hp; rcases hp with rfl | rfl | rfl <;> first | exact h0 | exact len_rem h.1 | exact len_quo hb (by decide) h.2) A cap w
    · exact law_at (ok74 400) at74 (fun p hp => by simp only [List.mem_cons, List.not_mem_nil, or_false] at hp; rcases hp with rfl | rfl | rfl <;> first | exact h0 | exact len_rem h.1 | exact len_quo hb (by decide) h.2) A cap w
    · exact law_at (ok75 400) at75 (fun p hp => by simp only [List.mem_cons, List.not_mem_nil, or_false] at hp; rcases hp with rfl | rfl | rfl <;> first | exact h0 | exact len_rem h.1 | exact len_quo hb (by decide) h.2) A cap w
    · exact law_at (ok76 400) at76 (fun p hp => by simp only [List.mem_cons, List.not_mem_nil, or_false] at hp; rcases hp with rfl | rfl | rfl <;> first | exact h0 | exact len_rem h.1 | exact len_quo hb (by decide) h.2) A cap w
    · exact law_at (ok77 400) at77 (fun p hp => by simp only [List.mem_cons, List.not_mem_nil, or_false] at hp; rcases hp with rfl | rfl | rfl <;> first | exact h0 | exact len_rem h.1 | exact len_quo hb (by decide) h.2) A cap w
    · exact law_at (ok78 400) at78 (fun p hp => by simp only [List.mem_cons, List.not_mem_nil, or_false] at hp; rcases hp with rfl | rfl | rfl <;> first | exact h0 | exact len_rem h.1 | exact len_quo hb (by decide) h.2) A cap w
    · exact law_at (ok79 400) at79 (fun p hp => by simp only [List.mem_cons, List.not_mem_nil, or_false] at hp; rcases hp with rfl | rfl | rfl <;> first | exact h0 | exact len_rem h.1 | exact len_quo hb (by decide) h.2) A cap w
    · exact law_at (ok80 400) at80 (fun p hp => by simp only [List.mem_cons, List.not_mem_nil, or_false] at hp; rcases hp with rfl | rfl | rfl <;> first | exact h0 | exact len_rem h.1 | exact len_quo hb (by decide) h.2) A cap w
    · exact law_at (ok81 400) at81 (fun p hp => by simp only [List.mem_cons, List.not_mem_nil, or_false] at hp; rcases hp with rfl | rfl | rfl <;> first | exact h0 | exact len_rem h.1 | exact len_quo hb (by decide) h.2) A cap w
    · exact law_at (ok82 400) at82 (fun p hp => by simp only [List.mem_cons, List.not_mem_nil, or_false] at hp; rcases hp with rfl | rfl | rfl <;> first | exact h0 | exact len_rem h.1 | exact len_quo hb (by decide) h.2) A cap w
    · exact law_at (ok83 400) at83 (fun p hp => by simp only [List.mem_cons, List.not_mem_nil, or_false] at hp; rcases hp with rfl | rfl | rfl <;> first | exact h0 | exact len_rem h.1 | exact len_quo hb (by decide) h.2) A cap w
    · exact law_at (ok84 400) at84 (fun p hp => by simp only [List.mem_cons, List.not_mem_nil, or_false] at hp; rcases hp with rfl | rfl | rfl <;> first | exact h0 | exact len_rem h.1 | exact len_quo hb (by decide) h.2) A cap w
    · exact law_at (ok85 400) at85 (fun p hp => by simp only [List.mem_cons, List.not_mem_nil, or_false] at hp; rcases hp with rfl | rfl | rfl <;> first | exact h0 | exact len_rem h.1 | exact len_quo hb (by decide) h.2) A cap w
    · exact law_at (ok86 400) at86 (fun p hp => by simp only [List.mem_cons, List.not_mem_nil, or_false] at hp; rcases hp with rfl | rfl | rfl <;> first | exact h0 | exact len_rem h.1 | exact len_quo hb (by decide) h.2) A cap w
    · exact law_at (ok87 400) at87 (fun p hp => by simp only [List.mem_cons, List.not_mem_nil, or_false] at hp; rcases hp with rfl | rfl | rfl <;> first | exact h0 | exact len_rem h.1 | exact len_quo hb (by decide) h.2) A cap w
    · exact law_at (ok88 400) at88 (fun p hp => by simp only [List.mem_cons, List.not_mem_nil, or_false] at hp; rcases hp with rfl | rfl | rfl <;> first | exact h0 | exact len_rem h.1 | exact len_quo hb (by decide) h.2) A cap w
    · exact law_at (ok89 400) at89 (fun p hp => by simp only [List.mem_cons, List.not_mem_nil, or_false] at hp; rcases hp with rfl | rfl | rfl <;> first | exact h0 | exact len_rem h.1 | exact len_quo hb (by decide) h.2) A cap w
    · exact law_at (ok90 400) at90 (fun p hp => by simp only [List.mem_cons, List.not_mem_nil, or_false] at hp; rcases hp with rfl | rfl | rfl <;> first | exact h0 | exact len_rem h.1 | exact len_quo hb (by decide) h.2) A cap w
    · exact law_at (ok91 400) at91 (fun p hp => by simp only [List.mem_cons, List.not_mem_nil, or_false] at hp; rcases hp with rfl | rfl | rfl <;> first | exact h0 | exact len_rem h.1 | exact len_quo hb (by decide) h.2) A cap w
    · exact law_at (ok92 400) at92 (fun p hp => by simp only [List.mem_cons, List.not_mem_nil, or_false] at hp; rcases hp with rfl | rfl | rfl <;> first | exact h0 | exact len_rem h.1 | exact len_quo hb (by decide) h.2) A cap w
    · exact law_at (ok93 400) at93 (fun p hp => by simp only [List.mem_cons, List.not_mem_nil, or_false] at hp; rcases hp with rfl | rfl | rfl <;> first | exact h0 | exact len_rem h.1 | exact len_quo hb (by decide) h.2) A cap w
    · exact law_at (ok94 400) at94 (fun p hp => by simp only [List.mem_cons, List.not_mem_nil, or_false] at hp; rcases hp with rfl | rfl | rfl <;> first | exact h0 | exact len_rem h.1 | exact len_quo hb (by decide) h.2) A cap w
    · exact law_at (ok95 400) at95 (fun p hp => by simp only [List.mem_cons, List.not_mem_nil, or_false] at hp; rcases hp with rfl | rfl | rfl <;> first | exact h0 | exact len_rem h.1 | exact len_quo hb (by decide) h.2) A cap w
    · exact law_at (ok96 400) at96 (fun p hp => by simp only [List.mem_cons, List.not_mem_nil, or_false] at hp; rcases hp with rfl | rfl | rfl <;> first | exact h0 | exact len_rem h.1 | exact len_quo hb (by decide) h.2) A cap w
    · exact law_at (ok97 400) at97 (fun p hp => by simp only [List.mem_cons, List.not_mem_nil, or_false] at hp; rcases hp with rfl | rfl | rfl <;> first | exact h0 | exact len_rem h.1 | exact len_quo hb (by decide) h.2) A cap w
    · exact law_at (ok98 400) at98 (fun p hp => by simp only [List.mem_cons, List.not_mem_nil, or_false] at hp; rcases hp with rfl | rfl | rfl <;> first | exact h0 | exact len_rem h.1 | exact len_quo hb (by decide) h.2) A cap w
    · exact law_at (ok99 400) at99 (fun p hp => by simp only [List.mem_cons, List.not_mem_nil, or_false] at hp; rcases hp with rfl | rfl | rfl <;> first | exact h0 | exact len_rem h.1 | exact len_quo hb (by decide) h.2) A cap w
    · exact law_at (ok100 400) at100 (fun p hp => by simp only [List.mem_cons, List.not_mem_nil, or_false] at hp; rcases hp with rfl | rfl | rfl <;> first | exact h0 | exact len_rem h.1 | exact len_quo hb (by decide) h.2) A cap w
    · exact law_at (ok101 400) at101 (fun p hp => by simp only [List.mem_cons, List.not_mem_nil, or_false] at hp; rcases hp with rfl | rfl | rfl <;> first | exact h0 | exact len_rem h.1 | exact len_quo hb (by decide) h.2) A cap w
    · exact law_at (ok102 400) at102 (fun p hp => by simp only [List.mem_cons, List.not_mem_nil, or_false] at hp; rcases hp with rfl | rfl | rfl <;> first | exact h0 | exact len_rem h.1 | exact len_quo hb (by decide) h.2) A cap w
    · exact law_at (ok103 400) at103 (fun p hp => by simp only [List.mem_cons, List.not_mem_nil, or_false] at hp; rcases hp with rfl | rfl | rfl <;> first | exact h0 | exact len_rem h.1 | exact len_quo hb (by decide) h.2) A cap w
    · exact law_at (ok104 400) at104 (fun p hp => by simp only [List.mem_cons, List.not_mem_nil, or_false] at hp; rcases hp with rfl | rfl | rfl <;> first | exact h0 | exact len_rem h.1 | exact len_quo hb (by decide) h.2) A cap w
    · exact law_at (ok105 400) at105 (fun p hp => by simp only [List.mem_cons, List.not_mem_nil, or_false] at hp; rcases hp with rfl | rfl | rfl <;> first | exact h0 | exact len_rem h.1 | exact len_quo hb (by decide) h.2) A cap w
    · exact law_at (ok106 400) at106 (fun p hp => by simp only [List.mem_cons, List.not_mem_nil, or_false] at hp; rcases hp with rfl | rfl | rfl <;> first | exact h0 | exact len_rem h.1 | exact len_quo hb (by decide) h.2) A cap w
    · exact law_at (ok107 400) at107 (fun p hp => by simp only [List.mem_cons, List.not_mem_nil, or_false] at hp; rcases hp with rfl | rfl | rfl <;> first | exact h0 | exact len_rem h.1 | exact len_quo hb (by decide) h.2) A cap w
    · exact law_at (ok108 400) at108 (fun p hp => by simp only [List.mem_cons, List.not_mem_nil, or_false] at hp; rcases hp with rfl | rfl | rfl <;> first | exact h0 | exact len_rem h.1 | exact len_quo hb (by decide) h.2) A cap w
    · exact law_at (ok109 400) at109 (fun p hp => by simp only [List.mem_cons, List.not_mem_nil, or_false] at hp; rcases hp with rfl | rfl | rfl <;> first | exact h0 | exact len_rem h.1 | exact len_quo hb (by decide) h.2) A cap w
    · exact law_at (ok110 400) at110 (fun p hp => by simp only [List.mem_cons, List.not_mem_nil, or_false] at hp; rcases hp with rfl | rfl | rfl <;> first | exact h0 | exact len_rem h.1 | exact len_quo hb (by decide) h.2) A cap w
    · exact law_at (ok111 400) at111 (fun p hp => by simp only [List.mem_cons, List.not_mem_nil, or_false] at hp; rcases hp with rfl | rfl | rfl <;> first | exact h0 | exact len_rem h.1 | exact len_quo hb (by decide) h.2) A cap w
    · exact law_at (ok112 400) at112 (fun p hp => by simp only [List.mem_cons, List.not_mem_nil, or_false] at hp; rcases hp with rfl | rfl | rfl <;> first | exact h0 | exact len_rem h.1 | exact len_quo hb (by decide) h.2) A cap w
    · exact law_at (ok113 400) at113 (fun p hp => by simp only [List.mem_cons, List.not_mem_nil, or_false] at hp; rcases hp with rfl | rfl | rfl <;> first | exact h0 | exact len_rem h.1 | exact len_quo hb (by decide) h.2) A cap w
    · exact law_at (ok114 400) at114 (fun p hp => by simp only [List.mem_cons, List.not_mem_nil, or_false] at hp; rcases hp with rfl | rfl | rfl <;> first | exact h0 | exact len_rem h.1 | exact len_quo hb (by decide) h.2) A cap w
    · exact law_at (ok115 400) at115 (fun p hp => by simp only [List.mem_cons, List.not_mem_nil, or_false] at hp; rcases hp with rfl | rfl | rfl <;> first | exact h0 | exact len_rem h.1 | exact len_quo hb (by decide) h.2) A cap w
    · exact law_at (ok116 400) at116 (fun p hp => by simp only [List.mem_cons, List.not_mem_nil, or_false] at hp; rcases hp with rfl | rfl | rfl <;> first | exact h0 | exact len_rem h.1 | exact len_quo hb (by decide) h.2) A cap w
    · exact law_at (ok117 400) at117 (fun p hp => by simp only [List.mem_cons, List.not_mem_nil, or_false] at hp; rcases hp with rfl | rfl | rfl <;> first | exact h0 | exact len_rem h.1 | exact len_quo hb (by decide) h.2) A cap w
    · exact law_at (ok118 400) at118 (fun p hp => by simp only [List.mem_cons, List.not_mem_nil, or_false] at hp; rcases hp with rfl | rfl | rfl <;> first | exact h0 | exact len_rem h.1 | exact len_quo hb (by decide) h.2) A cap w
    · exact law_at (ok119 400) at119 (fun p hp => by simp only [List.mem_cons, List.not_mem_nil, or_false] at hp; rcases hp with rfl | rfl | rfl <;> first | exact h0 | exact len_rem h.1 | exact len_quo hb (by decide) h.2) A cap w
    · exact law_at (ok120 400) at120 (fun p hp => by simp only [List.mem_cons, List.not_mem_nil, or_false] at hp; rcases hp with rfl | rfl | rfl <;> first | exact h0 | exact len_rem h.1 | exact len_quo hb (by decide) h.2) A cap w
    · exact law_at (ok121 400) at121 (fun p hp => by simp only [List.mem_cons, List.not_mem_nil, or_false] at hp; rcases hp with rfl | rfl | rfl <;> first | exact h0 | exact len_rem h.1 | exact len_quo hb (by decide) h.2) A cap w
    · exact law_at (ok122 400) at122 (fun p hp => by simp only [List.mem_cons, List.not_mem_nil, or_false] at hp; rcases hp with rfl | rfl | rfl <;> first | exact h0 | exact len_rem h.1 | exact len_quo hb (by decide) h.2) A cap w
    · exact law_at (ok123 400) at123 (fun p hp => by simp only [List.mem_cons, List.not_mem_nil, or_false] at hp; rcases hp with rfl | rfl | rfl <;> first | exact h0 | exact len_rem h.1 | exact len_quo hb (by decide) h.2) A cap w
    · exact law_at (ok124 400) at124 (fun p hp => by simp only [List.mem_cons, List.not_mem_nil, or_false] at hp; rcases hp with rfl | rfl | rfl <;> first | exact h0 | exact len_rem h.1 | exact len_quo hb (by decide) h.2) A cap w
    · exact law_at (ok125 400) at125 (fun p hp => by simp only [List.mem_cons, List.not_mem_nil, or_false] at hp; rcases hp with rfl | rfl | rfl <;> first | exact h0 | exact len_rem h.1 | exact len_quo hb (by decide) h.2) A cap w
    · exact law_at (ok126 400) at126 (fun p hp => by simp only [List.mem_cons, List.not_mem_nil, or_false] at hp; rcases hp with rfl | rfl | rfl <;> first | exact h0 | exact len_rem h.1 | exact len_quo hb (by decide) h.2) A cap w
    · exact law_at (ok127 400) at127 (fun p hp => by simp only [List.mem_cons, List.not_mem_nil, or_false] at hp; rcases hp with rfl | rfl | rfl <;> first | exact h0 | exact len_rem h.1 | exact len_quo hb (by decide) h.2) A cap w
set_option maxRecDepth 100000 in
theorem lifted (os : Os) (started : os.Started) (H : Type) (enc : TypeId × Value → H) :
    ReturnsInHanded {} Tryz.checked os 4 .any (Rows.fnDispatchSpec.pre6 enc Tryz.prog Tryz.f4 Rows.fnDispatchRow.domain false) (Rows.fnDispatchSpec.post enc Tryz.prog Tryz.f4 false true false false) := by
  refine returnsInHanded_of_change (C := Tryz.checked) own started (by kernel_rfl) Tryz.func4
    (ChangeSpec.witness6 (enc := enc) (C := Tryz.checked) false ⟨#[], #[.slice none 0 0], []⟩ 8 (by kernel_rfl) (by kernel_rfl) (by kernel_rfl) (by kernel_rfl)) ?_
  intro W base args ds gs before hval0 hW hcnd _
  have hval : ∀ (j : Nat) t v, Tryz.f4.params[j]? = some t → args[j]? = some v → Value.okWide Tryz.prog W .any base t v := hval0
  have hW' := hW
  obtain ⟨p, q, hA0, hV, rfl, hfz, hnd⟩ := hW
  have hA : DataW.TrodAll enc Tryz.prog W 0 (fun _ => true) true Tryz.f4.params.toList args.toList ds p := hA0
  rw [Tryz.params4] at hA hval
  obtain ⟨v0, vs0, d0, ds0, p0, q0, hargs, rfl, rfl, h0, r0⟩ := trodAll_cons hA
  obtain ⟨rfl, rfl, rfl⟩ := trodAll_nil r0
  obtain rfl : args = #[v0] := by cases args; simp_all
  obtain ⟨rfl, rfl⟩ := trodVars_none hV
  obtain ⟨a0, x0, c0, rfl⟩ := okWide_slice Tryz.underlying22 (hval 0 22 v0 rfl rfl)
  clear hA0 hval0
  refine (walk a0 x0 c0).mono fun e W' ⟨he, hg⟩ => ?_
  subst he
  exact ⟨_, rfl, law_post laidOut hW' rfl rfl Tryz.underlying4 rfl rfl rfl (by intro t ht; rw [Tryz.params4] at ht; have ht2 : t ∈ [22] := ht; simp only [List.mem_cons, List.not_mem_nil, or_false] at ht2; rcases ht2 with rfl <;> exact ⟨by kernel_rfl, of_decide_eq_true (by kernel_rfl)⟩) hg⟩

theorem fact0 : jf0 Tryz.prog 4 Tryz.f4 Rows.fnDispatchSpec Rows.fnDispatchRow = true := by kernel_rfl
theorem fact1 : jf1 Tryz.prog 4 Tryz.f4 Rows.fnDispatchSpec Rows.fnDispatchRow = true := by kernel_rfl
theorem fact2 : jf2 Tryz.prog 4 Tryz.f4 Rows.fnDispatchSpec Rows.fnDispatchRow = true := by kernel_rfl
theorem fact3 : jf3 Tryz.prog 4 Tryz.f4 Rows.fnDispatchSpec Rows.fnDispatchRow = true := by kernel_rfl
theorem fact4 : jf4 Tryz.prog 4 Tryz.f4 Rows.fnDispatchSpec Rows.fnDispatchRow = true := by kernel_rfl
theorem fact5 : jf5 Tryz.prog 4 Tryz.f4 Rows.fnDispatchSpec Rows.fnDispatchRow = true := by kernel_rfl
theorem fact6 : jf6 Tryz.prog 4 Tryz.f4 Rows.fnDispatchSpec Rows.fnDispatchRow = true := by kernel_rfl
theorem fact7 : jf7 Tryz.prog 4 Tryz.f4 Rows.fnDispatchSpec Rows.fnDispatchRow = true := by kernel_rfl
theorem fact8 : jf8 Tryz.prog 4 Tryz.f4 Rows.fnDispatchSpec Rows.fnDispatchRow = true := by kernel_rfl
theorem fact9 : jf9 Tryz.prog 4 Tryz.f4 Rows.fnDispatchSpec Rows.fnDispatchRow = true := by kernel_rfl
theorem fact10 : jf10 Tryz.prog 4 Tryz.f4 Rows.fnDispatchSpec Rows.fnDispatchRow = true := by kernel_rfl
theorem fact11 : jf11 Tryz.prog 4 Tryz.f4 Rows.fnDispatchSpec Rows.fnDispatchRow = true := by kernel_rfl
theorem fact12 : jf12 Tryz.prog 4 Tryz.f4 Rows.fnDispatchSpec Rows.fnDispatchRow = true := by kernel_rfl
theorem fact13 : jf13 Tryz.prog 4 Tryz.f4 Rows.fnDispatchSpec Rows.fnDispatchRow = true := by kernel_rfl
theorem fact14 : jf14 Tryz.prog 4 Tryz.f4 Rows.fnDispatchSpec Rows.fnDispatchRow = true := by kernel_rfl
theorem fact15 : jf15 Tryz.prog 4 Tryz.f4 Rows.fnDispatchSpec Rows.fnDispatchRow = true := by kernel_rfl
theorem fact16 : jf16 Tryz.prog 4 Tryz.f4 Rows.fnDispatchSpec Rows.fnDispatchRow = true := by kernel_rfl
theorem fact17 : jf17 Tryz.prog 4 Tryz.f4 Rows.fnDispatchSpec Rows.fnDispatchRow = true := by kernel_rfl
theorem fact18 : jf18 Tryz.prog 4 Tryz.f4 Rows.fnDispatchSpec Rows.fnDispatchRow = true := by kernel_rfl
theorem fact19 : jf19 Tryz.prog 4 Tryz.f4 Rows.fnDispatchSpec Rows.fnDispatchRow = true := by kernel_rfl
theorem fact20 : jf20 Tryz.prog 4 Tryz.f4 Rows.fnDispatchSpec Rows.fnDispatchRow = true := by kernel_rfl
theorem fact21 : jf21 Tryz.prog 4 Tryz.f4 Rows.fnDispatchSpec Rows.fnDispatchRow = true := by kernel_rfl
theorem fact22 : jf22 Tryz.prog 4 Tryz.f4 Rows.fnDispatchSpec Rows.fnDispatchRow = true := by kernel_rfl
theorem fact23 : jf23 Tryz.prog 4 Tryz.f4 Rows.fnDispatchSpec Rows.fnDispatchRow = true := by kernel_rfl
theorem fact24 : jf24 Tryz.prog 4 Tryz.f4 Rows.fnDispatchSpec Rows.fnDispatchRow = true := by kernel_rfl
theorem fact25 : jf25 Tryz.prog 4 Tryz.f4 Rows.fnDispatchSpec Rows.fnDispatchRow = true := by kernel_rfl
theorem fact26 : jf26 Tryz.prog 4 Tryz.f4 Rows.fnDispatchSpec Rows.fnDispatchRow = true := by kernel_rfl
theorem fact27 : jf27 Tryz.prog 4 Tryz.f4 Rows.fnDispatchSpec Rows.fnDispatchRow = true := by kernel_rfl
theorem fact28 : jf28 Tryz.prog 4 Tryz.f4 Rows.fnDispatchSpec Rows.fnDispatchRow = true := by kernel_rfl
theorem fact29 : jf29 Tryz.prog 4 Tryz.f4 Rows.fnDispatchSpec Rows.fnDispatchRow = true := by kernel_rfl
theorem fact30 : jf30 Tryz.prog 4 Tryz.f4 Rows.fnDispatchSpec Rows.fnDispatchRow = true := by kernel_rfl
theorem fact31 : jf31 Tryz.prog 4 Tryz.f4 Rows.fnDispatchSpec Rows.fnDispatchRow = true := by kernel_rfl
theorem over : Rows.fnDispatchRow.holds Tryz.pinned (OpenSpec.ofChange Rows.fnDispatchSpec) :=
  OpenClaim.holds_of_wide 4 Tryz.f4 rfl rfl rfl rfl rfl rfl rfl ⟨rfl, rfl, rfl, rfl, rfl⟩ rfl rfl rfl rfl rfl (by kernel_rfl) Tryz.func4 (joined fact0 fact1 fact2 fact3 fact4 fact5 fact6 fact7 fact8 fact9 fact10 fact11 fact12 fact13 fact14 fact15 fact16 fact17 fact18 fact19 fact20 fact21 fact22 fact23 fact24 fact25 fact26 fact27 fact28 fact29 fact30 fact31)
    (of_decide_eq_true (by kernel_rfl)) (by unfold Func.isWrapper; first | (rw [if_pos (by decide +kernel)]; kernel_rfl) | (rw [if_neg (by decide +kernel)]; exact ⟨rfl, rfl⟩))
    (fun os started H enc _ => lifted os started H enc)

/-- THE STATEMENT -/
theorem proved : Rows.FnDispatchSaid :=
  over
#print axioms proved
end fnDispatch
end Go.Proofs.YtkdlekonfjeidaaGreat
