/-
  The law FnNextMethods returns true for every list of bytes: it looks at the length alone; each case is a run of a program, and all of them are known.
-/
import Derived.Test.YtdnnhlienddkoabGreatRows
import Derived.Test.YtdnnhlienddkoabGreatJoin
import Derived.Test.YtdnnhlienddkoabGreatBase
import Derived.IntWalk
import Derived.Test.YtdnnhlienddkoabGreatRunsFnNextMethods0
import Derived.Test.YtdnnhlienddkoabGreatRunsFnNextMethods1
import Derived.Test.YtdnnhlienddkoabGreatRunsFnNextMethods2
import Derived.Test.YtdnnhlienddkoabGreatRunsFnNextMethods3
import Derived.Test.YtdnnhlienddkoabGreatRunsFnNextMethods4
import Derived.Test.YtdnnhlienddkoabGreatRunsFnNextMethods5
import Derived.Test.YtdnnhlienddkoabGreatRunsFnNextMethods6
import Derived.Test.YtdnnhlienddkoabGreatRunsFnNextMethods7
namespace Go.Proofs.YtdnnhlienddkoabGreat
set_option maxRecDepth 100000
open Go.ChangeShapes Go.WideShapes Go.ChangeAt Go.RowKit Go.Deep
open Go.Proofs.YtdnnhlienddkoabGreat.Eng (CallOk RO RO_sound RunsTo ParsesTo TR isT law_at evalE TabOk Tab RR Hp.empty Hp)
namespace fnNextMethods
theorem frun : ∃ fn, Tryz.prog.funcs[28]? = some fn ∧ fn.body.isSome = true ∧ fn.name ≠ "runtime.NumGoroutine" := fnOk Tryz.func28 rfl
theorem fpar : ∃ fn, Tryz.prog.funcs[28]? = some fn ∧ fn.body.isSome = true ∧ fn.name ≠ "runtime.NumGoroutine" := fnOk Tryz.func28 rfl
theorem ok0 (n : Nat) : CallOk Tryz.prog (RO Tryz.prog 28 28 [(s0, t0)] [] n).fn := (RO_sound Tryz.codeOk mixed fnames (fun p hp => by
    simp only [List.mem_cons, List.not_mem_nil, or_false] at hp
    subst hp; exact run0) (fun p hp => by
    cases hp) frun fpar n).1
set_option maxRecDepth 100000 in
theorem at0 : isT ((RO Tryz.prog 28 28 [(s0, t0)] [] 400).fn 4 [.slx [(.op .gtr .len 1048576, 0), (.op .rem .len 8, 0), (.op .rem (.op .quo .len 8) 8, 0), (.op .rem (.op .quo .len 8) 2, 0)]] Hp.empty) = true := by kernel_rfl
theorem ok1 (n : Nat) : CallOk Tryz.prog (RO Tryz.prog 28 28 [(s1, t1)] [] n).fn := (RO_sound Tryz.codeOk mixed fnames (fun p hp => by
    simp only [List.mem_cons, List.not_mem_nil, or_false] at hp
    subst hp; exact run1) (fun p hp => by
    cases hp) frun fpar n).1
set_option maxRecDepth 100000 in
theorem at1 : isT ((RO Tryz.prog 28 28 [(s1, t1)] [] 400).fn 4 [.slx [(.op .gtr .len 1048576, 0), (.op .rem .len 8, 1), (.op .rem (.op .quo .len 8) 8, 0), (.op .rem (.op .quo .len 8) 2, 0)]] Hp.empty) = true := by kernel_rfl
theorem ok2 (n : Nat) : CallOk Tryz.prog (RO Tryz.prog 28 28 [(s2, t2)] [] n).fn := (RO_sound Tryz.codeOk mixed fnames (fun p hp => by
    simp only [List.mem_cons, List.not_mem_nil, or_false] at hp
    subst hp; exact run2) (fun p hp => by
    cases hp) frun fpar n).1
set_option maxRecDepth 100000 in
theorem at2 : isT ((RO Tryz.prog 28 28 [(s2, t2)] [] 400).fn 4 [.slx [(.op .gtr .len 1048576, 0), (.op .rem .len 8, 2), (.op .rem (.op .quo .len 8) 8, 0), (.op .rem (.op .quo .len 8) 2, 0)]] Hp.empty) = true := by kernel_rfl
theorem ok3 (n : Nat) : CallOk Tryz.prog (RO Tryz.prog 28 28 [(s3, t3)] [] n).fn := (RO_sound Tryz.codeOk mixed fnames (fun p hp => by
    simp only [List.mem_cons, List.not_mem_nil, or_false] at hp
    subst hp; exact run3) (fun p hp => by
    cases hp) frun fpar n).1
set_option maxRecDepth 100000 in
theorem at3 : isT ((RO Tryz.prog 28 28 [(s3, t3)] [] 400).fn 4 [.slx [(.op .gtr .len 1048576, 0), (.op .rem .len 8, 3), (.op .rem (.op .quo .len 8) 8, 0), (.op .rem (.op .quo .len 8) 2, 0)]] Hp.empty) = true := by kernel_rfl
theorem ok4 (n : Nat) : CallOk Tryz.prog (RO Tryz.prog 28 28 [(s4, t4)] [] n).fn := (RO_sound Tryz.codeOk mixed fnames (fun p hp => by
    simp only [List.mem_cons, List.not_mem_nil, or_false] at hp
    subst hp; exact run4) (fun p hp => by
    cases hp) frun fpar n).1
set_option maxRecDepth 100000 in
theorem at4 : isT ((RO Tryz.prog 28 28 [(s4, t4)] [] 400).fn 4 [.slx [(.op .gtr .len 1048576, 0), (.op .rem .len 8, 4), (.op .rem (.op .quo .len 8) 8, 0), (.op .rem (.op .quo .len 8) 2, 0)]] Hp.empty) = true := by kernel_rfl
theorem ok5 (n : Nat) : CallOk Tryz.prog (RO Tryz.prog 28 28 [(s5, t5)] [] n).fn := (RO_sound Tryz.codeOk mixed fnames (fun p hp => by
    simp only [List.mem_cons, List.not_mem_nil, or_false] at hp
    subst hp; exact run5) (fun p hp => by
    cases hp) frun fpar n).1
set_option maxRecDepth 100000 in
theorem at5 : isT ((RO Tryz.prog 28 28 [(s5, t5)] [] 400).fn 4 [.slx [(.op .gtr .len 1048576, 0), (.op .rem .len 8, 5), (.op .rem (.op .quo .len 8) 8, 0), (.op .rem (.op .quo .len 8) 2, 0)]] Hp.empty) = true := by kernel_rfl
theorem ok6 (n : Nat) : CallOk Tryz.prog (RO Tryz.prog 28 28 [(s6, t6)] [] n).fn := (RO_sound Tryz.codeOk mixed fnames (fun p hp => by
    simp only [List.mem_cons, List.not_mem_nil, or_false] at hp
    subst hp; exact run6) (fun p hp => by
    cases hp) frun fpar n).1
set_option maxRecDepth 100000 in
theorem at6 : isT ((RO Tryz.prog 28 28 [(s6, t6)] [] 400).fn 4 [.slx [(.op .gtr .len 1048576, 0), (.op .rem .len 8, 6), (.op .rem (.op .quo .len 8) 8, 0), (.op .rem (.op .quo .len 8) 2, 0)]] Hp.empty) = true := by kernel_rfl
theorem ok7 (n : Nat) : CallOk Tryz.prog (RO Tryz.prog 28 28 [(s7, t7)] [] n).fn := (RO_sound Tryz.codeOk mixed fnames (fun p hp => by
    simp only [List.mem_cons, List.not_mem_nil, or_false] at hp
    subst hp; exact run7) (fun p hp => by
    cases hp) frun fpar n).1
set_option maxRecDepth 100000 in
theorem at7 : isT ((RO Tryz.prog 28 28 [(s7, t7)] [] 400).fn 4 [.slx [(.op .gtr .len 1048576, 0), (.op .rem .len 8, 7), (.op .rem (.op .quo .len 8) 8, 0), (.op .rem (.op .quo .len 8) 2, 0)]] Hp.empty) = true := by kernel_rfl
theorem ok8 (n : Nat) : CallOk Tryz.prog (RO Tryz.prog 28 28 [(s8, t8)] [] n).fn := (RO_sound Tryz.codeOk mixed fnames (fun p hp => by
    simp only [List.mem_cons, List.not_mem_nil, or_false] at hp
    subst hp; exact run8) (fun p hp => by
    cases hp) frun fpar n).1
set_option maxRecDepth 100000 in
theorem at8 : isT ((RO Tryz.prog 28 28 [(s8, t8)] [] 400).fn 4 [.slx [(.op .gtr .len 1048576, 0), (.op .rem .len 8, 0), (.op .rem (.op .quo .len 8) 8, 1), (.op .rem (.op .quo .len 8) 2, 1)]] Hp.empty) = true := by kernel_rfl
theorem ok9 (n : Nat) : CallOk Tryz.prog (RO Tryz.prog 28 28 [(s9, t9)] [] n).fn := (RO_sound Tryz.codeOk mixed fnames (fun p hp => by
    simp only [List.mem_cons, List.not_mem_nil, or_false] at hp
    subst hp; exact run9) (fun p hp => by
    cases hp) frun fpar n).1
set_option maxRecDepth 100000 in
theorem at9 : isT ((RO Tryz.prog 28 28 [(s9, t9)] [] 400).fn 4 [.slx [(.op .gtr .len 1048576, 0), (.op .rem .len 8, 1), (.op .rem (.op .quo .len 8) 8, 1), (.op .rem (.op .quo .len 8) 2, 1)]] Hp.empty) = true := by kernel_rfl
theorem ok10 (n : Nat) : CallOk Tryz.prog (RO Tryz.prog 28 28 [(s10, t10)] [] n).fn := (RO_sound Tryz.codeOk mixed fnames (fun p hp => by
    simp only [List.mem_cons, List.not_mem_nil, or_false] at hp
    subst hp; exact run10) (fun p hp => by
    cases hp) frun fpar n).1
set_option maxRecDepth 100000 in
theorem at10 : isT ((RO Tryz.prog 28 28 [(s10, t10)] [] 400).fn 4 [.slx [(.op .gtr .len 1048576, 0), (.op .rem .len 8, 2), (.op .rem (.op .quo .len 8) 8, 1), (.op .rem (.op .quo .len 8) 2, 1)]] Hp.empty) = true := by kernel_rfl
theorem ok11 (n : Nat) : CallOk Tryz.prog (RO Tryz.prog 28 28 [(s11, t11)] [] n).fn := (RO_sound Tryz.codeOk mixed fnames (fun p hp => by
    simp only [List.mem_cons, List.not_mem_nil, or_false] at hp
    subst hp; exact run11) (fun p hp => by
    cases hp) frun fpar n).1
set_option maxRecDepth 100000 in
theorem at11 : isT ((RO Tryz.prog 28 28 [(s11, t11)] [] 400).fn 4 [.slx [(.op .gtr .len 1048576, 0), (.op .rem .len 8, 3), (.op .rem (.op .quo .len 8) 8, 1), (.op .rem (.op .quo .len 8) 2, 1)]] Hp.empty) = true := by kernel_rfl
theorem ok12 (n : Nat) : CallOk Tryz.prog (RO Tryz.prog 28 28 [(s12, t12)] [] n).fn := (RO_sound Tryz.codeOk mixed fnames (fun p hp => by
    simp only [List.mem_cons, List.not_mem_nil, or_false] at hp
    subst hp; exact run12) (fun p hp => by
    cases hp) frun fpar n).1
set_option maxRecDepth 100000 in
theorem at12 : isT ((RO Tryz.prog 28 28 [(s12, t12)] [] 400).fn 4 [.slx [(.op .gtr .len 1048576, 0), (.op .rem .len 8, 4), (.op .rem (.op .quo .len 8) 8, 1), (.op .rem (.op .quo .len 8) 2, 1)]] Hp.empty) = true := by kernel_rfl
theorem ok13 (n : Nat) : CallOk Tryz.prog (RO Tryz.prog 28 28 [(s13, t13)] [] n).fn := (RO_sound Tryz.codeOk mixed fnames (fun p hp => by
    simp only [List.mem_cons, List.not_mem_nil, or_false] at hp
    subst hp; exact run13) (fun p hp => by
    cases hp) frun fpar n).1
set_option maxRecDepth 100000 in
theorem at13 : isT ((RO Tryz.prog 28 28 [(s13, t13)] [] 400).fn 4 [.slx [(.op .gtr .len 1048576, 0), (.op .rem .len 8, 5), (.op .rem (.op .quo .len 8) 8, 1), (.op .rem (.op .quo .len 8) 2, 1)]] Hp.empty) = true := by kernel_rfl
theorem ok14 (n : Nat) : CallOk Tryz.prog (RO Tryz.prog 28 28 [(s14, t14)] [] n).fn := (RO_sound Tryz.codeOk mixed fnames (fun p hp => by
    simp only [List.mem_cons, List.not_mem_nil, or_false] at hp
    subst hp; exact run14) (fun p hp => by
    cases hp) frun fpar n).1
set_option maxRecDepth 100000 in
theorem at14 : isT ((RO Tryz.prog 28 28 [(s14, t14)] [] 400).fn 4 [.slx [(.op .gtr .len 1048576, 0), (.op .rem .len 8, 6), (.op .rem (.op .quo .len 8) 8, 1), (.op .rem (.op .quo .len 8) 2, 1)]] Hp.empty) = true := by kernel_rfl
theorem ok15 (n : Nat) : CallOk Tryz.prog (RO Tryz.prog 28 28 [(s15, t15)] [] n).fn := (RO_sound Tryz.codeOk mixed fnames (fun p hp => by
    simp only [List.mem_cons, List.not_mem_nil, or_false] at hp
    subst hp; exact run15) (fun p hp => by
    cases hp) frun fpar n).1
set_option maxRecDepth 100000 in
theorem at15 : isT ((RO Tryz.prog 28 28 [(s15, t15)] [] 400).fn 4 [.slx [(.op .gtr .len 1048576, 0), (.op .rem .len 8, 7), (.op .rem (.op .quo .len 8) 8, 1), (.op .rem (.op .quo .len 8) 2, 1)]] Hp.empty) = true := by kernel_rfl
theorem ok16 (n : Nat) : CallOk Tryz.prog (RO Tryz.prog 28 28 [(s16, t16)] [] n).fn := (RO_sound Tryz.codeOk mixed fnames (fun p hp => by
    simp only [List.mem_cons, List.not_mem_nil, or_false] at hp
    subst hp; exact run16) (fun p hp => by
    cases hp) frun fpar n).1
set_option maxRecDepth 100000 in
theorem at16 : isT ((RO Tryz.prog 28 28 [(s16, t16)] [] 400).fn 4 [.slx [(.op .gtr .len 1048576, 0), (.op .rem .len 8, 0), (.op .rem (.op .quo .len 8) 8, 2), (.op .rem (.op .quo .len 8) 2, 0)]] Hp.empty) = true := by kernel_rfl
theorem ok17 (n : Nat) : CallOk Tryz.prog (RO Tryz.prog 28 28 [(s17, t17)] [] n).fn := (RO_sound Tryz.codeOk mixed fnames (fun p hp => by
    simp only [List.mem_cons, List.not_mem_nil, or_false] at hp
    subst hp; exact run17) (fun p hp => by
    cases hp) frun fpar n).1
set_option maxRecDepth 100000 in
theorem at17 : isT ((RO Tryz.prog 28 28 [(s17, t17)] [] 400).fn 4 [.slx [(.op .gtr .len 1048576, 0), (.op .rem .len 8, 1), (.op .rem (.op .quo .len 8) 8, 2), (.op .rem (.op .quo .len 8) 2, 0)]] Hp.empty) = true := by kernel_rfl
theorem ok18 (n : Nat) : CallOk Tryz.prog (RO Tryz.prog 28 28 [(s18, t18)] [] n).fn := (RO_sound Tryz.codeOk mixed fnames (fun p hp => by
    simp only [List.mem_cons, List.not_mem_nil, or_false] at hp
    subst hp; exact run18) (fun p hp => by
    cases hp) frun fpar n).1
set_option maxRecDepth 100000 in
theorem at18 : isT ((RO Tryz.prog 28 28 [(s18, t18)] [] 400).fn 4 [.slx [(.op .gtr .len 1048576, 0), (.op .rem .len 8, 2), (.op .rem (.op .quo .len 8) 8, 2), (.op .rem (.op .quo .len 8) 2, 0)]] Hp.empty) = true := by kernel_rfl
theorem ok19 (n : Nat) : CallOk Tryz.prog (RO Tryz.prog 28 28 [(s19, t19)] [] n).fn := (RO_sound Tryz.codeOk mixed fnames (fun p hp => by
    simp only [List.mem_cons, List.not_mem_nil, or_false] at hp
    subst hp; exact run19) (fun p hp => by
    cases hp) frun fpar n).1
set_option maxRecDepth 100000 in
theorem at19 : isT ((RO Tryz.prog 28 28 [(s19, t19)] [] 400).fn 4 [.slx [(.op .gtr .len 1048576, 0), (.op .rem .len 8, 3), (.op .rem (.op .quo .len 8) 8, 2), (.op .rem (.op .quo .len 8) 2, 0)]] Hp.empty) = true := by kernel_rfl
theorem ok20 (n : Nat) : CallOk Tryz.prog (RO Tryz.prog 28 28 [(s20, t20)] [] n).fn := (RO_sound Tryz.codeOk mixed fnames (fun p hp => by
    simp only [List.mem_cons, List.not_mem_nil, or_false] at hp
    subst hp; exact run20) (fun p hp => by
    cases hp) frun fpar n).1
set_option maxRecDepth 100000 in
theorem at20 : isT ((RO Tryz.prog 28 28 [(s20, t20)] [] 400).fn 4 [.slx [(.op .gtr .len 1048576, 0), (.op .rem .len 8, 4), (.op .rem (.op .quo .len 8) 8, 2), (.op .rem (.op .quo .len 8) 2, 0)]] Hp.empty) = true := by kernel_rfl
theorem ok21 (n : Nat) : CallOk Tryz.prog (RO Tryz.prog 28 28 [(s21, t21)] [] n).fn := (RO_sound Tryz.codeOk mixed fnames (fun p hp => by
    simp only [List.mem_cons, List.not_mem_nil, or_false] at hp
    subst hp; exact run21) (fun p hp => by
    cases hp) frun fpar n).1
set_option maxRecDepth 100000 in
theorem at21 : isT ((RO Tryz.prog 28 28 [(s21, t21)] [] 400).fn 4 [.slx [(.op .gtr .len 1048576, 0), (.op .rem .len 8, 5), (.op .rem (.op .quo .len 8) 8, 2), (.op .rem (.op .quo .len 8) 2, 0)]] Hp.empty) = true := by kernel_rfl
theorem ok22 (n : Nat) : CallOk Tryz.prog (RO Tryz.prog 28 28 [(s22, t22)] [] n).fn := (RO_sound Tryz.codeOk mixed fnames (fun p hp => by
    simp only [List.mem_cons, List.not_mem_nil, or_false] at hp
    subst hp; exact run22) (fun p hp => by
    cases hp) frun fpar n).1
set_option maxRecDepth 100000 in
theorem at22 : isT ((RO Tryz.prog 28 28 [(s22, t22)] [] 400).fn 4 [.slx [(.op .gtr .len 1048576, 0), (.op .rem .len 8, 6), (.op .rem (.op .quo .len 8) 8, 2), (.op .rem (.op .quo .len 8) 2, 0)]] Hp.empty) = true := by kernel_rfl
theorem ok23 (n : Nat) : CallOk Tryz.prog (RO Tryz.prog 28 28 [(s23, t23)] [] n).fn := (RO_sound Tryz.codeOk mixed fnames (fun p hp => by
    simp only [List.mem_cons, List.not_mem_nil, or_false] at hp
    subst hp; exact run23) (fun p hp => by
    cases hp) frun fpar n).1
set_option maxRecDepth 100000 in
theorem at23 : isT ((RO Tryz.prog 28 28 [(s23, t23)] [] 400).fn 4 [.slx [(.op .gtr .len 1048576, 0), (.op .rem .len 8, 7), (.op .rem (.op .quo .len 8) 8, 2), (.op .rem (.op .quo .len 8) 2, 0)]] Hp.empty) = true := by kernel_rfl
theorem ok24 (n : Nat) : CallOk Tryz.prog (RO Tryz.prog 28 28 [(s24, t24)] [] n).fn := (RO_sound Tryz.codeOk mixed fnames (fun p hp => by
    simp only [List.mem_cons, List.not_mem_nil, or_false] at hp
    subst hp; exact run24) (fun p hp => by
    cases hp) frun fpar n).1
set_option maxRecDepth 100000 in
theorem at24 : isT ((RO Tryz.prog 28 28 [(s24, t24)] [] 400).fn 4 [.slx [(.op .gtr .len 1048576, 0), (.op .rem .len 8, 0), (.op .rem (.op .quo .len 8) 8, 3), (.op .rem (.op .quo .len 8) 2, 1)]] Hp.empty) = true := by kernel_rfl
theorem ok25 (n : Nat) : CallOk Tryz.prog (RO Tryz.prog 28 28 [(s25, t25)] [] n).fn := (RO_sound Tryz.codeOk mixed fnames (fun p hp => by
    simp only [List.mem_cons, List.not_mem_nil, or_false] at hp
    subst hp; exact run25) (fun p hp => by
    cases hp) frun fpar n).1
set_option maxRecDepth 100000 in
theorem at25 : isT ((RO Tryz.prog 28 28 [(s25, t25)] [] 400).fn 4 [.slx [(.op .gtr .len 1048576, 0), (.op .rem .len 8, 1), (.op .rem (.op .quo .len 8) 8, 3), (.op .rem (.op .quo .len 8) 2, 1)]] Hp.empty) = true := by kernel_rfl
theorem ok26 (n : Nat) : CallOk Tryz.prog (RO Tryz.prog 28 28 [(s26, t26)] [] n).fn := (RO_sound Tryz.codeOk mixed fnames (fun p hp => by
    simp only [List.mem_cons, List.not_mem_nil, or_false] at hp
    subst hp; exact run26) (fun p hp => by
    cases hp) frun fpar n).1
set_option maxRecDepth 100000 in
theorem at26 : isT ((RO Tryz.prog 28 28 [(s26, t26)] [] 400).fn 4 [.slx [(.op .gtr .len 1048576, 0), (.op .rem .len 8, 2), (.op .rem (.op .quo .len 8) 8, 3), (.op .rem (.op .quo .len 8) 2, 1)]] Hp.empty) = true := by kernel_rfl
theorem ok27 (n : Nat) : CallOk Tryz.prog (RO Tryz.prog 28 28 [(s27, t27)] [] n).fn := (RO_sound Tryz.codeOk mixed fnames (fun p hp => by
    simp only [List.mem_cons, List.not_mem_nil, or_false] at hp
    subst hp; exact run27) (fun p hp => by
    cases hp) frun fpar n).1
set_option maxRecDepth 100000 in
theorem at27 : isT ((RO Tryz.prog 28 28 [(s27, t27)] [] 400).fn 4 [.slx [(.op .gtr .len 1048576, 0), (.op .rem .len 8, 3), (.op .rem (.op .quo .len 8) 8, 3), (.op .rem (.op .quo .len 8) 2, 1)]] Hp.empty) = true := by kernel_rfl
theorem ok28 (n : Nat) : CallOk Tryz.prog (RO Tryz.prog 28 28 [(s28, t28)] [] n).fn := (RO_sound Tryz.codeOk mixed fnames (fun p hp => by
    simp only [List.mem_cons, List.not_mem_nil, or_false] at hp
    subst hp; exact run28) (fun p hp => by
    cases hp) frun fpar n).1
set_option maxRecDepth 100000 in
theorem at28 : isT ((RO Tryz.prog 28 28 [(s28, t28)] [] 400).fn 4 [.slx [(.op .gtr .len 1048576, 0), (.op .rem .len 8, 4), (.op .rem (.op .quo .len 8) 8, 3), (.op .rem (.op .quo .len 8) 2, 1)]] Hp.empty) = true := by kernel_rfl
theorem ok29 (n : Nat) : CallOk Tryz.prog (RO Tryz.prog 28 28 [(s29, t29)] [] n).fn := (RO_sound Tryz.codeOk mixed fnames (fun p hp => by
    simp only [List.mem_cons, List.not_mem_nil, or_false] at hp
    subst hp; exact run29) (fun p hp => by
    cases hp) frun fpar n).1
set_option maxRecDepth 100000 in
theorem at29 : isT ((RO Tryz.prog 28 28 [(s29, t29)] [] 400).fn 4 [.slx [(.op .gtr .len 1048576, 0), (.op .rem .len 8, 5), (.op .rem (.op .quo .len 8) 8, 3), (.op .rem (.op .quo .len 8) 2, 1)]] Hp.empty) = true := by kernel_rfl
theorem ok30 (n : Nat) : CallOk Tryz.prog (RO Tryz.prog 28 28 [(s30, t30)] [] n).fn := (RO_sound Tryz.codeOk mixed fnames (fun p hp => by
    simp only [List.mem_cons, List.not_mem_nil, or_false] at hp
    subst hp; exact run30) (fun p hp => by
    cases hp) frun fpar n).1
set_option maxRecDepth 100000 in
theorem at30 : isT ((RO Tryz.prog 28 28 [(s30, t30)] [] 400).fn 4 [.slx [(.op .gtr .len 1048576, 0), (.op .rem .len 8, 6), (.op .rem (.op .quo .len 8) 8, 3), (.op .rem (.op .quo .len 8) 2, 1)]] Hp.empty) = true := by kernel_rfl
theorem ok31 (n : Nat) : CallOk Tryz.prog (RO Tryz.prog 28 28 [(s31, t31)] [] n).fn := (RO_sound Tryz.codeOk mixed fnames (fun p hp => by
    simp only [List.mem_cons, List.not_mem_nil, or_false] at hp
    subst hp; exact run31) (fun p hp => by
    cases hp) frun fpar n).1
set_option maxRecDepth 100000 in
theorem at31 : isT ((RO Tryz.prog 28 28 [(s31, t31)] [] 400).fn 4 [.slx [(.op .gtr .len 1048576, 0), (.op .rem .len 8, 7), (.op .rem (.op .quo .len 8) 8, 3), (.op .rem (.op .quo .len 8) 2, 1)]] Hp.empty) = true := by kernel_rfl
theorem ok32 (n : Nat) : CallOk Tryz.prog (RO Tryz.prog 28 28 [(s32, t32)] [] n).fn := (RO_sound Tryz.codeOk mixed fnames (fun p hp => by
    simp only [List.mem_cons, List.not_mem_nil, or_false] at hp
    subst hp; exact run32) (fun p hp => by
    cases hp) frun fpar n).1
set_option maxRecDepth 100000 in
theorem at32 : isT ((RO Tryz.prog 28 28 [(s32, t32)] [] 400).fn 4 [.slx [(.op .gtr .len 1048576, 0), (.op .rem .len 8, 0), (.op .rem (.op .quo .len 8) 8, 4), (.op .rem (.op .quo .len 8) 2, 0)]] Hp.empty) = true := by kernel_rfl
theorem ok33 (n : Nat) : CallOk Tryz.prog (RO Tryz.prog 28 28 [(s33, t33)] [] n).fn := (RO_sound Tryz.codeOk mixed fnames (fun p hp => by
    simp only [List.mem_cons, List.not_mem_nil, or_false] at hp
    subst hp; exact run33) (fun p hp => by
    cases hp) frun fpar n).1
set_option maxRecDepth 100000 in
theorem at33 : isT ((RO Tryz.prog 28 28 [(s33, t33)] [] 400).fn 4 [.slx [(.op .gtr .len 1048576, 0), (.op .rem .len 8, 1), (.op .rem (.op .quo .len 8) 8, 4), (.op .rem (.op .quo .len 8) 2, 0)]] Hp.empty) = true := by kernel_rfl
theorem ok34 (n : Nat) : CallOk Tryz.prog (RO Tryz.prog 28 28 [(s34, t34)] [] n).fn := (RO_sound Tryz.codeOk mixed fnames (fun p hp => by
    simp only [List.mem_cons, List.not_mem_nil, or_false] at hp
    subst hp; exact run34) (fun p hp => by
    cases hp) frun fpar n).1
set_option maxRecDepth 100000 in
theorem at34 : isT ((RO Tryz.prog 28 28 [(s34, t34)] [] 400).fn 4 [.slx [(.op .gtr .len 1048576, 0), (.op .rem .len 8, 2), (.op .rem (.op .quo .len 8) 8, 4), (.op .rem (.op .quo .len 8) 2, 0)]] Hp.empty) = true := by kernel_rfl
theorem ok35 (n : Nat) : CallOk Tryz.prog (RO Tryz.prog 28 28 [(s35, t35)] [] n).fn := (RO_sound Tryz.codeOk mixed fnames (fun p hp => by
    simp only [List.mem_cons, List.not_mem_nil, or_false] at hp
    subst hp; exact run35) (fun p hp => by
    cases hp) frun fpar n).1
set_option maxRecDepth 100000 in
theorem at35 : isT ((RO Tryz.prog 28 28 [(s35, t35)] [] 400).fn 4 [.slx [(.op .gtr .len 1048576, 0), (.op .rem .len 8, 3), (.op .rem (.op .quo .len 8) 8, 4), (.op .rem (.op .quo .len 8) 2, 0)]] Hp.empty) = true := by kernel_rfl
theorem ok36 (n : Nat) : CallOk Tryz.prog (RO Tryz.prog 28 28 [(s36, t36)] [] n).fn := (RO_sound Tryz.codeOk mixed fnames (fun p hp => by
    simp only [List.mem_cons, List.not_mem_nil, or_false] at hp
    subst hp; exact run36) (fun p hp => by
    cases hp) frun fpar n).1
set_option maxRecDepth 100000 in
theorem at36 : isT ((RO Tryz.prog 28 28 [(s36, t36)] [] 400).fn 4 [.slx [(.op .gtr .len 1048576, 0), (.op .rem .len 8, 4), (.op .rem (.op .quo .len 8) 8, 4), (.op .rem (.op .quo .len 8) 2, 0)]] Hp.empty) = true := by kernel_rfl
theorem ok37 (n : Nat) : CallOk Tryz.prog (RO Tryz.prog 28 28 [(s37, t37)] [] n).fn := (RO_sound Tryz.codeOk mixed fnames (fun p hp => by
    simp only [List.mem_cons, List.not_mem_nil, or_false] at hp
    subst hp; exact run37) (fun p hp => by
    cases hp) frun fpar n).1
set_option maxRecDepth 100000 in
theorem at37 : isT ((RO Tryz.prog 28 28 [(s37, t37)] [] 400).fn 4 [.slx [(.op .gtr .len 1048576, 0), (.op .rem .len 8, 5), (.op .rem (.op .quo .len 8) 8, 4), (.op .rem (.op .quo .len 8) 2, 0)]] Hp.empty) = true := by kernel_rfl
theorem ok38 (n : Nat) : CallOk Tryz.prog (RO Tryz.prog 28 28 [(s38, t38)] [] n).fn := (RO_sound Tryz.codeOk mixed fnames (fun p hp => by
    simp only [List.mem_cons, List.not_mem_nil, or_false] at hp
    subst hp; exact run38) (fun p hp => by
    cases hp) frun fpar n).1
set_option maxRecDepth 100000 in
theorem at38 : isT ((RO Tryz.prog 28 28 [(s38, t38)] [] 400).fn 4 [.slx [(.op .gtr .len 1048576, 0), (.op .rem .len 8, 6), (.op .rem (.op .quo .len 8) 8, 4), (.op .rem (.op .quo .len 8) 2, 0)]] Hp.empty) = true := by kernel_rfl
theorem ok39 (n : Nat) : CallOk Tryz.prog (RO Tryz.prog 28 28 [(s39, t39)] [] n).fn := (RO_sound Tryz.codeOk mixed fnames (fun p hp => by
    simp only [List.mem_cons, List.not_mem_nil, or_false] at hp
    subst hp; exact run39) (fun p hp => by
    cases hp) frun fpar n).1
set_option maxRecDepth 100000 in
theorem at39 : isT ((RO Tryz.prog 28 28 [(s39, t39)] [] 400).fn 4 [.slx [(.op .gtr .len 1048576, 0), (.op .rem .len 8, 7), (.op .rem (.op .quo .len 8) 8, 4), (.op .rem (.op .quo .len 8) 2, 0)]] Hp.empty) = true := by kernel_rfl
theorem ok40 (n : Nat) : CallOk Tryz.prog (RO Tryz.prog 28 28 [(s40, t40)] [] n).fn := (RO_sound Tryz.codeOk mixed fnames (fun p hp => by
    simp only [List.mem_cons, List.not_mem_nil, or_false] at hp
    subst hp; exact run40) (fun p hp => by
    cases hp) frun fpar n).1
set_option maxRecDepth 100000 in
theorem at40 : isT ((RO Tryz.prog 28 28 [(s40, t40)] [] 400).fn 4 [.slx [(.op .gtr .len 1048576, 0), (.op .rem .len 8, 0), (.op .rem (.op .quo .len 8) 8, 5), (.op .rem (.op .quo .len 8) 2, 1)]] Hp.empty) = true := by kernel_rfl
theorem ok41 (n : Nat) : CallOk Tryz.prog (RO Tryz.prog 28 28 [(s41, t41)] [] n).fn := (RO_sound Tryz.codeOk mixed fnames (fun p hp => by
    simp only [List.mem_cons, List.not_mem_nil, or_false] at hp
    subst hp; exact run41) (fun p hp => by
    cases hp) frun fpar n).1
set_option maxRecDepth 100000 in
theorem at41 : isT ((RO Tryz.prog 28 28 [(s41, t41)] [] 400).fn 4 [.slx [(.op .gtr .len 1048576, 0), (.op .rem .len 8, 1), (.op .rem (.op .quo .len 8) 8, 5), (.op .rem (.op .quo .len 8) 2, 1)]] Hp.empty) = true := by kernel_rfl
theorem ok42 (n : Nat) : CallOk Tryz.prog (RO Tryz.prog 28 28 [(s42, t42)] [] n).fn := (RO_sound Tryz.codeOk mixed fnames (fun p hp => by
    simp only [List.mem_cons, List.not_mem_nil, or_false] at hp
    subst hp; exact run42) (fun p hp => by
    cases hp) frun fpar n).1
set_option maxRecDepth 100000 in
theorem at42 : isT ((RO Tryz.prog 28 28 [(s42, t42)] [] 400).fn 4 [.slx [(.op .gtr .len 1048576, 0), (.op .rem .len 8, 2), (.op .rem (.op .quo .len 8) 8, 5), (.op .rem (.op .quo .len 8) 2, 1)]] Hp.empty) = true := by kernel_rfl
theorem ok43 (n : Nat) : CallOk Tryz.prog (RO Tryz.prog 28 28 [(s43, t43)] [] n).fn := (RO_sound Tryz.codeOk mixed fnames (fun p hp => by
    simp only [List.mem_cons, List.not_mem_nil, or_false] at hp
    subst hp; exact run43) (fun p hp => by
    cases hp) frun fpar n).1
set_option maxRecDepth 100000 in
theorem at43 : isT ((RO Tryz.prog 28 28 [(s43, t43)] [] 400).fn 4 [.slx [(.op .gtr .len 1048576, 0), (.op .rem .len 8, 3), (.op .rem (.op .quo .len 8) 8, 5), (.op .rem (.op .quo .len 8) 2, 1)]] Hp.empty) = true := by kernel_rfl
theorem ok44 (n : Nat) : CallOk Tryz.prog (RO Tryz.prog 28 28 [(s44, t44)] [] n).fn := (RO_sound Tryz.codeOk mixed fnames (fun p hp => by
    simp only [List.mem_cons, List.not_mem_nil, or_false] at hp
    subst hp; exact run44) (fun p hp => by
    cases hp) frun fpar n).1
set_option maxRecDepth 100000 in
theorem at44 : isT ((RO Tryz.prog 28 28 [(s44, t44)] [] 400).fn 4 [.slx [(.op .gtr .len 1048576, 0), (.op .rem .len 8, 4), (.op .rem (.op .quo .len 8) 8, 5), (.op .rem (.op .quo .len 8) 2, 1)]] Hp.empty) = true := by kernel_rfl
theorem ok45 (n : Nat) : CallOk Tryz.prog (RO Tryz.prog 28 28 [(s45, t45)] [] n).fn := (RO_sound Tryz.codeOk mixed fnames (fun p hp => by
    simp only [List.mem_cons, List.not_mem_nil, or_false] at hp
    subst hp; exact run45) (fun p hp => by
    cases hp) frun fpar n).1
set_option maxRecDepth 100000 in
theorem at45 : isT ((RO Tryz.prog 28 28 [(s45, t45)] [] 400).fn 4 [.slx [(.op .gtr .len 1048576, 0), (.op .rem .len 8, 5), (.op .rem (.op .quo .len 8) 8, 5), (.op .rem (.op .quo .len 8) 2, 1)]] Hp.empty) = true := by kernel_rfl
theorem ok46 (n : Nat) : CallOk Tryz.prog (RO Tryz.prog 28 28 [(s46, t46)] [] n).fn := (RO_sound Tryz.codeOk mixed fnames (fun p hp => by
    simp only [List.mem_cons, List.not_mem_nil, or_false] at hp
    subst hp; exact run46) (fun p hp => by
    cases hp) frun fpar n).1
set_option maxRecDepth 100000 in
theorem at46 : isT ((RO Tryz.prog 28 28 [(s46, t46)] [] 400).fn 4 [.slx [(.op .gtr .len 1048576, 0), (.op .rem .len 8, 6), (.op .rem (.op .quo .len 8) 8, 5), (.op .rem (.op .quo .len 8) 2, 1)]] Hp.empty) = true := by kernel_rfl
theorem ok47 (n : Nat) : CallOk Tryz.prog (RO Tryz.prog 28 28 [(s47, t47)] [] n).fn := (RO_sound Tryz.codeOk mixed fnames (fun p hp => by
    simp only [List.mem_cons, List.not_mem_nil, or_false] at hp
    subst hp; exact run47) (fun p hp => by
    cases hp) frun fpar n).1
set_option maxRecDepth 100000 in
theorem at47 : isT ((RO Tryz.prog 28 28 [(s47, t47)] [] 400).fn 4 [.slx [(.op .gtr .len 1048576, 0), (.op .rem .len 8, 7), (.op .rem (.op .quo .len 8) 8, 5), (.op .rem (.op .quo .len 8) 2, 1)]] Hp.empty) = true := by kernel_rfl
theorem ok48 (n : Nat) : CallOk Tryz.prog (RO Tryz.prog 28 28 [(s48, t48)] [] n).fn := (RO_sound Tryz.codeOk mixed fnames (fun p hp => by
    simp only [List.mem_cons, List.not_mem_nil, or_false] at hp
    subst hp; exact run48) (fun p hp => by
    cases hp) frun fpar n).1
set_option maxRecDepth 100000 in
theorem at48 : isT ((RO Tryz.prog 28 28 [(s48, t48)] [] 400).fn 4 [.slx [(.op .gtr .len 1048576, 0), (.op .rem .len 8, 0), (.op .rem (.op .quo .len 8) 8, 6), (.op .rem (.op .quo .len 8) 2, 0)]] Hp.empty) = true := by kernel_rfl
theorem ok49 (n : Nat) : CallOk Tryz.prog (RO Tryz.prog 28 28 [(s49, t49)] [] n).fn := (RO_sound Tryz.codeOk mixed fnames (fun p hp => by
    simp only [List.mem_cons, List.not_mem_nil, or_false] at hp
    subst hp; exact run49) (fun p hp => by
    cases hp) frun fpar n).1
set_option maxRecDepth 100000 in
theorem at49 : isT ((RO Tryz.prog 28 28 [(s49, t49)] [] 400).fn 4 [.slx [(.op .gtr .len 1048576, 0), (.op .rem .len 8, 1), (.op .rem (.op .quo .len 8) 8, 6), (.op .rem (.op .quo .len 8) 2, 0)]] Hp.empty) = true := by kernel_rfl
theorem ok50 (n : Nat) : CallOk Tryz.prog (RO Tryz.prog 28 28 [(s50, t50)] [] n).fn := (RO_sound Tryz.codeOk mixed fnames (fun p hp => by
    simp only [List.mem_cons, List.not_mem_nil, or_false] at hp
    subst hp; exact run50) (fun p hp => by
    cases hp) frun fpar n).1
set_option maxRecDepth 100000 in
theorem at50 : isT ((RO Tryz.prog 28 28 [(s50, t50)] [] 400).fn 4 [.slx [(.op .gtr .len 1048576, 0), (.op .rem .len 8, 2), (.op .rem (.op .quo .len 8) 8, 6), (.op .rem (.op .quo .len 8) 2, 0)]] Hp.empty) = true := by kernel_rfl
theorem ok51 (n : Nat) : CallOk Tryz.prog (RO Tryz.prog 28 28 [(s51, t51)] [] n).fn := (RO_sound Tryz.codeOk mixed fnames (fun p hp => by
    simp only [List.mem_cons, List.not_mem_nil, or_false] at hp
    subst hp; exact run51) (fun p hp => by
    cases hp) frun fpar n).1
set_option maxRecDepth 100000 in
theorem at51 : isT ((RO Tryz.prog 28 28 [(s51, t51)] [] 400).fn 4 [.slx [(.op .gtr .len 1048576, 0), (.op .rem .len 8, 3), (.op .rem (.op .quo .len 8) 8, 6), (.op .rem (.op .quo .len 8) 2, 0)]] Hp.empty) = true := by kernel_rfl
theorem ok52 (n : Nat) : CallOk Tryz.prog (RO Tryz.prog 28 28 [(s52, t52)] [] n).fn := (RO_sound Tryz.codeOk mixed fnames (fun p hp => by
    simp only [List.mem_cons, List.not_mem_nil, or_false] at hp
    subst hp; exact run52) (fun p hp => by
    cases hp) frun fpar n).1
set_option maxRecDepth 100000 in
theorem at52 : isT ((RO Tryz.prog 28 28 [(s52, t52)] [] 400).fn 4 [.slx [(.op .gtr .len 1048576, 0), (.op .rem .len 8, 4), (.op .rem (.op .quo .len 8) 8, 6), (.op .rem (.op .quo .len 8) 2, 0)]] Hp.empty) = true := by kernel_rfl
theorem ok53 (n : Nat) : CallOk Tryz.prog (RO Tryz.prog 28 28 [(s53, t53)] [] n).fn := (RO_sound Tryz.codeOk mixed fnames (fun p hp => by
    simp only [List.mem_cons, List.not_mem_nil, or_false] at hp
    subst hp; exact run53) (fun p hp => by
    cases hp) frun fpar n).1
set_option maxRecDepth 100000 in
theorem at53 : isT ((RO Tryz.prog 28 28 [(s53, t53)] [] 400).fn 4 [.slx [(.op .gtr .len 1048576, 0), (.op .rem .len 8, 5), (.op .rem (.op .quo .len 8) 8, 6), (.op .rem (.op .quo .len 8) 2, 0)]] Hp.empty) = true := by kernel_rfl
theorem ok54 (n : Nat) : CallOk Tryz.prog (RO Tryz.prog 28 28 [(s54, t54)] [] n).fn := (RO_sound Tryz.codeOk mixed fnames (fun p hp => by
    simp only [List.mem_cons, List.not_mem_nil, or_false] at hp
    subst hp; exact run54) (fun p hp => by
    cases hp) frun fpar n).1
set_option maxRecDepth 100000 in
theorem at54 : isT ((RO Tryz.prog 28 28 [(s54, t54)] [] 400).fn 4 [.slx [(.op .gtr .len 1048576, 0), (.op .rem .len 8, 6), (.op .rem (.op .quo .len 8) 8, 6), (.op .rem (.op .quo .len 8) 2, 0)]] Hp.empty) = true := by kernel_rfl
theorem ok55 (n : Nat) : CallOk Tryz.prog (RO Tryz.prog 28 28 [(s55, t55)] [] n).fn := (RO_sound Tryz.codeOk mixed fnames (fun p hp => by
    simp only [List.mem_cons, List.not_mem_nil, or_false] at hp
    subst hp; exact run55) (fun p hp => by
    cases hp) frun fpar n).1
set_option maxRecDepth 100000 in
theorem at55 : isT ((RO Tryz.prog 28 28 [(s55, t55)] [] 400).fn 4 [.slx [(.op .gtr .len 1048576, 0), (.op .rem .len 8, 7), (.op .rem (.op .quo .len 8) 8, 6), (.op .rem (.op .quo .len 8) 2, 0)]] Hp.empty) = true := by kernel_rfl
theorem ok56 (n : Nat) : CallOk Tryz.prog (RO Tryz.prog 28 28 [(s56, t56)] [] n).fn := (RO_sound Tryz.codeOk mixed fnames (fun p hp => by
    simp only [List.mem_cons, List.not_mem_nil, or_false] at hp
    subst hp; exact run56) (fun p hp => by
    cases hp) frun fpar n).1
set_option maxRecDepth 100000 in
theorem at56 : isT ((RO Tryz.prog 28 28 [(s56, t56)] [] 400).fn 4 [.slx [(.op .gtr .len 1048576, 0), (.op .rem .len 8, 0), (.op .rem (.op .quo .len 8) 8, 7), (.op .rem (.op .quo .len 8) 2, 1)]] Hp.empty) = true := by kernel_rfl
theorem ok57 (n : Nat) : CallOk Tryz.prog (RO Tryz.prog 28 28 [(s57, t57)] [] n).fn := (RO_sound Tryz.codeOk mixed fnames (fun p hp => by
    simp only [List.mem_cons, List.not_mem_nil, or_false] at hp
    subst hp; exact run57) (fun p hp => by
    cases hp) frun fpar n).1
set_option maxRecDepth 100000 in
theorem at57 : isT ((RO Tryz.prog 28 28 [(s57, t57)] [] 400).fn 4 [.slx [(.op .gtr .len 1048576, 0), (.op .rem .len 8, 1), (.op .rem (.op .quo .len 8) 8, 7), (.op .rem (.op .quo .len 8) 2, 1)]] Hp.empty) = true := by kernel_rfl
theorem ok58 (n : Nat) : CallOk Tryz.prog (RO Tryz.prog 28 28 [(s58, t58)] [] n).fn := (RO_sound Tryz.codeOk mixed fnames (fun p hp => by
    simp only [List.mem_cons, List.not_mem_nil, or_false] at hp
    subst hp; exact run58) (fun p hp => by
    cases hp) frun fpar n).1
set_option maxRecDepth 100000 in
theorem at58 : isT ((RO Tryz.prog 28 28 [(s58, t58)] [] 400).fn 4 [.slx [(.op .gtr .len 1048576, 0), (.op .rem .len 8, 2), (.op .rem (.op .quo .len 8) 8, 7), (.op .rem (.op .quo .len 8) 2, 1)]] Hp.empty) = true := by kernel_rfl
theorem ok59 (n : Nat) : CallOk Tryz.prog (RO Tryz.prog 28 28 [(s59, t59)] [] n).fn := (RO_sound Tryz.codeOk mixed fnames (fun p hp => by
    simp only [List.mem_cons, List.not_mem_nil, or_false] at hp
    subst hp; exact run59) (fun p hp => by
    cases hp) frun fpar n).1
set_option maxRecDepth 100000 in
theorem at59 : isT ((RO Tryz.prog 28 28 [(s59, t59)] [] 400).fn 4 [.slx [(.op .gtr .len 1048576, 0), (.op .rem .len 8, 3), (.op .rem (.op .quo .len 8) 8, 7), (.op .rem (.op .quo .len 8) 2, 1)]] Hp.empty) = true := by kernel_rfl
theorem ok60 (n : Nat) : CallOk Tryz.prog (RO Tryz.prog 28 28 [(s60, t60)] [] n).fn := (RO_sound Tryz.codeOk mixed fnames (fun p hp => by
    simp only [List.mem_cons, List.not_mem_nil, or_false] at hp
    subst hp; exact run60) (fun p hp => by
    cases hp) frun fpar n).1
set_option maxRecDepth 100000 in
theorem at60 : isT ((RO Tryz.prog 28 28 [(s60, t60)] [] 400).fn 4 [.slx [(.op .gtr .len 1048576, 0), (.op .rem .len 8, 4), (.op .rem (.op .quo .len 8) 8, 7), (.op .rem (.op .quo .len 8) 2, 1)]] Hp.empty) = true := by kernel_rfl
theorem ok61 (n : Nat) : CallOk Tryz.prog (RO Tryz.prog 28 28 [(s61, t61)] [] n).fn := (RO_sound Tryz.codeOk mixed fnames (fun p hp => by
    simp only [List.mem_cons, List.not_mem_nil, or_false] at hp
    subst hp; exact run61) (fun p hp => by
    cases hp) frun fpar n).1
set_option maxRecDepth 100000 in
theorem at61 : isT ((RO Tryz.prog 28 28 [(s61, t61)] [] 400).fn 4 [.slx [(.op .gtr .len 1048576, 0), (.op .rem .len 8, 5), (.op .rem (.op .quo .len 8) 8, 7), (.op .rem (.op .quo .len 8) 2, 1)]] Hp.empty) = true := by kernel_rfl
theorem ok62 (n : Nat) : CallOk Tryz.prog (RO Tryz.prog 28 28 [(s62, t62)] [] n).fn := (RO_sound Tryz.codeOk mixed fnames (fun p hp => by
    simp only [List.mem_cons, List.not_mem_nil, or_false] at hp
    subst hp; exact run62) (fun p hp => by
    cases hp) frun fpar n).1
set_option maxRecDepth 100000 in
theorem at62 : isT ((RO Tryz.prog 28 28 [(s62, t62)] [] 400).fn 4 [.slx [(.op .gtr .len 1048576, 0), (.op .rem .len 8, 6), (.op .rem (.op .quo .len 8) 8, 7), (.op .rem (.op .quo .len 8) 2, 1)]] Hp.empty) = true := by kernel_rfl
theorem ok63 (n : Nat) : CallOk Tryz.prog (RO Tryz.prog 28 28 [(s63, t63)] [] n).fn := (RO_sound Tryz.codeOk mixed fnames (fun p hp => by
    simp only [List.mem_cons, List.not_mem_nil, or_false] at hp
    subst hp; exact run63) (fun p hp => by
    cases hp) frun fpar n).1
set_option maxRecDepth 100000 in
theorem at63 : isT ((RO Tryz.prog 28 28 [(s63, t63)] [] 400).fn 4 [.slx [(.op .gtr .len 1048576, 0), (.op .rem .len 8, 7), (.op .rem (.op .quo .len 8) 8, 7), (.op .rem (.op .quo .len 8) 2, 1)]] Hp.empty) = true := by kernel_rfl
set_option maxRecDepth 100000 in
theorem atBig : isT ((RR Tryz.prog 400).fn 4 [.slx [(.op .gtr .len 1048576, 1)]] Hp.empty) = true := by kernel_rfl
theorem len_quo {L j k r : Nat} (hL : ¬ 1048576 < L) (hj : 1 ≤ j) (h : L / j % k = r) : evalE L (.op .rem (.op .quo .len j) k) = some (r : Int) := by
  simp only [evalE, Eng.evalOp, Option.bind_some, Option.some.injEq]
  rw [Go.IntWalk.i64_quo _ _ (by omega), Int.tmod_eq_emod_of_nonneg (Int.ediv_nonneg (by omega) (by omega)), ← h]
  rfl
theorem walk (A : Option Addr) (L cap : Nat) {w : World} : Calls Tryz.prog 4 #[.slice A L cap] w fun e w' => e = .returned (.bool true) ∧ Below w.heap.size w w' := by
  by_cases hb : 1048576 < L
  · exact law_at (sound 400) atBig (fun p hp => by simp only [List.mem_cons, List.not_mem_nil, or_false] at hp; subst hp; exact len_big hb) A cap w
  · have h0 := len_small hb
    have hq : L / 8 % 8 = 0 ∨ L / 8 % 8 = 1 ∨ L / 8 % 8 = 2 ∨ L / 8 % 8 = 3 ∨ L / 8 % 8 = 4 ∨ L / 8 % 8 = 5 ∨ L / 8 % 8 = 6 ∨ L / 8 % 8 = 7 := by omega
    have hp : L % 8 = 0 ∨ L % 8 = 1 ∨ L % 8 = 2 ∨ L % 8 = 3 ∨ L % 8 = 4 ∨ L % 8 = 5 ∨ L % 8 = 6 ∨ L % 8 = 7 := by omega
    rcases hq with g | g | g | g | g | g | g | g <;> rcases hp with f | f | f | f | f | f | f | f <;> have h := And.intro f g
    · exact law_at (ok0 400) at0 (fun p hp => by simp only [List.mem_cons, List.not_mem_nil, or_false] at hp; rcases hp with rfl | rfl | rfl | rfl <;> first | exact h0 | exact len_rem h.1 | exact len_quo hb (by decide) h.2 | exact len_quo hb (by decide) (show L / 8 % 2 = 0 by omega)) A cap w
    · exact law_at (ok1 400) at1 (fun p hp => by simp only [List.mem_cons, List.not_mem_nil, or_false] at hp; rcases hp with rfl | rfl | rfl | rfl <;> first | exact h0 | exact len_rem h.1 | exact len_quo hb (by decide) h.2 | exact len_quo hb (by decide) (show L / 8 % 2 = 0 by omega)) A cap w
    · exact law_at (ok2 400) at2 (fun p hp => by simp only [List.mem_cons, List.not_mem_nil, or_false] at hp; rcases hp with rfl | rfl | rfl | rfl <;> first | exact h0 | exact len_rem h.1 | exact len_quo hb (by decide) h.2 | exact len_quo hb (by decide) (show L / 8 % 2 = 0 by omega)) A cap w
    · exact law_at (ok3 400) at3 (fun p hp => by simp only [List.mem_cons, List.not_mem_nil, or_false] at hp; rcases hp with rfl | rfl | rfl | rfl <;> first | exact h0 | exact len_rem h.1 | exact len_quo hb (by decide) h.2 | exact len_quo hb (by decide) (show L / 8 % 2 = 0 by omega)) A cap w
    · exact law_at (ok4 400) at4 (fun p hp => by simp only [List.mem_cons, List.not_mem_nil, or_false] at hp; rcases hp with rfl | rfl | rfl | rfl <;> first | exact h0 | exact len_rem h.1 | exact len_quo hb (by decide) h.2 | exact len_quo hb (by decide) (show L / 8 % 2 = 0 by omega)) A cap w
    · exact law_at (ok5 400) at5 (fun p hp => by simp only [List.mem_cons, List.not_mem_nil, or_false] at hp; rcases hp with rfl | rfl | rfl | rfl <;> first | exact h0 | exact len_rem h.1 | exact len_quo hb (by decide) h.2 | exact len_quo hb (by decide) (show L / 8 % 2 = 0 by omega)) A cap w
    · exact law_at (ok6 400) at6 (fun p hp => by simp only [List.mem_cons, List.not_mem_nil, or_false] at hp; rcases hp with rfl | rfl | rfl | rfl <;> first | exact h0 | exact len_rem h.1 | exact len_quo hb (by decide) h.2 | exact len_quo hb (by decide) (show L / 8 % 2 = 0 by omega)) A cap w
    · exact law_at (ok7 400) at7 (fun p hp => by simp only [List.mem_cons, List.not_mem_nil, or_false] at hp; rcases hp with rfl | rfl | rfl | rfl <;> first | exact h0 | exact len_rem h.1 | exact len_quo hb (by decide) h.2 | exact len_quo hb (by decide) (show L / 8 % 2 = 0 by omega)) A cap w
    · exact law_at (ok8 400) at8 (fun p hp => by simp only [List.mem_cons, List.not_mem_nil, or_false] at hp; rcases hp with rfl | rfl | rfl | rfl <;> first | exact h0 | exact len_rem h.1 | exact len_quo hb (by decide) h.2 | exact len_quo hb (by decide) (show L / 8 % 2 = 1 by omega)) A cap w
    · exact law_at (ok9 400) at9 (fun p hp => by simp only [List.mem_cons, List.not_mem_nil, or_false] at hp; rcases hp with rfl | rfl | rfl | rfl <;> first | exact h0 | exact len_rem h.1 | exact len_quo hb (by decide) h.2 | exact len_quo hb (by decide) (show L / 8 % 2 = 1 by omega)) A cap w
    · exact law_at (ok10 400) at10 (fun p hp => by simp only [List.mem_cons, List.not_mem_nil, or_false] at hp; rcases hp with rfl | rfl | rfl | rfl <;> first | exact h0 | exact len_rem h.1 | exact len_quo hb (by decide) h.2 | exact len_quo hb (by decide) (show L / 8 % 2 = 1 by omega)) A cap w
    · exact law_at (ok11 400) at11 (fun p hp => by simp only [List.mem_cons, List.not_mem_nil, or_false] at hp; rcases hp with rfl | rfl | rfl | rfl <;> first | exact h0 | exact len_rem h.1 | exact len_quo hb (by decide) h.2 | exact len_quo hb (by decide) (show L / 8 % 2 = 1 by omega)) A cap w
    · exact law_at (ok12 400) at12 (fun p hp => by simp only [List.mem_cons, List.not_mem_nil, or_false] at hp; rcases hp with rfl | rfl | rfl | rfl <;> first | exact h0 | exact len_rem h.1 | exact len_quo hb (by decide) h.2 | exact len_quo hb (by decide) (show L / 8 % 2 = 1 by omega)) A cap w
    · exact law_at (ok13 400) at13 (fun p hp => by simp only [List.mem_cons, List.not_mem_nil, or_false] at hp; rcases hp with rfl | rfl | rfl | rfl <;> first | exact h0 | exact len_rem h.1 | exact len_quo hb (by decide) h.2 | exact len_quo hb (by decide) (show L / 8 % 2 = 1 by omega)) A cap w
    · exact law_at (ok14 400) at14 (fun p hp => by simp only [List.mem_cons, List.not_mem_nil, or_false] at hp; rcases hp with rfl | rfl | rfl | rfl <;> first | exact h0 | exact len_rem h.1 | exact len_quo hb (by decide) h.2 | exact len_quo hb (by decide) (show L / 8 % 2 = 1 by omega)) A cap w
    · exact law_at (ok15 400) at15 (fun p hp => by simp only [List.mem_cons, List.not_mem_nil, or_false] at hp; rcases hp with rfl | rfl | rfl | rfl <;> first | exact h0 | exact len_rem h.1 | exact len_quo hb (by decide) h.2 | exact len_quo hb (by decide) (show L / 8 % 2 = 1 by omega)) A cap w
    · exact law_at (ok16 400) at16 (fun p hp => by simp only [List.mem_cons, List.not_mem_nil, or_false] at hp; rcases hp with rfl | rfl | rfl | rfl <;> first | exact h0 | exact len_rem h.1 | exact len_quo hb (by decide) h.2 | exact len_quo hb (by decide) (show L / 8 % 2 = 0 by omega)) A cap w
    · exact law_at (ok17 400) at17 (fun p hp => by simp only [List.mem_cons, List.not_mem_nil, or_false] at hp; rcases hp with rfl | rfl | rfl | rfl <;> first | exact h0 | exact len_rem h.1 | exact len_quo hb (by decide) h.2 | exact len_quo hb (by decide) (show L / 8 % 2 = 0 by omega)) A cap w
    · exact law_at (ok18 400) at18 (fun p hp => by simp only [List.mem_cons, List.not_mem_nil, or_false] at hp; rcases hp with rfl | rfl | rfl | rfl <;> first | exact h0 | exact len_rem h.1 | exact len_quo hb (by decide) h.2 | exact len_quo hb (by decide) (show L / 8 % 2 = 0 by omega)) A cap w
    · exact law_at (ok19 400) at19 (fun p hp => by simp only [List.mem_cons, List.not_mem_nil, or_false] at hp; rcases hp with rfl | rfl | rfl | rfl <;> first | exact h0 | exact len_rem h.1 | exact len_quo hb (by decide) h.2 | exact len_quo hb (by decide) (show L / 8 % 2 = 0 by omega)) A cap w
    · exact law_at (ok20 400) at20 (fun p hp => by simp only [List.mem_cons, List.not_mem_nil, or_false] at hp; rcases hp with rfl | rfl | rfl | rfl <;> first | exact h0 | exact len_rem h.1 | exact len_quo hb (by decide) h.2 | exact len_quo hb (by decide) (show L / 8 % 2 = 0 by omega)) A cap w
    · exact law_at (ok21 400) at21 (fun p hp => by simp only [List.mem_cons, List.not_mem_nil, or_false] at hp; rcases hp with rfl | rfl | rfl | rfl <;> first | exact h0 | exact len_rem h.1 | exact len_quo hb (by decide) h.2 | exact len_quo hb (by decide) (show L / 8 % 2 = 0 by omega)) A cap w
    · exact law_at (ok22 400) at22 (fun p hp => by simp only [List.mem_cons, List.not_mem_nil, or_false] at hp; rcases hp with rfl | rfl | rfl | rfl <;> first | exact h0 | exact len_rem h.1 | exact len_quo hb (by decide) h.2 | exact len_quo hb (by decide) (show L / 8 % 2 = 0 by omega)) A cap w
    · exact law_at (ok23 400) at23 (fun p hp => by simp only [List.mem_cons, List.not_mem_nil, or_false] at hp; rcases hp with rfl | rfl | rfl | rfl <;> first | exact h0 | exact len_rem h.1 | exact len_quo hb (by decide) h.2 | exact len_quo hb (by decide) (show L / 8 % 2 = 0 by omega)) A cap w
    · exact law_at (ok24 400) at24 (fun p hp => by simp only [List.mem_cons, List.not_mem_nil, or_false] at hp; rcases hp with rfl | rfl | rfl | rfl <;> first | exact h0 | exact len_rem h.1 | exact len_quo hb (by decide) h.2 | exact len_quo hb (by decide) (show L / 8 % 2 = 1 by omega)) A cap w
    · exact law_at (ok25 400) at25 (fun p hp => by simp only [List.mem_cons, List.not_mem_nil, or_false] at hp; rcases hp with rfl | rfl | rfl | rfl <;> first | exact h0 | exact len_rem h.1 | exact len_quo hb (by decide) h.2 | exact len_quo hb (by decide) (show L / 8 % 2 = 1 by omega)) A cap w
    · exact law_at (ok26 400) at26 (fun p hp => by simp only [List.mem_cons, List.not_mem_nil, or_false] at hp; rcases hp with rfl | rfl | rfl | rfl <;> first | exact h0 | exact len_rem h.1 | exact len_quo hb (by decide) h.2 | exact len_quo hb (by decide) (show L / 8 % 2 = 1 by omega)) A cap w
    · exact law_at (ok27 400) at27 (fun p hp => by simp only [List.mem_cons, List.not_mem_nil, or_false] at hp; rcases hp with rfl | rfl | rfl | rfl <;> first | exact h0 | exact len_rem h.1 | exact len_quo hb (by decide) h.2 | exact len_quo hb (by decide) (show L / 8 % 2 = 1 by omega)) A cap w
    · exact law_at (ok28 400) at28 (fun p hp => by simp only [List.mem_cons, List.not_mem_nil, or_false] at hp; rcases hp with rfl | rfl | rfl | rfl <;> first | exact h0 | exact len_rem h.1 | exact len_quo hb (by decide) h.2 | exact len_quo hb (by decide) (show L / 8 % 2 = 1 by omega)) A cap w
    · exact law_at (ok29 400) at29 (fun p hp => by simp only [List.mem_cons, List.not_mem_nil, or_false] at hp; rcases hp with rfl | rfl | rfl | rfl <;> first | exact h0 | exact len_rem h.1 | exact len_quo hb (by decide) h.2 | exact len_quo hb (by decide) (show L / 8 % 2 = 1 by omega)) A cap w
    · exact law_at (ok30 400) at30 (fun p hp => by simp only [List.mem_cons, List.not_mem_nil, or_false] at hp; rcases hp with rfl | rfl | rfl | rfl <;> first | exact h0 | exact len_rem h.1 | exact len_quo hb (by decide) h.2 | exact len_quo hb (by decide) (show L / 8 % 2 = 1 by omega)) A cap w
    · exact law_at (ok31 400) at31 (fun p hp => by simp only [List.mem_cons, List.not_mem_nil, or_false] at hp; rcases hp with rfl | rfl | rfl | rfl <;> first | exact h0 | exact len_rem h.1 | exact len_quo hb (by decide) h.2 | exact len_quo hb (by decide) (show L / 8 % 2 = 1 by omega)) A cap w
    · exact law_at (ok32 400) at32 (fun p hp => by simp only [List.mem_cons, List.not_mem_nil, or_false] at hp; rcases hp with rfl | rfl | rfl | rfl <;> first | exact h0 | exact len_rem h.1 | exact len_quo hb (by decide) h.2 | exact len_quo hb (by decide) (show L / 8 % 2 = 0 by omega)) A cap w
    · exact law_at (ok33 400) at33 (fun p hp => by simp only [List.mem_cons, List.not_mem_nil, or_false] at hp; rcases hp with rfl | rfl | rfl | rfl <;> first | exact h0 | exact len_rem h.1 | exact len_quo hb (by decide) h.2 | exact len_quo hb (by decide) (show L / 8 % 2 = 0 by omega)) A cap w
    · exact law_at (ok34 400) at34 (fun p hp => by simp only [List.mem_cons, List.not_mem_nil, or_false] at hp; rcases hp with rfl | rfl | rfl | rfl <;> first | exact h0 | exact len_rem h.1 | exact len_quo hb (by decide) h.2 | exact len_quo hb (by decide) (show L / 8 % 2 = 0 by omega)) A cap w
    · exact law_at (ok35 400) at35 (fun p hp => by simp only [List.mem_cons, List.not_mem_nil, or_false] at hp; rcases hp with rfl | rfl | rfl | rfl <;> first | exact h0 | exact len_rem h.1 | exact len_quo hb (by decide) h.2 | exact len_quo hb (by decide) (show L / 8 % 2 = 0 by omega)) A cap w
    · exact law_at (ok36 400) at36 (fun p hp => by simp only [List.mem_cons, List.not_mem_nil, or_false] at hp; rcases hp with rfl | rfl | rfl | rfl <;> first | exact h0 | exact len_rem h.1 | exact len_quo hb (by decide) h.2 | exact len_quo hb (by decide) (show L / 8 % 2 = 0 by omega)) A cap w
    · exact law_at (ok37 400) at37 (fun p hp => by simp only [List.mem_cons, List.not_mem_nil, or_false] at hp; rcases hp with rfl | rfl | rfl | rfl <;> first | exact h0 | exact len_rem h.1 | exact len_quo hb (by decide) h.2 | exact len_quo hb (by decide) (show L / 8 % 2 = 0 by omega)) A cap w
    · exact law_at (ok38 400) at38 (fun p hp => by simp only [List.mem_cons, List.not_mem_nil, or_false] at hp; rcases hp with rfl | rfl | rfl | rfl <;> first | exact h0 | exact len_rem h.1 | exact len_quo hb (by decide) h.2 | exact len_quo hb (by decide) (show L / 8 % 2 = 0 by omega)) A cap w
    · exact law_at (ok39 400) at39 (fun p hp => by simp only [List.mem_cons, List.not_mem_nil, or_false] at hp; rcases hp with rfl | rfl | rfl | rfl <;> first | exact h0 | exact len_rem h.1 | exact len_quo hb (by decide) h.2 | exact len_quo hb (by decide) (show L / 8 % 2 = 0 by omega)) A cap w
    · exact law_at (ok40 400) at40 (fun p hp => by simp only [List.mem_cons, List.not_mem_nil, or_false] at hp; rcases hp with rfl | rfl | rfl | rfl <;> first | exact h0 | exact len_rem h.1 | exact len_quo hb (by decide) h.2 | exact len_quo hb (by decide) (show L / 8 % 2 = 1 by omega)) A cap w
    · exact law_at (ok41 400) at41 (fun p hp => by simp only [List.mem_cons, List.not_mem_nil, or_false] at hp; rcases hp with rfl | rfl | rfl | rfl <;> first | exact h0 | exact len_rem h.1 | exact len_quo hb (by decide) h.2 | exact len_quo hb (by decide) (show L / 8 % 2 = 1 by omega)) A cap w
    · exact law_at (ok42 400) at42 (fun p hp => by simp only [List.mem_cons, List.not_mem_nil, or_false] at hp; rcases hp with rfl | rfl | rfl | rfl <;> first | exact h0 | exact len_rem h.1 | exact len_quo hb (by decide) h.2 | exact len_quo hb (by decide) (show L / 8 % 2 = 1 by omega)) A cap w
    · exact law_at (ok43 400) at43 (fun p hp => by simp only [List.mem_cons, List.not_mem_nil, or_false] at hp; rcases hp with rfl | rfl | rfl | rfl <;> first | exact h0 | exact len_rem h.1 | exact len_quo hb (by decide) h.2 | exact len_quo hb (by decide) (show L / 8 % 2 = 1 by omega)) A cap w
    · exact law_at (ok44 400) at44 (fun p hp => by simp only [List.mem_cons, List.not_mem_nil, or_false] at hp; rcases hp with rfl | rfl | rfl | rfl <;> first | exact h0 | exact len_rem h.1 | exact len_quo hb (by decide) h.2 | exact len_quo hb (by decide) (show L / 8 % 2 = 1 by omega)) A cap w
    · exact law_at (ok45 400) at45 (fun p hp => by simp only [List.mem_cons, List.not_mem_nil, or_false] at hp; rcases hp with rfl | rfl | rfl | rfl <;> first | exact h0 | exact len_rem h.1 | exact len_quo hb (by decide) h.2 | exact len_quo hb (by decide) (show L / 8 % 2 = 1 by omega)) A cap w
    · exact law_at (ok46 400) at46 (fun p hp => by simp only [List.mem_cons, List.not_mem_nil, or_false] at hp; rcases hp with rfl | rfl | rfl | rfl <;> first | exact h0 | exact len_rem h.1 | exact len_quo hb (by decide) h.2 | exact len_quo hb (by decide) (show L / 8 % 2 = 1 by omega)) A cap w
    · exact law_at (ok47 400) at47 (fun p hp => by simp only [List.mem_cons, List.not_mem_nil, or_false] at hp; rcases hp with rfl | rfl | rfl | rfl <;> first | exact h0 | exact len_rem h.1 | exact len_quo hb (by decide) h.2 | exact len_quo hb (by decide) (show L / 8 % 2 = 1 by omega)) A cap w
    · exact law_at (ok48 400) at48 (fun p hp => by simp only [List.mem_cons, List.not_mem_nil, or_false] at hp; rcases hp with rfl | rfl | rfl | rfl <;> first | exact h0 | exact len_rem h.1 | exact len_quo hb (by decide) h.2 | exact len_quo hb (by decide) (show L / 8 % 2 = 0 by omega)) A cap w
    · exact law_at (ok49 400) at49 (fun p hp => by simp only [List.mem_cons, List.not_mem_nil, or_false] at hp; rcases hp with rfl | rfl | rfl | rfl <;> first | exact h0 | exact len_rem h.1 | exact len_quo hb (by decide) h.2 | exact len_quo hb (by decide) (show L / 8 % 2 = 0 by omega)) A cap w
    · exact law_at (ok50 400) at50 (fun p hp => by simp only [List.mem_cons, List.not_mem_nil, or_false] at hp; rcases hp with rfl | rfl | rfl | rfl <;> first | exact h0 | exact len_rem h.1 | exact len_quo hb (by decide) h.2 | exact len_quo hb (by decide) (show L / 8 % 2 = 0 by omega)) A cap w
    · exact law_at (ok51 400) at51 (fun p hp => by simp only [List.mem_cons, List.not_mem_nil, or_false] at hp; rcases hp with rfl | rfl | rfl | rfl <;> first | exact h0 | exact len_rem h.1 | exact len_quo hb (by decide) h.2 | exact len_quo hb (by decide) (show L / 8 % 2 = 0 by omega)) A cap w
    · exact law_at (ok52 400) at52 (fun p hp => by simp only [List.mem_cons, List.not_mem_nil, or_false] at hp; rcases hp with rfl | rfl | rfl | rfl <;> first | exact h0 | exact len_rem h.1 | exact len_quo hb (by decide) h.2 | exact len_quo hb (by decide) (show L / 8 % 2 = 0 by omega)) A cap w
    · exact law_at (ok53 400) at53 (fun p hp => by simp only [List.mem_cons, List.not_mem_nil, or_false] at hp; rcases hp with rfl | rfl | rfl | rfl <;> first | exact h0 | exact len_rem h.1 | exact len_quo hb (by decide) h.2 | exact len_quo hb (by decide) (show L / 8 % 2 = 0 by omega)) A cap w
    · exact law_at (ok54 400) at54 (fun p hp => by simp only [List.mem_cons, List.not_mem_nil, or_false] at hp; rcases hp with rfl | rfl | rfl | rfl <;> first | exact h0 | exact len_rem h.1 | exact len_quo hb (by decide) h.2 | exact len_quo hb (by decide) (show L / 8 % 2 = 0 by omega)) A cap w
    · exact law_at (ok55 400) at55 (fun p hp => by simp only [List.mem_cons, List.not_mem_nil, or_false] at hp; rcases hp with rfl | rfl | rfl | rfl <;> first | exact h0 | exact len_rem h.1 | exact len_quo hb (by decide) h.2 | exact len_quo hb (by decide) (show L / 8 % 2 = 0 by omega)) A cap w
    · exact law_at (ok56 400) at56 (fun p hp => by simp only [List.mem_cons, List.not_mem_nil, or_false] at hp; rcases hp with rfl | rfl | rfl | rfl <;> first | exact h0 | exact len_rem h.1 | exact len_quo hb (by decide) h.2 | exact len_quo hb (by decide) (show L / 8 % 2 = 1 by omega)) A cap w
    · exact law_at (ok57 400) at57 (fun p hp => by simp only [List.mem_cons, List.not_mem_nil, or_false] at hp; rcases hp with rfl | rfl | rfl | rfl <;> first | exact h0 | exact len_rem h.1 | exact len_quo hb (by decide) h.2 | exact len_quo hb (by decide) (show L / 8 % 2 = 1 by omega)) A cap w
    · exact law_at (ok58 400) at58 (fun p hp => by simp only [List.mem_cons, List.not_mem_nil, or_false] at hp; rcases hp with rfl | rfl | rfl | rfl <;> first | exact h0 | exact len_rem h.1 | exact len_quo hb (by decide) h.2 | exact len_quo hb (by decide) (show L / 8 % 2 = 1 by omega)) A cap w
    · exact law_at (ok59 400) at59 (fun p hp => by simp only [List.mem_cons, List.not_mem_nil, or_false] at hp; rcases hp with rfl | rfl | rfl | rfl <;> first | exact h0 | exact len_rem h.1 | exact len_quo hb (by decide) h.2 | exact len_quo hb (by decide) (show L / 8 % 2 = 1 by omega)) A cap w
    · exact law_at (ok60 400) at60 (fun p hp => by simp only [List.mem_cons, List.not_mem_nil, or_false] at hp; rcases hp with rfl | rfl | rfl | rfl <;> first | exact h0 | exact len_rem h.1 | exact len_quo hb (by decide) h.2 | exact len_quo hb (by decide) (show L / 8 % 2 = 1 by omega)) A cap w
    · exact law_at (ok61 400) at61 (fun p hp => by simp only [List.mem_cons, List.not_mem_nil, or_false] at hp; rcases hp with rfl | rfl | rfl | rfl <;> first | exact h0 | exact len_rem h.1 | exact len_quo hb (by decide) h.2 | exact len_quo hb (by decide) (show L / 8 % 2 = 1 by omega)) A cap w
    · exact law_at (ok62 400) at62 (fun p hp => by simp only [List.mem_cons, List.not_mem_nil, or_false] at hp; rcases hp with rfl | rfl | rfl | rfl <;> first | exact h0 | exact len_rem h.1 | exact len_quo hb (by decide) h.2 | exact len_quo hb (by decide) (show L / 8 % 2 = 1 by omega)) A cap w
    · exact law_at (ok63 400) at63 (fun p hp => by simp only [List.mem_cons, List.not_mem_nil, or_false] at hp; rcases hp with rfl | rfl | rfl | rfl <;> first | exact h0 | exact len_rem h.1 | exact len_quo hb (by decide) h.2 | exact len_quo hb (by decide) (show L / 8 % 2 = 1 by omega)) A cap w
set_option maxRecDepth 100000 in
theorem lifted (os : Os) (started : os.Started) (H : Type) (enc : TypeId × Value → H) :
    ReturnsInHanded {} Tryz.checked os 4 .any (Rows.fnNextMethodsSpec.pre6 enc Tryz.prog Tryz.f4 Rows.fnNextMethodsRow.domain false) (Rows.fnNextMethodsSpec.post enc Tryz.prog Tryz.f4 false true false false) := by
  refine returnsInHanded_of_change (C := Tryz.checked) own started (by kernel_rfl) Tryz.func4
    (ChangeSpec.witness6 (enc := enc) (C := Tryz.checked) false ⟨#[], #[.slice none 0 0], []⟩ 8 (by kernel_rfl) (by kernel_rfl) (by kernel_rfl) (by kernel_rfl)) ?_
  intro W base args ds gs before hval0 hW hcnd _
  have hval : ∀ (j : Nat) t v, Tryz.f4.params[j]? = some t → args[j]? = some v → Value.okWide Tryz.prog W .any base t v := hval0
  have hW' := hW
  obtain ⟨p, q, hA0, hV, rfl, hfz, hnd⟩ := hW
  have hA : DataW.TrodAll enc Tryz.prog W 0 (fun _ => true) true Tryz.f4.params.toList args.toList ds p := hA0
  rw [Tryz.params4] at hA hval
  obtain ⟨v0, vs0, d0, ds0, p0, q0, hargs, rfl, rfl, h0, r0⟩ := trodAll_cons hA
  obtain ⟨rfl, rfl, rfl⟩ := trodAll_nil r0
  obtain rfl : args = #[v0] := by cases args; simp_all
  obtain ⟨rfl, rfl⟩ := trodVars_none hV
  obtain ⟨a0, x0, c0, rfl⟩ := okWide_slice Tryz.underlying22 (hval 0 22 v0 rfl rfl)
  clear hA0 hval0
  refine (walk a0 x0 c0).mono fun e W' ⟨he, hg⟩ => ?_
  subst he
  exact ⟨_, rfl, law_post laidOut hW' rfl rfl Tryz.underlying4 rfl rfl rfl (by intro t ht; rw [Tryz.params4] at ht; have ht2 : t ∈ [22] := ht; simp only [List.mem_cons, List.not_mem_nil, or_false] at ht2; rcases ht2 with rfl <;> exact ⟨by kernel_rfl, of_decide_eq_true (by kernel_rfl)⟩) hg⟩

theorem fact0 : jf0 Tryz.prog 4 Tryz.f4 Rows.fnNextMethodsSpec Rows.fnNextMethodsRow = true := by kernel_rfl
theorem fact1 : jf1 Tryz.prog 4 Tryz.f4 Rows.fnNextMethodsSpec Rows.fnNextMethodsRow = true := by kernel_rfl
theorem fact2 : jf2 Tryz.prog 4 Tryz.f4 Rows.fnNextMethodsSpec Rows.fnNextMethodsRow = true := by kernel_rfl
theorem fact3 : jf3 Tryz.prog 4 Tryz.f4 Rows.fnNextMethodsSpec Rows.fnNextMethodsRow = true := by kernel_rfl
theorem fact4 : jf4 Tryz.prog 4 Tryz.f4 Rows.fnNextMethodsSpec Rows.fnNextMethodsRow = true := by kernel_rfl
theorem fact5 : jf5 Tryz.prog 4 Tryz.f4 Rows.fnNextMethodsSpec Rows.fnNextMethodsRow = true := by kernel_rfl
theorem fact6 : jf6 Tryz.prog 4 Tryz.f4 Rows.fnNextMethodsSpec Rows.fnNextMethodsRow = true := by kernel_rfl
theorem fact7 : jf7 Tryz.prog 4 Tryz.f4 Rows.fnNextMethodsSpec Rows.fnNextMethodsRow = true := by kernel_rfl
theorem fact8 : jf8 Tryz.prog 4 Tryz.f4 Rows.fnNextMethodsSpec Rows.fnNextMethodsRow = true := by kernel_rfl
theorem fact9 : jf9 Tryz.prog 4 Tryz.f4 Rows.fnNextMethodsSpec Rows.fnNextMethodsRow = true := by kernel_rfl
theorem fact10 : jf10 Tryz.prog 4 Tryz.f4 Rows.fnNextMethodsSpec Rows.fnNextMethodsRow = true := by kernel_rfl
theorem fact11 : jf11 Tryz.prog 4 Tryz.f4 Rows.fnNextMethodsSpec Rows.fnNextMethodsRow = true := by kernel_rfl
theorem fact12 : jf12 Tryz.prog 4 Tryz.f4 Rows.fnNextMethodsSpec Rows.fnNextMethodsRow = true := by kernel_rfl
theorem fact13 : jf13 Tryz.prog 4 Tryz.f4 Rows.fnNextMethodsSpec Rows.fnNextMethodsRow = true := by kernel_rfl
theorem fact14 : jf14 Tryz.prog 4 Tryz.f4 Rows.fnNextMethodsSpec Rows.fnNextMethodsRow = true := by kernel_rfl
theorem fact15 : jf15 Tryz.prog 4 Tryz.f4 Rows.fnNextMethodsSpec Rows.fnNextMethodsRow = true := by kernel_rfl
theorem fact16 : jf16 Tryz.prog 4 Tryz.f4 Rows.fnNextMethodsSpec Rows.fnNextMethodsRow = true := by kernel_rfl
theorem fact17 : jf17 Tryz.prog 4 Tryz.f4 Rows.fnNextMethodsSpec Rows.fnNextMethodsRow = true := by kernel_rfl
theorem fact18 : jf18 Tryz.prog 4 Tryz.f4 Rows.fnNextMethodsSpec Rows.fnNextMethodsRow = true := by kernel_rfl
theorem fact19 : jf19 Tryz.prog 4 Tryz.f4 Rows.fnNextMethodsSpec Rows.fnNextMethodsRow = true := by kernel_rfl
theorem fact20 : jf20 Tryz.prog 4 Tryz.f4 Rows.fnNextMethodsSpec Rows.fnNextMethodsRow = true := by kernel_rfl
theorem fact21 : jf21 Tryz.prog 4 Tryz.f4 Rows.fnNextMethodsSpec Rows.fnNextMethodsRow = true := by kernel_rfl
theorem fact22 : jf22 Tryz.prog 4 Tryz.f4 Rows.fnNextMethodsSpec Rows.fnNextMethodsRow = true := by kernel_rfl
theorem fact23 : jf23 Tryz.prog 4 Tryz.f4 Rows.fnNextMethodsSpec Rows.fnNextMethodsRow = true := by kernel_rfl
theorem fact24 : jf24 Tryz.prog 4 Tryz.f4 Rows.fnNextMethodsSpec Rows.fnNextMethodsRow = true := by kernel_rfl
theorem fact25 : jf25 Tryz.prog 4 Tryz.f4 Rows.fnNextMethodsSpec Rows.fnNextMethodsRow = true := by kernel_rfl
theorem fact26 : jf26 Tryz.prog 4 Tryz.f4 Rows.fnNextMethodsSpec Rows.fnNextMethodsRow = true := by kernel_rfl
theorem fact27 : jf27 Tryz.prog 4 Tryz.f4 Rows.fnNextMethodsSpec Rows.fnNextMethodsRow = true := by kernel_rfl
theorem fact28 : jf28 Tryz.prog 4 Tryz.f4 Rows.fnNextMethodsSpec Rows.fnNextMethodsRow = true := by kernel_rfl
theorem fact29 : jf29 Tryz.prog 4 Tryz.f4 Rows.fnNextMethodsSpec Rows.fnNextMethodsRow = true := by kernel_rfl
theorem fact30 : jf30 Tryz.prog 4 Tryz.f4 Rows.fnNextMethodsSpec Rows.fnNextMethodsRow = true := by kernel_rfl
theorem fact31 : jf31 Tryz.prog 4 Tryz.f4 Rows.fnNextMethodsSpec Rows.fnNextMethodsRow = true := by kernel_rfl
theorem over : Rows.fnNextMethodsRow.holds Tryz.pinned (OpenSpec.ofChange Rows.fnNextMethodsSpec) :=
  OpenClaim.holds_of_wide 4 Tryz.f4 rfl rfl rfl rfl rfl rfl rfl ⟨rfl, rfl, rfl, rfl, rfl⟩ rfl rfl rfl rfl rfl (by kernel_rfl) Tryz.func4 (joined fact0 fact1 fact2 fact3 fact4 fact5 fact6 fact7 fact8 fact9 fact10 fact11 fact12 fact13 fact14 fact15 fact16 fact17 fact18 fact19 fact20 fact21 fact22 fact23 fact24 fact25 fact26 fact27 fact28 fact29 fact30 fact31)
    (of_decide_eq_true (by kernel_rfl)) (by unfold Func.isWrapper; first | (rw [if_pos (by decide +kernel)]; kernel_rfl) | (rw [if_neg (by decide +kernel)]; exact ⟨rfl, rfl⟩))
    (fun os started H enc _ => lifted os started H enc)

/-- THE STATEMENT -/
theorem proved : Rows.FnNextMethodsSaid :=
  over
#print axioms proved
end fnNextMethods
end Go.Proofs.YtdnnhlienddkoabGreat
