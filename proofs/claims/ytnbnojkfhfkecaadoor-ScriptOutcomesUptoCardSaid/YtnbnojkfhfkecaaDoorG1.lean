/- Contracts of functions that the statement reaches; each theorem carries its own conditions, the last theorem of the claim has none. -/
import Derived.Test.YtnbnojkfhfkecaaDoorAbsY
import Derived.Test.YtnbnojkfhfkecaaDoorProg
import Derived.KernelRfl
/- The texts that functions' bodies come to (printed by gen.lean, a tool of our own). -/
set_option linter.unusedVariables false
set_option maxRecDepth 100000
namespace Go.Proofs.YtnbnojkfhfkecaaDoor.A
open Go Go.Abs

/-- 6: marginalia/marginalialaw22.ScriptOutcomes -/
def ann6 : Ann := (.two .leaf (.two (.two .leaf (.two (.two .leaf .leaf) .leaf)) (.two .leaf (.two (.two .leaf (.two (.two .leaf .leaf) .leaf)) (.two (.draw [(0, []), (1, []), (5, []), (6, []), (7, []), (2, [6]), (3, []), (4, []), (8, []), (9, []), (10, [])]) (.two (.two .leaf (.one (.loop [4, 5] [4, 5, 36, 37, 38, 39, 40, 41, 42, 43, 44, 45, 46, 47, 48, 49, 50] (.two (.two .leaf (.two .leaf .leaf)) (.two (.one .leaf) .leaf))))) (.join [4] [4, 51, 52, 53, 54, 55, 56, 57, 58, 59] (.two .leaf (.two .leaf .leaf)) (.two .leaf .leaf))))))))
def S6_40 (R : Value → AHeap → Prop) (t1_0 : Value) (t16_29 : Value) (H_30 : AHeap) : Prop :=
 bnd (aAdd 0 t1_0) fun t21_34 =>
 bnd (aLdCell t21_34 H_30) fun t22_35 =>
 ACalls Tryd.prog 16 [t22_35] H_30 fun t23_36 H_37 =>
 bnd (aBin .add .no (.string ⟨#[101, 114, 114, 111, 114, 32]⟩) t23_36) fun t24_38 =>
 bnd (aBin .eql .no t16_29 t24_38) fun t25_39 =>
 R t25_39 H_37
def S6_67 (t1_0 : Value) (vs_53 : List Value) (H_54 : AHeap) (again_55 : List Value → AHeap → Prop) : Prop :=
 bnd (aBin .add .no (nth vs_53 0) (.string ⟨#[10, 32]⟩)) fun t44_60 =>
 bnd (aAdd 1 t1_0) fun t45_61 =>
 bnd (aLdCell t45_61 H_54) fun t46_62 =>
 bnd (aIdxAddr 1 t46_62 (nth vs_53 1)) fun t48_63 =>
 bnd (aLdCell t48_63 H_54) fun t49_64 =>
 bnd (aBin .add .no t44_60 t49_64) fun t50_65 =>
 bnd (aBin .add .no (nth vs_53 1) (.int .i64 1)) fun t42_66 =>
 again_55 [t50_65, t42_66] H_54
def S6_81 (t1_0 : Value) (vs_53 : List Value) (H_54 : AHeap) (J_70 : List Value → AHeap → Prop) : Prop :=
 bnd (aBin .add .no (nth vs_53 0) (.string ⟨#[10, 45]⟩)) fun t55_75 =>
 bnd (aAdd 2 t1_0) fun t56_76 =>
 bnd (aLdCell t56_76 H_54) fun t57_77 =>
 ACalls Tryd.prog 17 [t57_77] H_54 fun t58_78 H_79 =>
 bnd (aBin .add .no t55_75 t58_78) fun t59_80 =>
 J_70 [t59_80] H_79
def S6_82 (R : Value → AHeap → Prop) (t1_0 : Value) (t16_29 : Value) (vs_53 : List Value) (H_54 : AHeap) : Prop :=
 aJoin (fun vs_68 H_69 =>
 bnd (aBin .eql .no t16_29 (nth vs_68 0)) fun t62_71 =>
 R t62_71 H_69) fun J_70 =>
 bnd (aAdd 2 t1_0) fun t51_72 =>
 bnd (aLdCell t51_72 H_54) fun t52_73 =>
 bnd (aBin .neq .no t52_73 (.string ⟨#[]⟩)) fun t53_74 =>
 aCond t53_74 (
 (S6_81 t1_0 vs_53 H_54 J_70)) (
 J_70 [(nth vs_53 0)] H_54)
def S6_83 (R : Value → AHeap → Prop) (t1_0 : Value) (t16_29 : Value) (vs_53 : List Value) (H_54 : AHeap) (again_55 : List Value → AHeap → Prop) : Prop :=
 bnd (aAdd 1 t1_0) fun t37_56 =>
 bnd (aLdCell t37_56 H_54) fun t38_57 =>
 bnd (aLenSl t38_57) fun t39_58 =>
 bnd (aBin .lss .no (nth vs_53 1) t39_58) fun t40_59 =>
 aCond t40_59 (
 (S6_67 t1_0 vs_53 H_54 again_55)) (
 (S6_82 R t1_0 t16_29 vs_53 H_54))
def S6_85 (R : Value → AHeap → Prop) (t1_0 : Value) (t16_29 : Value) (H_30 : AHeap) : Prop :=
 bnd (aAdd 3 t1_0) fun t26_41 =>
 bnd (aLdCell t26_41 H_30) fun t27_42 =>
 bnd (aAdd 1 t1_0) fun t31_43 =>
 bnd (aLdCell t31_43 H_30) fun t32_44 =>
 bnd (aLenSl t32_44) fun t33_45 =>
 ACalls Tryd.prog 16 [t27_42] H_30 fun t28_46 H_47 =>
 ((bnd (aLdCell t31_43 H_47) fun t32_84 =>
 t32_84 = t32_44)) ∧
 bnd (aBin .add .no (.string ⟨#[111, 107, 32]⟩) t28_46) fun t29_48 =>
 bnd (aBin .add .no t29_48 (.string ⟨#[32]⟩)) fun t30_49 =>
 ACalls Tryd.prog 16 [t33_45] H_47 fun t34_50 H_51 =>
 bnd (aBin .add .no t30_49 t34_50) fun t35_52 =>
 aLoop [t35_52, (.int .i64 0)] H_51 fun vs_53 H_54 again_55 =>
 (S6_83 R t1_0 t16_29 vs_53 H_54 again_55)
def S6_86 (R : Value → AHeap → Prop) (t1_0 : Value) (H_24 : AHeap) : Prop :=
 bnd (aLdAgg 4 t1_0 H_24) fun t15_28 =>
 ACalls Tryd.prog 15 [t15_28] H_24 fun t16_29 H_30 =>
 bnd (aAdd 0 t1_0) fun t17_31 =>
 bnd (aLdCell t17_31 H_30) fun t18_32 =>
 bnd (aBin .neq .no t18_32 (.int .i64 0)) fun t19_33 =>
 aCond t19_33 (
 (S6_40 R t1_0 t16_29 H_30)) (
 (S6_85 R t1_0 t16_29 H_30))
def S6_87 (R : Value → AHeap → Prop) (t1_0 : Value) (t6_2 : Value) (H_3 : AHeap) : Prop :=
 bnd (aUn .not t6_2) fun t7_4 =>
 aGuardK t7_4 false (fun K_5 H_6 =>
 bnd (aAdd 1 t1_0) fun t9_7 =>
 K_5 t9_7 H_6) (fun t9_8 H_9 =>
 aGuardK t7_4 false (fun K_10 H_11 =>
 bnd (aLdCell t9_8 H_11) fun t10_12 =>
 K_10 t10_12 H_11) (fun t10_13 H_14 =>
 aGuardK t7_4 false (fun K_15 H_16 =>
 bnd (aLenSl t10_13) fun t11_17 =>
 K_15 t11_17 H_16) (fun t11_18 H_19 =>
 aGuardK t7_4 false (fun K_20 H_21 =>
 bnd (aBin .gtr .no t11_18 (.int .i64 200)) fun t12_22 =>
 K_20 t12_22 H_21) (fun t12_23 H_24 =>
 bnd (aPick t7_4 (.bool true) t12_23) fun t13_25 =>
 aCond t13_25 (
 ACalls Tryd.prog 11 [] H_24 fun t14_26 H_27 =>
 R t14_26 H_27) (
 (S6_86 R t1_0 H_24))) H_19) H_14) H_9) H_3
def S6 (a0 : Value) (H : AHeap) (R : Value → AHeap → Prop) : Prop :=
 aBox 41 a0 H fun t1_0 H_1 =>
 ACalls Tryd.prog 11 [] H_1 fun t6_2 H_3 =>
 (S6_87 R t1_0 t6_2 H_3)
theorem S6_calls {a0 : Value} {H : AHeap} {R : Value → AHeap → Prop} (h : S6 a0 H R) : ACalls Tryd.prog 6 [a0] H R :=
  have e : S6 a0 H R = awpFn Tryd.prog (Tryd.f6.body.getD .skip) Tryd.f6.results.toList ann6 [a0] H R := by kernel_rfl
  calls_of_awp (fn := Tryd.f6) (c := Tryd.f6.body.getD .skip) (an := ann6) (by kernel_rfl) Tryd.func6 (by kernel_rfl) (by kernel_rfl) (of_decide_eq_true (by kernel_rfl)) (e ▸ h)

/-- 15: marginalia/script.Outcome -/
def ann15 : Ann := (.two .leaf (.two (.two .leaf (.two (.two .leaf .leaf) .leaf)) (.two .leaf (.two (.draw [(0, []), (1, []), (5, []), (6, []), (7, []), (2, [6]), (3, []), (4, []), (8, []), (9, []), (10, [])]) (.two (.two .leaf (.one (.loop [27] [5, 27, 28, 29, 30, 31, 32, 33, 34] (.two .leaf (.two (.two .leaf .leaf) (.two (.one (.two .leaf .leaf)) .leaf)))))) (.join [] [35, 36, 37, 38, 39, 40, 41, 42] (.two .leaf (.two .leaf .leaf)) (.two .leaf .leaf)))))))
def S15_39 (t3_10 : Value) (t25_27 : Value) (vs_29 : List Value) (H_30 : AHeap) (again_31 : List Value → AHeap → Prop) : Prop :=
 bnd (aIdxAddr 1 t25_27 (nth vs_29 0)) fun t29_33 =>
 bnd (aLdCell t29_33 H_30) fun t30_34 =>
 bnd (aBin .add .no (.string ⟨#[10, 32]⟩) t30_34) fun t32_35 =>
 ACalls Tryd.prog 20 [t3_10, t32_35] H_30 fun t33_36 H_37 =>
 bnd (aBin .add .no (nth vs_29 0) (.int .i64 1)) fun t34_38 =>
 again_31 [t34_38] H_37
def S15_55 (t1_0 : Value) (t3_10 : Value) (H_30 : AHeap) (J_42 : List Value → AHeap → Prop) : Prop :=
 bnd (aAdd 2 t1_0) fun t38_48 =>
 bnd (aLdCell t38_48 H_30) fun t39_49 =>
 ACalls Tryd.prog 27 [t39_49] H_30 fun t40_50 H_51 =>
 bnd (aBin .add .no (.string ⟨#[10, 45]⟩) t40_50) fun t41_52 =>
 ACalls Tryd.prog 20 [t3_10, t41_52] H_51 fun t42_53 H_54 =>
 J_42 [] H_54
def S15_56 (R : Value → AHeap → Prop) (t1_0 : Value) (t3_10 : Value) (H_30 : AHeap) : Prop :=
 aJoin (fun vs_40 H_41 =>
 ACalls Tryd.prog 23 [t3_10] H_41 fun t43_43 H_44 =>
 R t43_43 H_44) fun J_42 =>
 bnd (aAdd 2 t1_0) fun t35_45 =>
 bnd (aLdCell t35_45 H_30) fun t36_46 =>
 bnd (aBin .neq .no t36_46 (.string ⟨#[]⟩)) fun t37_47 =>
 aCond t37_47 (
 (S15_55 t1_0 t3_10 H_30 J_42)) (
 J_42 [] H_30)
def S15_57 (R : Value → AHeap → Prop) (t1_0 : Value) (t3_10 : Value) (t25_27 : Value) (t26_28 : Value) (vs_29 : List Value) (H_30 : AHeap) (again_31 : List Value → AHeap → Prop) : Prop :=
 bnd (aBin .lss .no (nth vs_29 0) t26_28) fun t28_32 =>
 aCond t28_32 (
 (S15_39 t3_10 t25_27 vs_29 H_30 again_31)) (
 (S15_56 R t1_0 t3_10 H_30))
def S15_59 (R : Value → AHeap → Prop) (t1_0 : Value) (t3_10 : Value) (t18_14 : Value) (t19_15 : Value) (t20_16 : Value) (t15_17 : Value) (H_18 : AHeap) : Prop :=
 ((bnd (aLdCell t18_14 H_18) fun t19_58 =>
 t19_58 = t19_15)) ∧
 bnd (aBin .add .no (.string ⟨#[111, 107, 32]⟩) t15_17) fun t16_19 =>
 bnd (aBin .add .no t16_19 (.string ⟨#[32]⟩)) fun t17_20 =>
 ACalls Tryd.prog 21 [t20_16] H_18 fun t21_21 H_22 =>
 bnd (aBin .add .no t17_20 t21_21) fun t22_23 =>
 ACalls Tryd.prog 20 [t3_10, t22_23] H_22 fun t23_24 H_25 =>
 bnd (aAdd 1 t1_0) fun t24_26 =>
 bnd (aLdCell t24_26 H_25) fun t25_27 =>
 bnd (aLenSl t25_27) fun t26_28 =>
 aLoop [(.int .i64 0)] H_25 fun vs_29 H_30 again_31 =>
 (S15_57 R t1_0 t3_10 t25_27 t26_28 vs_29 H_30 again_31)
def S15_60 (R : Value → AHeap → Prop) (t1_0 : Value) (H_1 : AHeap) : Prop :=
 aAlloc [(.pointer none), (.slice none 0 0)] 48 H_1 fun t3_10 H_11 =>
 bnd (aAdd 3 t1_0) fun t13_12 =>
 bnd (aLdCell t13_12 H_11) fun t14_13 =>
 bnd (aAdd 1 t1_0) fun t18_14 =>
 bnd (aLdCell t18_14 H_11) fun t19_15 =>
 bnd (aLenSl t19_15) fun t20_16 =>
 ACalls Tryd.prog 21 [t14_13] H_11 fun t15_17 H_18 =>
 (S15_59 R t1_0 t3_10 t18_14 t19_15 t20_16 t15_17 H_18)
def S15 (a0 : Value) (H : AHeap) (R : Value → AHeap → Prop) : Prop :=
 aBox 41 a0 H fun t1_0 H_1 =>
 bnd (aAdd 0 t1_0) fun t6_2 =>
 bnd (aLdCell t6_2 H_1) fun t7_3 =>
 bnd (aBin .neq .no t7_3 (.int .i64 0)) fun t8_4 =>
 aCond t8_4 (
 bnd (aAdd 0 t1_0) fun t9_5 =>
 bnd (aLdCell t9_5 H_1) fun t10_6 =>
 ACalls Tryd.prog 21 [t10_6] H_1 fun t11_7 H_8 =>
 bnd (aBin .add .no (.string ⟨#[101, 114, 114, 111, 114, 32]⟩) t11_7) fun t12_9 =>
 R t12_9 H_8) (
 (S15_60 R t1_0 H_1))
theorem S15_calls {a0 : Value} {H : AHeap} {R : Value → AHeap → Prop} (h : S15 a0 H R) : ACalls Tryd.prog 15 [a0] H R :=
  have e : S15 a0 H R = awpFn Tryd.prog (Tryd.f15.body.getD .skip) Tryd.f15.results.toList ann15 [a0] H R := by kernel_rfl
  calls_of_awp (fn := Tryd.f15) (c := Tryd.f15.body.getD .skip) (an := ann15) (by kernel_rfl) Tryd.func15 (by kernel_rfl) (by kernel_rfl) (of_decide_eq_true (by kernel_rfl)) (e ▸ h)

/-- 17: marginalia/marginaliaref02.Quoted -/
def ann17 : Ann := (.two .leaf (.two .leaf (.two .leaf (.two .leaf (.two (.one (.loop [3, 5] [3, 5, 6, 7, 10, 11, 12, 13, 14, 15, 16, 17, 18, 19, 20, 21, 22, 23, 24, 25, 26, 27, 28, 29, 30, 31, 32, 33, 34, 35, 36, 37, 38, 39, 40, 41, 42, 43, 44, 45, 46, 47, 48, 49, 50, 51, 52, 53, 54, 55, 56, 57, 58, 59, 60, 61, 62, 63, 64, 65, 66, 67, 68, 69, 70, 71, 72, 73, 74, 75, 76, 77, 78, 79, 80, 81, 82] (.two (.two .leaf (.two .leaf .leaf)) (.one (.two .leaf (.two (.two .leaf (.two (.two .leaf (.two .leaf .leaf)) .leaf)) (.join [3] [3, 31, 32, 33, 34, 35, 36, 37, 38, 39, 40, 41, 42, 43, 44, 45, 46, 47, 48, 49, 50, 51, 52, 53, 54, 55, 56, 57, 58, 59, 60, 61, 62, 63, 64, 65, 66, 67, 68, 69, 70, 71, 72, 73, 74, 75, 76, 77, 78, 79] (.one (.two .leaf (.two .leaf (.two .leaf (.two .leaf (.two .leaf (.two .leaf (.two .leaf (.two .leaf (.two .leaf (.two .leaf .leaf))))))))))) .leaf))))))) (.two .leaf .leaf))))))
def S17_16 (a0 : Value) (vs_2 : List Value) (again_4 : List Value → AHeap → Prop) (H_8 : AHeap) : Prop :=
 bnd (aBin .add .no (nth vs_2 1) (.int .i64 1)) fun t26_12 =>
 bnd (aSliceStr a0 (some (nth vs_2 1)) (some t26_12)) fun t27_13 =>
 bnd (aBin .add .no (nth vs_2 0) t27_13) fun t28_14 =>
 bnd (aBin .add .no (nth vs_2 1) (.int .i64 1)) fun t30_15 =>
 again_4 [t28_14, t30_15] H_8
def S17_62 (a0 : Value) (vs_2 : List Value) (t18_9 : Value) (t19_10 : Value) (J_19 : List Value → AHeap → Prop) (H_30 : AHeap) : Prop :=
 bnd (aBin .lss .no t18_9 (.int .i64 32)) fun t69_43 =>
 aGuardK t69_43 false (fun K_44 H_45 =>
 K_44 t18_9 H_45) (fun t71_46 H_47 =>
 aGuardK t69_43 false (fun K_48 H_49 =>
 bnd (aBin .eql .no t71_46 (.int .i64 127)) fun t72_50 =>
 K_48 t72_50 H_49) (fun t72_51 H_52 =>
 bnd (aPick t69_43 (.bool true) t72_51) fun t73_53 =>
 aCond t73_53 (
 bnd (aBin .add .no (nth vs_2 0) (.string ⟨#[92, 120]⟩)) fun t75_54 =>
 ACalls Tryd.prog 32 [t18_9] H_52 fun t77_55 H_56 =>
 bnd (aBin .add .no t75_54 t77_55) fun t78_57 =>
 bnd (aBin .add .no t78_57 (.string ⟨#[59]⟩)) fun t79_58 =>
 J_19 [t79_58] H_56) (
 bnd (aBin .add .no (nth vs_2 1) t19_10) fun t36_59 =>
 bnd (aSliceStr a0 (some (nth vs_2 1)) (some t36_59)) fun t37_60 =>
 bnd (aBin .add .no (nth vs_2 0) t37_60) fun t38_61 =>
 J_19 [t38_61] H_52)) H_47) H_30
def S17_63 (a0 : Value) (vs_2 : List Value) (t18_9 : Value) (t19_10 : Value) (J_19 : List Value → AHeap → Prop) (H_30 : AHeap) : Prop :=
 bnd (aBin .eql .no t18_9 (.int .i64 9)) fun t59_39 =>
 aCond t59_39 (
 bnd (aBin .add .no (nth vs_2 0) (.string ⟨#[92, 116]⟩)) fun t61_40 =>
 J_19 [t61_40] H_30) (
 bnd (aBin .eql .no t18_9 (.int .i64 13)) fun t64_41 =>
 aCond t64_41 (
 bnd (aBin .add .no (nth vs_2 0) (.string ⟨#[92, 114]⟩)) fun t66_42 =>
 J_19 [t66_42] H_30) (
 (S17_62 a0 vs_2 t18_9 t19_10 J_19 H_30)))
def S17_64 (a0 : Value) (vs_2 : List Value) (again_4 : List Value → AHeap → Prop) (H_8 : AHeap) (t18_9 : Value) (t19_10 : Value) : Prop :=
 aJoin (fun vs_17 H_18 =>
 bnd (aBin .add .no (nth vs_2 1) t19_10) fun t82_20 =>
 again_4 [(nth vs_17 0), t82_20] H_18) fun J_19 =>
 bnd (aBin .eql .no t18_9 (.int .i64 92)) fun t41_21 =>
 aGuardK t41_21 false (fun K_22 H_23 =>
 K_22 t18_9 H_23) (fun t43_24 H_25 =>
 aGuardK t41_21 false (fun K_26 H_27 =>
 bnd (aBin .eql .no t43_24 (.int .i64 34)) fun t44_28 =>
 K_26 t44_28 H_27) (fun t44_29 H_30 =>
 bnd (aPick t41_21 (.bool true) t44_29) fun t45_31 =>
 aCond t45_31 (
 bnd (aBin .add .no (nth vs_2 0) (.string ⟨#[92]⟩)) fun t47_32 =>
 ACalls Tryd.prog 31 [t18_9] H_30 fun t49_33 H_34 =>
 bnd (aBytesStr t49_33 H_34) fun t50_35 =>
 bnd (aBin .add .no t47_32 t50_35) fun t51_36 =>
 J_19 [t51_36] H_34) (
 bnd (aBin .eql .no t18_9 (.int .i64 10)) fun t54_37 =>
 aCond t54_37 (
 bnd (aBin .add .no (nth vs_2 0) (.string ⟨#[92, 110]⟩)) fun t56_38 =>
 J_19 [t56_38] H_30) (
 (S17_63 a0 vs_2 t18_9 t19_10 J_19 H_30)))) H_25) H_8
def S17_65 (a0 : Value) (t9_0 : Value) (vs_2 : List Value) (H_3 : AHeap) (again_4 : List Value → AHeap → Prop) : Prop :=
 ACalls Tryd.prog 30 [t9_0, (nth vs_2 1)] H_3 fun t17_7 H_8 =>
 bnd (aExtract t17_7 0) fun t18_9 =>
 bnd (aExtract t17_7 1) fun t19_10 =>
 bnd (aBin .eql .no t19_10 (.int .i64 0)) fun t21_11 =>
 aCond t21_11 (
 (S17_16 a0 vs_2 again_4 H_8)) (
 (S17_64 a0 vs_2 again_4 H_8 t18_9 t19_10))
def S17_67 (a0 : Value) (R : Value → AHeap → Prop) (t9_0 : Value) (vs_2 : List Value) (H_3 : AHeap) (again_4 : List Value → AHeap → Prop) : Prop :=
 bnd (aLenSl t9_0) fun t12_5 =>
 bnd (aBin .lss .no (nth vs_2 1) t12_5) fun t13_6 =>
 aCond t13_6 (
 (S17_65 a0 t9_0 vs_2 H_3 again_4)) (
 bnd (aBin .add .no (nth vs_2 0) (.string ⟨#[34]⟩)) fun t84_66 =>
 R t84_66 H_3)
def S17 (a0 : Value) (H : AHeap) (R : Value → AHeap → Prop) : Prop :=
 aStrBytes 5 a0 H fun t9_0 H_1 =>
 aLoop [(.string ⟨#[34]⟩), (.int .i64 0)] H_1 fun vs_2 H_3 again_4 =>
 (S17_67 a0 R t9_0 vs_2 H_3 again_4)
theorem S17_calls {a0 : Value} {H : AHeap} {R : Value → AHeap → Prop} (h : S17 a0 H R) : ACalls Tryd.prog 17 [a0] H R :=
  have e : S17 a0 H R = awpFn Tryd.prog (Tryd.f17.body.getD .skip) Tryd.f17.results.toList ann17 [a0] H R := by kernel_rfl
  calls_of_awp (fn := Tryd.f17) (c := Tryd.f17.body.getD .skip) (an := ann17) (by kernel_rfl) Tryd.func17 (by kernel_rfl) (by kernel_rfl) (of_decide_eq_true (by kernel_rfl)) (e ▸ h)

/-- 27: marginalia/print.Quoted -/
def ann27 : Ann := (.two .leaf (.two .leaf (.two .leaf (.two (.one (.loop [0] [0, 4, 5, 7, 8, 9, 10, 11, 12, 13, 14, 15, 16, 17, 18, 19, 20, 21, 22, 23, 24, 25, 26, 27, 28, 29, 30] (.two (.two .leaf (.two .leaf .leaf)) (.one (.two .leaf (.join [] [15, 16, 17, 18, 19, 20, 21, 22, 23, 24, 25, 26, 27] (.two .leaf (.two .leaf .leaf)) .leaf)))))) (.two .leaf (.two .leaf .leaf))))))
def S27_35 (t3_0 : Value) (vs_4 : List Value) (again_6 : List Value → AHeap → Prop) (t12_9 : Value) (H_10 : AHeap) : Prop :=
 bnd (aExtract t12_9 0) fun t13_11 =>
 bnd (aExtract t12_9 1) fun t14_12 =>
 aJoin (fun vs_13 H_14 =>
 bnd (aSliceStr (nth vs_4 0) (some t14_12) none) fun t30_16 =>
 again_6 [t30_16] H_14) fun J_15 =>
 bnd (aBin .eql .no t13_11 (.int .i32 65533)) fun t16_17 =>
 aGuardK t16_17 true (fun K_18 H_19 =>
 K_18 t14_12 H_19) (fun t18_20 H_21 =>
 aGuardK t16_17 true (fun K_22 H_23 =>
 bnd (aBin .lss .no t18_20 (.int .i64 2)) fun t19_24 =>
 K_22 t19_24 H_23) (fun t19_25 H_26 =>
 bnd (aPick t16_17 t19_25 (.bool false)) fun t20_27 =>
 aCond t20_27 (
 bnd (aSliceStr (nth vs_4 0) none (some t14_12)) fun t23_28 =>
 ACalls Tryd.prog 20 [t3_0, t23_28] H_26 fun t24_29 H_30 =>
 J_15 [] H_30) (
 ACalls Tryd.prog 43 [t13_11] H_26 fun t26_31 H_32 =>
 ACalls Tryd.prog 20 [t3_0, t26_31] H_32 fun t27_33 H_34 =>
 J_15 [] H_34)) H_21) H_10
def S27_40 (R : Value → AHeap → Prop) (t3_0 : Value) (vs_4 : List Value) (H_5 : AHeap) (again_6 : List Value → AHeap → Prop) : Prop :=
 bnd (aLenStr (nth vs_4 0)) fun t8_7 =>
 bnd (aBin .gtr .no t8_7 (.int .i64 0)) fun t9_8 =>
 aCond t9_8 (
 ACalls Tryd.prog 42 [(nth vs_4 0)] H_5 fun t12_9 H_10 =>
 (S27_35 t3_0 vs_4 again_6 t12_9 H_10)) (
 ACalls Tryd.prog 19 [t3_0, (.int .u8 34)] H_5 fun t31_36 H_37 =>
 ACalls Tryd.prog 23 [t3_0] H_37 fun t32_38 H_39 =>
 R t32_38 H_39)
def S27 (a0 : Value) (H : AHeap) (R : Value → AHeap → Prop) : Prop :=
 aAlloc [(.pointer none), (.slice none 0 0)] 48 H fun t3_0 H_1 =>
 ACalls Tryd.prog 19 [t3_0, (.int .u8 34)] H_1 fun t6_2 H_3 =>
 aLoop [a0] H_3 fun vs_4 H_5 again_6 =>
 (S27_40 R t3_0 vs_4 H_5 again_6)
theorem S27_calls {a0 : Value} {H : AHeap} {R : Value → AHeap → Prop} (h : S27 a0 H R) : ACalls Tryd.prog 27 [a0] H R :=
  have e : S27 a0 H R = awpFn Tryd.prog (Tryd.f27.body.getD .skip) Tryd.f27.results.toList ann27 [a0] H R := by kernel_rfl
  calls_of_awp (fn := Tryd.f27) (c := Tryd.f27.body.getD .skip) (an := ann27) (by kernel_rfl) Tryd.func27 (by kernel_rfl) (by kernel_rfl) (of_decide_eq_true (by kernel_rfl)) (e ▸ h)

/-- 30: marginalia/marginaliaref02.one -/
def ann30 : Ann := (.two .leaf (.two .leaf (.two .leaf (.join [6, 7] [4, 5, 6, 7, 15, 16, 17, 18, 19, 20, 21, 22, 23, 24, 25, 26, 27, 28, 29, 30, 31, 32, 33, 34, 35, 36, 37, 38, 39, 40, 41, 42, 43, 44] (.one (.two .leaf (.two (.two .leaf .leaf) (.two .leaf (.two (.two .leaf .leaf) (.two .leaf (.two (.two .leaf .leaf) (.two .leaf (.two (.two .leaf .leaf) .leaf))))))))) (.two (.two .leaf (.two (.two .leaf .leaf) .leaf)) (.two (.two .leaf (.one (.loop [6, 8] [4, 5, 6, 8, 9, 51, 52, 53, 54, 55, 56, 57, 58, 59, 60, 61, 62, 63, 64, 65, 66, 67, 68, 69, 70, 71, 72, 73] (.two (.two .leaf (.two .leaf .leaf)) (.two (.one (.two .leaf (.two (.two .leaf (.two (.two .leaf .leaf) .leaf)) .leaf))) .leaf))))) (.two (.two .leaf (.two (.two .leaf .leaf) .leaf)) (.two .leaf .leaf))))))))
def S30_32 (vs_9 : List Value) (again_11 : List Value → AHeap → Prop) (t62_16 : Value) (H_26 : AHeap) : Prop :=
 bnd (aBin .mul .no (nth vs_9 0) (.int .i64 64)) fun t70_28 =>
 bnd (aBin .add .no t70_28 t62_16) fun t72_29 =>
 bnd (aBin .sub .no t72_29 (.int .i64 128)) fun t73_30 =>
 bnd (aBin .add .no (nth vs_9 1) (.int .i64 1)) fun t55_31 =>
 again_11 [t73_30, t55_31] H_26
def S30_33 (a0 : Value) (a1 : Value) (R : Value → AHeap → Prop) (vs_9 : List Value) (H_10 : AHeap) (again_11 : List Value → AHeap → Prop) : Prop :=
 bnd (aBin .add .no a1 (nth vs_9 1)) fun t59_13 =>
 bnd (aIdxAddr 1 a0 t59_13) fun t60_14 =>
 bnd (aLdCell t60_14 H_10) fun t61_15 =>
 bnd (aConvInt .i64 t61_15) fun t62_16 =>
 bnd (aBin .lss .no t62_16 (.int .i64 128)) fun t64_17 =>
 aGuardK t64_17 false (fun K_18 H_19 =>
 K_18 t62_16 H_19) (fun t66_20 H_21 =>
 aGuardK t64_17 false (fun K_22 H_23 =>
 bnd (aBin .geq .no t66_20 (.int .i64 192)) fun t67_24 =>
 K_22 t67_24 H_23) (fun t67_25 H_26 =>
 bnd (aPick t64_17 (.bool true) t67_25) fun t68_27 =>
 aCond t68_27 (
 R (.tuple #[(.int .i64 0), (.int .i64 0)]) H_26) (
 (S30_32 vs_9 again_11 t62_16 H_26))) H_21) H_10
def S30_62 (R : Value → AHeap → Prop) (vs_3 : List Value) (vs_9 : List Value) (t75_34 : Value) (H_35 : AHeap) : Prop :=
 bnd (aUn .not t75_34) fun t76_36 =>
 aGuardK t76_36 false (fun K_37 H_38 =>
 K_37 (nth vs_9 0) H_38) (fun t78_39 H_40 =>
 aGuardK t76_36 false (fun K_41 H_42 =>
 ACalls Tryd.prog 31 [t78_39] H_42 fun t79_43 H_44 =>
 K_41 t79_43 H_44) (fun t79_45 H_46 =>
 aGuardK t76_36 false (fun K_47 H_48 =>
 bnd (aLenSl t79_45) fun t80_49 =>
 K_47 t80_49 H_48) (fun t80_50 H_51 =>
 aGuardK t76_36 false (fun K_52 H_53 =>
 K_52 (nth vs_3 1) H_53) (fun t81_54 H_55 =>
 aGuardK t76_36 false (fun K_56 H_57 =>
 bnd (aBin .neq .no t80_50 t81_54) fun t82_58 =>
 K_56 t82_58 H_57) (fun t82_59 H_60 =>
 bnd (aPick t76_36 (.bool true) t82_59) fun t83_61 =>
 aCond t83_61 (
 R (.tuple #[(.int .i64 0), (.int .i64 0)]) H_60) (
 R (.tuple #[(nth vs_9 0), (nth vs_3 1)]) H_60)) H_55) H_51) H_46) H_40) H_35
def S30_63 (a0 : Value) (a1 : Value) (R : Value → AHeap → Prop) (vs_3 : List Value) (vs_9 : List Value) (H_10 : AHeap) (again_11 : List Value → AHeap → Prop) : Prop :=
 bnd (aBin .lss .no (nth vs_9 1) (nth vs_3 1)) fun t53_12 =>
 aCond t53_12 (
 (S30_33 a0 a1 R vs_9 H_10 again_11)) (
 ACalls Tryd.prog 47 [(nth vs_9 0)] H_10 fun t75_34 H_35 =>
 (S30_62 R vs_3 vs_9 t75_34 H_35))
def S30_101 (R : Value → AHeap → Prop) (t14_2 : Value) (J_5 : List Value → AHeap → Prop) (H_85 : AHeap) : Prop :=
 bnd (aBin .geq .no t14_2 (.int .i64 192)) fun t35_88 =>
 aGuardK t35_88 true (fun K_89 H_90 =>
 K_89 t14_2 H_90) (fun t37_91 H_92 =>
 aGuardK t35_88 true (fun K_93 H_94 =>
 bnd (aBin .lss .no t37_91 (.int .i64 224)) fun t38_95 =>
 K_93 t38_95 H_94) (fun t38_96 H_97 =>
 bnd (aPick t35_88 t38_96 (.bool false)) fun t39_98 =>
 aCond t39_98 (
 bnd (aBin .sub .no t14_2 (.int .i64 192)) fun t41_99 =>
 J_5 [t41_99, (.int .i64 2)] H_97) (
 bnd (aBin .geq .no t14_2 (.int .i64 128)) fun t44_100 =>
 aCond t44_100 (
 R (.tuple #[(.int .i64 0), (.int .i64 0)]) H_97) (
 J_5 [t14_2, (.int .i64 1)] H_97))) H_92) H_85
def S30_102 (R : Value → AHeap → Prop) (t14_2 : Value) (J_5 : List Value → AHeap → Prop) (H_73 : AHeap) : Prop :=
 bnd (aBin .geq .no t14_2 (.int .i64 224)) fun t26_76 =>
 aGuardK t26_76 true (fun K_77 H_78 =>
 K_77 t14_2 H_78) (fun t28_79 H_80 =>
 aGuardK t26_76 true (fun K_81 H_82 =>
 bnd (aBin .lss .no t28_79 (.int .i64 240)) fun t29_83 =>
 K_81 t29_83 H_82) (fun t29_84 H_85 =>
 bnd (aPick t26_76 t29_84 (.bool false)) fun t30_86 =>
 aCond t30_86 (
 bnd (aBin .sub .no t14_2 (.int .i64 224)) fun t32_87 =>
 J_5 [t32_87, (.int .i64 3)] H_85) (
 (S30_101 R t14_2 J_5 H_85))) H_80) H_73
def S30_103 (a0 : Value) (a1 : Value) (R : Value → AHeap → Prop) (vs_3 : List Value) (H_4 : AHeap) : Prop :=
 bnd (aBin .add .no a1 (nth vs_3 1)) fun t47_6 =>
 bnd (aLenSl a0) fun t49_7 =>
 bnd (aBin .gtr .no t47_6 t49_7) fun t50_8 =>
 aCond t50_8 (
 R (.tuple #[(.int .i64 0), (.int .i64 0)]) H_4) (
 aLoop [(nth vs_3 0), (.int .i64 1)] H_4 fun vs_9 H_10 again_11 =>
 (S30_63 a0 a1 R vs_3 vs_9 H_10 again_11))
def S30 (a0 : Value) (a1 : Value) (H : AHeap) (R : Value → AHeap → Prop) : Prop :=
 bnd (aIdxAddr 1 a0 a1) fun t12_0 =>
 bnd (aLdCell t12_0 H) fun t13_1 =>
 bnd (aConvInt .i64 t13_1) fun t14_2 =>
 aJoin (fun vs_3 H_4 =>
 (S30_103 a0 a1 R vs_3 H_4)) fun J_5 =>
 bnd (aBin .geq .no t14_2 (.int .i64 240)) fun t17_64 =>
 aGuardK t17_64 true (fun K_65 H_66 =>
 K_65 t14_2 H_66) (fun t19_67 H_68 =>
 aGuardK t17_64 true (fun K_69 H_70 =>
 bnd (aBin .lss .no t19_67 (.int .i64 248)) fun t20_71 =>
 K_69 t20_71 H_70) (fun t20_72 H_73 =>
 bnd (aPick t17_64 t20_72 (.bool false)) fun t21_74 =>
 aCond t21_74 (
 bnd (aBin .sub .no t14_2 (.int .i64 240)) fun t23_75 =>
 J_5 [t23_75, (.int .i64 4)] H_73) (
 (S30_102 R t14_2 J_5 H_73))) H_68) H
theorem S30_calls {a0 a1 : Value} {H : AHeap} {R : Value → AHeap → Prop} (h : S30 a0 a1 H R) : ACalls Tryd.prog 30 [a0, a1] H R :=
  have e : S30 a0 a1 H R = awpFn Tryd.prog (Tryd.f30.body.getD .skip) Tryd.f30.results.toList ann30 [a0, a1] H R := by kernel_rfl
  calls_of_awp (fn := Tryd.f30) (c := Tryd.f30.body.getD .skip) (an := ann30) (by kernel_rfl) Tryd.func30 (by kernel_rfl) (by kernel_rfl) (of_decide_eq_true (by kernel_rfl)) (e ▸ h)

/-- 31: marginalia/marginaliaref02.Bytes -/
def ann31 : Ann := (.two .leaf (.two (.two .leaf (.two (.two .leaf .leaf) .leaf)) (.two (.two .leaf (.two (.two .leaf .leaf) .leaf)) (.two (.two .leaf (.two (.two .leaf .leaf) .leaf)) (.two .leaf .leaf)))))
def S31_13 (a0 : Value) (H : AHeap) (R : Value → AHeap → Prop) : Prop :=
 bnd (aBin .quo .no a0 (.int .i64 64)) fun t11_5 =>
 bnd (aBin .add .no (.int .i64 192) t11_5) fun t12_6 =>
 bnd (aConvInt .u8 t12_6) fun t13_7 =>
 bnd (aBin .rem .no a0 (.int .i64 64)) fun t15_8 =>
 bnd (aBin .add .no (.int .i64 128) t15_8) fun t16_9 =>
 bnd (aConvInt .u8 t16_9) fun t17_10 =>
 aBuildSlice 1 2 5 [(.int .u8 0)] [(0, 1, t13_7), (1, 1, t17_10)] H fun t18_11 H_12 =>
 R t18_11 H_12
def S31_27 (a0 : Value) (H : AHeap) (R : Value → AHeap → Prop) : Prop :=
 bnd (aBin .quo .no a0 (.int .i64 4096)) fun t22_15 =>
 bnd (aBin .add .no (.int .i64 224) t22_15) fun t23_16 =>
 bnd (aConvInt .u8 t23_16) fun t24_17 =>
 bnd (aBin .quo .no a0 (.int .i64 64)) fun t26_18 =>
 bnd (aBin .rem .no t26_18 (.int .i64 64)) fun t27_19 =>
 bnd (aBin .add .no (.int .i64 128) t27_19) fun t28_20 =>
 bnd (aConvInt .u8 t28_20) fun t29_21 =>
 bnd (aBin .rem .no a0 (.int .i64 64)) fun t31_22 =>
 bnd (aBin .add .no (.int .i64 128) t31_22) fun t32_23 =>
 bnd (aConvInt .u8 t32_23) fun t33_24 =>
 aBuildSlice 1 3 5 [(.int .u8 0)] [(0, 1, t24_17), (1, 1, t29_21), (2, 1, t33_24)] H fun t34_25 H_26 =>
 R t34_25 H_26
def S31_44 (a0 : Value) (H : AHeap) (R : Value → AHeap → Prop) : Prop :=
 bnd (aBin .quo .no a0 (.int .i64 262144)) fun t36_28 =>
 bnd (aBin .add .no (.int .i64 240) t36_28) fun t37_29 =>
 bnd (aConvInt .u8 t37_29) fun t38_30 =>
 bnd (aBin .quo .no a0 (.int .i64 4096)) fun t40_31 =>
 bnd (aBin .rem .no t40_31 (.int .i64 64)) fun t41_32 =>
 bnd (aBin .add .no (.int .i64 128) t41_32) fun t42_33 =>
 bnd (aConvInt .u8 t42_33) fun t43_34 =>
 bnd (aBin .quo .no a0 (.int .i64 64)) fun t45_35 =>
 bnd (aBin .rem .no t45_35 (.int .i64 64)) fun t46_36 =>
 bnd (aBin .add .no (.int .i64 128) t46_36) fun t47_37 =>
 bnd (aConvInt .u8 t47_37) fun t48_38 =>
 bnd (aBin .rem .no a0 (.int .i64 64)) fun t50_39 =>
 bnd (aBin .add .no (.int .i64 128) t50_39) fun t51_40 =>
 bnd (aConvInt .u8 t51_40) fun t52_41 =>
 aBuildSlice 1 4 5 [(.int .u8 0)] [(0, 1, t38_30), (1, 1, t43_34), (2, 1, t48_38), (3, 1, t52_41)] H fun t53_42 H_43 =>
 R t53_42 H_43
def S31 (a0 : Value) (H : AHeap) (R : Value → AHeap → Prop) : Prop :=
 bnd (aBin .lss .no a0 (.int .i64 128)) fun t4_0 =>
 aCond t4_0 (
 bnd (aConvInt .u8 a0) fun t6_1 =>
 aBuildSlice 1 1 5 [(.int .u8 0)] [(0, 1, t6_1)] H fun t7_2 H_3 =>
 R t7_2 H_3) (
 bnd (aBin .lss .no a0 (.int .i64 2048)) fun t9_4 =>
 aCond t9_4 (
 (S31_13 a0 H R)) (
 bnd (aBin .lss .no a0 (.int .i64 65536)) fun t20_14 =>
 aCond t20_14 (
 (S31_27 a0 H R)) (
 (S31_44 a0 H R))))
theorem S31_calls {a0 : Value} {H : AHeap} {R : Value → AHeap → Prop} (h : S31 a0 H R) : ACalls Tryd.prog 31 [a0] H R :=
  have e : S31 a0 H R = awpFn Tryd.prog (Tryd.f31.body.getD .skip) Tryd.f31.results.toList ann31 [a0] H R := by kernel_rfl
  calls_of_awp (fn := Tryd.f31) (c := Tryd.f31.body.getD .skip) (an := ann31) (by kernel_rfl) Tryd.func31 (by kernel_rfl) (by kernel_rfl) (of_decide_eq_true (by kernel_rfl)) (e ▸ h)

/-- 32: marginalia/marginaliaref02.hexText -/
def ann32 : Ann := (.two .leaf (.two .leaf (.two (.two .leaf (.two (.two .leaf .leaf) .leaf)) (.two (.draw [(0, []), (1, []), (3, []), (4, []), (5, []), (6, []), (7, []), (8, []), (9, []), (2, []), (10, []), (11, [])]) .leaf))))
def S32_11 (a0 : Value) (H : AHeap) (R : Value → AHeap → Prop) : Prop :=
 bnd (aBin .quo .no a0 (.int .i64 16)) fun t12_3 =>
 bnd (aBin .rem .no a0 (.int .i64 16)) fun t16_4 =>
 bnd (aBin .rem .no a0 (.int .i64 16)) fun t18_5 =>
 bnd (aBin .add .no t18_5 (.int .i64 1)) fun t19_6 =>
 bnd (aSliceStr (.string ⟨#[48, 49, 50, 51, 52, 53, 54, 55, 56, 57, 97, 98, 99, 100, 101, 102]⟩) (some t16_4) (some t19_6)) fun t20_7 =>
 ACalls Tryd.prog 32 [t12_3] H fun t13_8 H_9 =>
 bnd (aBin .add .no t13_8 t20_7) fun t21_10 =>
 R t21_10 H_9
def S32 (a0 : Value) (H : AHeap) (R : Value → AHeap → Prop) : Prop :=
 bnd (aBin .lss .no a0 (.int .i64 16)) fun t5_0 =>
 aCond t5_0 (
 bnd (aBin .add .no a0 (.int .i64 1)) fun t9_1 =>
 bnd (aSliceStr (.string ⟨#[48, 49, 50, 51, 52, 53, 54, 55, 56, 57, 97, 98, 99, 100, 101, 102]⟩) (some a0) (some t9_1)) fun t10_2 =>
 R t10_2 H) (
 (S32_11 a0 H R))
theorem S32_calls {a0 : Value} {H : AHeap} {R : Value → AHeap → Prop} (h : S32 a0 H R) : ACalls Tryd.prog 32 [a0] H R :=
  have e : S32 a0 H R = awpFn Tryd.prog (Tryd.f32.body.getD .skip) Tryd.f32.results.toList ann32 [a0] H R := by kernel_rfl
  calls_of_awp (fn := Tryd.f32) (c := Tryd.f32.body.getD .skip) (an := ann32) (by kernel_rfl) Tryd.func32 (by kernel_rfl) (by kernel_rfl) (of_decide_eq_true (by kernel_rfl)) (e ▸ h)

/-- 43: marginalia/print.escape -/
def ann43 : Ann := (.two .leaf (.two (.two .leaf (.one (.join [4] [4, 5, 6] (.two .leaf (.two .leaf .leaf)) (.two (.two .leaf .leaf) (.two .leaf (.two (.two .leaf .leaf) (.two .leaf (.two (.two .leaf .leaf) (.two .leaf (.two (.two .leaf .leaf) .leaf)))))))))) (.two (.two .leaf (.two (.two .leaf .leaf) .leaf)) (.two .leaf .leaf))))
def S43_25 (a0 : Value) (R : Value → AHeap → Prop) (H_1 : AHeap) : Prop :=
 bnd (aBin .lss .no a0 (.int .i32 32)) fun t17_8 =>
 aGuardK t17_8 false (fun K_9 H_10 =>
 K_9 a0 H_10) (fun t19_11 H_12 =>
 aGuardK t17_8 false (fun K_13 H_14 =>
 bnd (aBin .eql .no t19_11 (.int .i32 127)) fun t20_15 =>
 K_13 t20_15 H_14) (fun t20_16 H_17 =>
 bnd (aPick t17_8 (.bool true) t20_16) fun t21_18 =>
 aCond t21_18 (
 bnd (aConvInt .i64 a0) fun t23_19 =>
 ACalls Tryd.prog 65 [t23_19, (.int .i64 16)] H_17 fun t24_20 H_21 =>
 bnd (aBin .add .no (.string ⟨#[92, 120]⟩) t24_20) fun t25_22 =>
 bnd (aBin .add .no t25_22 (.string ⟨#[59]⟩)) fun t26_23 =>
 R t26_23 H_21) (
 bnd (aRuneStr a0) fun t28_24 =>
 R t28_24 H_17)) H_12) H_1
def S43_26 (a0 : Value) (R : Value → AHeap → Prop) (H_1 : AHeap) : Prop :=
 bnd (aBin .eql .no a0 (.int .i32 10)) fun t11_5 =>
 aCond t11_5 (
 R (.string ⟨#[92, 110]⟩) H_1) (
 bnd (aBin .eql .no a0 (.int .i32 9)) fun t13_6 =>
 aCond t13_6 (
 R (.string ⟨#[92, 116]⟩) H_1) (
 bnd (aBin .eql .no a0 (.int .i32 13)) fun t15_7 =>
 aCond t15_7 (
 R (.string ⟨#[92, 114]⟩) H_1) (
 (S43_25 a0 R H_1))))
def S43 (a0 : Value) (H : AHeap) (R : Value → AHeap → Prop) : Prop :=
 aJoin (fun vs_0 H_1 =>
 aCond (nth vs_0 0) (
 bnd (aRuneStr a0) fun t8_3 =>
 bnd (aBin .add .no (.string ⟨#[92]⟩) t8_3) fun t9_4 =>
 R t9_4 H_1) (
 (S43_26 a0 R H_1))) fun J_2 =>
 bnd (aBin .eql .no a0 (.int .i32 92)) fun t5_27 =>
 aCond t5_27 (
 J_2 [t5_27] H) (
 bnd (aBin .eql .no a0 (.int .i32 34)) fun t6_28 =>
 J_2 [t6_28] H)
theorem S43_calls {a0 : Value} {H : AHeap} {R : Value → AHeap → Prop} (h : S43 a0 H R) : ACalls Tryd.prog 43 [a0] H R :=
  have e : S43 a0 H R = awpFn Tryd.prog (Tryd.f43.body.getD .skip) Tryd.f43.results.toList ann43 [a0] H R := by kernel_rfl
  calls_of_awp (fn := Tryd.f43) (c := Tryd.f43.body.getD .skip) (an := ann43) (by kernel_rfl) Tryd.func43 (by kernel_rfl) (by kernel_rfl) (of_decide_eq_true (by kernel_rfl)) (e ▸ h)

/-- 47: marginalia/marginaliaref02.Scalar -/
def ann47 : Ann := (.two .leaf (.two .leaf .leaf))
def S47 (a0 : Value) (H : AHeap) (R : Value → AHeap → Prop) : Prop :=
 bnd (aBin .geq .no a0 (.int .i64 0)) fun t4_0 =>
 aGuardK t4_0 true (fun K_1 H_2 =>
 K_1 a0 H_2) (fun t6_3 H_4 =>
 aGuardK t4_0 true (fun K_5 H_6 =>
 bnd (aBin .leq .no t6_3 (.int .i64 1114111)) fun t7_7 =>
 K_5 t7_7 H_6) (fun t7_8 H_9 =>
 bnd (aPick t4_0 t7_8 (.bool false)) fun t8_10 =>
 aGuardK t8_10 true (fun K_11 H_12 =>
 K_11 a0 H_12) (fun t10_13 H_14 =>
 aGuardK t8_10 true (fun K_15 H_16 =>
 bnd (aBin .geq .no t10_13 (.int .i64 55296)) fun t11_17 =>
 K_15 t11_17 H_16) (fun t11_18 H_19 =>
 aGuardK t8_10 true (fun K_20 H_21 =>
 K_20 t11_18 H_21) (fun t12_22 H_23 =>
 aGuardK t12_22 true (fun K_24 H_25 =>
 K_24 a0 H_25) (fun t13_26 H_27 =>
 aGuardK t12_22 true (fun K_28 H_29 =>
 bnd (aBin .leq .no t13_26 (.int .i64 57343)) fun t14_30 =>
 K_28 t14_30 H_29) (fun t14_31 H_32 =>
 aGuardK t8_10 true (fun K_33 H_34 =>
 bnd (aPick t12_22 t14_31 (.bool false)) fun t15_35 =>
 K_33 t15_35 H_34) (fun t15_36 H_37 =>
 aGuardK t8_10 true (fun K_38 H_39 =>
 bnd (aUn .not t15_36) fun t16_40 =>
 K_38 t16_40 H_39) (fun t16_41 H_42 =>
 bnd (aPick t8_10 t16_41 (.bool false)) fun t17_43 =>
 R t17_43 H_42) H_37) H_32) H_27) H_23) H_19) H_14) H_9) H_4) H
theorem S47_calls {a0 : Value} {H : AHeap} {R : Value → AHeap → Prop} (h : S47 a0 H R) : ACalls Tryd.prog 47 [a0] H R :=
  have e : S47 a0 H R = awpFn Tryd.prog (Tryd.f47.body.getD .skip) Tryd.f47.results.toList ann47 [a0] H R := by kernel_rfl
  calls_of_awp (fn := Tryd.f47) (c := Tryd.f47.body.getD .skip) (an := ann47) (by kernel_rfl) Tryd.func47 (by kernel_rfl) (by kernel_rfl) (of_decide_eq_true (by kernel_rfl)) (e ▸ h)

/-- 49: internal/strconv.FormatInt -/
def ann49 : Ann := (.two .leaf (.two (.two .leaf (.two (.two (.two .leaf (.two (.two .leaf .leaf) .leaf)) (.two .leaf (.two .leaf (.join [6] [6, 22, 23, 24, 25] (.two .leaf (.two .leaf .leaf)) (.two .leaf (.two .leaf (.two (.two .leaf (.two (.two .leaf (.two .leaf .leaf)) .leaf)) (.two .leaf .leaf)))))))) .leaf)) (.two .leaf (.two .leaf .leaf))))
def S49_32 (R : Value → AHeap → Prop) (t5_14 : Value) (t27_20 : Value) (H_25 : AHeap) : Prop :=
 bnd (aIdxAddrArr 24 1 t5_14 (.int .i64 0)) fun t35_27 =>
 bnd (aSt 1 t35_27 (.int .u8 45) H_25) fun H_28 =>
 bnd (aBin .add .no (.int .i64 1) t27_20) fun t37_29 =>
 bnd (aSliceArr 24 1 t5_14 none (some t37_29)) fun t38_30 =>
 bnd (aBytesStr t38_30 H_28) fun t39_31 =>
 R t39_31 H_28
def S49_36 (a0 : Value) (R : Value → AHeap → Prop) (t5_14 : Value) (vs_17 : List Value) (t27_20 : Value) (H_21 : AHeap) : Prop :=
 bnd (aBin .add .no (.int .i64 1) t27_20) fun t29_22 =>
 bnd (aSliceArr 24 1 t5_14 (some (.int .i64 1)) (some t29_22)) fun t30_23 =>
 ACalls Tryd.prog 69 [t30_23, (nth vs_17 0)] H_21 fun t32_24 H_25 =>
 bnd (aBin .lss .no a0 (.int .i64 0)) fun t34_26 =>
 aCond t34_26 (
 (S49_32 R t5_14 t27_20 H_25)) (
 bnd (aBin .add .no (.int .i64 1) t27_20) fun t41_33 =>
 bnd (aSliceArr 24 1 t5_14 (some (.int .i64 1)) (some t41_33)) fun t42_34 =>
 bnd (aBytesStr t42_34 H_25) fun t43_35 =>
 R t43_35 H_25)
def S49_39 (a0 : Value) (R : Value → AHeap → Prop) (H_10 : AHeap) : Prop :=
 aAlloc [(.int .u8 0), (.int .u8 0), (.int .u8 0), (.int .u8 0), (.int .u8 0), (.int .u8 0), (.int .u8 0), (.int .u8 0), (.int .u8 0), (.int .u8 0), (.int .u8 0), (.int .u8 0), (.int .u8 0), (.int .u8 0), (.int .u8 0), (.int .u8 0), (.int .u8 0), (.int .u8 0), (.int .u8 0), (.int .u8 0), (.int .u8 0), (.int .u8 0), (.int .u8 0), (.int .u8 0)] 105 H_10 fun t5_14 H_15 =>
 bnd (aConvInt .u64 a0) fun t21_16 =>
 aJoin (fun vs_17 H_18 =>
 ACalls Tryd.prog 68 [(nth vs_17 0)] H_18 fun t27_20 H_21 =>
 (S49_36 a0 R t5_14 vs_17 t27_20 H_21)) fun J_19 =>
 bnd (aBin .lss .no a0 (.int .i64 0)) fun t23_37 =>
 aCond t23_37 (
 bnd (aUn .neg t21_16) fun t25_38 =>
 J_19 [t25_38] H_15) (
 J_19 [t21_16] H_15)
def S49_40 (a0 : Value) (H : AHeap) (R : Value → AHeap → Prop) : Prop :=
 bnd (aBin .leq .no (.int .i64 0) a0) fun t13_1 =>
 aGuardK t13_1 true (fun K_2 H_3 =>
 K_2 a0 H_3) (fun t15_4 H_5 =>
 aGuardK t13_1 true (fun K_6 H_7 =>
 bnd (aBin .lss .no t15_4 (.int .i64 100)) fun t16_8 =>
 K_6 t16_8 H_7) (fun t16_9 H_10 =>
 bnd (aPick t13_1 t16_9 (.bool false)) fun t17_11 =>
 aCond t17_11 (
 ACalls Tryd.prog 67 [a0] H_10 fun t19_12 H_13 =>
 R t19_12 H_13) (
 (S49_39 a0 R H_10))) H_5) H
def S49_47 (a0 : Value) (a1 : Value) (H : AHeap) (R : Value → AHeap → Prop) : Prop :=
 bnd (aConvInt .u64 a0) fun t46_41 =>
 bnd (aBin .lss .no a0 (.int .i64 0)) fun t49_42 =>
 ACalls Tryd.prog 70 [(.slice none 0 0), t46_41, a1, t49_42, (.bool false)] H fun t50_43 H_44 =>
 bnd (aExtract t50_43 0) fun t51_45 =>
 bnd (aExtract t50_43 1) fun t52_46 =>
 R t52_46 H_44
def S49 (a0 : Value) (a1 : Value) (H : AHeap) (R : Value → AHeap → Prop) : Prop :=
 bnd (aBin .eql .no a1 (.int .i64 10)) fun t11_0 =>
 aCond t11_0 (
 (S49_40 a0 H R)) (
 (S49_47 a0 a1 H R))
theorem S49_calls {a0 a1 : Value} {H : AHeap} {R : Value → AHeap → Prop} (h : S49 a0 a1 H R) : ACalls Tryd.prog 49 [a0, a1] H R :=
  have e : S49 a0 a1 H R = awpFn Tryd.prog (Tryd.f49.body.getD .skip) Tryd.f49.results.toList ann49 [a0, a1] H R := by kernel_rfl
  calls_of_awp (fn := Tryd.f49) (c := Tryd.f49.body.getD .skip) (an := ann49) (by kernel_rfl) Tryd.func49 (by kernel_rfl) (by kernel_rfl) (of_decide_eq_true (by kernel_rfl)) (e ▸ h)

/-- 65: strconv.FormatInt -/
def ann65 : Ann := (.two .leaf (.two .leaf .leaf))
def S65 (a0 : Value) (a1 : Value) (H : AHeap) (R : Value → AHeap → Prop) : Prop :=
 ACalls Tryd.prog 49 [a0, a1] H fun t7_0 H_1 =>
 R t7_0 H_1
theorem S65_calls {a0 a1 : Value} {H : AHeap} {R : Value → AHeap → Prop} (h : S65 a0 a1 H R) : ACalls Tryd.prog 65 [a0, a1] H R :=
  have e : S65 a0 a1 H R = awpFn Tryd.prog (Tryd.f65.body.getD .skip) Tryd.f65.results.toList ann65 [a0, a1] H R := by kernel_rfl
  calls_of_awp (fn := Tryd.f65) (c := Tryd.f65.body.getD .skip) (an := ann65) (by kernel_rfl) Tryd.func65 (by kernel_rfl) (by kernel_rfl) (of_decide_eq_true (by kernel_rfl)) (e ▸ h)

end Go.Proofs.YtnbnojkfhfkecaaDoor.A
