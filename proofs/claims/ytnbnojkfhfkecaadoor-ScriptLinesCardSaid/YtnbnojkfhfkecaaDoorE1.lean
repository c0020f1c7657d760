/- Contracts of functions that the statement reaches; each theorem carries its own conditions, the last theorem of the claim has none. -/
import Derived.Test.YtnbnojkfhfkecaaDoorAbsY
import Derived.Test.YtnbnojkfhfkecaaDoorProg
import Derived.KernelRfl
/- The texts that functions' bodies come to (printed by gen.lean, a tool of our own). -/
set_option linter.unusedVariables false
set_option maxRecDepth 100000
namespace Go.Proofs.YtnbnojkfhfkecaaDoor.A
open Go Go.Abs

/-- 7: marginalia/marginalialaw22.ScriptBack -/
def ann7 : Ann := (.two .leaf (.two (.two .leaf (.two (.two .leaf .leaf) .leaf)) (.two (.draw [(0, []), (1, []), (2, [0]), (3, []), (4, []), (5, []), (6, []), (7, []), (8, [])]) (.two .leaf (.two (.two .leaf (.two (.two .leaf .leaf) .leaf)) (.two (.two .leaf (.one (.loop [11] [4, 11, 61, 62, 63, 64, 65, 66, 67, 68, 69, 70, 71, 72, 73, 74, 75, 76, 77] (.two (.two .leaf (.two .leaf .leaf)) (.two (.one (.two (.draw [(0, []), (1, []), (2, []), (3, []), (4, []), (5, []), (6, []), (7, []), (8, []), (9, []), (10, [])]) (.two (.two .leaf .leaf) .leaf))) .leaf))))) (.two .leaf .leaf)))))))
def S7_128 (a1 : Value) (R : Value → AHeap → Prop) (t36_48 : Value) (vs_115 : List Value) (H_116 : AHeap) (again_117 : List Value → AHeap → Prop) : Prop :=
 bnd (aIdxAddr 1 t36_48 (nth vs_115 0)) fun t69_120 =>
 bnd (aLdCell t69_120 H_116) fun t70_121 =>
 bnd (aBytesStr t70_121 H_116) fun t71_122 =>
 bnd (aIdxAddr 1 a1 (nth vs_115 0)) fun t74_123 =>
 bnd (aLdCell t74_123 H_116) fun t75_124 =>
 bnd (aBytesStr t75_124 H_116) fun t76_125 =>
 bnd (aBin .neq .no t71_122 t76_125) fun t77_126 =>
 aCond t77_126 (
 R (.bool false) H_116) (
 bnd (aBin .add .no (nth vs_115 0) (.int .i64 1)) fun t66_127 =>
 again_117 [t66_127] H_116)
def S7_129 (a1 : Value) (R : Value → AHeap → Prop) (t36_48 : Value) (vs_115 : List Value) (H_116 : AHeap) (again_117 : List Value → AHeap → Prop) : Prop :=
 bnd (aLenSl t36_48) fun t63_118 =>
 bnd (aBin .lss .no (nth vs_115 0) t63_118) fun t64_119 =>
 aCond t64_119 (
 (S7_128 a1 R t36_48 vs_115 H_116 again_117)) (
 R (.bool true) H_116)
def S7_130 (a1 : Value) (R : Value → AHeap → Prop) (t2_0 : Value) (t31_44 : Value) (t34_45 : Value) (H_46 : AHeap) : Prop :=
 bnd (aExtract t34_45 0) fun t35_47 =>
 bnd (aExtract t34_45 1) fun t36_48 =>
 bnd (aExtract t34_45 2) fun t37_49 =>
 bnd (aExtract t34_45 3) fun t38_50 =>
 aAlloc [(.int .i64 0), (.int .i64 0), (.int .i64 0)] 27 H_46 fun t7_51 H_52 =>
 bnd (aSt 3 t7_51 t35_47 H_52) fun H_53 =>
 bnd (aBin .neq .no t31_44 (.int .i64 0)) fun t40_54 =>
 aGuardK t40_54 false (fun K_55 H_56 =>
 K_55 t38_50 H_56) (fun t42_57 H_58 =>
 aGuardK t40_54 false (fun K_59 H_60 =>
 bnd (aBin .neq .no t42_57 (.int .i64 0)) fun t43_61 =>
 K_59 t43_61 H_60) (fun t43_62 H_63 =>
 bnd (aPick t40_54 (.bool true) t43_62) fun t44_64 =>
 aGuardK t44_64 false (fun K_65 H_66 =>
 K_65 t37_49 H_66) (fun t46_67 H_68 =>
 aGuardK t44_64 false (fun K_69 H_70 =>
 bnd (aBin .neq .no t46_67 (.int .i64 0)) fun t47_71 =>
 K_69 t47_71 H_70) (fun t47_72 H_73 =>
 bnd (aPick t44_64 (.bool true) t47_72) fun t48_74 =>
 aGuardK t48_74 false (fun K_75 H_76 =>
 bnd (aLdAgg 3 t7_51 H_76) fun t50_77 =>
 K_75 t50_77 H_76) (fun t50_78 H_79 =>
 aGuardK t48_74 false (fun K_80 H_81 =>
 bnd (aLdAgg 3 t2_0 H_81) fun t51_82 =>
 K_80 t51_82 H_81) (fun t51_83 H_84 =>
 aGuardK t48_74 false (fun K_85 H_86 =>
 bnd (aBin .neq (.cells [.int, .int, .int]) t50_78 t51_83) fun t52_87 =>
 K_85 t52_87 H_86) (fun t52_88 H_89 =>
 bnd (aPick t48_74 (.bool true) t52_88) fun t53_90 =>
 aGuardK t53_90 false (fun K_91 H_92 =>
 K_91 t36_48 H_92) (fun t55_93 H_94 =>
 aGuardK t53_90 false (fun K_95 H_96 =>
 bnd (aLenSl t55_93) fun t56_97 =>
 K_95 t56_97 H_96) (fun t56_98 H_99 =>
 aGuardK t53_90 false (fun K_100 H_101 =>
 K_100 a1 H_101) (fun t57_102 H_103 =>
 aGuardK t53_90 false (fun K_104 H_105 =>
 bnd (aLenSl t57_102) fun t58_106 =>
 K_104 t58_106 H_105) (fun t58_107 H_108 =>
 aGuardK t53_90 false (fun K_109 H_110 =>
 bnd (aBin .neq .no t56_98 t58_107) fun t59_111 =>
 K_109 t59_111 H_110) (fun t59_112 H_113 =>
 bnd (aPick t53_90 (.bool true) t59_112) fun t60_114 =>
 aCond t60_114 (
 R (.bool false) H_113) (
 aLoop [(.int .i64 0)] H_113 fun vs_115 H_116 again_117 =>
 (S7_129 a1 R t36_48 vs_115 H_116 again_117))) H_108) H_103) H_99) H_94) H_89) H_84) H_79) H_73) H_68) H_63) H_58) H_53
def S7_132 (a1 : Value) (R : Value → AHeap → Prop) (t2_0 : Value) (H_34 : AHeap) : Prop :=
 bnd (aLdAgg 3 t2_0 H_34) fun t26_38 =>
 ACalls Tryd.prog 14 [a1] H_34 fun t28_39 H_40 =>
 ((bnd (aLdAgg 3 t2_0 H_40) fun t26_131 =>
 t26_131 = t26_38)) ∧
 ACalls Tryd.prog 8 [t26_38, t28_39] H_40 fun t29_41 H_42 =>
 bnd (aExtract t29_41 0) fun t30_43 =>
 bnd (aExtract t29_41 1) fun t31_44 =>
 ACalls Tryd.prog 9 [t30_43] H_42 fun t34_45 H_46 =>
 (S7_130 a1 R t2_0 t31_44 t34_45 H_46)
def S7_133 (a1 : Value) (R : Value → AHeap → Prop) (t2_0 : Value) (t12_2 : Value) (H_3 : AHeap) : Prop :=
 bnd (aUn .not t12_2) fun t13_4 =>
 aGuardK t13_4 false (fun K_5 H_6 =>
 K_5 a1 H_6) (fun t15_7 H_8 =>
 aGuardK t13_4 false (fun K_9 H_10 =>
 ACalls Tryd.prog 12 [t15_7] H_10 fun t16_11 H_12 =>
 K_9 t16_11 H_12) (fun t16_13 H_14 =>
 aGuardK t13_4 false (fun K_15 H_16 =>
 bnd (aUn .not t16_13) fun t17_17 =>
 K_15 t17_17 H_16) (fun t17_18 H_19 =>
 bnd (aPick t13_4 (.bool true) t17_18) fun t18_20 =>
 aGuardK t18_20 false (fun K_21 H_22 =>
 K_21 a1 H_22) (fun t20_23 H_24 =>
 aGuardK t18_20 false (fun K_25 H_26 =>
 bnd (aLenSl t20_23) fun t21_27 =>
 K_25 t21_27 H_26) (fun t21_28 H_29 =>
 aGuardK t18_20 false (fun K_30 H_31 =>
 bnd (aBin .gtr .no t21_28 (.int .i64 256)) fun t22_32 =>
 K_30 t22_32 H_31) (fun t22_33 H_34 =>
 bnd (aPick t18_20 (.bool true) t22_33) fun t23_35 =>
 aCond t23_35 (
 ACalls Tryd.prog 11 [] H_34 fun t24_36 H_37 =>
 R t24_36 H_37) (
 (S7_132 a1 R t2_0 H_34))) H_29) H_24) H_19) H_14) H_8) H_3
def S7 (a0 : Value) (a1 : Value) (H : AHeap) (R : Value → AHeap → Prop) : Prop :=
 aBox 27 a0 H fun t2_0 H_1 =>
 ACalls Tryd.prog 11 [] H_1 fun t12_2 H_3 =>
 (S7_133 a1 R t2_0 t12_2 H_3)
theorem S7_calls {a0 a1 : Value} {H : AHeap} {R : Value → AHeap → Prop} (h : S7 a0 a1 H R) : ACalls Tryd.prog 7 [a0, a1] H R :=
  have e : S7 a0 a1 H R = awpFn Tryd.prog (Tryd.f7.body.getD .skip) Tryd.f7.results.toList ann7 [a0, a1] H R := by kernel_rfl
  calls_of_awp (fn := Tryd.f7) (c := Tryd.f7.body.getD .skip) (an := ann7) (by kernel_rfl) Tryd.func7 (by kernel_rfl) (by kernel_rfl) (of_decide_eq_true (by kernel_rfl)) (e ▸ h)

/-- 9: marginalia/script.Get -/
def ann9 : Ann := (.two .leaf (.two .leaf (.two .leaf (.two (.two .leaf (.two (.two .leaf .leaf) .leaf)) (.two (.two .leaf (.one (.loop [3, 4, 7] [3, 4, 5, 7, 10, 11, 12, 13, 14, 33, 34, 35, 36, 37, 38, 39, 40, 41, 42, 43, 44, 45, 46, 47, 48, 49, 50, 51, 52, 53, 54, 55, 56, 57, 58, 59, 60, 61, 62, 63, 64, 65, 66, 67, 68, 69, 70, 71, 72] (.two (.two .leaf (.two .leaf .leaf)) (.two (.one (.two .leaf (.two .leaf (.two (.one (.two .leaf (.two (.two .leaf .leaf) (.two .leaf (.two (.two .leaf .leaf) .leaf))))) (.two .leaf .leaf))))) .leaf))))) (.two .leaf .leaf))))))
def S9_78 (R : Value → AHeap → Prop) (t2_0 : Value) (vs_26 : List Value) (again_28 : List Value → AHeap → Prop) (t41_33 : Value) (t46_37 : Value) (H_48 : AHeap) : Prop :=
 bnd (aLenSl t46_37) fun t59_53 =>
 bnd (aBin .gtr .no t59_53 (.int .i64 65536)) fun t60_54 =>
 aGuardK t60_54 false (fun K_55 H_56 =>
 K_55 (nth vs_26 0) H_56) (fun t62_57 H_58 =>
 aGuardK t60_54 false (fun K_59 H_60 =>
 bnd (aLenSl t62_57) fun t63_61 =>
 K_59 t63_61 H_60) (fun t63_62 H_63 =>
 aGuardK t60_54 false (fun K_64 H_65 =>
 bnd (aBin .geq .no t63_62 (.int .i64 256)) fun t64_66 =>
 K_64 t64_66 H_65) (fun t64_67 H_68 =>
 bnd (aPick t60_54 (.bool true) t64_67) fun t65_69 =>
 aCond t65_69 (
 bnd (aFill [(.int .i64 0), (.int .i64 0), (.int .i64 0)] []) fun t66_70 =>
 bnd (aSt 3 t2_0 (.agg t66_70.toArray) H_68) fun H_71 =>
 bnd (aLdAgg 3 t2_0 H_71) fun r_72 =>
 R (.tuple #[r_72, (.slice none 0 0), (nth vs_26 1), (.int .i64 6)]) H_71) (
 aBuildSlice 1 1 22 [(.slice none 0 0)] [(0, 1, t46_37)] H_68 fun t70_73 H_74 =>
 aAppend 1 24 22 (nth vs_26 0) t70_73 H_74 fun t71_75 H_76 =>
 bnd (aBin .add .no (nth vs_26 1) (.int .i64 1)) fun t36_77 =>
 again_28 [t71_75, t36_77, t41_33] H_76)) H_63) H_58) H_48
def S9_79 (R : Value → AHeap → Prop) (t2_0 : Value) (vs_26 : List Value) (again_28 : List Value → AHeap → Prop) (t41_33 : Value) (t42_34 : Value) (t45_35 : Value) (H_36 : AHeap) : Prop :=
 bnd (aExtract t45_35 0) fun t46_37 =>
 bnd (aExtract t45_35 1) fun t47_38 =>
 bnd (aUn .not t47_38) fun t50_39 =>
 aGuardK t50_39 false (fun K_40 H_41 =>
 K_40 t42_34 H_41) (fun t52_42 H_43 =>
 aGuardK t50_39 false (fun K_44 H_45 =>
 bnd (aUn .not t52_42) fun t53_46 =>
 K_44 t53_46 H_45) (fun t53_47 H_48 =>
 bnd (aPick t50_39 (.bool true) t53_47) fun t54_49 =>
 aCond t54_49 (
 bnd (aFill [(.int .i64 0), (.int .i64 0), (.int .i64 0)] []) fun t55_50 =>
 bnd (aSt 3 t2_0 (.agg t55_50.toArray) H_48) fun H_51 =>
 bnd (aLdAgg 3 t2_0 H_51) fun r_52 =>
 R (.tuple #[r_52, (.slice none 0 0), (nth vs_26 1), (.int .i64 3)]) H_51) (
 (S9_78 R t2_0 vs_26 again_28 t41_33 t46_37 H_48))) H_43) H_36
def S9_80 (R : Value → AHeap → Prop) (t2_0 : Value) (vs_26 : List Value) (H_27 : AHeap) (again_28 : List Value → AHeap → Prop) : Prop :=
 ACalls Tryd.prog 24 [(nth vs_26 2), (.string ⟨#[10]⟩)] H_27 fun t39_30 H_31 =>
 bnd (aExtract t39_30 0) fun t40_32 =>
 bnd (aExtract t39_30 1) fun t41_33 =>
 bnd (aExtract t39_30 2) fun t42_34 =>
 ACalls Tryd.prog 26 [t40_32] H_31 fun t45_35 H_36 =>
 (S9_79 R t2_0 vs_26 again_28 t41_33 t42_34 t45_35 H_36)
def S9_84 (R : Value → AHeap → Prop) (t2_0 : Value) (vs_26 : List Value) (H_27 : AHeap) (again_28 : List Value → AHeap → Prop) : Prop :=
 bnd (aBin .neq .no (nth vs_26 2) (.string ⟨#[]⟩)) fun t34_29 =>
 aCond t34_29 (
 (S9_80 R t2_0 vs_26 H_27 again_28)) (
 bnd (aLdAgg 3 t2_0 H_27) fun t73_81 =>
 bnd (aSt 3 t2_0 t73_81 H_27) fun H_82 =>
 bnd (aLdAgg 3 t2_0 H_82) fun r_83 =>
 R (.tuple #[r_83, (nth vs_26 0), (.int .i64 0), (.int .i64 0)]) H_82)
def S9_85 (R : Value → AHeap → Prop) (t2_0 : Value) (t19_5 : Value) (t20_6 : Value) (t23_7 : Value) (H_8 : AHeap) : Prop :=
 bnd (aExtract t23_7 0) fun t24_9 =>
 bnd (aExtract t23_7 1) fun t25_10 =>
 bnd (aSt 3 t2_0 t24_9 H_8) fun H_11 =>
 bnd (aUn .not t25_10) fun t27_12 =>
 aGuardK t27_12 false (fun K_13 H_14 =>
 K_13 t20_6 H_14) (fun t29_15 H_16 =>
 aGuardK t27_12 false (fun K_17 H_18 =>
 bnd (aUn .not t29_15) fun t30_19 =>
 K_17 t30_19 H_18) (fun t30_20 H_21 =>
 bnd (aPick t27_12 (.bool true) t30_20) fun t31_22 =>
 aCond t31_22 (
 bnd (aFill [(.int .i64 0), (.int .i64 0), (.int .i64 0)] []) fun t32_23 =>
 bnd (aSt 3 t2_0 (.agg t32_23.toArray) H_21) fun H_24 =>
 bnd (aLdAgg 3 t2_0 H_24) fun r_25 =>
 R (.tuple #[r_25, (.slice none 0 0), (.int .i64 1), (.int .i64 3)]) H_24) (
 aLoop [(.slice none 0 0), (.int .i64 2), t19_5] H_21 fun vs_26 H_27 again_28 =>
 (S9_84 R t2_0 vs_26 H_27 again_28))) H_16) H_11
def S9 (a0 : Value) (H : AHeap) (R : Value → AHeap → Prop) : Prop :=
 aAlloc [(.int .i64 0), (.int .i64 0), (.int .i64 0)] 27 H fun t2_0 H_1 =>
 ACalls Tryd.prog 24 [a0, (.string ⟨#[10]⟩)] H_1 fun t17_2 H_3 =>
 bnd (aExtract t17_2 0) fun t18_4 =>
 bnd (aExtract t17_2 1) fun t19_5 =>
 bnd (aExtract t17_2 2) fun t20_6 =>
 ACalls Tryd.prog 25 [t18_4] H_3 fun t23_7 H_8 =>
 (S9_85 R t2_0 t19_5 t20_6 t23_7 H_8)
theorem S9_calls {a0 : Value} {H : AHeap} {R : Value → AHeap → Prop} (h : S9 a0 H R) : ACalls Tryd.prog 9 [a0] H R :=
  have e : S9 a0 H R = awpFn Tryd.prog (Tryd.f9.body.getD .skip) Tryd.f9.results.toList ann9 [a0] H R := by kernel_rfl
  calls_of_awp (fn := Tryd.f9) (c := Tryd.f9.body.getD .skip) (an := ann9) (by kernel_rfl) Tryd.func9 (by kernel_rfl) (by kernel_rfl) (of_decide_eq_true (by kernel_rfl)) (e ▸ h)

/-- 25: marginalia/script.limits -/
def ann25 : Ann := (.two .leaf (.two .leaf (.two .leaf (.two (.two .leaf (.two (.two .leaf .leaf) .leaf)) (.two (.two .leaf (.one (.loop [21] [3, 6, 7, 8, 9, 21, 22, 23, 24, 25, 26, 27, 28, 29, 30, 31, 32, 33, 34, 35, 36, 37, 38, 39, 40, 41, 42, 43, 44, 45, 46] (.two .leaf (.two (.two .leaf .leaf) (.two (.one (.two .leaf (.two .leaf (.two (.two .leaf (.two (.two .leaf .leaf) .leaf)) .leaf)))) .leaf)))))) (.two .leaf .leaf))))))
def S25_52 (t12_4 : Value) (vs_13 : List Value) (again_15 : List Value → AHeap → Prop) (t29_21 : Value) (H_42 : AHeap) : Prop :=
 bnd (aIdxAddr 1 t12_4 (nth vs_13 0)) fun t42_47 =>
 bnd (aLdCell t42_47 H_42) fun t43_48 =>
 bnd (aNilCheck t43_48) fun t45_49 =>
 bnd (aSt 1 t45_49 t29_21 H_42) fun H_50 =>
 bnd (aBin .add .no (nth vs_13 0) (.int .i64 1)) fun t46_51 =>
 again_15 [t46_51] H_50
def S25_53 (R : Value → AHeap → Prop) (t2_0 : Value) (t12_4 : Value) (vs_13 : List Value) (again_15 : List Value → AHeap → Prop) (t25_18 : Value) (t28_19 : Value) (H_20 : AHeap) : Prop :=
 bnd (aExtract t28_19 0) fun t29_21 =>
 bnd (aExtract t28_19 1) fun t30_22 =>
 bnd (aIfaceNil .neq t30_22) fun t32_23 =>
 aGuardK t32_23 false (fun K_24 H_25 =>
 K_24 t29_21 H_25) (fun t34_26 H_27 =>
 aGuardK t32_23 false (fun K_28 H_29 =>
 ACalls Tryd.prog 21 [t34_26] H_29 fun t35_30 H_31 =>
 K_28 t35_30 H_31) (fun t35_32 H_33 =>
 aGuardK t32_23 false (fun K_34 H_35 =>
 K_34 t25_18 H_35) (fun t36_36 H_37 =>
 aGuardK t32_23 false (fun K_38 H_39 =>
 bnd (aBin .neq .no t35_32 t36_36) fun t37_40 =>
 K_38 t37_40 H_39) (fun t37_41 H_42 =>
 bnd (aPick t32_23 (.bool true) t37_41) fun t38_43 =>
 aCond t38_43 (
 bnd (aFill [(.int .i64 0), (.int .i64 0), (.int .i64 0)] []) fun t39_44 =>
 bnd (aSt 3 t2_0 (.agg t39_44.toArray) H_42) fun H_45 =>
 bnd (aLdAgg 3 t2_0 H_45) fun r_46 =>
 R (.tuple #[r_46, (.bool false)]) H_45) (
 (S25_52 t12_4 vs_13 again_15 t29_21 H_42))) H_37) H_33) H_27) H_20
def S25_57 (R : Value → AHeap → Prop) (t2_0 : Value) (t11_2 : Value) (t12_4 : Value) (t20_12 : Value) (vs_13 : List Value) (H_14 : AHeap) (again_15 : List Value → AHeap → Prop) : Prop :=
 bnd (aBin .lss .no (nth vs_13 0) t20_12) fun t22_16 =>
 aCond t22_16 (
 bnd (aIdxAddr 1 t11_2 (nth vs_13 0)) fun t24_17 =>
 bnd (aLdCell t24_17 H_14) fun t25_18 =>
 ACalls Tryd.prog 38 [t25_18] H_14 fun t28_19 H_20 =>
 (S25_53 R t2_0 t12_4 vs_13 again_15 t25_18 t28_19 H_20)) (
 bnd (aLdAgg 3 t2_0 H_14) fun t47_54 =>
 bnd (aSt 3 t2_0 t47_54 H_14) fun H_55 =>
 bnd (aLdAgg 3 t2_0 H_55) fun r_56 =>
 R (.tuple #[r_56, (.bool true)]) H_55)
def S25_58 (R : Value → AHeap → Prop) (t2_0 : Value) (t11_2 : Value) (t12_4 : Value) (H_5 : AHeap) : Prop :=
 bnd (aLenSl t11_2) fun t14_6 =>
 bnd (aLenSl t12_4) fun t16_7 =>
 bnd (aBin .neq .no t14_6 t16_7) fun t17_8 =>
 aCond t17_8 (
 bnd (aFill [(.int .i64 0), (.int .i64 0), (.int .i64 0)] []) fun t18_9 =>
 bnd (aSt 3 t2_0 (.agg t18_9.toArray) H_5) fun H_10 =>
 bnd (aLdAgg 3 t2_0 H_10) fun r_11 =>
 R (.tuple #[r_11, (.bool false)]) H_10) (
 bnd (aLenSl t11_2) fun t20_12 =>
 aLoop [(.int .i64 0)] H_5 fun vs_13 H_14 again_15 =>
 (S25_57 R t2_0 t11_2 t12_4 t20_12 vs_13 H_14 again_15))
def S25 (a0 : Value) (H : AHeap) (R : Value → AHeap → Prop) : Prop :=
 aAlloc [(.int .i64 0), (.int .i64 0), (.int .i64 0)] 27 H fun t2_0 H_1 =>
 ACalls Tryd.prog 37 [a0, (.string ⟨#[32]⟩)] H_1 fun t11_2 H_3 =>
 ACalls Tryd.prog 18 [t2_0] H_3 fun t12_4 H_5 =>
 (S25_58 R t2_0 t11_2 t12_4 H_5)
theorem S25_calls {a0 : Value} {H : AHeap} {R : Value → AHeap → Prop} (h : S25 a0 H R) : ACalls Tryd.prog 25 [a0] H R :=
  have e : S25 a0 H R = awpFn Tryd.prog (Tryd.f25.body.getD .skip) Tryd.f25.results.toList ann25 [a0] H R := by kernel_rfl
  calls_of_awp (fn := Tryd.f25) (c := Tryd.f25.body.getD .skip) (an := ann25) (by kernel_rfl) Tryd.func25 (by kernel_rfl) (by kernel_rfl) (of_decide_eq_true (by kernel_rfl)) (e ▸ h)

/-- 26: marginalia/script.bytes -/
def ann26 : Ann := (.two .leaf (.two .leaf (.two (.two .leaf (.two (.two .leaf .leaf) .leaf)) (.two .leaf (.two (.two .leaf (.one (.loop [5, 6] [5, 6, 25, 26, 27, 28, 29, 30, 31, 32, 33, 34, 35, 36, 37, 38, 39, 40, 41, 42, 43, 44, 45] (.two (.two .leaf (.two .leaf .leaf)) (.two (.one (.draw [(0, []), (1, []), (2, []), (3, []), (6, []), (7, []), (8, []), (9, []), (4, []), (5, []), (10, []), (11, []), (12, []), (13, []), (14, []), (15, [])])) .leaf))))) (.two .leaf .leaf))))))
def S26_61 (vs_41 : List Value) (again_43 : List Value → AHeap → Prop) (t40_48 : Value) (t35_49 : Value) (H_50 : AHeap) : Prop :=
 bnd (aBin .shl .no t35_49 (.int .u64 4)) fun t36_51 =>
 ACalls Tryd.prog 41 [(.string ⟨#[48, 49, 50, 51, 52, 53, 54, 55, 56, 57, 97, 98, 99, 100, 101, 102]⟩), t40_48] H_50 fun t41_52 H_53 =>
 bnd (aBin .or .no t36_51 t41_52) fun t42_54 =>
 bnd (aConvInt .u8 t42_54) fun t43_55 =>
 aBuildSlice 1 1 5 [(.int .u8 0)] [(0, 1, t43_55)] H_53 fun t44_56 H_57 =>
 aAppend 1 1 5 (nth vs_41 0) t44_56 H_57 fun t45_58 H_59 =>
 bnd (aBin .add .no (nth vs_41 1) (.int .i64 2)) fun t30_60 =>
 again_43 [t45_58, t30_60] H_59
def S26_62 (t10_2 : Value) (vs_41 : List Value) (H_42 : AHeap) (again_43 : List Value → AHeap → Prop) : Prop :=
 bnd (aIdxStr t10_2 (nth vs_41 1)) fun t34_46 =>
 bnd (aBin .add .no (nth vs_41 1) (.int .i64 1)) fun t39_47 =>
 bnd (aIdxStr t10_2 t39_47) fun t40_48 =>
 ACalls Tryd.prog 41 [(.string ⟨#[48, 49, 50, 51, 52, 53, 54, 55, 56, 57, 97, 98, 99, 100, 101, 102]⟩), t34_46] H_42 fun t35_49 H_50 =>
 (S26_61 vs_41 again_43 t40_48 t35_49 H_50)
def S26_63 (R : Value → AHeap → Prop) (t10_2 : Value) (vs_41 : List Value) (H_42 : AHeap) (again_43 : List Value → AHeap → Prop) : Prop :=
 bnd (aLenStr t10_2) fun t27_44 =>
 bnd (aBin .lss .no (nth vs_41 1) t27_44) fun t28_45 =>
 aCond t28_45 (
 (S26_62 t10_2 vs_41 H_42 again_43)) (
 R (.tuple #[(nth vs_41 0), (.bool true)]) H_42)
def S26_64 (R : Value → AHeap → Prop) (t9_0 : Value) (H_1 : AHeap) : Prop :=
 bnd (aExtract t9_0 0) fun t10_2 =>
 bnd (aExtract t9_0 1) fun t11_3 =>
 bnd (aUn .not t11_3) fun t13_4 =>
 aGuardK t13_4 false (fun K_5 H_6 =>
 K_5 t10_2 H_6) (fun t15_7 H_8 =>
 aGuardK t13_4 false (fun K_9 H_10 =>
 bnd (aLenStr t15_7) fun t16_11 =>
 K_9 t16_11 H_10) (fun t16_12 H_13 =>
 aGuardK t13_4 false (fun K_14 H_15 =>
 bnd (aBin .rem .no t16_12 (.int .i64 2)) fun t17_16 =>
 K_14 t17_16 H_15) (fun t17_17 H_18 =>
 aGuardK t13_4 false (fun K_19 H_20 =>
 bnd (aBin .gtr .no t17_17 (.int .i64 0)) fun t18_21 =>
 K_19 t18_21 H_20) (fun t18_22 H_23 =>
 bnd (aPick t13_4 (.bool true) t18_22) fun t19_24 =>
 aGuardK t19_24 false (fun K_25 H_26 =>
 K_25 t10_2 H_26) (fun t21_27 H_28 =>
 aGuardK t19_24 false (fun K_29 H_30 =>
 ACalls Tryd.prog 40 [t21_27, (.string ⟨#[48, 49, 50, 51, 52, 53, 54, 55, 56, 57, 97, 98, 99, 100, 101, 102]⟩)] H_30 fun t22_31 H_32 =>
 K_29 t22_31 H_32) (fun t22_33 H_34 =>
 aGuardK t19_24 false (fun K_35 H_36 =>
 bnd (aBin .neq .no t22_33 (.string ⟨#[]⟩)) fun t23_37 =>
 K_35 t23_37 H_36) (fun t23_38 H_39 =>
 bnd (aPick t19_24 (.bool true) t23_38) fun t24_40 =>
 aCond t24_40 (
 R (.tuple #[(.slice none 0 0), (.bool false)]) H_39) (
 aLoop [(.slice none 0 0), (.int .i64 0)] H_39 fun vs_41 H_42 again_43 =>
 (S26_63 R t10_2 vs_41 H_42 again_43))) H_34) H_28) H_23) H_18) H_13) H_8) H_1
def S26 (a0 : Value) (H : AHeap) (R : Value → AHeap → Prop) : Prop :=
 ACalls Tryd.prog 39 [a0, (.string ⟨#[120]⟩)] H fun t9_0 H_1 =>
 (S26_64 R t9_0 H_1)
theorem S26_calls {a0 : Value} {H : AHeap} {R : Value → AHeap → Prop} (h : S26 a0 H R) : ACalls Tryd.prog 26 [a0] H R :=
  have e : S26 a0 H R = awpFn Tryd.prog (Tryd.f26.body.getD .skip) Tryd.f26.results.toList ann26 [a0] H R := by kernel_rfl
  calls_of_awp (fn := Tryd.f26) (c := Tryd.f26.body.getD .skip) (an := ann26) (by kernel_rfl) Tryd.func26 (by kernel_rfl) (by kernel_rfl) (of_decide_eq_true (by kernel_rfl)) (e ▸ h)

/-- 39: strings.CutPrefix -/
def ann39 : Ann := (.two .leaf (.two .leaf .leaf))
def S39 (a0 : Value) (a1 : Value) (H : AHeap) (R : Value → AHeap → Prop) : Prop :=
 ACalls Tryd.prog 55 [a0, a1] H fun t8_0 H_1 =>
 bnd (aExtract t8_0 0) fun t9_2 =>
 bnd (aExtract t8_0 1) fun t10_3 =>
 R (.tuple #[t9_2, t10_3]) H_1
theorem S39_calls {a0 a1 : Value} {H : AHeap} {R : Value → AHeap → Prop} (h : S39 a0 a1 H R) : ACalls Tryd.prog 39 [a0, a1] H R :=
  have e : S39 a0 a1 H R = awpFn Tryd.prog (Tryd.f39.body.getD .skip) Tryd.f39.results.toList ann39 [a0, a1] H R := by kernel_rfl
  calls_of_awp (fn := Tryd.f39) (c := Tryd.f39.body.getD .skip) (an := ann39) (by kernel_rfl) Tryd.func39 (by kernel_rfl) (by kernel_rfl) (of_decide_eq_true (by kernel_rfl)) (e ▸ h)

/-- 40: strings.Trim -/
def ann40 : Ann := (.two .leaf (.two (.two .leaf (.two (.two .leaf .leaf) .leaf)) (.two (.two .leaf (.two (.two (.draw [(0, []), (1, []), (2, []), (4, []), (5, []), (3, []), (6, []), (7, [])]) .leaf) .leaf)) (.two (.two .leaf (.two .leaf (.two (.two .leaf .leaf) .leaf))) (.two .leaf .leaf)))))
def S40_49 (a0 : Value) (a1 : Value) (R : Value → AHeap → Prop) (t31_34 : Value) (H_35 : AHeap) : Prop :=
 bnd (aExtract t31_34 0) fun t32_36 =>
 bnd (aExtract t31_34 1) fun t33_37 =>
 aAlloc [(.bool false), (.bool false), (.bool false), (.bool false), (.bool false), (.bool false), (.bool false), (.bool false), (.bool false), (.bool false), (.bool false), (.bool false), (.bool false), (.bool false), (.bool false), (.bool false), (.bool false), (.bool false), (.bool false), (.bool false), (.bool false), (.bool false), (.bool false), (.bool false), (.bool false), (.bool false), (.bool false), (.bool false), (.bool false), (.bool false), (.bool false), (.bool false), (.bool false), (.bool false), (.bool false), (.bool false), (.bool false), (.bool false), (.bool false), (.bool false), (.bool false), (.bool false), (.bool false), (.bool false), (.bool false), (.bool false), (.bool false), (.bool false), (.bool false), (.bool false), (.bool false), (.bool false), (.bool false), (.bool false), (.bool false), (.bool false), (.bool false), (.bool false), (.bool false), (.bool false), (.bool false), (.bool false), (.bool false), (.bool false), (.bool false), (.bool false), (.bool false), (.bool false), (.bool false), (.bool false), (.bool false), (.bool false), (.bool false), (.bool false), (.bool false), (.bool false), (.bool false), (.bool false), (.bool false), (.bool false), (.bool false), (.bool false), (.bool false), (.bool false), (.bool false), (.bool false), (.bool false), (.bool false), (.bool false), (.bool false), (.bool false), (.bool false), (.bool false), (.bool false), (.bool false), (.bool false), (.bool false), (.bool false), (.bool false), (.bool false), (.bool false), (.bool false), (.bool false), (.bool false), (.bool false), (.bool false), (.bool false), (.bool false), (.bool false), (.bool false), (.bool false), (.bool false), (.bool false), (.bool false), (.bool false), (.bool false), (.bool false), (.bool false), (.bool false), (.bool false), (.bool false), (.bool false), (.bool false), (.bool false), (.bool false), (.bool false), (.bool false), (.bool false), (.bool false), (.bool false), (.bool false), (.bool false), (.bool false), (.bool false), (.bool false), (.bool false), (.bool false), (.bool false), (.bool false), (.bool false), (.bool false), (.bool false), (.bool false), (.bool false), (.bool false), (.bool false), (.bool false), (.bool false), (.bool false), (.bool false), (.bool false), (.bool false), (.bool false), (.bool false), (.bool false), (.bool false), (.bool false), (.bool false), (.bool false), (.bool false), (.bool false), (.bool false), (.bool false), (.bool false), (.bool false), (.bool false), (.bool false), (.bool false), (.bool false), (.bool false), (.bool false), (.bool false), (.bool false), (.bool false), (.bool false), (.bool false), (.bool false), (.bool false), (.bool false), (.bool false), (.bool false), (.bool false), (.bool false), (.bool false), (.bool false), (.bool false), (.bool false), (.bool false), (.bool false), (.bool false), (.bool false), (.bool false), (.bool false), (.bool false), (.bool false), (.bool false), (.bool false), (.bool false), (.bool false), (.bool false), (.bool false), (.bool false), (.bool false), (.bool false), (.bool false), (.bool false), (.bool false), (.bool false), (.bool false), (.bool false), (.bool false), (.bool false), (.bool false), (.bool false), (.bool false), (.bool false), (.bool false), (.bool false), (.bool false), (.bool false), (.bool false), (.bool false), (.bool false), (.bool false), (.bool false), (.bool false), (.bool false), (.bool false), (.bool false), (.bool false), (.bool false), (.bool false), (.bool false), (.bool false), (.bool false), (.bool false), (.bool false), (.bool false), (.bool false), (.bool false), (.bool false), (.bool false), (.bool false), (.bool false), (.bool false), (.bool false), (.bool false), (.bool false), (.bool false), (.bool false), (.bool false), (.bool false), (.bool false), (.bool false), (.bool false), (.bool false)] 98 H_35 fun t5_38 H_39 =>
 bnd (aSt 256 t5_38 t32_36 H_39) fun H_40 =>
 aCond t33_37 (
 ACalls Tryd.prog 60 [a0, t5_38] H_40 fun t36_41 H_42 =>
 ACalls Tryd.prog 59 [t36_41, t5_38] H_42 fun t37_43 H_44 =>
 R t37_43 H_44) (
 ACalls Tryd.prog 62 [a0, a1] H_40 fun t40_45 H_46 =>
 ACalls Tryd.prog 61 [t40_45, a1] H_46 fun t42_47 H_48 =>
 R t42_47 H_48)
def S40_50 (a0 : Value) (a1 : Value) (R : Value → AHeap → Prop) (H_9 : AHeap) : Prop :=
 bnd (aLenStr a1) fun t15_11 =>
 bnd (aBin .eql .no t15_11 (.int .i64 1)) fun t16_12 =>
 aGuardK t16_12 true (fun K_13 H_14 =>
 K_13 a1 H_14) (fun t18_15 H_16 =>
 aGuardK t16_12 true (fun K_17 H_18 =>
 bnd (aIdxStr t18_15 (.int .i64 0)) fun t19_19 =>
 K_17 t19_19 H_18) (fun t19_20 H_21 =>
 aGuardK t16_12 true (fun K_22 H_23 =>
 bnd (aBin .lss .no t19_20 (.int .u8 128)) fun t20_24 =>
 K_22 t20_24 H_23) (fun t20_25 H_26 =>
 bnd (aPick t16_12 t20_25 (.bool false)) fun t21_27 =>
 aCond t21_27 (
 bnd (aIdxStr a1 (.int .i64 0)) fun t24_28 =>
 bnd (aIdxStr a1 (.int .i64 0)) fun t27_29 =>
 ACalls Tryd.prog 57 [a0, t24_28] H_26 fun t25_30 H_31 =>
 ACalls Tryd.prog 56 [t25_30, t27_29] H_31 fun t28_32 H_33 =>
 R t28_32 H_33) (
 ACalls Tryd.prog 58 [a1] H_26 fun t31_34 H_35 =>
 (S40_49 a0 a1 R t31_34 H_35))) H_21) H_16) H_9
def S40 (a0 : Value) (a1 : Value) (H : AHeap) (R : Value → AHeap → Prop) : Prop :=
 bnd (aBin .eql .no a0 (.string ⟨#[]⟩)) fun t8_0 =>
 aGuardK t8_0 false (fun K_1 H_2 =>
 K_1 a1 H_2) (fun t10_3 H_4 =>
 aGuardK t8_0 false (fun K_5 H_6 =>
 bnd (aBin .eql .no t10_3 (.string ⟨#[]⟩)) fun t11_7 =>
 K_5 t11_7 H_6) (fun t11_8 H_9 =>
 bnd (aPick t8_0 (.bool true) t11_8) fun t12_10 =>
 aCond t12_10 (
 R a0 H_9) (
 (S40_50 a0 a1 R H_9))) H_4) H
theorem S40_calls {a0 a1 : Value} {H : AHeap} {R : Value → AHeap → Prop} (h : S40 a0 a1 H R) : ACalls Tryd.prog 40 [a0, a1] H R :=
  have e : S40 a0 a1 H R = awpFn Tryd.prog (Tryd.f40.body.getD .skip) Tryd.f40.results.toList ann40 [a0, a1] H R := by kernel_rfl
  calls_of_awp (fn := Tryd.f40) (c := Tryd.f40.body.getD .skip) (an := ann40) (by kernel_rfl) Tryd.func40 (by kernel_rfl) (by kernel_rfl) (of_decide_eq_true (by kernel_rfl)) (e ▸ h)

/-- 55: internal/stringslite.CutPrefix -/
def ann55 : Ann := (.two .leaf (.two (.two .leaf (.two (.two .leaf .leaf) .leaf)) (.two .leaf .leaf)))
def S55 (a0 : Value) (a1 : Value) (H : AHeap) (R : Value → AHeap → Prop) : Prop :=
 ACalls Tryd.prog 82 [a0, a1] H fun t8_0 H_1 =>
 bnd (aUn .not t8_0) fun t9_2 =>
 aCond t9_2 (
 R (.tuple #[a0, (.bool false)]) H_1) (
 bnd (aLenStr a1) fun t13_3 =>
 bnd (aSliceStr a0 (some t13_3) none) fun t14_4 =>
 R (.tuple #[t14_4, (.bool true)]) H_1)
theorem S55_calls {a0 a1 : Value} {H : AHeap} {R : Value → AHeap → Prop} (h : S55 a0 a1 H R) : ACalls Tryd.prog 55 [a0, a1] H R :=
  have e : S55 a0 a1 H R = awpFn Tryd.prog (Tryd.f55.body.getD .skip) Tryd.f55.results.toList ann55 [a0, a1] H R := by kernel_rfl
  calls_of_awp (fn := Tryd.f55) (c := Tryd.f55.body.getD .skip) (an := ann55) (by kernel_rfl) Tryd.func55 (by kernel_rfl) (by kernel_rfl) (of_decide_eq_true (by kernel_rfl)) (e ▸ h)

/-- 58: strings.makeASCIISet -/
def ann58 : Ann := (.two .leaf (.two (.two .leaf (.one (.loop [4] [3, 4, 5, 6, 7, 8, 9, 10, 11, 12, 13, 14, 15, 16, 17, 18, 19] (.two (.two .leaf (.two .leaf .leaf)) (.two (.one (.two .leaf (.two (.two .leaf (.two (.two .leaf .leaf) .leaf)) .leaf))) .leaf))))) (.two .leaf .leaf)))
def S58_15 (a0 : Value) (R : Value → AHeap → Prop) (t2_0 : Value) (vs_2 : List Value) (H_3 : AHeap) (again_4 : List Value → AHeap → Prop) : Prop :=
 bnd (aIdxStr a0 (nth vs_2 0)) fun t14_7 =>
 bnd (aBin .geq .no t14_7 (.int .u8 128)) fun t16_8 =>
 aCond t16_8 (
 bnd (aLdAgg 256 t2_0 H_3) fun t17_9 =>
 bnd (aSt 256 t2_0 t17_9 H_3) fun H_10 =>
 bnd (aLdAgg 256 t2_0 H_10) fun r_11 =>
 R (.tuple #[r_11, (.bool false)]) H_10) (
 bnd (aIdxAddrArr 256 1 t2_0 t14_7) fun t19_12 =>
 bnd (aSt 1 t19_12 (.bool true) H_3) fun H_13 =>
 bnd (aBin .add .no (nth vs_2 0) (.int .i64 1)) fun t11_14 =>
 again_4 [t11_14] H_13)
def S58_19 (a0 : Value) (R : Value → AHeap → Prop) (t2_0 : Value) (vs_2 : List Value) (H_3 : AHeap) (again_4 : List Value → AHeap → Prop) : Prop :=
 bnd (aLenStr a0) fun t8_5 =>
 bnd (aBin .lss .no (nth vs_2 0) t8_5) fun t9_6 =>
 aCond t9_6 (
 (S58_15 a0 R t2_0 vs_2 H_3 again_4)) (
 bnd (aLdAgg 256 t2_0 H_3) fun t20_16 =>
 bnd (aSt 256 t2_0 t20_16 H_3) fun H_17 =>
 bnd (aLdAgg 256 t2_0 H_17) fun r_18 =>
 R (.tuple #[r_18, (.bool true)]) H_17)
def S58 (a0 : Value) (H : AHeap) (R : Value → AHeap → Prop) : Prop :=
 aAlloc [(.bool false), (.bool false), (.bool false), (.bool false), (.bool false), (.bool false), (.bool false), (.bool false), (.bool false), (.bool false), (.bool false), (.bool false), (.bool false), (.bool false), (.bool false), (.bool false), (.bool false), (.bool false), (.bool false), (.bool false), (.bool false), (.bool false), (.bool false), (.bool false), (.bool false), (.bool false), (.bool false), (.bool false), (.bool false), (.bool false), (.bool false), (.bool false), (.bool false), (.bool false), (.bool false), (.bool false), (.bool false), (.bool false), (.bool false), (.bool false), (.bool false), (.bool false), (.bool false), (.bool false), (.bool false), (.bool false), (.bool false), (.bool false), (.bool false), (.bool false), (.bool false), (.bool false), (.bool false), (.bool false), (.bool false), (.bool false), (.bool false), (.bool false), (.bool false), (.bool false), (.bool false), (.bool false), (.bool false), (.bool false), (.bool false), (.bool false), (.bool false), (.bool false), (.bool false), (.bool false), (.bool false), (.bool false), (.bool false), (.bool false), (.bool false), (.bool false), (.bool false), (.bool false), (.bool false), (.bool false), (.bool false), (.bool false), (.bool false), (.bool false), (.bool false), (.bool false), (.bool false), (.bool false), (.bool false), (.bool false), (.bool false), (.bool false), (.bool false), (.bool false), (.bool false), (.bool false), (.bool false), (.bool false), (.bool false), (.bool false), (.bool false), (.bool false), (.bool false), (.bool false), (.bool false), (.bool false), (.bool false), (.bool false), (.bool false), (.bool false), (.bool false), (.bool false), (.bool false), (.bool false), (.bool false), (.bool false), (.bool false), (.bool false), (.bool false), (.bool false), (.bool false), (.bool false), (.bool false), (.bool false), (.bool false), (.bool false), (.bool false), (.bool false), (.bool false), (.bool false), (.bool false), (.bool false), (.bool false), (.bool false), (.bool false), (.bool false), (.bool false), (.bool false), (.bool false), (.bool false), (.bool false), (.bool false), (.bool false), (.bool false), (.bool false), (.bool false), (.bool false), (.bool false), (.bool false), (.bool false), (.bool false), (.bool false), (.bool false), (.bool false), (.bool false), (.bool false), (.bool false), (.bool false), (.bool false), (.bool false), (.bool false), (.bool false), (.bool false), (.bool false), (.bool false), (.bool false), (.bool false), (.bool false), (.bool false), (.bool false), (.bool false), (.bool false), (.bool false), (.bool false), (.bool false), (.bool false), (.bool false), (.bool false), (.bool false), (.bool false), (.bool false), (.bool false), (.bool false), (.bool false), (.bool false), (.bool false), (.bool false), (.bool false), (.bool false), (.bool false), (.bool false), (.bool false), (.bool false), (.bool false), (.bool false), (.bool false), (.bool false), (.bool false), (.bool false), (.bool false), (.bool false), (.bool false), (.bool false), (.bool false), (.bool false), (.bool false), (.bool false), (.bool false), (.bool false), (.bool false), (.bool false), (.bool false), (.bool false), (.bool false), (.bool false), (.bool false), (.bool false), (.bool false), (.bool false), (.bool false), (.bool false), (.bool false), (.bool false), (.bool false), (.bool false), (.bool false), (.bool false), (.bool false), (.bool false), (.bool false), (.bool false), (.bool false), (.bool false), (.bool false), (.bool false), (.bool false), (.bool false), (.bool false), (.bool false), (.bool false), (.bool false), (.bool false), (.bool false), (.bool false), (.bool false), (.bool false), (.bool false), (.bool false), (.bool false), (.bool false), (.bool false), (.bool false), (.bool false), (.bool false), (.bool false), (.bool false)] 98 H fun t2_0 H_1 =>
 aLoop [(.int .i64 0)] H_1 fun vs_2 H_3 again_4 =>
 (S58_19 a0 R t2_0 vs_2 H_3 again_4)
theorem S58_calls {a0 : Value} {H : AHeap} {R : Value → AHeap → Prop} (h : S58 a0 H R) : ACalls Tryd.prog 58 [a0] H R :=
  have e : S58 a0 H R = awpFn Tryd.prog (Tryd.f58.body.getD .skip) Tryd.f58.results.toList ann58 [a0] H R := by kernel_rfl
  calls_of_awp (fn := Tryd.f58) (c := Tryd.f58.body.getD .skip) (an := ann58) (by kernel_rfl) Tryd.func58 (by kernel_rfl) (by kernel_rfl) (of_decide_eq_true (by kernel_rfl)) (e ▸ h)

/-- 59: strings.trimLeftASCII -/
def ann59 : Ann := (.two .leaf (.join [0] [0, 5, 6, 7, 8, 9, 10, 11, 12, 13, 14] (.one (.loop [0] [0, 5, 6, 7, 8, 9, 10, 11, 12, 13, 14] (.two (.two .leaf (.two .leaf .leaf)) (.one (.two (.two .leaf (.two .leaf .leaf)) .leaf))))) (.two .leaf .leaf)))
def S59_13 (a1 : Value) (J_2 : List Value → AHeap → Prop) (vs_3 : List Value) (H_4 : AHeap) (again_5 : List Value → AHeap → Prop) : Prop :=
 bnd (aIdxStr (nth vs_3 0) (.int .i64 0)) fun t10_8 =>
 ACalls Tryd.prog 83 [a1, t10_8] H_4 fun t11_9 H_10 =>
 bnd (aUn .not t11_9) fun t12_11 =>
 aCond t12_11 (
 J_2 [(nth vs_3 0)] H_10) (
 bnd (aSliceStr (nth vs_3 0) (some (.int .i64 1)) none) fun t14_12 =>
 again_5 [t14_12] H_10)
def S59_14 (a1 : Value) (J_2 : List Value → AHeap → Prop) (vs_3 : List Value) (H_4 : AHeap) (again_5 : List Value → AHeap → Prop) : Prop :=
 bnd (aLenStr (nth vs_3 0)) fun t6_6 =>
 bnd (aBin .gtr .no t6_6 (.int .i64 0)) fun t7_7 =>
 aCond t7_7 (
 (S59_13 a1 J_2 vs_3 H_4 again_5)) (
 J_2 [(nth vs_3 0)] H_4)
def S59 (a0 : Value) (a1 : Value) (H : AHeap) (R : Value → AHeap → Prop) : Prop :=
 aJoin (fun vs_0 H_1 =>
 R (nth vs_0 0) H_1) fun J_2 =>
 aLoop [a0] H fun vs_3 H_4 again_5 =>
 (S59_14 a1 J_2 vs_3 H_4 again_5)
theorem S59_calls {a0 a1 : Value} {H : AHeap} {R : Value → AHeap → Prop} (h : S59 a0 a1 H R) : ACalls Tryd.prog 59 [a0, a1] H R :=
  have e : S59 a0 a1 H R = awpFn Tryd.prog (Tryd.f59.body.getD .skip) Tryd.f59.results.toList ann59 [a0, a1] H R := by kernel_rfl
  calls_of_awp (fn := Tryd.f59) (c := Tryd.f59.body.getD .skip) (an := ann59) (by kernel_rfl) Tryd.func59 (by kernel_rfl) (by kernel_rfl) (of_decide_eq_true (by kernel_rfl)) (e ▸ h)

/-- 60: strings.trimRightASCII -/
def ann60 : Ann := (.two .leaf (.join [0] [0, 5, 6, 7, 8, 9, 10, 11, 12, 13, 14, 15, 16, 17, 18, 19, 20] (.one (.loop [0] [0, 5, 6, 7, 8, 9, 10, 11, 12, 13, 14, 15, 16, 17, 18, 19, 20] (.two (.two .leaf (.two .leaf .leaf)) (.one (.two (.two .leaf (.two .leaf .leaf)) .leaf))))) (.two .leaf .leaf)))
def S60_17 (a1 : Value) (J_2 : List Value → AHeap → Prop) (vs_3 : List Value) (H_4 : AHeap) (again_5 : List Value → AHeap → Prop) : Prop :=
 bnd (aLenStr (nth vs_3 0)) fun t11_8 =>
 bnd (aBin .sub .no t11_8 (.int .i64 1)) fun t12_9 =>
 bnd (aIdxStr (nth vs_3 0) t12_9) fun t13_10 =>
 ACalls Tryd.prog 83 [a1, t13_10] H_4 fun t14_11 H_12 =>
 bnd (aUn .not t14_11) fun t15_13 =>
 aCond t15_13 (
 J_2 [(nth vs_3 0)] H_12) (
 bnd (aLenStr (nth vs_3 0)) fun t18_14 =>
 bnd (aBin .sub .no t18_14 (.int .i64 1)) fun t19_15 =>
 bnd (aSliceStr (nth vs_3 0) none (some t19_15)) fun t20_16 =>
 again_5 [t20_16] H_12)
def S60_18 (a1 : Value) (J_2 : List Value → AHeap → Prop) (vs_3 : List Value) (H_4 : AHeap) (again_5 : List Value → AHeap → Prop) : Prop :=
 bnd (aLenStr (nth vs_3 0)) fun t6_6 =>
 bnd (aBin .gtr .no t6_6 (.int .i64 0)) fun t7_7 =>
 aCond t7_7 (
 (S60_17 a1 J_2 vs_3 H_4 again_5)) (
 J_2 [(nth vs_3 0)] H_4)
def S60 (a0 : Value) (a1 : Value) (H : AHeap) (R : Value → AHeap → Prop) : Prop :=
 aJoin (fun vs_0 H_1 =>
 R (nth vs_0 0) H_1) fun J_2 =>
 aLoop [a0] H fun vs_3 H_4 again_5 =>
 (S60_18 a1 J_2 vs_3 H_4 again_5)
theorem S60_calls {a0 a1 : Value} {H : AHeap} {R : Value → AHeap → Prop} (h : S60 a0 a1 H R) : ACalls Tryd.prog 60 [a0, a1] H R :=
  have e : S60 a0 a1 H R = awpFn Tryd.prog (Tryd.f60.body.getD .skip) Tryd.f60.results.toList ann60 [a0, a1] H R := by kernel_rfl
  calls_of_awp (fn := Tryd.f60) (c := Tryd.f60.body.getD .skip) (an := ann60) (by kernel_rfl) Tryd.func60 (by kernel_rfl) (by kernel_rfl) (of_decide_eq_true (by kernel_rfl)) (e ▸ h)

/-- 82: internal/stringslite.HasPrefix -/
def ann82 : Ann := (.two .leaf (.two .leaf .leaf))
def S82 (a0 : Value) (a1 : Value) (H : AHeap) (R : Value → AHeap → Prop) : Prop :=
 bnd (aLenStr a0) fun t6_0 =>
 bnd (aLenStr a1) fun t8_1 =>
 bnd (aBin .geq .no t6_0 t8_1) fun t9_2 =>
 aGuardK t9_2 true (fun K_3 H_4 =>
 K_3 a0 H_4) (fun t11_5 H_6 =>
 aGuardK t9_2 true (fun K_7 H_8 =>
 K_7 a1 H_8) (fun t12_9 H_10 =>
 aGuardK t9_2 true (fun K_11 H_12 =>
 bnd (aLenStr t12_9) fun t13_13 =>
 K_11 t13_13 H_12) (fun t13_14 H_15 =>
 aGuardK t9_2 true (fun K_16 H_17 =>
 bnd (aSliceStr t11_5 none (some t13_14)) fun t14_18 =>
 K_16 t14_18 H_17) (fun t14_19 H_20 =>
 aGuardK t9_2 true (fun K_21 H_22 =>
 K_21 a1 H_22) (fun t15_23 H_24 =>
 aGuardK t9_2 true (fun K_25 H_26 =>
 bnd (aBin .eql .no t14_19 t15_23) fun t16_27 =>
 K_25 t16_27 H_26) (fun t16_28 H_29 =>
 bnd (aPick t9_2 t16_28 (.bool false)) fun t17_30 =>
 R t17_30 H_29) H_24) H_20) H_15) H_10) H_6) H
theorem S82_calls {a0 a1 : Value} {H : AHeap} {R : Value → AHeap → Prop} (h : S82 a0 a1 H R) : ACalls Tryd.prog 82 [a0, a1] H R :=
  have e : S82 a0 a1 H R = awpFn Tryd.prog (Tryd.f82.body.getD .skip) Tryd.f82.results.toList ann82 [a0, a1] H R := by kernel_rfl
  calls_of_awp (fn := Tryd.f82) (c := Tryd.f82.body.getD .skip) (an := ann82) (by kernel_rfl) Tryd.func82 (by kernel_rfl) (by kernel_rfl) (of_decide_eq_true (by kernel_rfl)) (e ▸ h)

/-- 83: (*strings.asciiSet).contains -/
def ann83 : Ann := (.two .leaf (.two .leaf .leaf))
def S83 (a0 : Value) (a1 : Value) (H : AHeap) (R : Value → AHeap → Prop) : Prop :=
 bnd (aNilCheck a0) fun t7_0 =>
 bnd (aIdxAddrArr 256 1 t7_0 a1) fun t8_1 =>
 bnd (aLdCell t8_1 H) fun t9_2 =>
 R t9_2 H
theorem S83_calls {a0 a1 : Value} {H : AHeap} {R : Value → AHeap → Prop} (h : S83 a0 a1 H R) : ACalls Tryd.prog 83 [a0, a1] H R :=
  have e : S83 a0 a1 H R = awpFn Tryd.prog (Tryd.f83.body.getD .skip) Tryd.f83.results.toList ann83 [a0, a1] H R := by kernel_rfl
  calls_of_awp (fn := Tryd.f83) (c := Tryd.f83.body.getD .skip) (an := ann83) (by kernel_rfl) Tryd.func83 (by kernel_rfl) (by kernel_rfl) (of_decide_eq_true (by kernel_rfl)) (e ▸ h)

end Go.Proofs.YtnbnojkfhfkecaaDoor.A
