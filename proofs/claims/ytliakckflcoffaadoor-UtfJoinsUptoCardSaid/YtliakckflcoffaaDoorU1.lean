/- The texts that functions' bodies come to (printed by gen.lean, a tool of our own). -/
import Derived.Test.YtliakckflcoffaaDoorAbsY
import Derived.Test.YtliakckflcoffaaDoorProg
import Derived.KernelRfl
set_option linter.unusedVariables false
set_option maxRecDepth 100000
namespace Go.Proofs.YtliakckflcoffaaDoor.A
open Go Go.Abs

/-- 3: marginalia/marginalialaw02.UtfDecodes -/
def ann3 : Ann := (.two .leaf (.two .leaf (.two .leaf (.two (.two .leaf (.two (.two .leaf .leaf) .leaf)) (.two (.two .leaf (.two (.two .leaf .leaf) .leaf)) (.two .leaf (.two .leaf (.two .leaf .leaf))))))))
def S3_108 (R : Value → AHeap → Prop) (t57_74 : Value) (t59_76 : Value) (t64_78 : Value) (H_79 : AHeap) : Prop :=
 bnd (aExtract t64_78 0) fun t65_80 =>
 bnd (aExtract t64_78 1) fun t66_81 =>
 bnd (aBin .eql .no t59_76 (.int .i64 0)) fun t68_82 =>
 aGuardK t68_82 true (fun K_83 H_84 =>
 K_83 t66_81 H_84) (fun t70_85 H_86 =>
 aGuardK t68_82 true (fun K_87 H_88 =>
 bnd (aBin .lss .no t70_85 (.int .i64 0)) fun t71_89 =>
 K_87 t71_89 H_88) (fun t71_90 H_91 =>
 bnd (aPick t68_82 t71_90 (.bool false)) fun t72_92 =>
 aGuardK t72_92 true (fun K_93 H_94 =>
 K_93 t57_74 H_94) (fun t74_95 H_96 =>
 aGuardK t72_92 true (fun K_97 H_98 =>
 K_97 t65_80 H_98) (fun t75_99 H_100 =>
 aGuardK t72_92 true (fun K_101 H_102 =>
 ACalls Tryd.prog 12 [t74_95, t75_99] H_102 fun t76_103 H_104 =>
 K_101 t76_103 H_104) (fun t76_105 H_106 =>
 bnd (aPick t72_92 t76_105 (.bool false)) fun t77_107 =>
 R t77_107 H_106) H_100) H_96) H_91) H_86) H_79
def S3_109 (a0 : Value) (R : Value → AHeap → Prop) (t20_7 : Value) (H_63 : AHeap) : Prop :=
 aBuildSlice 1 0 5 [(.int .u8 0)] [] H_63 fun t51_67 H_68 =>
 bnd (aSliceSl 1 a0 none (some t20_7)) fun t54_69 =>
 aAppend 1 1 5 t51_67 t54_69 H_68 fun t55_70 H_71 =>
 ACalls Tryd.prog 9 [t55_70] H_71 fun t56_72 H_73 =>
 bnd (aExtract t56_72 0) fun t57_74 =>
 bnd (aExtract t56_72 1) fun t58_75 =>
 bnd (aExtract t56_72 2) fun t59_76 =>
 bnd (aSliceSl 1 a0 none (some t20_7)) fun t63_77 =>
 ACalls Tryd.prog 13 [t63_77] H_73 fun t64_78 H_79 =>
 (S3_108 R t57_74 t59_76 t64_78 H_79)
def S3_110 (a0 : Value) (R : Value → AHeap → Prop) (t19_6 : Value) (t20_7 : Value) (t21_8 : Value) (t25_11 : Value) (t26_12 : Value) (t27_13 : Value) (t28_14 : Value) (H_15 : AHeap) : Prop :=
 bnd (aUn .not t28_14) fun t29_16 =>
 aGuardK t29_16 false (fun K_17 H_18 =>
 K_17 t19_6 H_18) (fun t31_19 H_20 =>
 aGuardK t29_16 false (fun K_21 H_22 =>
 K_21 t25_11 H_22) (fun t32_23 H_24 =>
 aGuardK t29_16 false (fun K_25 H_26 =>
 ACalls Tryd.prog 12 [t31_19, t32_23] H_26 fun t33_27 H_28 =>
 K_25 t33_27 H_28) (fun t33_29 H_30 =>
 aGuardK t29_16 false (fun K_31 H_32 =>
 bnd (aUn .not t33_29) fun t34_33 =>
 K_31 t34_33 H_32) (fun t34_34 H_35 =>
 bnd (aPick t29_16 (.bool true) t34_34) fun t35_36 =>
 aGuardK t35_36 false (fun K_37 H_38 =>
 K_37 t20_7 H_38) (fun t37_39 H_40 =>
 aGuardK t35_36 false (fun K_41 H_42 =>
 K_41 t26_12 H_42) (fun t38_43 H_44 =>
 aGuardK t35_36 false (fun K_45 H_46 =>
 bnd (aBin .neq .no t37_39 t38_43) fun t39_47 =>
 K_45 t39_47 H_46) (fun t39_48 H_49 =>
 bnd (aPick t35_36 (.bool true) t39_48) fun t40_50 =>
 aGuardK t40_50 false (fun K_51 H_52 =>
 K_51 t21_8 H_52) (fun t42_53 H_54 =>
 aGuardK t40_50 false (fun K_55 H_56 =>
 K_55 t27_13 H_56) (fun t43_57 H_58 =>
 aGuardK t40_50 false (fun K_59 H_60 =>
 bnd (aBin .neq .no t42_53 t43_57) fun t44_61 =>
 K_59 t44_61 H_60) (fun t44_62 H_63 =>
 bnd (aPick t40_50 (.bool true) t44_62) fun t45_64 =>
 aCond t45_64 (
 R (.bool false) H_63) (
 bnd (aBin .neq .no t21_8 (.int .i64 4)) fun t47_65 =>
 aCond t47_65 (
 bnd (aBin .eql .no t20_7 (.int .i64 0)) fun t49_66 =>
 R t49_66 H_63) (
 (S3_109 a0 R t20_7 H_63)))) H_58) H_54) H_49) H_44) H_40) H_35) H_30) H_24) H_20) H_15
def S3 (a0 : Value) (H : AHeap) (R : Value → AHeap → Prop) : Prop :=
 aBuildSlice 1 0 5 [(.int .u8 0)] [] H fun t15_0 H_1 =>
 aAppend 1 1 5 t15_0 a0 H_1 fun t17_2 H_3 =>
 ACalls Tryd.prog 9 [t17_2] H_3 fun t18_4 H_5 =>
 bnd (aExtract t18_4 0) fun t19_6 =>
 bnd (aExtract t18_4 1) fun t20_7 =>
 bnd (aExtract t18_4 2) fun t21_8 =>
 ACalls Tryd.prog 10 [a0] H_5 fun t24_9 H_10 =>
 bnd (aExtract t24_9 0) fun t25_11 =>
 bnd (aExtract t24_9 1) fun t26_12 =>
 bnd (aExtract t24_9 2) fun t27_13 =>
 ACalls Tryd.prog 11 [] H_10 fun t28_14 H_15 =>
 (S3_110 a0 R t19_6 t20_7 t21_8 t25_11 t26_12 t27_13 t28_14 H_15)
theorem S3_calls {a0 : Value} {H : AHeap} {R : Value → AHeap → Prop} (h : S3 a0 H R) : ACalls Tryd.prog 3 [a0] H R :=
  have e : S3 a0 H R = awpFn Tryd.prog (Tryd.f3.body.getD .skip) Tryd.f3.results.toList ann3 [a0] H R := by kernel_rfl
  calls_of_awp (fn := Tryd.f3) (c := Tryd.f3.body.getD .skip) (an := ann3) (by kernel_rfl) Tryd.func3 (by kernel_rfl) (by kernel_rfl) (of_decide_eq_true (by kernel_rfl)) (e ▸ h)

/-- 4: marginalia/marginalialaw02.UtfJoins -/
def ann4 : Ann := (.two .leaf (.two .leaf (.two .leaf (.two .leaf (.two (.two .leaf (.two (.two .leaf .leaf) .leaf)) (.two (.two .leaf (.two (.two .leaf .leaf) .leaf)) (.two .leaf .leaf)))))))
def S4_118 (a0 : Value) (R : Value → AHeap → Prop) (t28_16 : Value) (t29_17 : Value) (t37_26 : Value) (t38_27 : Value) (t39_28 : Value) (H_69 : AHeap) : Prop :=
 bnd (aBin .eql .no t39_28 t29_17) fun t59_74 =>
 aGuardK t59_74 true (fun K_75 H_76 =>
 K_75 t38_27 H_76) (fun t61_77 H_78 =>
 aGuardK t59_74 true (fun K_79 H_80 =>
 K_79 a0 H_80) (fun t62_81 H_82 =>
 aGuardK t59_74 true (fun K_83 H_84 =>
 bnd (aLenSl t62_81) fun t63_85 =>
 K_83 t63_85 H_84) (fun t63_86 H_87 =>
 aGuardK t59_74 true (fun K_88 H_89 =>
 K_88 t28_16 H_89) (fun t64_90 H_91 =>
 aGuardK t59_74 true (fun K_92 H_93 =>
 bnd (aBin .add .no t63_86 t64_90) fun t65_94 =>
 K_92 t65_94 H_93) (fun t65_95 H_96 =>
 aGuardK t59_74 true (fun K_97 H_98 =>
 bnd (aBin .eql .no t61_77 t65_95) fun t66_99 =>
 K_97 t66_99 H_98) (fun t66_100 H_101 =>
 bnd (aPick t59_74 t66_100 (.bool false)) fun t67_102 =>
 aGuardK t67_102 true (fun K_103 H_104 =>
 K_103 t37_26 H_104) (fun t69_105 H_106 =>
 aGuardK t67_102 true (fun K_107 H_108 =>
 bnd (aLenSl t69_105) fun t70_109 =>
 K_107 t70_109 H_108) (fun t70_110 H_111 =>
 aGuardK t67_102 true (fun K_112 H_113 =>
 bnd (aBin .eql .no t70_110 (.int .i64 0)) fun t71_114 =>
 K_112 t71_114 H_113) (fun t71_115 H_116 =>
 bnd (aPick t67_102 t71_115 (.bool false)) fun t72_117 =>
 R t72_117 H_116) H_111) H_106) H_101) H_96) H_91) H_87) H_82) H_78) H_69
def S4_157 (R : Value → AHeap → Prop) (t19_6 : Value) (t27_15 : Value) (t37_26 : Value) (t39_28 : Value) (H_69 : AHeap) : Prop :=
 bnd (aBin .eql .no t39_28 (.int .i64 0)) fun t74_119 =>
 aGuardK t74_119 true (fun K_120 H_121 =>
 K_120 t37_26 H_121) (fun t76_122 H_123 =>
 aGuardK t74_119 true (fun K_124 H_125 =>
 aBuildSlice 1 0 3 [(.int .i64 0)] [] H_125 fun t77_126 H_127 =>
 K_124 t77_126 H_127) (fun t77_128 H_129 =>
 aGuardK t74_119 true (fun K_130 H_131 =>
 K_130 t19_6 H_131) (fun t78_132 H_133 =>
 aGuardK t74_119 true (fun K_134 H_135 =>
 aAppend 1 8 3 t77_128 t78_132 H_135 fun t79_136 H_137 =>
 K_134 t79_136 H_137) (fun t79_138 H_139 =>
 aGuardK t74_119 true (fun K_140 H_141 =>
 K_140 t27_15 H_141) (fun t80_142 H_143 =>
 aGuardK t74_119 true (fun K_144 H_145 =>
 aAppend 1 8 3 t79_138 t80_142 H_145 fun t81_146 H_147 =>
 K_144 t81_146 H_147) (fun t81_148 H_149 =>
 aGuardK t74_119 true (fun K_150 H_151 =>
 ACalls Tryd.prog 12 [t76_122, t81_148] H_151 fun t82_152 H_153 =>
 K_150 t82_152 H_153) (fun t82_154 H_155 =>
 bnd (aPick t74_119 t82_154 (.bool false)) fun t83_156 =>
 R t83_156 H_155) H_149) H_143) H_139) H_133) H_129) H_123) H_69
def S4_158 (a0 : Value) (a1 : Value) (R : Value → AHeap → Prop) (t19_6 : Value) (t21_8 : Value) (t27_15 : Value) (t28_16 : Value) (t29_17 : Value) (t37_26 : Value) (t38_27 : Value) (t39_28 : Value) (t40_29 : Value) (H_30 : AHeap) : Prop :=
 bnd (aUn .not t40_29) fun t41_31 =>
 aGuardK t41_31 false (fun K_32 H_33 =>
 K_32 t21_8 H_33) (fun t43_34 H_35 =>
 aGuardK t41_31 false (fun K_36 H_37 =>
 bnd (aBin .neq .no t43_34 (.int .i64 0)) fun t44_38 =>
 K_36 t44_38 H_37) (fun t44_39 H_40 =>
 bnd (aPick t41_31 (.bool true) t44_39) fun t45_41 =>
 aGuardK t45_41 false (fun K_42 H_43 =>
 K_42 a0 H_43) (fun t47_44 H_45 =>
 aGuardK t45_41 false (fun K_46 H_47 =>
 bnd (aLenSl t47_44) fun t48_48 =>
 K_46 t48_48 H_47) (fun t48_49 H_50 =>
 aGuardK t45_41 false (fun K_51 H_52 =>
 K_51 a1 H_52) (fun t49_53 H_54 =>
 aGuardK t45_41 false (fun K_55 H_56 =>
 bnd (aLenSl t49_53) fun t50_57 =>
 K_55 t50_57 H_56) (fun t50_58 H_59 =>
 aGuardK t45_41 false (fun K_60 H_61 =>
 bnd (aBin .add .no t48_49 t50_58) fun t51_62 =>
 K_60 t51_62 H_61) (fun t51_63 H_64 =>
 aGuardK t45_41 false (fun K_65 H_66 =>
 bnd (aBin .gtr .no t51_63 (.int .i64 65536)) fun t52_67 =>
 K_65 t52_67 H_66) (fun t52_68 H_69 =>
 bnd (aPick t45_41 (.bool true) t52_68) fun t53_70 =>
 aCond t53_70 (
 ACalls Tryd.prog 11 [] H_69 fun t54_71 H_72 =>
 R t54_71 H_72) (
 bnd (aBin .neq .no t29_17 (.int .i64 0)) fun t56_73 =>
 aCond t56_73 (
 (S4_118 a0 R t28_16 t29_17 t37_26 t38_27 t39_28 H_69)) (
 (S4_157 R t19_6 t27_15 t37_26 t39_28 H_69)))) H_64) H_59) H_54) H_50) H_45) H_40) H_35) H_30
def S4_159 (a0 : Value) (a1 : Value) (R : Value → AHeap → Prop) (t19_6 : Value) (t21_8 : Value) (t26_13 : Value) (H_14 : AHeap) : Prop :=
 bnd (aExtract t26_13 0) fun t27_15 =>
 bnd (aExtract t26_13 1) fun t28_16 =>
 bnd (aExtract t26_13 2) fun t29_17 =>
 aBuildSlice 1 0 5 [(.int .u8 0)] [] H_14 fun t31_18 H_19 =>
 aAppend 1 1 5 t31_18 a0 H_19 fun t33_20 H_21 =>
 aAppend 1 1 5 t33_20 a1 H_21 fun t35_22 H_23 =>
 ACalls Tryd.prog 9 [t35_22] H_23 fun t36_24 H_25 =>
 bnd (aExtract t36_24 0) fun t37_26 =>
 bnd (aExtract t36_24 1) fun t38_27 =>
 bnd (aExtract t36_24 2) fun t39_28 =>
 ACalls Tryd.prog 11 [] H_25 fun t40_29 H_30 =>
 (S4_158 a0 a1 R t19_6 t21_8 t27_15 t28_16 t29_17 t37_26 t38_27 t39_28 t40_29 H_30)
def S4 (a0 : Value) (a1 : Value) (H : AHeap) (R : Value → AHeap → Prop) : Prop :=
 aBuildSlice 1 0 5 [(.int .u8 0)] [] H fun t15_0 H_1 =>
 aAppend 1 1 5 t15_0 a0 H_1 fun t17_2 H_3 =>
 ACalls Tryd.prog 9 [t17_2] H_3 fun t18_4 H_5 =>
 bnd (aExtract t18_4 0) fun t19_6 =>
 bnd (aExtract t18_4 1) fun t20_7 =>
 bnd (aExtract t18_4 2) fun t21_8 =>
 aBuildSlice 1 0 5 [(.int .u8 0)] [] H_5 fun t23_9 H_10 =>
 aAppend 1 1 5 t23_9 a1 H_10 fun t25_11 H_12 =>
 ACalls Tryd.prog 9 [t25_11] H_12 fun t26_13 H_14 =>
 (S4_159 a0 a1 R t19_6 t21_8 t26_13 H_14)
theorem S4_calls {a0 a1 : Value} {H : AHeap} {R : Value → AHeap → Prop} (h : S4 a0 a1 H R) : ACalls Tryd.prog 4 [a0, a1] H R :=
  have e : S4 a0 a1 H R = awpFn Tryd.prog (Tryd.f4.body.getD .skip) Tryd.f4.results.toList ann4 [a0, a1] H R := by kernel_rfl
  calls_of_awp (fn := Tryd.f4) (c := Tryd.f4.body.getD .skip) (an := ann4) (by kernel_rfl) Tryd.func4 (by kernel_rfl) (by kernel_rfl) (of_decide_eq_true (by kernel_rfl)) (e ▸ h)

/-- 5: marginalia/marginalialaw02.UtfSigns -/
def ann5 : Ann := (.two .leaf (.two .leaf .leaf))
def S5_115 (a0 : Value) (R : Value → AHeap → Prop) (t3_0 : Value) (H_1 : AHeap) : Prop :=
 aGuardK t3_0 true (fun K_2 H_3 =>
 K_2 a0 H_3) (fun t5_4 H_5 =>
 aGuardK t3_0 true (fun K_6 H_7 =>
 ACalls Tryd.prog 14 [t5_4] H_7 fun t6_8 H_9 =>
 K_6 t6_8 H_9) (fun t6_10 H_11 =>
 aGuardK t3_0 true (fun K_12 H_13 =>
 K_12 a0 H_13) (fun t7_14 H_15 =>
 aGuardK t3_0 true (fun K_16 H_17 =>
 ACalls Tryd.prog 15 [t7_14] H_17 fun t8_18 H_19 =>
 K_16 t8_18 H_19) (fun t8_20 H_21 =>
 aGuardK t3_0 true (fun K_22 H_23 =>
 bnd (aBin .eql .bool t6_10 t8_20) fun t9_24 =>
 K_22 t9_24 H_23) (fun t9_25 H_26 =>
 bnd (aPick t3_0 t9_25 (.bool false)) fun t10_27 =>
 aGuardK t10_27 true (fun K_28 H_29 =>
 K_28 a0 H_29) (fun t12_30 H_31 =>
 aGuardK t10_27 true (fun K_32 H_33 =>
 ACalls Tryd.prog 16 [t12_30] H_33 fun t13_34 H_35 =>
 K_32 t13_34 H_35) (fun t13_36 H_37 =>
 aGuardK t10_27 true (fun K_38 H_39 =>
 K_38 a0 H_39) (fun t14_40 H_41 =>
 aGuardK t10_27 true (fun K_42 H_43 =>
 ACalls Tryd.prog 17 [t14_40] H_43 fun t15_44 H_45 =>
 K_42 t15_44 H_45) (fun t15_46 H_47 =>
 aGuardK t10_27 true (fun K_48 H_49 =>
 bnd (aBin .eql .bool t13_36 t15_46) fun t16_50 =>
 K_48 t16_50 H_49) (fun t16_51 H_52 =>
 bnd (aPick t10_27 t16_51 (.bool false)) fun t17_53 =>
 aGuardK t17_53 true (fun K_54 H_55 =>
 K_54 a0 H_55) (fun t19_56 H_57 =>
 aGuardK t17_53 true (fun K_58 H_59 =>
 ACalls Tryd.prog 18 [t19_56] H_59 fun t20_60 H_61 =>
 K_58 t20_60 H_61) (fun t20_62 H_63 =>
 aGuardK t17_53 true (fun K_64 H_65 =>
 K_64 a0 H_65) (fun t21_66 H_67 =>
 aGuardK t17_53 true (fun K_68 H_69 =>
 ACalls Tryd.prog 19 [t21_66] H_69 fun t22_70 H_71 =>
 K_68 t22_70 H_71) (fun t22_72 H_73 =>
 aGuardK t17_53 true (fun K_74 H_75 =>
 bnd (aBin .eql .bool t20_62 t22_72) fun t23_76 =>
 K_74 t23_76 H_75) (fun t23_77 H_78 =>
 bnd (aPick t17_53 t23_77 (.bool false)) fun t24_79 =>
 aGuardK t24_79 true (fun K_80 H_81 =>
 K_80 a0 H_81) (fun t26_82 H_83 =>
 aGuardK t24_79 true (fun K_84 H_85 =>
 ACalls Tryd.prog 16 [t26_82] H_85 fun t27_86 H_87 =>
 K_84 t27_86 H_87) (fun t27_88 H_89 =>
 aGuardK t24_79 true (fun K_90 H_91 =>
 bnd (aUn .not t27_88) fun t28_92 =>
 K_90 t28_92 H_91) (fun t28_93 H_94 =>
 aGuardK t24_79 true (fun K_95 H_96 =>
 K_95 t28_93 H_96) (fun t29_97 H_98 =>
 aGuardK t29_97 false (fun K_99 H_100 =>
 K_99 a0 H_100) (fun t30_101 H_102 =>
 aGuardK t29_97 false (fun K_103 H_104 =>
 ACalls Tryd.prog 18 [t30_101] H_104 fun t31_105 H_106 =>
 K_103 t31_105 H_106) (fun t31_107 H_108 =>
 aGuardK t24_79 true (fun K_109 H_110 =>
 bnd (aPick t29_97 (.bool true) t31_107) fun t32_111 =>
 K_109 t32_111 H_110) (fun t32_112 H_113 =>
 bnd (aPick t24_79 t32_112 (.bool false)) fun t33_114 =>
 R t33_114 H_113) H_108) H_102) H_98) H_94) H_89) H_83) H_78) H_73) H_67) H_63) H_57) H_52) H_47) H_41) H_37) H_31) H_26) H_21) H_15) H_11) H_5) H_1
def S5 (a0 : Value) (H : AHeap) (R : Value → AHeap → Prop) : Prop :=
 ACalls Tryd.prog 11 [] H fun t3_0 H_1 =>
 (S5_115 a0 R t3_0 H_1)
theorem S5_calls {a0 : Value} {H : AHeap} {R : Value → AHeap → Prop} (h : S5 a0 H R) : ACalls Tryd.prog 5 [a0] H R :=
  have e : S5 a0 H R = awpFn Tryd.prog (Tryd.f5.body.getD .skip) Tryd.f5.results.toList ann5 [a0] H R := by kernel_rfl
  calls_of_awp (fn := Tryd.f5) (c := Tryd.f5.body.getD .skip) (an := ann5) (by kernel_rfl) Tryd.func5 (by kernel_rfl) (by kernel_rfl) (of_decide_eq_true (by kernel_rfl)) (e ▸ h)

/-- 6: marginalia/marginalialaw02.UtfEncodes -/
def ann6 : Ann := (.two .leaf (.two (.two .leaf (.two (.two .leaf .leaf) .leaf)) (.two .leaf (.two .leaf (.two .leaf .leaf)))))
def S6_56 (R : Value → AHeap → Prop) (t16_10 : Value) (t17_11 : Value) (t21_14 : Value) (t22_15 : Value) (t23_16 : Value) (H_17 : AHeap) : Prop :=
 aGuardK t23_16 true (fun K_18 H_19 =>
 K_18 t16_10 H_19) (fun t25_20 H_21 =>
 aGuardK t23_16 true (fun K_22 H_23 =>
 bnd (aBytesStr t25_20 H_23) fun t26_24 =>
 K_22 t26_24 H_23) (fun t26_25 H_26 =>
 aGuardK t23_16 true (fun K_27 H_28 =>
 K_27 t21_14 H_28) (fun t27_29 H_30 =>
 aGuardK t23_16 true (fun K_31 H_32 =>
 bnd (aBytesStr t27_29 H_32) fun t28_33 =>
 K_31 t28_33 H_32) (fun t28_34 H_35 =>
 aGuardK t23_16 true (fun K_36 H_37 =>
 bnd (aBin .eql .no t26_25 t28_34) fun t29_38 =>
 K_36 t29_38 H_37) (fun t29_39 H_40 =>
 bnd (aPick t23_16 t29_39 (.bool false)) fun t30_41 =>
 aGuardK t30_41 true (fun K_42 H_43 =>
 K_42 t17_11 H_43) (fun t32_44 H_45 =>
 aGuardK t30_41 true (fun K_46 H_47 =>
 K_46 t22_15 H_47) (fun t33_48 H_49 =>
 aGuardK t30_41 true (fun K_50 H_51 =>
 bnd (aBin .eql .no t32_44 t33_48) fun t34_52 =>
 K_50 t34_52 H_51) (fun t34_53 H_54 =>
 bnd (aPick t30_41 t34_53 (.bool false)) fun t35_55 =>
 R t35_55 H_54) H_49) H_45) H_40) H_35) H_30) H_26) H_21) H_17
def S6_57 (a0 : Value) (H : AHeap) (R : Value → AHeap → Prop) : Prop :=
 aBuildSlice 1 0 3 [(.int .i64 0)] [] H fun t12_4 H_5 =>
 aAppend 1 8 3 t12_4 a0 H_5 fun t14_6 H_7 =>
 ACalls Tryd.prog 20 [t14_6] H_7 fun t15_8 H_9 =>
 bnd (aExtract t15_8 0) fun t16_10 =>
 bnd (aExtract t15_8 1) fun t17_11 =>
 ACalls Tryd.prog 21 [a0] H_9 fun t20_12 H_13 =>
 bnd (aExtract t20_12 0) fun t21_14 =>
 bnd (aExtract t20_12 1) fun t22_15 =>
 ACalls Tryd.prog 11 [] H_13 fun t23_16 H_17 =>
 (S6_56 R t16_10 t17_11 t21_14 t22_15 t23_16 H_17)
def S6 (a0 : Value) (H : AHeap) (R : Value → AHeap → Prop) : Prop :=
 bnd (aLenSl a0) fun t8_0 =>
 bnd (aBin .gtr .no t8_0 (.int .i64 5000)) fun t9_1 =>
 aCond t9_1 (
 ACalls Tryd.prog 11 [] H fun t10_2 H_3 =>
 R t10_2 H_3) (
 (S6_57 a0 H R))
theorem S6_calls {a0 : Value} {H : AHeap} {R : Value → AHeap → Prop} (h : S6 a0 H R) : ACalls Tryd.prog 6 [a0] H R :=
  have e : S6 a0 H R = awpFn Tryd.prog (Tryd.f6.body.getD .skip) Tryd.f6.results.toList ann6 [a0] H R := by kernel_rfl
  calls_of_awp (fn := Tryd.f6) (c := Tryd.f6.body.getD .skip) (an := ann6) (by kernel_rfl) Tryd.func6 (by kernel_rfl) (by kernel_rfl) (of_decide_eq_true (by kernel_rfl)) (e ▸ h)

/-- 7: marginalia/marginalialaw02.UtfBack -/
def ann7 : Ann := (.two .leaf (.two (.two .leaf (.two (.two .leaf .leaf) .leaf)) (.two .leaf (.join [] [4, 7, 8, 9, 30, 31, 32, 33, 34, 35, 36, 37, 38, 39, 40, 41, 42, 43, 44, 45] (.two .leaf (.two (.two .leaf (.two .leaf (.two (.two .leaf .leaf) .leaf))) .leaf)) (.two .leaf (.two (.two .leaf (.two (.two .leaf .leaf) .leaf)) (.two .leaf (.two .leaf .leaf))))))))
def S7_72 (a1 : Value) (R : Value → AHeap → Prop) (t61_43 : Value) (H_44 : AHeap) : Prop :=
 bnd (aExtract t61_43 0) fun t62_45 =>
 bnd (aExtract t61_43 1) fun t63_46 =>
 bnd (aBin .eql .no t63_46 (.int .i64 0)) fun t65_47 =>
 aGuardK t65_47 true (fun K_48 H_49 =>
 K_48 t62_45 H_49) (fun t67_50 H_51 =>
 aGuardK t65_47 true (fun K_52 H_53 =>
 bnd (aBytesStr t67_50 H_53) fun t68_54 =>
 K_52 t68_54 H_53) (fun t68_55 H_56 =>
 aGuardK t65_47 true (fun K_57 H_58 =>
 K_57 a1 H_58) (fun t69_59 H_60 =>
 aGuardK t65_47 true (fun K_61 H_62 =>
 bnd (aBytesStr t69_59 H_62) fun t70_63 =>
 K_61 t70_63 H_62) (fun t70_64 H_65 =>
 aGuardK t65_47 true (fun K_66 H_67 =>
 bnd (aBin .eql .no t68_55 t70_64) fun t71_68 =>
 K_66 t71_68 H_67) (fun t71_69 H_70 =>
 bnd (aPick t65_47 t71_69 (.bool false)) fun t72_71 =>
 R t72_71 H_70) H_65) H_60) H_56) H_51) H_44
def S7_100 (a0 : Value) (R : Value → AHeap → Prop) (J_30 : List Value → AHeap → Prop) (t34_74 : Value) (H_75 : AHeap) : Prop :=
 bnd (aExtract t34_74 0) fun t35_76 =>
 bnd (aExtract t34_74 1) fun t36_77 =>
 bnd (aExtract t34_74 2) fun t37_78 =>
 bnd (aBin .neq .no t37_78 (.int .i64 0)) fun t39_79 =>
 aGuardK t39_79 false (fun K_80 H_81 =>
 K_80 t35_76 H_81) (fun t41_82 H_83 =>
 aGuardK t39_79 false (fun K_84 H_85 =>
 K_84 a0 H_85) (fun t42_86 H_87 =>
 aGuardK t39_79 false (fun K_88 H_89 =>
 ACalls Tryd.prog 12 [t41_82, t42_86] H_89 fun t43_90 H_91 =>
 K_88 t43_90 H_91) (fun t43_92 H_93 =>
 aGuardK t39_79 false (fun K_94 H_95 =>
 bnd (aUn .not t43_92) fun t44_96 =>
 K_94 t44_96 H_95) (fun t44_97 H_98 =>
 bnd (aPick t39_79 (.bool true) t44_97) fun t45_99 =>
 aCond t45_99 (
 R (.bool false) H_98) (
 J_30 [] H_98)) H_93) H_87) H_83) H_75
def S7_101 (a1 : Value) (R : Value → AHeap → Prop) (H_29 : AHeap) : Prop :=
 aBuildSlice 1 0 5 [(.int .u8 0)] [] H_29 fun t47_31 H_32 =>
 aAppend 1 1 5 t47_31 a1 H_32 fun t49_33 H_34 =>
 ACalls Tryd.prog 9 [t49_33] H_34 fun t50_35 H_36 =>
 bnd (aExtract t50_35 0) fun t51_37 =>
 bnd (aExtract t50_35 1) fun t52_38 =>
 bnd (aExtract t50_35 2) fun t53_39 =>
 bnd (aBin .neq .no t53_39 (.int .i64 0)) fun t55_40 =>
 aCond t55_40 (
 bnd (aLenSl t51_37) fun t57_41 =>
 bnd (aBin .eql .no t57_41 (.int .i64 0)) fun t58_42 =>
 R t58_42 H_36) (
 ACalls Tryd.prog 20 [t51_37] H_36 fun t61_43 H_44 =>
 (S7_72 a1 R t61_43 H_44))
def S7_102 (a0 : Value) (a1 : Value) (R : Value → AHeap → Prop) (H_16 : AHeap) : Prop :=
 aBuildSlice 1 0 3 [(.int .i64 0)] [] H_16 fun t24_20 H_21 =>
 aAppend 1 8 3 t24_20 a0 H_21 fun t26_22 H_23 =>
 ACalls Tryd.prog 20 [t26_22] H_23 fun t27_24 H_25 =>
 bnd (aExtract t27_24 0) fun t28_26 =>
 bnd (aExtract t27_24 1) fun t29_27 =>
 aJoin (fun vs_28 H_29 =>
 (S7_101 a1 R H_29)) fun J_30 =>
 bnd (aBin .eql .no t29_27 (.int .i64 0)) fun t31_73 =>
 aCond t31_73 (
 ACalls Tryd.prog 9 [t28_26] H_25 fun t34_74 H_75 =>
 (S7_100 a0 R J_30 t34_74 H_75)) (
 J_30 [] H_25)
def S7_103 (a0 : Value) (a1 : Value) (R : Value → AHeap → Prop) (t15_0 : Value) (H_1 : AHeap) : Prop :=
 bnd (aUn .not t15_0) fun t16_2 =>
 aGuardK t16_2 false (fun K_3 H_4 =>
 K_3 a0 H_4) (fun t18_5 H_6 =>
 aGuardK t16_2 false (fun K_7 H_8 =>
 bnd (aLenSl t18_5) fun t19_9 =>
 K_7 t19_9 H_8) (fun t19_10 H_11 =>
 aGuardK t16_2 false (fun K_12 H_13 =>
 bnd (aBin .gtr .no t19_10 (.int .i64 5000)) fun t20_14 =>
 K_12 t20_14 H_13) (fun t20_15 H_16 =>
 bnd (aPick t16_2 (.bool true) t20_15) fun t21_17 =>
 aCond t21_17 (
 ACalls Tryd.prog 11 [] H_16 fun t22_18 H_19 =>
 R t22_18 H_19) (
 (S7_102 a0 a1 R H_16))) H_11) H_6) H_1
def S7 (a0 : Value) (a1 : Value) (H : AHeap) (R : Value → AHeap → Prop) : Prop :=
 ACalls Tryd.prog 11 [] H fun t15_0 H_1 =>
 (S7_103 a0 a1 R t15_0 H_1)
theorem S7_calls {a0 a1 : Value} {H : AHeap} {R : Value → AHeap → Prop} (h : S7 a0 a1 H R) : ACalls Tryd.prog 7 [a0, a1] H R :=
  have e : S7 a0 a1 H R = awpFn Tryd.prog (Tryd.f7.body.getD .skip) Tryd.f7.results.toList ann7 [a0, a1] H R := by kernel_rfl
  calls_of_awp (fn := Tryd.f7) (c := Tryd.f7.body.getD .skip) (an := ann7) (by kernel_rfl) Tryd.func7 (by kernel_rfl) (by kernel_rfl) (of_decide_eq_true (by kernel_rfl)) (e ▸ h)

/-- 9: marginalia/utf.Decode -/
def ann9 : Ann := (.two .leaf (.two (.two .leaf (.two (.two .leaf .leaf) .leaf)) (.two (.one (.loop [2, 3] [2, 3, 4, 5, 6, 10, 11, 12, 13, 14, 15, 16, 17, 18, 19, 20, 21, 22, 23, 24, 25, 26, 27, 28, 29, 30, 31, 32, 33, 34, 35] (.two (.two .leaf (.two .leaf .leaf)) (.one (.two .leaf (.two (.two .leaf (.two (.two .leaf .leaf) .leaf)) (.two .leaf .leaf))))))) (.two .leaf .leaf))))
def S9_29 (vs_2 : List Value) (again_4 : List Value → AHeap → Prop) (t19_10 : Value) (t20_11 : Value) (H_21 : AHeap) : Prop :=
 bnd (aConvInt .i64 t19_10) fun t30_23 =>
 aBuildSlice 1 1 3 [(.int .i64 0)] [(0, 1, t30_23)] H_21 fun t31_24 H_25 =>
 aAppend 1 8 3 (nth vs_2 0) t31_24 H_25 fun t32_26 H_27 =>
 bnd (aBin .add .no (nth vs_2 1) t20_11) fun t35_28 =>
 again_4 [t32_26, t35_28] H_27
def S9_30 (R : Value → AHeap → Prop) (vs_2 : List Value) (again_4 : List Value → AHeap → Prop) (t18_8 : Value) (H_9 : AHeap) : Prop :=
 bnd (aExtract t18_8 0) fun t19_10 =>
 bnd (aExtract t18_8 1) fun t20_11 =>
 bnd (aBin .eql .no t19_10 (.int .i32 65533)) fun t22_12 =>
 aGuardK t22_12 true (fun K_13 H_14 =>
 K_13 t20_11 H_14) (fun t24_15 H_16 =>
 aGuardK t22_12 true (fun K_17 H_18 =>
 bnd (aBin .lss .no t24_15 (.int .i64 2)) fun t25_19 =>
 K_17 t25_19 H_18) (fun t25_20 H_21 =>
 bnd (aPick t22_12 t25_20 (.bool false)) fun t26_22 =>
 aCond t26_22 (
 R (.tuple #[(.slice none 0 0), (nth vs_2 1), (.int .i64 4)]) H_21) (
 (S9_29 vs_2 again_4 t19_10 t20_11 H_21))) H_16) H_9
def S9_31 (a0 : Value) (R : Value → AHeap → Prop) (vs_2 : List Value) (H_3 : AHeap) (again_4 : List Value → AHeap → Prop) : Prop :=
 bnd (aLenSl a0) fun t12_5 =>
 bnd (aBin .lss .no (nth vs_2 1) t12_5) fun t13_6 =>
 aCond t13_6 (
 bnd (aSliceSl 1 a0 (some (nth vs_2 1)) none) fun t17_7 =>
 ACalls Tryd.prog 26 [t17_7] H_3 fun t18_8 H_9 =>
 (S9_30 R vs_2 again_4 t18_8 H_9)) (
 R (.tuple #[(nth vs_2 0), (.int .i64 0), (.int .i64 0)]) H_3)
def S9 (a0 : Value) (H : AHeap) (R : Value → AHeap → Prop) : Prop :=
 bnd (aLenSl a0) fun t8_0 =>
 bnd (aBin .gtr .no t8_0 (.int .i64 65536)) fun t9_1 =>
 aCond t9_1 (
 R (.tuple #[(.slice none 0 0), (.int .i64 0), (.int .i64 6)]) H) (
 aLoop [(.slice none 0 0), (.int .i64 0)] H fun vs_2 H_3 again_4 =>
 (S9_31 a0 R vs_2 H_3 again_4))
theorem S9_calls {a0 : Value} {H : AHeap} {R : Value → AHeap → Prop} (h : S9 a0 H R) : ACalls Tryd.prog 9 [a0] H R :=
  have e : S9 a0 H R = awpFn Tryd.prog (Tryd.f9.body.getD .skip) Tryd.f9.results.toList ann9 [a0] H R := by kernel_rfl
  calls_of_awp (fn := Tryd.f9) (c := Tryd.f9.body.getD .skip) (an := ann9) (by kernel_rfl) Tryd.func9 (by kernel_rfl) (by kernel_rfl) (of_decide_eq_true (by kernel_rfl)) (e ▸ h)

/-- 10: marginalia/marginaliaref02.Decode -/
def ann10 : Ann := (.two .leaf (.two (.two .leaf (.two (.two .leaf .leaf) .leaf)) (.two .leaf (.two (.two .leaf (.two (.two .leaf .leaf) .leaf)) (.two .leaf .leaf)))))
def S10_7 (a0 : Value) (H : AHeap) (R : Value → AHeap → Prop) : Prop :=
 ACalls Tryd.prog 13 [a0] H fun t12_2 H_3 =>
 bnd (aExtract t12_2 0) fun t13_4 =>
 bnd (aExtract t12_2 1) fun t14_5 =>
 bnd (aBin .geq .no t14_5 (.int .i64 0)) fun t16_6 =>
 aCond t16_6 (
 R (.tuple #[(.slice none 0 0), t14_5, (.int .i64 4)]) H_3) (
 R (.tuple #[t13_4, (.int .i64 0), (.int .i64 0)]) H_3)
def S10 (a0 : Value) (H : AHeap) (R : Value → AHeap → Prop) : Prop :=
 bnd (aLenSl a0) fun t8_0 =>
 bnd (aBin .gtr .no t8_0 (.int .i64 65536)) fun t9_1 =>
 aCond t9_1 (
 R (.tuple #[(.slice none 0 0), (.int .i64 0), (.int .i64 6)]) H) (
 (S10_7 a0 H R))
theorem S10_calls {a0 : Value} {H : AHeap} {R : Value → AHeap → Prop} (h : S10 a0 H R) : ACalls Tryd.prog 10 [a0] H R :=
  have e : S10 a0 H R = awpFn Tryd.prog (Tryd.f10.body.getD .skip) Tryd.f10.results.toList ann10 [a0] H R := by kernel_rfl
  calls_of_awp (fn := Tryd.f10) (c := Tryd.f10.body.getD .skip) (an := ann10) (by kernel_rfl) Tryd.func10 (by kernel_rfl) (by kernel_rfl) (of_decide_eq_true (by kernel_rfl)) (e ▸ h)

/-- 11: marginalia/marginalialaw02.answers -/
def ann11 : Ann := (.two .leaf (.two .leaf (.two .leaf .leaf)))
def S11_45 (R : Value → AHeap → Prop) (t7_4 : Value) (H_5 : AHeap) : Prop :=
 bnd (aExtract t7_4 0) fun t8_6 =>
 bnd (aExtract t7_4 1) fun t9_7 =>
 bnd (aExtract t7_4 2) fun t10_8 =>
 bnd (aBin .eql .no t10_8 (.int .i64 0)) fun t12_9 =>
 aGuardK t12_9 true (fun K_10 H_11 =>
 K_10 t8_6 H_11) (fun t14_12 H_13 =>
 aGuardK t12_9 true (fun K_14 H_15 =>
 bnd (aLenSl t14_12) fun t15_16 =>
 K_14 t15_16 H_15) (fun t15_17 H_18 =>
 aGuardK t12_9 true (fun K_19 H_20 =>
 bnd (aBin .eql .no t15_17 (.int .i64 1)) fun t16_21 =>
 K_19 t16_21 H_20) (fun t16_22 H_23 =>
 bnd (aPick t12_9 t16_22 (.bool false)) fun t17_24 =>
 aGuardK t17_24 true (fun K_25 H_26 =>
 K_25 t8_6 H_26) (fun t19_27 H_28 =>
 aGuardK t17_24 true (fun K_29 H_30 =>
 bnd (aIdxAddr 1 t19_27 (.int .i64 0)) fun t20_31 =>
 K_29 t20_31 H_30) (fun t20_32 H_33 =>
 aGuardK t17_24 true (fun K_34 H_35 =>
 bnd (aLdCell t20_32 H_35) fun t21_36 =>
 K_34 t21_36 H_35) (fun t21_37 H_38 =>
 aGuardK t17_24 true (fun K_39 H_40 =>
 bnd (aBin .eql .no t21_37 (.int .i64 228)) fun t22_41 =>
 K_39 t22_41 H_40) (fun t22_42 H_43 =>
 bnd (aPick t17_24 t22_42 (.bool false)) fun t23_44 =>
 R t23_44 H_43) H_38) H_33) H_28) H_23) H_18) H_13) H_5
def S11 (H : AHeap) (R : Value → AHeap → Prop) : Prop :=
 aBuildSlice 1 2 5 [(.int .u8 0)] [(0, 1, (.int .u8 195)), (1, 1, (.int .u8 164))] H fun t5_0 H_1 =>
 aMark t5_0 H_1 fun t6_2 H_3 =>
 ACalls Tryd.prog 9 [t6_2] H_3 fun t7_4 H_5 =>
 (S11_45 R t7_4 H_5)
theorem S11_calls {H : AHeap} {R : Value → AHeap → Prop} (h : S11 H R) : ACalls Tryd.prog 11 [] H R :=
  have e : S11 H R = awpFn Tryd.prog (Tryd.f11.body.getD .skip) Tryd.f11.results.toList ann11 [] H R := by kernel_rfl
  calls_of_awp (fn := Tryd.f11) (c := Tryd.f11.body.getD .skip) (an := ann11) (by kernel_rfl) Tryd.func11 (by kernel_rfl) (by kernel_rfl) (of_decide_eq_true (by kernel_rfl)) (e ▸ h)

/-- 12: marginalia/marginaliaref02.SameInts -/
def ann12 : Ann := (.two .leaf (.two (.two .leaf (.two (.two .leaf .leaf) .leaf)) (.two (.two .leaf (.one (.loop [5] [4, 5, 11, 12, 13, 14, 15, 16, 17, 18, 19, 20, 21, 22, 23, 24, 25] (.two (.two .leaf (.two .leaf .leaf)) (.two (.one (.two (.draw [(0, []), (1, []), (2, []), (3, []), (4, []), (5, []), (6, []), (7, []), (8, [])]) (.two (.two .leaf .leaf) .leaf))) .leaf))))) (.two .leaf .leaf))))
def S12_14 (a0 : Value) (a1 : Value) (R : Value → AHeap → Prop) (vs_3 : List Value) (H_4 : AHeap) (again_5 : List Value → AHeap → Prop) : Prop :=
 bnd (aIdxAddr 1 a0 (nth vs_3 0)) fun t19_8 =>
 bnd (aLdCell t19_8 H_4) fun t20_9 =>
 bnd (aIdxAddr 1 a1 (nth vs_3 0)) fun t23_10 =>
 bnd (aLdCell t23_10 H_4) fun t24_11 =>
 bnd (aBin .neq .no t20_9 t24_11) fun t25_12 =>
 aCond t25_12 (
 R (.bool false) H_4) (
 bnd (aBin .add .no (nth vs_3 0) (.int .i64 1)) fun t16_13 =>
 again_5 [t16_13] H_4)
def S12_15 (a0 : Value) (a1 : Value) (R : Value → AHeap → Prop) (vs_3 : List Value) (H_4 : AHeap) (again_5 : List Value → AHeap → Prop) : Prop :=
 bnd (aLenSl a0) fun t13_6 =>
 bnd (aBin .lss .no (nth vs_3 0) t13_6) fun t14_7 =>
 aCond t14_7 (
 (S12_14 a0 a1 R vs_3 H_4 again_5)) (
 R (.bool true) H_4)
def S12 (a0 : Value) (a1 : Value) (H : AHeap) (R : Value → AHeap → Prop) : Prop :=
 bnd (aLenSl a0) fun t7_0 =>
 bnd (aLenSl a1) fun t9_1 =>
 bnd (aBin .neq .no t7_0 t9_1) fun t10_2 =>
 aCond t10_2 (
 R (.bool false) H) (
 aLoop [(.int .i64 0)] H fun vs_3 H_4 again_5 =>
 (S12_15 a0 a1 R vs_3 H_4 again_5))
theorem S12_calls {a0 a1 : Value} {H : AHeap} {R : Value → AHeap → Prop} (h : S12 a0 a1 H R) : ACalls Tryd.prog 12 [a0, a1] H R :=
  have e : S12 a0 a1 H R = awpFn Tryd.prog (Tryd.f12.body.getD .skip) Tryd.f12.results.toList ann12 [a0, a1] H R := by kernel_rfl
  calls_of_awp (fn := Tryd.f12) (c := Tryd.f12.body.getD .skip) (an := ann12) (by kernel_rfl) Tryd.func12 (by kernel_rfl) (by kernel_rfl) (of_decide_eq_true (by kernel_rfl)) (e ▸ h)

/-- 13: marginalia/marginaliaref02.Chars -/
def ann13 : Ann := (.two .leaf (.two .leaf (.two .leaf (.two (.one (.loop [4, 5] [2, 3, 4, 5, 6, 7, 8, 9, 10, 11, 12, 13, 14, 15, 16, 17, 18, 19, 20, 21, 22, 23, 24, 25, 26, 27] (.two (.two .leaf (.two .leaf .leaf)) (.one (.two .leaf (.two (.two .leaf (.two (.two .leaf .leaf) .leaf)) (.two .leaf .leaf))))))) (.two .leaf .leaf)))))
def S13_15 (R : Value → AHeap → Prop) (vs_0 : List Value) (again_2 : List Value → AHeap → Prop) (t15_5 : Value) (H_6 : AHeap) : Prop :=
 bnd (aExtract t15_5 0) fun t16_7 =>
 bnd (aExtract t15_5 1) fun t17_8 =>
 bnd (aBin .eql .no t17_8 (.int .i64 0)) fun t19_9 =>
 aCond t19_9 (
 R (.tuple #[(.slice none 0 0), (nth vs_0 1)]) H_6) (
 aBuildSlice 1 1 3 [(.int .i64 0)] [(0, 1, t16_7)] H_6 fun t23_10 H_11 =>
 aAppend 1 8 3 (nth vs_0 0) t23_10 H_11 fun t24_12 H_13 =>
 bnd (aBin .add .no (nth vs_0 1) t17_8) fun t27_14 =>
 again_2 [t24_12, t27_14] H_13)
def S13_16 (a0 : Value) (R : Value → AHeap → Prop) (vs_0 : List Value) (H_1 : AHeap) (again_2 : List Value → AHeap → Prop) : Prop :=
 bnd (aLenSl a0) fun t10_3 =>
 bnd (aBin .lss .no (nth vs_0 1) t10_3) fun t11_4 =>
 aCond t11_4 (
 ACalls Tryd.prog 27 [a0, (nth vs_0 1)] H_1 fun t15_5 H_6 =>
 (S13_15 R vs_0 again_2 t15_5 H_6)) (
 R (.tuple #[(nth vs_0 0), (.int .i64 (-1))]) H_1)
def S13 (a0 : Value) (H : AHeap) (R : Value → AHeap → Prop) : Prop :=
 aLoop [(.slice none 0 0), (.int .i64 0)] H fun vs_0 H_1 again_2 =>
 (S13_16 a0 R vs_0 H_1 again_2)
theorem S13_calls {a0 : Value} {H : AHeap} {R : Value → AHeap → Prop} (h : S13 a0 H R) : ACalls Tryd.prog 13 [a0] H R :=
  have e : S13 a0 H R = awpFn Tryd.prog (Tryd.f13.body.getD .skip) Tryd.f13.results.toList ann13 [a0] H R := by kernel_rfl
  calls_of_awp (fn := Tryd.f13) (c := Tryd.f13.body.getD .skip) (an := ann13) (by kernel_rfl) Tryd.func13 (by kernel_rfl) (by kernel_rfl) (of_decide_eq_true (by kernel_rfl)) (e ▸ h)

/-- 14: marginalia/utf.Scalar -/
def ann14 : Ann := (.two .leaf (.two .leaf .leaf))
def S14 (a0 : Value) (H : AHeap) (R : Value → AHeap → Prop) : Prop :=
 bnd (aBin .geq .no a0 (.int .i64 0)) fun t4_0 =>
 aGuardK t4_0 true (fun K_1 H_2 =>
 K_1 a0 H_2) (fun t6_3 H_4 =>
 aGuardK t4_0 true (fun K_5 H_6 =>
 bnd (aBin .leq .no t6_3 (.int .i64 1114111)) fun t7_7 =>
 K_5 t7_7 H_6) (fun t7_8 H_9 =>
 bnd (aPick t4_0 t7_8 (.bool false)) fun t8_10 =>
 aGuardK t8_10 true (fun K_11 H_12 =>
 K_11 a0 H_12) (fun t10_13 H_14 =>
 aGuardK t8_10 true (fun K_15 H_16 =>
 bnd (aConvInt .i32 t10_13) fun t11_17 =>
 K_15 t11_17 H_16) (fun t11_18 H_19 =>
 aGuardK t8_10 true (fun K_20 H_21 =>
 ACalls Tryd.prog 28 [t11_18] H_21 fun t12_22 H_23 =>
 K_20 t12_22 H_23) (fun t12_24 H_25 =>
 bnd (aPick t8_10 t12_24 (.bool false)) fun t13_26 =>
 R t13_26 H_25) H_19) H_14) H_9) H_4) H
theorem S14_calls {a0 : Value} {H : AHeap} {R : Value → AHeap → Prop} (h : S14 a0 H R) : ACalls Tryd.prog 14 [a0] H R :=
  have e : S14 a0 H R = awpFn Tryd.prog (Tryd.f14.body.getD .skip) Tryd.f14.results.toList ann14 [a0] H R := by kernel_rfl
  calls_of_awp (fn := Tryd.f14) (c := Tryd.f14.body.getD .skip) (an := ann14) (by kernel_rfl) Tryd.func14 (by kernel_rfl) (by kernel_rfl) (of_decide_eq_true (by kernel_rfl)) (e ▸ h)

/-- 15: marginalia/marginaliaref02.Scalar -/
def ann15 : Ann := (.two .leaf (.two .leaf .leaf))
def S15 (a0 : Value) (H : AHeap) (R : Value → AHeap → Prop) : Prop :=
 bnd (aBin .geq .no a0 (.int .i64 0)) fun t4_0 =>
 aGuardK t4_0 true (fun K_1 H_2 =>
 K_1 a0 H_2) (fun t6_3 H_4 =>
 aGuardK t4_0 true (fun K_5 H_6 =>
 bnd (aBin .leq .no t6_3 (.int .i64 1114111)) fun t7_7 =>
 K_5 t7_7 H_6) (fun t7_8 H_9 =>
 bnd (aPick t4_0 t7_8 (.bool false)) fun t8_10 =>
 aGuardK t8_10 true (fun K_11 H_12 =>
 K_11 a0 H_12) (fun t10_13 H_14 =>
 aGuardK t8_10 true (fun K_15 H_16 =>
 bnd (aBin .geq .no t10_13 (.int .i64 55296)) fun t11_17 =>
 K_15 t11_17 H_16) (fun t11_18 H_19 =>
 aGuardK t8_10 true (fun K_20 H_21 =>
 K_20 t11_18 H_21) (fun t12_22 H_23 =>
 aGuardK t12_22 true (fun K_24 H_25 =>
 K_24 a0 H_25) (fun t13_26 H_27 =>
 aGuardK t12_22 true (fun K_28 H_29 =>
 bnd (aBin .leq .no t13_26 (.int .i64 57343)) fun t14_30 =>
 K_28 t14_30 H_29) (fun t14_31 H_32 =>
 aGuardK t8_10 true (fun K_33 H_34 =>
 bnd (aPick t12_22 t14_31 (.bool false)) fun t15_35 =>
 K_33 t15_35 H_34) (fun t15_36 H_37 =>
 aGuardK t8_10 true (fun K_38 H_39 =>
 bnd (aUn .not t15_36) fun t16_40 =>
 K_38 t16_40 H_39) (fun t16_41 H_42 =>
 bnd (aPick t8_10 t16_41 (.bool false)) fun t17_43 =>
 R t17_43 H_42) H_37) H_32) H_27) H_23) H_19) H_14) H_9) H_4) H
theorem S15_calls {a0 : Value} {H : AHeap} {R : Value → AHeap → Prop} (h : S15 a0 H R) : ACalls Tryd.prog 15 [a0] H R :=
  have e : S15 a0 H R = awpFn Tryd.prog (Tryd.f15.body.getD .skip) Tryd.f15.results.toList ann15 [a0] H R := by kernel_rfl
  calls_of_awp (fn := Tryd.f15) (c := Tryd.f15.body.getD .skip) (an := ann15) (by kernel_rfl) Tryd.func15 (by kernel_rfl) (by kernel_rfl) (of_decide_eq_true (by kernel_rfl)) (e ▸ h)

/-- 16: marginalia/utf.Blank -/
def ann16 : Ann := (.two .leaf (.two .leaf .leaf))
def S16 (a0 : Value) (H : AHeap) (R : Value → AHeap → Prop) : Prop :=
 bnd (aBin .eql .no a0 (.int .i64 9)) fun t4_0 =>
 aGuardK t4_0 false (fun K_1 H_2 =>
 K_1 a0 H_2) (fun t6_3 H_4 =>
 aGuardK t4_0 false (fun K_5 H_6 =>
 bnd (aBin .eql .no t6_3 (.int .i64 10)) fun t7_7 =>
 K_5 t7_7 H_6) (fun t7_8 H_9 =>
 bnd (aPick t4_0 (.bool true) t7_8) fun t8_10 =>
 aGuardK t8_10 false (fun K_11 H_12 =>
 K_11 a0 H_12) (fun t10_13 H_14 =>
 aGuardK t8_10 false (fun K_15 H_16 =>
 bnd (aBin .eql .no t10_13 (.int .i64 13)) fun t11_17 =>
 K_15 t11_17 H_16) (fun t11_18 H_19 =>
 bnd (aPick t8_10 (.bool true) t11_18) fun t12_20 =>
 aGuardK t12_20 false (fun K_21 H_22 =>
 K_21 a0 H_22) (fun t14_23 H_24 =>
 aGuardK t12_20 false (fun K_25 H_26 =>
 bnd (aBin .eql .no t14_23 (.int .i64 32)) fun t15_27 =>
 K_25 t15_27 H_26) (fun t15_28 H_29 =>
 bnd (aPick t12_20 (.bool true) t15_28) fun t16_30 =>
 R t16_30 H_29) H_24) H_19) H_14) H_9) H_4) H
theorem S16_calls {a0 : Value} {H : AHeap} {R : Value → AHeap → Prop} (h : S16 a0 H R) : ACalls Tryd.prog 16 [a0] H R :=
  have e : S16 a0 H R = awpFn Tryd.prog (Tryd.f16.body.getD .skip) Tryd.f16.results.toList ann16 [a0] H R := by kernel_rfl
  calls_of_awp (fn := Tryd.f16) (c := Tryd.f16.body.getD .skip) (an := ann16) (by kernel_rfl) Tryd.func16 (by kernel_rfl) (by kernel_rfl) (of_decide_eq_true (by kernel_rfl)) (e ▸ h)

/-- 17: marginalia/marginaliaref02.Blank -/
def ann17 : Ann := (.two .leaf (.two .leaf .leaf))
def S17 (a0 : Value) (H : AHeap) (R : Value → AHeap → Prop) : Prop :=
 bnd (aBin .eql .no a0 (.int .i64 9)) fun t4_0 =>
 aGuardK t4_0 false (fun K_1 H_2 =>
 K_1 a0 H_2) (fun t6_3 H_4 =>
 aGuardK t4_0 false (fun K_5 H_6 =>
 bnd (aBin .eql .no t6_3 (.int .i64 10)) fun t7_7 =>
 K_5 t7_7 H_6) (fun t7_8 H_9 =>
 bnd (aPick t4_0 (.bool true) t7_8) fun t8_10 =>
 aGuardK t8_10 false (fun K_11 H_12 =>
 K_11 a0 H_12) (fun t10_13 H_14 =>
 aGuardK t8_10 false (fun K_15 H_16 =>
 bnd (aBin .eql .no t10_13 (.int .i64 13)) fun t11_17 =>
 K_15 t11_17 H_16) (fun t11_18 H_19 =>
 bnd (aPick t8_10 (.bool true) t11_18) fun t12_20 =>
 aGuardK t12_20 false (fun K_21 H_22 =>
 K_21 a0 H_22) (fun t14_23 H_24 =>
 aGuardK t12_20 false (fun K_25 H_26 =>
 bnd (aBin .eql .no t14_23 (.int .i64 32)) fun t15_27 =>
 K_25 t15_27 H_26) (fun t15_28 H_29 =>
 bnd (aPick t12_20 (.bool true) t15_28) fun t16_30 =>
 R t16_30 H_29) H_24) H_19) H_14) H_9) H_4) H
theorem S17_calls {a0 : Value} {H : AHeap} {R : Value → AHeap → Prop} (h : S17 a0 H R) : ACalls Tryd.prog 17 [a0] H R :=
  have e : S17 a0 H R = awpFn Tryd.prog (Tryd.f17.body.getD .skip) Tryd.f17.results.toList ann17 [a0] H R := by kernel_rfl
  calls_of_awp (fn := Tryd.f17) (c := Tryd.f17.body.getD .skip) (an := ann17) (by kernel_rfl) Tryd.func17 (by kernel_rfl) (by kernel_rfl) (of_decide_eq_true (by kernel_rfl)) (e ▸ h)

/-- 18: marginalia/utf.Ends -/
def ann18 : Ann := (.two .leaf (.two .leaf .leaf))
def S18_59 (a0 : Value) (R : Value → AHeap → Prop) (t4_0 : Value) (H_1 : AHeap) : Prop :=
 aGuardK t4_0 false (fun K_2 H_3 =>
 K_2 a0 H_3) (fun t6_4 H_5 =>
 aGuardK t4_0 false (fun K_6 H_7 =>
 bnd (aBin .gtr .no t6_4 (.int .i64 0)) fun t7_8 =>
 K_6 t7_8 H_7) (fun t7_9 H_10 =>
 aGuardK t4_0 false (fun K_11 H_12 =>
 K_11 t7_9 H_12) (fun t8_13 H_14 =>
 aGuardK t8_13 true (fun K_15 H_16 =>
 K_15 a0 H_16) (fun t9_17 H_18 =>
 aGuardK t8_13 true (fun K_19 H_20 =>
 bnd (aBin .lss .no t9_17 (.int .i64 128)) fun t10_21 =>
 K_19 t10_21 H_20) (fun t10_22 H_23 =>
 aGuardK t4_0 false (fun K_24 H_25 =>
 bnd (aPick t8_13 t10_22 (.bool false)) fun t11_26 =>
 K_24 t11_26 H_25) (fun t11_27 H_28 =>
 aGuardK t4_0 false (fun K_29 H_30 =>
 K_29 t11_27 H_30) (fun t12_31 H_32 =>
 aGuardK t12_31 true (fun K_33 H_34 =>
 K_33 a0 H_34) (fun t13_35 H_36 =>
 aGuardK t12_31 true (fun K_37 H_38 =>
 bnd (aConvInt .u8 t13_35) fun t14_39 =>
 K_37 t14_39 H_38) (fun t14_40 H_41 =>
 aGuardK t12_31 true (fun K_42 H_43 =>
 ACalls Tryd.prog 29 [(.string ⟨#[40, 41, 59, 34, 39, 96, 44]⟩), t14_40] H_43 fun t15_44 H_45 =>
 K_42 t15_44 H_45) (fun t15_46 H_47 =>
 aGuardK t12_31 true (fun K_48 H_49 =>
 bnd (aBin .geq .no t15_46 (.int .i64 0)) fun t16_50 =>
 K_48 t16_50 H_49) (fun t16_51 H_52 =>
 aGuardK t4_0 false (fun K_53 H_54 =>
 bnd (aPick t12_31 t16_51 (.bool false)) fun t17_55 =>
 K_53 t17_55 H_54) (fun t17_56 H_57 =>
 bnd (aPick t4_0 (.bool true) t17_56) fun t18_58 =>
 R t18_58 H_57) H_52) H_47) H_41) H_36) H_32) H_28) H_23) H_18) H_14) H_10) H_5) H_1
def S18 (a0 : Value) (H : AHeap) (R : Value → AHeap → Prop) : Prop :=
 ACalls Tryd.prog 16 [a0] H fun t4_0 H_1 =>
 (S18_59 a0 R t4_0 H_1)
theorem S18_calls {a0 : Value} {H : AHeap} {R : Value → AHeap → Prop} (h : S18 a0 H R) : ACalls Tryd.prog 18 [a0] H R :=
  have e : S18 a0 H R = awpFn Tryd.prog (Tryd.f18.body.getD .skip) Tryd.f18.results.toList ann18 [a0] H R := by kernel_rfl
  calls_of_awp (fn := Tryd.f18) (c := Tryd.f18.body.getD .skip) (an := ann18) (by kernel_rfl) Tryd.func18 (by kernel_rfl) (by kernel_rfl) (of_decide_eq_true (by kernel_rfl)) (e ▸ h)

/-- 19: marginalia/marginaliaref02.Ends -/
def ann19 : Ann := (.two .leaf (.two .leaf .leaf))
def S19_72 (a0 : Value) (R : Value → AHeap → Prop) (t4_0 : Value) (H_1 : AHeap) : Prop :=
 aGuardK t4_0 false (fun K_2 H_3 =>
 K_2 a0 H_3) (fun t6_4 H_5 =>
 aGuardK t4_0 false (fun K_6 H_7 =>
 bnd (aBin .eql .no t6_4 (.int .i64 40)) fun t7_8 =>
 K_6 t7_8 H_7) (fun t7_9 H_10 =>
 bnd (aPick t4_0 (.bool true) t7_9) fun t8_11 =>
 aGuardK t8_11 false (fun K_12 H_13 =>
 K_12 a0 H_13) (fun t10_14 H_15 =>
 aGuardK t8_11 false (fun K_16 H_17 =>
 bnd (aBin .eql .no t10_14 (.int .i64 41)) fun t11_18 =>
 K_16 t11_18 H_17) (fun t11_19 H_20 =>
 bnd (aPick t8_11 (.bool true) t11_19) fun t12_21 =>
 aGuardK t12_21 false (fun K_22 H_23 =>
 K_22 a0 H_23) (fun t14_24 H_25 =>
 aGuardK t12_21 false (fun K_26 H_27 =>
 bnd (aBin .eql .no t14_24 (.int .i64 59)) fun t15_28 =>
 K_26 t15_28 H_27) (fun t15_29 H_30 =>
 bnd (aPick t12_21 (.bool true) t15_29) fun t16_31 =>
 aGuardK t16_31 false (fun K_32 H_33 =>
 K_32 a0 H_33) (fun t18_34 H_35 =>
 aGuardK t16_31 false (fun K_36 H_37 =>
 bnd (aBin .eql .no t18_34 (.int .i64 34)) fun t19_38 =>
 K_36 t19_38 H_37) (fun t19_39 H_40 =>
 bnd (aPick t16_31 (.bool true) t19_39) fun t20_41 =>
 aGuardK t20_41 false (fun K_42 H_43 =>
 K_42 a0 H_43) (fun t22_44 H_45 =>
 aGuardK t20_41 false (fun K_46 H_47 =>
 bnd (aBin .eql .no t22_44 (.int .i64 39)) fun t23_48 =>
 K_46 t23_48 H_47) (fun t23_49 H_50 =>
 bnd (aPick t20_41 (.bool true) t23_49) fun t24_51 =>
 aGuardK t24_51 false (fun K_52 H_53 =>
 K_52 a0 H_53) (fun t26_54 H_55 =>
 aGuardK t24_51 false (fun K_56 H_57 =>
 bnd (aBin .eql .no t26_54 (.int .i64 96)) fun t27_58 =>
 K_56 t27_58 H_57) (fun t27_59 H_60 =>
 bnd (aPick t24_51 (.bool true) t27_59) fun t28_61 =>
 aGuardK t28_61 false (fun K_62 H_63 =>
 K_62 a0 H_63) (fun t30_64 H_65 =>
 aGuardK t28_61 false (fun K_66 H_67 =>
 bnd (aBin .eql .no t30_64 (.int .i64 44)) fun t31_68 =>
 K_66 t31_68 H_67) (fun t31_69 H_70 =>
 bnd (aPick t28_61 (.bool true) t31_69) fun t32_71 =>
 R t32_71 H_70) H_65) H_60) H_55) H_50) H_45) H_40) H_35) H_30) H_25) H_20) H_15) H_10) H_5) H_1
def S19 (a0 : Value) (H : AHeap) (R : Value → AHeap → Prop) : Prop :=
 ACalls Tryd.prog 17 [a0] H fun t4_0 H_1 =>
 (S19_72 a0 R t4_0 H_1)
theorem S19_calls {a0 : Value} {H : AHeap} {R : Value → AHeap → Prop} (h : S19 a0 H R) : ACalls Tryd.prog 19 [a0] H R :=
  have e : S19 a0 H R = awpFn Tryd.prog (Tryd.f19.body.getD .skip) Tryd.f19.results.toList ann19 [a0] H R := by kernel_rfl
  calls_of_awp (fn := Tryd.f19) (c := Tryd.f19.body.getD .skip) (an := ann19) (by kernel_rfl) Tryd.func19 (by kernel_rfl) (by kernel_rfl) (of_decide_eq_true (by kernel_rfl)) (e ▸ h)

/-- 20: marginalia/utf.Encode -/
def ann20 : Ann := (.two .leaf (.two .leaf (.two (.two .leaf (.one (.loop [4, 9] [2, 3, 4, 6, 9, 10, 11, 12, 13, 14, 15, 16, 17, 18, 19, 20] (.two .leaf (.two (.two .leaf .leaf) (.two (.one (.two .leaf (.two (.two .leaf (.two (.two .leaf .leaf) .leaf)) .leaf))) .leaf)))))) (.two .leaf .leaf))))
def S20_14 (a0 : Value) (R : Value → AHeap → Prop) (vs_1 : List Value) (H_2 : AHeap) (again_3 : List Value → AHeap → Prop) : Prop :=
 bnd (aIdxAddr 1 a0 (nth vs_1 1)) fun t11_5 =>
 bnd (aLdCell t11_5 H_2) fun t12_6 =>
 ACalls Tryd.prog 14 [t12_6] H_2 fun t14_7 H_8 =>
 bnd (aUn .not t14_7) fun t15_9 =>
 aCond t15_9 (
 R (.tuple #[(.slice none 0 0), (.int .i64 1)]) H_8) (
 bnd (aConvInt .i32 t12_6) fun t18_10 =>
 ACalls Tryd.prog 30 [(nth vs_1 0), t18_10] H_8 fun t19_11 H_12 =>
 bnd (aBin .add .no (nth vs_1 1) (.int .i64 1)) fun t20_13 =>
 again_3 [t19_11, t20_13] H_12)
def S20_15 (a0 : Value) (R : Value → AHeap → Prop) (t8_0 : Value) (vs_1 : List Value) (H_2 : AHeap) (again_3 : List Value → AHeap → Prop) : Prop :=
 bnd (aBin .lss .no (nth vs_1 1) t8_0) fun t10_4 =>
 aCond t10_4 (
 (S20_14 a0 R vs_1 H_2 again_3)) (
 R (.tuple #[(nth vs_1 0), (.int .i64 0)]) H_2)
def S20 (a0 : Value) (H : AHeap) (R : Value → AHeap → Prop) : Prop :=
 bnd (aLenSl a0) fun t8_0 =>
 aLoop [(.slice none 0 0), (.int .i64 0)] H fun vs_1 H_2 again_3 =>
 (S20_15 a0 R t8_0 vs_1 H_2 again_3)
theorem S20_calls {a0 : Value} {H : AHeap} {R : Value → AHeap → Prop} (h : S20 a0 H R) : ACalls Tryd.prog 20 [a0] H R :=
  have e : S20 a0 H R = awpFn Tryd.prog (Tryd.f20.body.getD .skip) Tryd.f20.results.toList ann20 [a0] H R := by kernel_rfl
  calls_of_awp (fn := Tryd.f20) (c := Tryd.f20.body.getD .skip) (an := ann20) (by kernel_rfl) Tryd.func20 (by kernel_rfl) (by kernel_rfl) (of_decide_eq_true (by kernel_rfl)) (e ▸ h)

/-- 21: marginalia/marginaliaref02.Encode -/
def ann21 : Ann := (.two .leaf (.two .leaf (.two (.two .leaf (.one (.loop [4, 5] [2, 3, 4, 5, 6, 7, 8, 9, 10, 11, 12, 13, 14, 15, 16, 17, 18, 19, 20, 21, 22, 23, 24] (.two (.two .leaf (.two .leaf .leaf)) (.two (.one (.two (.two .leaf (.two (.two .leaf .leaf) .leaf)) .leaf)) .leaf))))) (.two .leaf .leaf))))
def S21_17 (a0 : Value) (vs_0 : List Value) (again_2 : List Value → AHeap → Prop) (H_8 : AHeap) : Prop :=
 bnd (aIdxAddr 1 a0 (nth vs_0 1)) fun t21_10 =>
 bnd (aLdCell t21_10 H_8) fun t22_11 =>
 ACalls Tryd.prog 31 [t22_11] H_8 fun t23_12 H_13 =>
 aAppend 1 1 5 (nth vs_0 0) t23_12 H_13 fun t24_14 H_15 =>
 bnd (aBin .add .no (nth vs_0 1) (.int .i64 1)) fun t11_16 =>
 again_2 [t24_14, t11_16] H_15
def S21_18 (a0 : Value) (R : Value → AHeap → Prop) (vs_0 : List Value) (H_1 : AHeap) (again_2 : List Value → AHeap → Prop) : Prop :=
 bnd (aIdxAddr 1 a0 (nth vs_0 1)) fun t14_5 =>
 bnd (aLdCell t14_5 H_1) fun t15_6 =>
 ACalls Tryd.prog 15 [t15_6] H_1 fun t16_7 H_8 =>
 bnd (aUn .not t16_7) fun t17_9 =>
 aCond t17_9 (
 R (.tuple #[(.slice none 0 0), (.int .i64 1)]) H_8) (
 (S21_17 a0 vs_0 again_2 H_8))
def S21_19 (a0 : Value) (R : Value → AHeap → Prop) (vs_0 : List Value) (H_1 : AHeap) (again_2 : List Value → AHeap → Prop) : Prop :=
 bnd (aLenSl a0) fun t8_3 =>
 bnd (aBin .lss .no (nth vs_0 1) t8_3) fun t9_4 =>
 aCond t9_4 (
 (S21_18 a0 R vs_0 H_1 again_2)) (
 R (.tuple #[(nth vs_0 0), (.int .i64 0)]) H_1)
def S21 (a0 : Value) (H : AHeap) (R : Value → AHeap → Prop) : Prop :=
 aLoop [(.slice none 0 0), (.int .i64 0)] H fun vs_0 H_1 again_2 =>
 (S21_19 a0 R vs_0 H_1 again_2)
theorem S21_calls {a0 : Value} {H : AHeap} {R : Value → AHeap → Prop} (h : S21 a0 H R) : ACalls Tryd.prog 21 [a0] H R :=
  have e : S21 a0 H R = awpFn Tryd.prog (Tryd.f21.body.getD .skip) Tryd.f21.results.toList ann21 [a0] H R := by kernel_rfl
  calls_of_awp (fn := Tryd.f21) (c := Tryd.f21.body.getD .skip) (an := ann21) (by kernel_rfl) Tryd.func21 (by kernel_rfl) (by kernel_rfl) (of_decide_eq_true (by kernel_rfl)) (e ▸ h)

/-- 26: unicode/utf8.DecodeRune -/
def ann26 : Ann := (.two .leaf (.join [] [2, 3, 5, 6, 7, 8, 9, 10, 11, 12, 13, 14, 15, 16] (.two .leaf (.one (.loop [8] [2, 3, 5, 8, 9, 10, 11, 12, 13, 14, 15, 16] (.two .leaf (.two (.two .leaf .leaf) (.two (.one (.two .leaf (.two (.two .leaf (.two (.two .leaf .leaf) .leaf)) .leaf))) .leaf)))))) (.two .leaf .leaf)))
def S26_16 (a0 : Value) (R : Value → AHeap → Prop) (J_2 : List Value → AHeap → Prop) (vs_8 : List Value) (H_9 : AHeap) : Prop :=
 bnd (aIdxAddr 1 a0 (nth vs_8 0)) fun t10_12 =>
 bnd (aLdCell t10_12 H_9) fun t11_13 =>
 bnd (aBin .lss .no t11_13 (.int .u8 128)) fun t13_14 =>
 aCond t13_14 (
 bnd (aConvInt .i32 t11_13) fun t15_15 =>
 R (.tuple #[t15_15, (.int .i64 1)]) H_9) (
 J_2 [] H_9)
def S26_17 (a0 : Value) (R : Value → AHeap → Prop) (J_2 : List Value → AHeap → Prop) (t7_7 : Value) (vs_8 : List Value) (H_9 : AHeap) : Prop :=
 bnd (aBin .lss .no (nth vs_8 0) t7_7) fun t9_11 =>
 aCond t9_11 (
 (S26_16 a0 R J_2 vs_8 H_9)) (
 J_2 [] H_9)
def S26 (a0 : Value) (H : AHeap) (R : Value → AHeap → Prop) : Prop :=
 aJoin (fun vs_0 H_1 =>
 ACalls Tryd.prog 39 [a0] H_1 fun t19_3 H_4 =>
 bnd (aExtract t19_3 0) fun t20_5 =>
 bnd (aExtract t19_3 1) fun t21_6 =>
 R (.tuple #[t20_5, t21_6]) H_4) fun J_2 =>
 bnd (aLenSl a0) fun t7_7 =>
 aLoop [(.int .i64 0)] H fun vs_8 H_9 again_10 =>
 (S26_17 a0 R J_2 t7_7 vs_8 H_9)
theorem S26_calls {a0 : Value} {H : AHeap} {R : Value → AHeap → Prop} (h : S26 a0 H R) : ACalls Tryd.prog 26 [a0] H R :=
  have e : S26 a0 H R = awpFn Tryd.prog (Tryd.f26.body.getD .skip) Tryd.f26.results.toList ann26 [a0] H R := by kernel_rfl
  calls_of_awp (fn := Tryd.f26) (c := Tryd.f26.body.getD .skip) (an := ann26) (by kernel_rfl) Tryd.func26 (by kernel_rfl) (by kernel_rfl) (of_decide_eq_true (by kernel_rfl)) (e ▸ h)

/-- 27: marginalia/marginaliaref02.one -/
def ann27 : Ann := (.two .leaf (.two .leaf (.two .leaf (.join [6, 7] [4, 5, 6, 7, 15, 16, 17, 18, 19, 20, 21, 22, 23, 24, 25, 26, 27, 28, 29, 30, 31, 32, 33, 34, 35, 36, 37, 38, 39, 40, 41, 42, 43, 44] (.one (.two .leaf (.two (.two .leaf .leaf) (.two .leaf (.two (.two .leaf .leaf) (.two .leaf (.two (.two .leaf .leaf) (.two .leaf (.two (.two .leaf .leaf) .leaf))))))))) (.two (.two .leaf (.two (.two .leaf .leaf) .leaf)) (.two (.two .leaf (.one (.loop [6, 8] [4, 5, 6, 8, 9, 51, 52, 53, 54, 55, 56, 57, 58, 59, 60, 61, 62, 63, 64, 65, 66, 67, 68, 69, 70, 71, 72, 73] (.two (.two .leaf (.two .leaf .leaf)) (.two (.one (.two .leaf (.two (.two .leaf (.two (.two .leaf .leaf) .leaf)) .leaf))) .leaf))))) (.two (.two .leaf (.two (.two .leaf .leaf) .leaf)) (.two .leaf .leaf))))))))
def S27_32 (vs_9 : List Value) (again_11 : List Value → AHeap → Prop) (t62_16 : Value) (H_26 : AHeap) : Prop :=
 bnd (aBin .mul .no (nth vs_9 0) (.int .i64 64)) fun t70_28 =>
 bnd (aBin .add .no t70_28 t62_16) fun t72_29 =>
 bnd (aBin .sub .no t72_29 (.int .i64 128)) fun t73_30 =>
 bnd (aBin .add .no (nth vs_9 1) (.int .i64 1)) fun t55_31 =>
 again_11 [t73_30, t55_31] H_26
def S27_33 (a0 : Value) (a1 : Value) (R : Value → AHeap → Prop) (vs_9 : List Value) (H_10 : AHeap) (again_11 : List Value → AHeap → Prop) : Prop :=
 bnd (aBin .add .no a1 (nth vs_9 1)) fun t59_13 =>
 bnd (aIdxAddr 1 a0 t59_13) fun t60_14 =>
 bnd (aLdCell t60_14 H_10) fun t61_15 =>
 bnd (aConvInt .i64 t61_15) fun t62_16 =>
 bnd (aBin .lss .no t62_16 (.int .i64 128)) fun t64_17 =>
 aGuardK t64_17 false (fun K_18 H_19 =>
 K_18 t62_16 H_19) (fun t66_20 H_21 =>
 aGuardK t64_17 false (fun K_22 H_23 =>
 bnd (aBin .geq .no t66_20 (.int .i64 192)) fun t67_24 =>
 K_22 t67_24 H_23) (fun t67_25 H_26 =>
 bnd (aPick t64_17 (.bool true) t67_25) fun t68_27 =>
 aCond t68_27 (
 R (.tuple #[(.int .i64 0), (.int .i64 0)]) H_26) (
 (S27_32 vs_9 again_11 t62_16 H_26))) H_21) H_10
def S27_62 (R : Value → AHeap → Prop) (vs_3 : List Value) (vs_9 : List Value) (t75_34 : Value) (H_35 : AHeap) : Prop :=
 bnd (aUn .not t75_34) fun t76_36 =>
 aGuardK t76_36 false (fun K_37 H_38 =>
 K_37 (nth vs_9 0) H_38) (fun t78_39 H_40 =>
 aGuardK t76_36 false (fun K_41 H_42 =>
 ACalls Tryd.prog 31 [t78_39] H_42 fun t79_43 H_44 =>
 K_41 t79_43 H_44) (fun t79_45 H_46 =>
 aGuardK t76_36 false (fun K_47 H_48 =>
 bnd (aLenSl t79_45) fun t80_49 =>
 K_47 t80_49 H_48) (fun t80_50 H_51 =>
 aGuardK t76_36 false (fun K_52 H_53 =>
 K_52 (nth vs_3 1) H_53) (fun t81_54 H_55 =>
 aGuardK t76_36 false (fun K_56 H_57 =>
 bnd (aBin .neq .no t80_50 t81_54) fun t82_58 =>
 K_56 t82_58 H_57) (fun t82_59 H_60 =>
 bnd (aPick t76_36 (.bool true) t82_59) fun t83_61 =>
 aCond t83_61 (
 R (.tuple #[(.int .i64 0), (.int .i64 0)]) H_60) (
 R (.tuple #[(nth vs_9 0), (nth vs_3 1)]) H_60)) H_55) H_51) H_46) H_40) H_35
def S27_63 (a0 : Value) (a1 : Value) (R : Value → AHeap → Prop) (vs_3 : List Value) (vs_9 : List Value) (H_10 : AHeap) (again_11 : List Value → AHeap → Prop) : Prop :=
 bnd (aBin .lss .no (nth vs_9 1) (nth vs_3 1)) fun t53_12 =>
 aCond t53_12 (
 (S27_33 a0 a1 R vs_9 H_10 again_11)) (
 ACalls Tryd.prog 15 [(nth vs_9 0)] H_10 fun t75_34 H_35 =>
 (S27_62 R vs_3 vs_9 t75_34 H_35))
def S27_101 (R : Value → AHeap → Prop) (t14_2 : Value) (J_5 : List Value → AHeap → Prop) (H_85 : AHeap) : Prop :=
 bnd (aBin .geq .no t14_2 (.int .i64 192)) fun t35_88 =>
 aGuardK t35_88 true (fun K_89 H_90 =>
 K_89 t14_2 H_90) (fun t37_91 H_92 =>
 aGuardK t35_88 true (fun K_93 H_94 =>
 bnd (aBin .lss .no t37_91 (.int .i64 224)) fun t38_95 =>
 K_93 t38_95 H_94) (fun t38_96 H_97 =>
 bnd (aPick t35_88 t38_96 (.bool false)) fun t39_98 =>
 aCond t39_98 (
 bnd (aBin .sub .no t14_2 (.int .i64 192)) fun t41_99 =>
 J_5 [t41_99, (.int .i64 2)] H_97) (
 bnd (aBin .geq .no t14_2 (.int .i64 128)) fun t44_100 =>
 aCond t44_100 (
 R (.tuple #[(.int .i64 0), (.int .i64 0)]) H_97) (
 J_5 [t14_2, (.int .i64 1)] H_97))) H_92) H_85
def S27_102 (R : Value → AHeap → Prop) (t14_2 : Value) (J_5 : List Value → AHeap → Prop) (H_73 : AHeap) : Prop :=
 bnd (aBin .geq .no t14_2 (.int .i64 224)) fun t26_76 =>
 aGuardK t26_76 true (fun K_77 H_78 =>
 K_77 t14_2 H_78) (fun t28_79 H_80 =>
 aGuardK t26_76 true (fun K_81 H_82 =>
 bnd (aBin .lss .no t28_79 (.int .i64 240)) fun t29_83 =>
 K_81 t29_83 H_82) (fun t29_84 H_85 =>
 bnd (aPick t26_76 t29_84 (.bool false)) fun t30_86 =>
 aCond t30_86 (
 bnd (aBin .sub .no t14_2 (.int .i64 224)) fun t32_87 =>
 J_5 [t32_87, (.int .i64 3)] H_85) (
 (S27_101 R t14_2 J_5 H_85))) H_80) H_73
def S27_103 (a0 : Value) (a1 : Value) (R : Value → AHeap → Prop) (vs_3 : List Value) (H_4 : AHeap) : Prop :=
 bnd (aBin .add .no a1 (nth vs_3 1)) fun t47_6 =>
 bnd (aLenSl a0) fun t49_7 =>
 bnd (aBin .gtr .no t47_6 t49_7) fun t50_8 =>
 aCond t50_8 (
 R (.tuple #[(.int .i64 0), (.int .i64 0)]) H_4) (
 aLoop [(nth vs_3 0), (.int .i64 1)] H_4 fun vs_9 H_10 again_11 =>
 (S27_63 a0 a1 R vs_3 vs_9 H_10 again_11))
def S27 (a0 : Value) (a1 : Value) (H : AHeap) (R : Value → AHeap → Prop) : Prop :=
 bnd (aIdxAddr 1 a0 a1) fun t12_0 =>
 bnd (aLdCell t12_0 H) fun t13_1 =>
 bnd (aConvInt .i64 t13_1) fun t14_2 =>
 aJoin (fun vs_3 H_4 =>
 (S27_103 a0 a1 R vs_3 H_4)) fun J_5 =>
 bnd (aBin .geq .no t14_2 (.int .i64 240)) fun t17_64 =>
 aGuardK t17_64 true (fun K_65 H_66 =>
 K_65 t14_2 H_66) (fun t19_67 H_68 =>
 aGuardK t17_64 true (fun K_69 H_70 =>
 bnd (aBin .lss .no t19_67 (.int .i64 248)) fun t20_71 =>
 K_69 t20_71 H_70) (fun t20_72 H_73 =>
 bnd (aPick t17_64 t20_72 (.bool false)) fun t21_74 =>
 aCond t21_74 (
 bnd (aBin .sub .no t14_2 (.int .i64 240)) fun t23_75 =>
 J_5 [t23_75, (.int .i64 4)] H_73) (
 (S27_102 R t14_2 J_5 H_73))) H_68) H
theorem S27_calls {a0 a1 : Value} {H : AHeap} {R : Value → AHeap → Prop} (h : S27 a0 a1 H R) : ACalls Tryd.prog 27 [a0, a1] H R :=
  have e : S27 a0 a1 H R = awpFn Tryd.prog (Tryd.f27.body.getD .skip) Tryd.f27.results.toList ann27 [a0, a1] H R := by kernel_rfl
  calls_of_awp (fn := Tryd.f27) (c := Tryd.f27.body.getD .skip) (an := ann27) (by kernel_rfl) Tryd.func27 (by kernel_rfl) (by kernel_rfl) (of_decide_eq_true (by kernel_rfl)) (e ▸ h)

/-- 28: unicode/utf8.ValidRune -/
def ann28 : Ann := (.two .leaf (.two (.one (.two .leaf (.two (.two .leaf .leaf) (.two .leaf (.two (.two .leaf .leaf) .leaf))))) (.two .leaf .leaf)))
def S28_22 (a0 : Value) (R : Value → AHeap → Prop) (H_9 : AHeap) : Prop :=
 bnd (aBin .lss .no (.int .i32 57343) a0) fun t12_11 =>
 aGuardK t12_11 true (fun K_12 H_13 =>
 K_12 a0 H_13) (fun t14_14 H_15 =>
 aGuardK t12_11 true (fun K_16 H_17 =>
 bnd (aBin .leq .no t14_14 (.int .i32 1114111)) fun t15_18 =>
 K_16 t15_18 H_17) (fun t15_19 H_20 =>
 bnd (aPick t12_11 t15_19 (.bool false)) fun t16_21 =>
 aCond t16_21 (
 R (.bool true) H_20) (
 R (.bool false) H_20)) H_15) H_9
def S28 (a0 : Value) (H : AHeap) (R : Value → AHeap → Prop) : Prop :=
 bnd (aBin .leq .no (.int .i32 0) a0) fun t5_0 =>
 aGuardK t5_0 true (fun K_1 H_2 =>
 K_1 a0 H_2) (fun t7_3 H_4 =>
 aGuardK t5_0 true (fun K_5 H_6 =>
 bnd (aBin .lss .no t7_3 (.int .i32 55296)) fun t8_7 =>
 K_5 t8_7 H_6) (fun t8_8 H_9 =>
 bnd (aPick t5_0 t8_8 (.bool false)) fun t9_10 =>
 aCond t9_10 (
 R (.bool true) H_9) (
 (S28_22 a0 R H_9))) H_4) H
theorem S28_calls {a0 : Value} {H : AHeap} {R : Value → AHeap → Prop} (h : S28 a0 H R) : ACalls Tryd.prog 28 [a0] H R :=
  have e : S28 a0 H R = awpFn Tryd.prog (Tryd.f28.body.getD .skip) Tryd.f28.results.toList ann28 [a0] H R := by kernel_rfl
  calls_of_awp (fn := Tryd.f28) (c := Tryd.f28.body.getD .skip) (an := ann28) (by kernel_rfl) Tryd.func28 (by kernel_rfl) (by kernel_rfl) (of_decide_eq_true (by kernel_rfl)) (e ▸ h)

/-- 30: unicode/utf8.AppendRune -/
def ann30 : Ann := (.two .leaf (.two (.two .leaf (.two (.two .leaf .leaf) .leaf)) (.two .leaf .leaf)))
def S30 (a0 : Value) (a1 : Value) (H : AHeap) (R : Value → AHeap → Prop) : Prop :=
 bnd (aConvInt .u32 a1) fun t6_0 =>
 bnd (aBin .leq .no t6_0 (.int .u32 127)) fun t7_1 =>
 aCond t7_1 (
 bnd (aConvInt .u8 a1) fun t10_2 =>
 aBuildSlice 1 1 5 [(.int .u8 0)] [(0, 1, t10_2)] H fun t11_3 H_4 =>
 aAppend 1 1 5 a0 t11_3 H_4 fun t12_5 H_6 =>
 R t12_5 H_6) (
 ACalls Tryd.prog 41 [a0, a1] H fun t15_7 H_8 =>
 R t15_7 H_8)
theorem S30_calls {a0 a1 : Value} {H : AHeap} {R : Value → AHeap → Prop} (h : S30 a0 a1 H R) : ACalls Tryd.prog 30 [a0, a1] H R :=
  have e : S30 a0 a1 H R = awpFn Tryd.prog (Tryd.f30.body.getD .skip) Tryd.f30.results.toList ann30 [a0, a1] H R := by kernel_rfl
  calls_of_awp (fn := Tryd.f30) (c := Tryd.f30.body.getD .skip) (an := ann30) (by kernel_rfl) Tryd.func30 (by kernel_rfl) (by kernel_rfl) (of_decide_eq_true (by kernel_rfl)) (e ▸ h)

/-- 31: marginalia/marginaliaref02.Bytes -/
def ann31 : Ann := (.two .leaf (.two (.two .leaf (.two (.two .leaf .leaf) .leaf)) (.two (.two .leaf (.two (.two .leaf .leaf) .leaf)) (.two (.two .leaf (.two (.two .leaf .leaf) .leaf)) (.two .leaf .leaf)))))
def S31_13 (a0 : Value) (H : AHeap) (R : Value → AHeap → Prop) : Prop :=
 bnd (aBin .quo .no a0 (.int .i64 64)) fun t11_5 =>
 bnd (aBin .add .no (.int .i64 192) t11_5) fun t12_6 =>
 bnd (aConvInt .u8 t12_6) fun t13_7 =>
 bnd (aBin .rem .no a0 (.int .i64 64)) fun t15_8 =>
 bnd (aBin .add .no (.int .i64 128) t15_8) fun t16_9 =>
 bnd (aConvInt .u8 t16_9) fun t17_10 =>
 aBuildSlice 1 2 5 [(.int .u8 0)] [(0, 1, t13_7), (1, 1, t17_10)] H fun t18_11 H_12 =>
 R t18_11 H_12
def S31_27 (a0 : Value) (H : AHeap) (R : Value → AHeap → Prop) : Prop :=
 bnd (aBin .quo .no a0 (.int .i64 4096)) fun t22_15 =>
 bnd (aBin .add .no (.int .i64 224) t22_15) fun t23_16 =>
 bnd (aConvInt .u8 t23_16) fun t24_17 =>
 bnd (aBin .quo .no a0 (.int .i64 64)) fun t26_18 =>
 bnd (aBin .rem .no t26_18 (.int .i64 64)) fun t27_19 =>
 bnd (aBin .add .no (.int .i64 128) t27_19) fun t28_20 =>
 bnd (aConvInt .u8 t28_20) fun t29_21 =>
 bnd (aBin .rem .no a0 (.int .i64 64)) fun t31_22 =>
 bnd (aBin .add .no (.int .i64 128) t31_22) fun t32_23 =>
 bnd (aConvInt .u8 t32_23) fun t33_24 =>
 aBuildSlice 1 3 5 [(.int .u8 0)] [(0, 1, t24_17), (1, 1, t29_21), (2, 1, t33_24)] H fun t34_25 H_26 =>
 R t34_25 H_26
def S31_44 (a0 : Value) (H : AHeap) (R : Value → AHeap → Prop) : Prop :=
 bnd (aBin .quo .no a0 (.int .i64 262144)) fun t36_28 =>
 bnd (aBin .add .no (.int .i64 240) t36_28) fun t37_29 =>
 bnd (aConvInt .u8 t37_29) fun t38_30 =>
 bnd (aBin .quo .no a0 (.int .i64 4096)) fun t40_31 =>
 bnd (aBin .rem .no t40_31 (.int .i64 64)) fun t41_32 =>
 bnd (aBin .add .no (.int .i64 128) t41_32) fun t42_33 =>
 bnd (aConvInt .u8 t42_33) fun t43_34 =>
 bnd (aBin .quo .no a0 (.int .i64 64)) fun t45_35 =>
 bnd (aBin .rem .no t45_35 (.int .i64 64)) fun t46_36 =>
 bnd (aBin .add .no (.int .i64 128) t46_36) fun t47_37 =>
 bnd (aConvInt .u8 t47_37) fun t48_38 =>
 bnd (aBin .rem .no a0 (.int .i64 64)) fun t50_39 =>
 bnd (aBin .add .no (.int .i64 128) t50_39) fun t51_40 =>
 bnd (aConvInt .u8 t51_40) fun t52_41 =>
 aBuildSlice 1 4 5 [(.int .u8 0)] [(0, 1, t38_30), (1, 1, t43_34), (2, 1, t48_38), (3, 1, t52_41)] H fun t53_42 H_43 =>
 R t53_42 H_43
def S31 (a0 : Value) (H : AHeap) (R : Value → AHeap → Prop) : Prop :=
 bnd (aBin .lss .no a0 (.int .i64 128)) fun t4_0 =>
 aCond t4_0 (
 bnd (aConvInt .u8 a0) fun t6_1 =>
 aBuildSlice 1 1 5 [(.int .u8 0)] [(0, 1, t6_1)] H fun t7_2 H_3 =>
 R t7_2 H_3) (
 bnd (aBin .lss .no a0 (.int .i64 2048)) fun t9_4 =>
 aCond t9_4 (
 (S31_13 a0 H R)) (
 bnd (aBin .lss .no a0 (.int .i64 65536)) fun t20_14 =>
 aCond t20_14 (
 (S31_27 a0 H R)) (
 (S31_44 a0 H R))))
theorem S31_calls {a0 : Value} {H : AHeap} {R : Value → AHeap → Prop} (h : S31 a0 H R) : ACalls Tryd.prog 31 [a0] H R :=
  have e : S31 a0 H R = awpFn Tryd.prog (Tryd.f31.body.getD .skip) Tryd.f31.results.toList ann31 [a0] H R := by kernel_rfl
  calls_of_awp (fn := Tryd.f31) (c := Tryd.f31.body.getD .skip) (an := ann31) (by kernel_rfl) Tryd.func31 (by kernel_rfl) (by kernel_rfl) (of_decide_eq_true (by kernel_rfl)) (e ▸ h)

/-- 39: unicode/utf8.decodeRuneSlow -/
def ann39 : Ann := (.two .leaf (.two .leaf (.two (.two .leaf (.two (.two .leaf .leaf) .leaf)) (.two .leaf (.two .leaf (.two (.two .leaf (.two (.two .leaf (.two .leaf .leaf)) .leaf)) (.two .leaf (.two .leaf (.two (.two .leaf (.two (.two .leaf .leaf) .leaf)) (.two .leaf (.two (.two .leaf (.two (.two .leaf .leaf) .leaf)) (.two (.two .leaf (.two (.two .leaf .leaf) .leaf)) (.two .leaf (.two (.two .leaf (.two (.two .leaf .leaf) .leaf)) (.two (.two .leaf (.two (.two .leaf .leaf) .leaf)) (.two .leaf (.two (.two .leaf (.two (.two .leaf .leaf) .leaf)) (.two .leaf .leaf))))))))))))))))))
def S39_16 (a0 : Value) (H : AHeap) (R : Value → AHeap → Prop) (t22_5 : Value) : Prop :=
 bnd (aConvInt .i32 t22_5) fun t26_7 =>
 bnd (aBin .shl .no t26_7 (.int .u64 31)) fun t27_8 =>
 bnd (aBin .shr .no t27_8 (.int .u64 31)) fun t28_9 =>
 bnd (aIdxAddr 1 a0 (.int .i64 0)) fun t30_10 =>
 bnd (aLdCell t30_10 H) fun t31_11 =>
 bnd (aConvInt .i32 t31_11) fun t32_12 =>
 bnd (aBin .andNot .no t32_12 t28_9) fun t34_13 =>
 bnd (aBin .and .no (.int .i32 65533) t28_9) fun t36_14 =>
 bnd (aBin .or .no t34_13 t36_14) fun t37_15 =>
 R (.tuple #[t37_15, (.int .i64 1)]) H
def S39_58 (R : Value → AHeap → Prop) (t19_3 : Value) (t50_27 : Value) (H_49 : AHeap) : Prop :=
 bnd (aBin .and .no t19_3 (.int .u8 31)) fun t64_52 =>
 bnd (aConvInt .i32 t64_52) fun t65_53 =>
 bnd (aBin .shl .no t65_53 (.int .u64 6)) fun t66_54 =>
 bnd (aBin .and .no t50_27 (.int .u8 63)) fun t68_55 =>
 bnd (aConvInt .i32 t68_55) fun t69_56 =>
 bnd (aBin .or .no t66_54 t69_56) fun t70_57 =>
 R (.tuple #[t70_57, (.int .i64 2)]) H_49
def S39_83 (R : Value → AHeap → Prop) (t19_3 : Value) (t50_27 : Value) (t73_60 : Value) (H_70 : AHeap) : Prop :=
 bnd (aBin .and .no t19_3 (.int .u8 15)) fun t83_73 =>
 bnd (aConvInt .i32 t83_73) fun t84_74 =>
 bnd (aBin .shl .no t84_74 (.int .u64 12)) fun t85_75 =>
 bnd (aBin .and .no t50_27 (.int .u8 63)) fun t87_76 =>
 bnd (aConvInt .i32 t87_76) fun t88_77 =>
 bnd (aBin .shl .no t88_77 (.int .u64 6)) fun t89_78 =>
 bnd (aBin .or .no t85_75 t89_78) fun t90_79 =>
 bnd (aBin .and .no t73_60 (.int .u8 63)) fun t92_80 =>
 bnd (aConvInt .i32 t92_80) fun t93_81 =>
 bnd (aBin .or .no t90_79 t93_81) fun t94_82 =>
 R (.tuple #[t94_82, (.int .i64 3)]) H_70
def S39_111 (R : Value → AHeap → Prop) (t19_3 : Value) (t50_27 : Value) (t73_60 : Value) (t97_85 : Value) (H_95 : AHeap) : Prop :=
 bnd (aBin .and .no t19_3 (.int .u8 7)) fun t105_97 =>
 bnd (aConvInt .i32 t105_97) fun t106_98 =>
 bnd (aBin .shl .no t106_98 (.int .u64 18)) fun t107_99 =>
 bnd (aBin .and .no t50_27 (.int .u8 63)) fun t109_100 =>
 bnd (aConvInt .i32 t109_100) fun t110_101 =>
 bnd (aBin .shl .no t110_101 (.int .u64 12)) fun t111_102 =>
 bnd (aBin .or .no t107_99 t111_102) fun t112_103 =>
 bnd (aBin .and .no t73_60 (.int .u8 63)) fun t114_104 =>
 bnd (aConvInt .i32 t114_104) fun t115_105 =>
 bnd (aBin .shl .no t115_105 (.int .u64 6)) fun t116_106 =>
 bnd (aBin .or .no t112_103 t116_106) fun t117_107 =>
 bnd (aBin .and .no t97_85 (.int .u8 63)) fun t119_108 =>
 bnd (aConvInt .i32 t119_108) fun t120_109 =>
 bnd (aBin .or .no t117_107 t120_109) fun t121_110 =>
 R (.tuple #[t121_110, (.int .i64 4)]) H_95
def S39_112 (a0 : Value) (R : Value → AHeap → Prop) (t19_3 : Value) (t50_27 : Value) (t73_60 : Value) (H_70 : AHeap) : Prop :=
 bnd (aIdxAddr 1 a0 (.int .i64 3)) fun t96_84 =>
 bnd (aLdCell t96_84 H_70) fun t97_85 =>
 bnd (aBin .lss .no t97_85 (.int .u8 128)) fun t99_86 =>
 aGuardK t99_86 false (fun K_87 H_88 =>
 K_87 t97_85 H_88) (fun t101_89 H_90 =>
 aGuardK t99_86 false (fun K_91 H_92 =>
 bnd (aBin .lss .no (.int .u8 191) t101_89) fun t102_93 =>
 K_91 t102_93 H_92) (fun t102_94 H_95 =>
 bnd (aPick t99_86 (.bool true) t102_94) fun t103_96 =>
 aCond t103_96 (
 R (.tuple #[(.int .i32 65533), (.int .i64 1)]) H_95) (
 (S39_111 R t19_3 t50_27 t73_60 t97_85 H_95))) H_90) H_70
def S39_113 (a0 : Value) (R : Value → AHeap → Prop) (t19_3 : Value) (t40_18 : Value) (t50_27 : Value) (H_49 : AHeap) : Prop :=
 bnd (aIdxAddr 1 a0 (.int .i64 2)) fun t72_59 =>
 bnd (aLdCell t72_59 H_49) fun t73_60 =>
 bnd (aBin .lss .no t73_60 (.int .u8 128)) fun t75_61 =>
 aGuardK t75_61 false (fun K_62 H_63 =>
 K_62 t73_60 H_63) (fun t77_64 H_65 =>
 aGuardK t75_61 false (fun K_66 H_67 =>
 bnd (aBin .lss .no (.int .u8 191) t77_64) fun t78_68 =>
 K_66 t78_68 H_67) (fun t78_69 H_70 =>
 bnd (aPick t75_61 (.bool true) t78_69) fun t79_71 =>
 aCond t79_71 (
 R (.tuple #[(.int .i32 65533), (.int .i64 1)]) H_70) (
 bnd (aBin .leq .no t40_18 (.int .i64 3)) fun t81_72 =>
 aCond t81_72 (
 (S39_83 R t19_3 t50_27 t73_60 H_70)) (
 (S39_112 a0 R t19_3 t50_27 t73_60 H_70)))) H_65) H_49
def S39_114 (a0 : Value) (R : Value → AHeap → Prop) (t19_3 : Value) (t40_18 : Value) (t9_22 : Value) (H_24 : AHeap) : Prop :=
 bnd (aIdxAddr 1 a0 (.int .i64 1)) fun t49_26 =>
 bnd (aLdCell t49_26 H_24) fun t50_27 =>
 bnd (aAdd 0 t9_22) fun t52_28 =>
 bnd (aLdCell t52_28 H_24) fun t53_29 =>
 bnd (aBin .lss .no t50_27 t53_29) fun t54_30 =>
 aGuardK t54_30 false (fun K_31 H_32 =>
 bnd (aAdd 1 t9_22) fun t56_33 =>
 K_31 t56_33 H_32) (fun t56_34 H_35 =>
 aGuardK t54_30 false (fun K_36 H_37 =>
 bnd (aLdCell t56_34 H_37) fun t57_38 =>
 K_36 t57_38 H_37) (fun t57_39 H_40 =>
 aGuardK t54_30 false (fun K_41 H_42 =>
 K_41 t50_27 H_42) (fun t58_43 H_44 =>
 aGuardK t54_30 false (fun K_45 H_46 =>
 bnd (aBin .lss .no t57_39 t58_43) fun t59_47 =>
 K_45 t59_47 H_46) (fun t59_48 H_49 =>
 bnd (aPick t54_30 (.bool true) t59_48) fun t60_50 =>
 aCond t60_50 (
 R (.tuple #[(.int .i32 65533), (.int .i64 1)]) H_49) (
 bnd (aBin .leq .no t40_18 (.int .i64 2)) fun t62_51 =>
 aCond t62_51 (
 (S39_58 R t19_3 t50_27 H_49)) (
 (S39_113 a0 R t19_3 t40_18 t50_27 H_49)))) H_44) H_40) H_35) H_24
def S39_115 (a0 : Value) (H : AHeap) (R : Value → AHeap → Prop) (t14_0 : Value) (t19_3 : Value) (t22_5 : Value) : Prop :=
 bnd (aBin .and .no t22_5 (.int .u8 7)) fun t39_17 =>
 bnd (aConvInt .i64 t39_17) fun t40_18 =>
 bnd (aBin .shr .no t22_5 (.int .u64 4)) fun t42_19 =>
 bnd (aIdxAddrArr 16 2 (.pointer (some ⟨2, 0, none⟩)) t42_19) fun t43_20 =>
 bnd (aLdAgg 2 t43_20 H) fun t44_21 =>
 aAlloc [(.int .u8 0), (.int .u8 0)] 79 H fun t9_22 H_23 =>
 bnd (aSt 2 t9_22 t44_21 H_23) fun H_24 =>
 bnd (aBin .lss .no t14_0 t40_18) fun t47_25 =>
 aCond t47_25 (
 R (.tuple #[(.int .i32 65533), (.int .i64 1)]) H_24) (
 (S39_114 a0 R t19_3 t40_18 t9_22 H_24))
def S39_116 (a0 : Value) (H : AHeap) (R : Value → AHeap → Prop) (t14_0 : Value) : Prop :=
 bnd (aIdxAddr 1 a0 (.int .i64 0)) fun t18_2 =>
 bnd (aLdCell t18_2 H) fun t19_3 =>
 bnd (aIdxAddrArr 256 1 (.pointer (some ⟨1, 0, none⟩)) t19_3) fun t21_4 =>
 bnd (aLdCell t21_4 H) fun t22_5 =>
 bnd (aBin .geq .no t22_5 (.int .u8 240)) fun t24_6 =>
 aCond t24_6 (
 (S39_16 a0 H R t22_5)) (
 (S39_115 a0 H R t14_0 t19_3 t22_5))
def S39 (a0 : Value) (H : AHeap) (R : Value → AHeap → Prop) : Prop :=
 bnd (aLenSl a0) fun t14_0 =>
 bnd (aBin .lss .no t14_0 (.int .i64 1)) fun t16_1 =>
 aCond t16_1 (
 R (.tuple #[(.int .i32 65533), (.int .i64 0)]) H) (
 (S39_116 a0 H R t14_0))
theorem S39_calls {a0 : Value} {H : AHeap} {R : Value → AHeap → Prop} (h : S39 a0 H R) : ACalls Tryd.prog 39 [a0] H R :=
  have e : S39 a0 H R = awpFn Tryd.prog (Tryd.f39.body.getD .skip) Tryd.f39.results.toList ann39 [a0] H R := by kernel_rfl
  calls_of_awp (fn := Tryd.f39) (c := Tryd.f39.body.getD .skip) (an := ann39) (by kernel_rfl) Tryd.func39 (by kernel_rfl) (by kernel_rfl) (of_decide_eq_true (by kernel_rfl)) (e ▸ h)

/-- 41: unicode/utf8.appendRuneNonASCII -/
def ann41 : Ann := (.two .leaf (.two .leaf (.one (.two .leaf (.two (.two .leaf .leaf) (.join [25] [25, 26, 27, 28, 29, 30, 31, 32, 33] (.two .leaf (.two .leaf .leaf)) (.two (.two .leaf .leaf) (.two .leaf (.two (.two .leaf .leaf) (.two .leaf .leaf))))))))))
def S41_12 (a0 : Value) (a1 : Value) (H : AHeap) (R : Value → AHeap → Prop) : Prop :=
 bnd (aBin .shr .no a1 (.int .u64 6)) fun t16_2 =>
 bnd (aConvInt .u8 t16_2) fun t17_3 =>
 bnd (aBin .or .no (.int .u8 192) t17_3) fun t18_4 =>
 bnd (aConvInt .u8 a1) fun t20_5 =>
 bnd (aBin .and .no t20_5 (.int .u8 63)) fun t21_6 =>
 bnd (aBin .or .no (.int .u8 128) t21_6) fun t22_7 =>
 aBuildSlice 1 2 5 [(.int .u8 0)] [(0, 1, t18_4), (1, 1, t22_7)] H fun t23_8 H_9 =>
 aAppend 1 1 5 a0 t23_8 H_9 fun t24_10 H_11 =>
 R t24_10 H_11
def S41_30 (a0 : Value) (a1 : Value) (R : Value → AHeap → Prop) (H_14 : AHeap) : Prop :=
 bnd (aBin .shr .no a1 (.int .u64 12)) fun t36_16 =>
 bnd (aConvInt .u8 t36_16) fun t37_17 =>
 bnd (aBin .or .no (.int .u8 224) t37_17) fun t38_18 =>
 bnd (aBin .shr .no a1 (.int .u64 6)) fun t40_19 =>
 bnd (aConvInt .u8 t40_19) fun t41_20 =>
 bnd (aBin .and .no t41_20 (.int .u8 63)) fun t42_21 =>
 bnd (aBin .or .no (.int .u8 128) t42_21) fun t43_22 =>
 bnd (aConvInt .u8 a1) fun t45_23 =>
 bnd (aBin .and .no t45_23 (.int .u8 63)) fun t46_24 =>
 bnd (aBin .or .no (.int .u8 128) t46_24) fun t47_25 =>
 aBuildSlice 1 3 5 [(.int .u8 0)] [(0, 1, t38_18), (1, 1, t43_22), (2, 1, t47_25)] H_14 fun t48_26 H_27 =>
 aAppend 1 1 5 a0 t48_26 H_27 fun t49_28 H_29 =>
 R t49_28 H_29
def S41_60 (a0 : Value) (a1 : Value) (R : Value → AHeap → Prop) (H_40 : AHeap) : Prop :=
 bnd (aBin .shr .no a1 (.int .u64 18)) fun t59_42 =>
 bnd (aConvInt .u8 t59_42) fun t60_43 =>
 bnd (aBin .or .no (.int .u8 240) t60_43) fun t61_44 =>
 bnd (aBin .shr .no a1 (.int .u64 12)) fun t63_45 =>
 bnd (aConvInt .u8 t63_45) fun t64_46 =>
 bnd (aBin .and .no t64_46 (.int .u8 63)) fun t65_47 =>
 bnd (aBin .or .no (.int .u8 128) t65_47) fun t66_48 =>
 bnd (aBin .shr .no a1 (.int .u64 6)) fun t68_49 =>
 bnd (aConvInt .u8 t68_49) fun t69_50 =>
 bnd (aBin .and .no t69_50 (.int .u8 63)) fun t70_51 =>
 bnd (aBin .or .no (.int .u8 128) t70_51) fun t71_52 =>
 bnd (aConvInt .u8 a1) fun t73_53 =>
 bnd (aBin .and .no t73_53 (.int .u8 63)) fun t74_54 =>
 bnd (aBin .or .no (.int .u8 128) t74_54) fun t75_55 =>
 aBuildSlice 1 4 5 [(.int .u8 0)] [(0, 1, t61_44), (1, 1, t66_48), (2, 1, t71_52), (3, 1, t75_55)] H_40 fun t76_56 H_57 =>
 aAppend 1 1 5 a0 t76_56 H_57 fun t77_58 H_59 =>
 R t77_58 H_59
def S41_65 (a0 : Value) (a1 : Value) (R : Value → AHeap → Prop) (t7_0 : Value) (H_14 : AHeap) : Prop :=
 bnd (aBin .gtr .no t7_0 (.int .u32 65535)) fun t52_31 =>
 aGuardK t52_31 true (fun K_32 H_33 =>
 K_32 t7_0 H_33) (fun t54_34 H_35 =>
 aGuardK t52_31 true (fun K_36 H_37 =>
 bnd (aBin .leq .no t54_34 (.int .u32 1114111)) fun t55_38 =>
 K_36 t55_38 H_37) (fun t55_39 H_40 =>
 bnd (aPick t52_31 t55_39 (.bool false)) fun t56_41 =>
 aCond t56_41 (
 (S41_60 a0 a1 R H_40)) (
 aBuildSlice 1 3 5 [(.int .u8 0)] [(0, 1, (.int .u8 239)), (1, 1, (.int .u8 191)), (2, 1, (.int .u8 189))] H_40 fun t9_61 H_62 =>
 aAppend 1 1 5 a0 t9_61 H_62 fun t10_63 H_64 =>
 R t10_63 H_64)) H_35) H_14
def S41_78 (H : AHeap) (t7_0 : Value) (J_15 : List Value → AHeap → Prop) : Prop :=
 bnd (aBin .lss .no (.int .u32 57343) t7_0) fun t29_67 =>
 aGuardK t29_67 true (fun K_68 H_69 =>
 K_68 t7_0 H_69) (fun t31_70 H_71 =>
 aGuardK t29_67 true (fun K_72 H_73 =>
 bnd (aBin .leq .no t31_70 (.int .u32 65535)) fun t32_74 =>
 K_72 t32_74 H_73) (fun t32_75 H_76 =>
 bnd (aPick t29_67 t32_75 (.bool false)) fun t33_77 =>
 J_15 [t33_77] H_76) H_71) H
def S41 (a0 : Value) (a1 : Value) (H : AHeap) (R : Value → AHeap → Prop) : Prop :=
 bnd (aConvInt .u32 a1) fun t7_0 =>
 bnd (aBin .leq .no t7_0 (.int .u32 2047)) fun t13_1 =>
 aCond t13_1 (
 (S41_12 a0 a1 H R)) (
 aJoin (fun vs_13 H_14 =>
 aCond (nth vs_13 0) (
 (S41_30 a0 a1 R H_14)) (
 (S41_65 a0 a1 R t7_0 H_14))) fun J_15 =>
 bnd (aBin .lss .no t7_0 (.int .u32 55296)) fun t27_66 =>
 aCond t27_66 (
 J_15 [t27_66] H) (
 (S41_78 H t7_0 J_15)))
theorem S41_calls {a0 a1 : Value} {H : AHeap} {R : Value → AHeap → Prop} (h : S41 a0 a1 H R) : ACalls Tryd.prog 41 [a0, a1] H R :=
  have e : S41 a0 a1 H R = awpFn Tryd.prog (Tryd.f41.body.getD .skip) Tryd.f41.results.toList ann41 [a0, a1] H R := by kernel_rfl
  calls_of_awp (fn := Tryd.f41) (c := Tryd.f41.body.getD .skip) (an := ann41) (by kernel_rfl) Tryd.func41 (by kernel_rfl) (by kernel_rfl) (of_decide_eq_true (by kernel_rfl)) (e ▸ h)

end Go.Proofs.YtliakckflcoffaaDoor.A
