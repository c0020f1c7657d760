/- Contracts of functions that the statement reaches; each theorem carries its own conditions, the last theorem of the claim has none. -/
import Derived.Test.YtngldjajfpbmbaaAbsY
import Derived.Test.YtngldjajfpbmbaaProg
import Derived.KernelRfl
/- The texts that functions' bodies come to (printed by gen.lean, a tool of our own). -/
set_option linter.unusedVariables false
set_option maxRecDepth 100000
namespace Go.Proofs.Ytngldjajfpbmbaa.A
open Go Go.Abs

/-- 3: marginalia/marginalialaw06.StoreLeft -/
def ann3 : Ann := (.two .leaf (.two .leaf (.two .leaf (.two (.two .leaf (.two (.two .leaf .leaf) .leaf)) (.two .leaf (.two .leaf (.two (.two .leaf (.one (.loop [9, 10] [4, 9, 10, 11, 12, 46, 47, 48, 49, 50, 51, 52, 53, 54, 55, 56, 57, 58, 59, 60, 61, 62, 63, 64, 65, 66] (.two (.two .leaf (.two .leaf .leaf)) (.two (.one (.two .leaf (.two (.two .leaf (.two (.two .leaf .leaf) .leaf)) (.two .leaf .leaf)))) .leaf))))) (.two (.two .leaf (.two .leaf (.two (.two .leaf .leaf) .leaf))) (.two .leaf (.two .leaf (.two (.two .leaf (.two (.two .leaf .leaf) .leaf)) (.two .leaf (.two (.two .leaf (.one (.loop [19] [4, 19, 20, 21, 22, 23, 107, 108, 109, 110, 111, 112, 113, 114, 115, 116, 117, 118, 119, 120, 121, 122, 123, 124, 125, 126, 127, 128, 129, 130, 131, 132, 133, 134, 135] (.two (.two .leaf (.two .leaf .leaf)) (.two (.one (.two .leaf (.two .leaf (.two (.two .leaf (.two (.two .leaf .leaf) .leaf)) .leaf)))) .leaf))))) (.two (.two .leaf (.one (.loop [24] [4, 24, 25, 26, 136, 137, 138, 139, 140, 141, 142, 143, 144, 145, 146, 147, 148, 149, 150, 151, 152, 153] (.two (.two .leaf (.two .leaf .leaf)) (.two (.one (.two .leaf (.two .leaf (.two (.two .leaf .leaf) .leaf)))) .leaf))))) (.two .leaf (.two .leaf .leaf))))))))))))))))
def S3_49 (t8_22 : Value) (vs_25 : List Value) (again_27 : List Value → AHeap → Prop) (t11_37 : Value) (H_39 : AHeap) : Prop :=
 bnd (aLdAgg 2 t11_37 H_39) fun t62_41 =>
 bnd (aSt 2 t8_22 t62_41 H_39) fun H_42 =>
 bnd (aLdAgg 2 t11_37 H_42) fun t64_43 =>
 aBuildSlice 2 1 28 [(.int .i64 0), (.int .i64 0)] [(0, 2, t64_43)] H_42 fun t65_44 H_45 =>
 aAppend 2 16 28 (nth vs_25 0) t65_44 H_45 fun t66_46 H_47 =>
 bnd (aBin .add .no (nth vs_25 1) (.int .i64 1)) fun t50_48 =>
 again_27 [t66_46, t50_48] H_47
def S3_50 (R : Value → AHeap → Prop) (t37_6 : Value) (t8_22 : Value) (vs_25 : List Value) (H_26 : AHeap) (again_27 : List Value → AHeap → Prop) : Prop :=
 bnd (aFill [(.int .i64 0), (.int .i64 0)] [(0, 1, (.int .i64 4)), (1, 1, (nth vs_25 1))]) fun t54_29 =>
 bnd (aLdAgg 2 t8_22 H_26) fun t55_30 =>
 aBuildSlice 2 2 28 [(.int .i64 0), (.int .i64 0)] [(0, 2, (.agg t54_29.toArray)), (2, 2, t55_30)] H_26 fun t56_31 H_32 =>
 ACalls Try.prog 15 [t37_6, (.int .i64 1), t56_31] H_32 fun t57_33 H_34 =>
 bnd (aExtract t57_33 0) fun t58_35 =>
 bnd (aExtract t57_33 1) fun t59_36 =>
 aAlloc [(.int .i64 0), (.int .i64 0)] 28 H_34 fun t11_37 H_38 =>
 bnd (aSt 2 t11_37 t58_35 H_38) fun H_39 =>
 bnd (aBin .neq .no t59_36 (.int .i64 0)) fun t61_40 =>
 aCond t61_40 (
 R (.bool false) H_39) (
 (S3_49 t8_22 vs_25 again_27 t11_37 H_39))
def S3_174 (R : Value → AHeap → Prop) (t18_117 : Value) (vs_120 : List Value) (again_122 : List Value → AHeap → Prop) (t116_128 : Value) (t20_129 : Value) (t120_133 : Value) (H_134 : AHeap) : Prop :=
 bnd (aExtract t120_133 0) fun t121_135 =>
 bnd (aExtract t120_133 1) fun t122_136 =>
 aAlloc [(.int .i64 0), (.int .i64 0)] 28 H_134 fun t22_137 H_138 =>
 bnd (aSt 2 t22_137 t121_135 H_138) fun H_139 =>
 bnd (aBin .neq .no t116_128 (.int .i64 0)) fun t124_140 =>
 aGuardK t124_140 false (fun K_141 H_142 =>
 K_141 t122_136 H_142) (fun t126_143 H_144 =>
 aGuardK t124_140 false (fun K_145 H_146 =>
 bnd (aBin .neq .no t126_143 (.int .i64 0)) fun t127_147 =>
 K_145 t127_147 H_146) (fun t127_148 H_149 =>
 bnd (aPick t124_140 (.bool true) t127_148) fun t128_150 =>
 aGuardK t128_150 false (fun K_151 H_152 =>
 bnd (aAdd 1 t20_129) fun t130_153 =>
 K_151 t130_153 H_152) (fun t130_154 H_155 =>
 aGuardK t128_150 false (fun K_156 H_157 =>
 bnd (aLdCell t130_154 H_157) fun t131_158 =>
 K_156 t131_158 H_157) (fun t131_159 H_160 =>
 aGuardK t128_150 false (fun K_161 H_162 =>
 K_161 (nth vs_120 0) H_162) (fun t132_163 H_164 =>
 aGuardK t128_150 false (fun K_165 H_166 =>
 bnd (aBin .neq .no t131_159 t132_163) fun t133_167 =>
 K_165 t133_167 H_166) (fun t133_168 H_169 =>
 bnd (aPick t128_150 (.bool true) t133_168) fun t134_170 =>
 aCond t134_170 (
 R (.bool false) H_169) (
 bnd (aLdAgg 2 t22_137 H_169) fun t135_171 =>
 bnd (aSt 2 t18_117 t135_171 H_169) fun H_172 =>
 bnd (aBin .sub .no (nth vs_120 0) (.int .i64 1)) fun t110_173 =>
 again_122 [t110_173] H_172)) H_164) H_160) H_155) H_149) H_144) H_139
def S3_175 (R : Value → AHeap → Prop) (t37_6 : Value) (t18_117 : Value) (vs_120 : List Value) (H_121 : AHeap) (again_122 : List Value → AHeap → Prop) : Prop :=
 bnd (aLdAgg 2 t18_117 H_121) fun t113_124 =>
 ACalls Try.prog 18 [t37_6, t113_124, (.int .i64 0)] H_121 fun t114_125 H_126 =>
 bnd (aExtract t114_125 0) fun t115_127 =>
 bnd (aExtract t114_125 1) fun t116_128 =>
 aAlloc [(.int .i64 0), (.int .i64 0)] 28 H_126 fun t20_129 H_130 =>
 bnd (aSt 2 t20_129 t115_127 H_130) fun H_131 =>
 bnd (aLdAgg 2 t18_117 H_131) fun t119_132 =>
 ACalls Try.prog 18 [t37_6, t119_132, (.int .i64 1)] H_131 fun t120_133 H_134 =>
 (S3_174 R t18_117 vs_120 again_122 t116_128 t20_129 t120_133 H_134)
def S3_195 (R : Value → AHeap → Prop) (t37_6 : Value) (vs_176 : List Value) (H_177 : AHeap) (again_178 : List Value → AHeap → Prop) : Prop :=
 bnd (aFill [(.int .i64 0), (.int .i64 0)] []) fun t146_182 =>
 bnd (aFill [(.int .i64 0), (.int .i64 0)] []) fun t147_183 =>
 aBuildSlice 2 2 28 [(.int .i64 0), (.int .i64 0)] [(0, 2, (.agg t146_182.toArray)), (2, 2, (.agg t147_183.toArray))] H_177 fun t148_184 H_185 =>
 ACalls Try.prog 15 [t37_6, (.int .i64 1), t148_184] H_185 fun t149_186 H_187 =>
 bnd (aExtract t149_186 0) fun t150_188 =>
 bnd (aExtract t149_186 1) fun t151_189 =>
 aAlloc [(.int .i64 0), (.int .i64 0)] 28 H_187 fun t25_190 H_191 =>
 bnd (aSt 2 t25_190 t150_188 H_191) fun H_192 =>
 bnd (aBin .neq .no t151_189 (.int .i64 0)) fun t153_193 =>
 aCond t153_193 (
 R (.bool false) H_192) (
 bnd (aBin .add .no (nth vs_176 0) (.int .i64 1)) fun t143_194 =>
 again_178 [t143_194] H_192)
def S3_216 (R : Value → AHeap → Prop) (t18_117 : Value) (t156_196 : Value) (H_197 : AHeap) : Prop :=
 bnd (aExtract t156_196 0) fun t157_198 =>
 bnd (aExtract t156_196 1) fun t158_199 =>
 aAlloc [(.int .i64 0), (.int .i64 0)] 28 H_197 fun t27_200 H_201 =>
 bnd (aSt 2 t27_200 t157_198 H_201) fun H_202 =>
 bnd (aAdd 0 t18_117) fun t159_203 =>
 bnd (aLdCell t159_203 H_202) fun t160_204 =>
 bnd (aBin .eql .no t160_204 (.int .i64 0)) fun t161_205 =>
 aGuardK t161_205 true (fun K_206 H_207 =>
 K_206 t158_199 H_207) (fun t163_208 H_209 =>
 aGuardK t161_205 true (fun K_210 H_211 =>
 bnd (aBin .eql .no t163_208 (.int .i64 16)) fun t164_212 =>
 K_210 t164_212 H_211) (fun t164_213 H_214 =>
 bnd (aPick t161_205 t164_213 (.bool false)) fun t165_215 =>
 R t165_215 H_214) H_209) H_202
def S3_217 (R : Value → AHeap → Prop) (t32_2 : Value) (t37_6 : Value) (t77_60 : Value) (t18_117 : Value) (vs_176 : List Value) (H_177 : AHeap) (again_178 : List Value → AHeap → Prop) : Prop :=
 bnd (aBin .sub .no t32_2 (.int .i64 1)) fun t138_179 =>
 bnd (aBin .sub .no t138_179 t77_60) fun t140_180 =>
 bnd (aBin .lss .no (nth vs_176 0) t140_180) fun t141_181 =>
 aCond t141_181 (
 (S3_195 R t37_6 vs_176 H_177 again_178)) (
 ACalls Try.prog 15 [t37_6, (.int .i64 2), (.slice none 0 0)] H_177 fun t156_196 H_197 =>
 (S3_216 R t18_117 t156_196 H_197))
def S3_218 (R : Value → AHeap → Prop) (t32_2 : Value) (t37_6 : Value) (t77_60 : Value) (t18_117 : Value) (vs_120 : List Value) (H_121 : AHeap) (again_122 : List Value → AHeap → Prop) : Prop :=
 bnd (aBin .geq .no (nth vs_120 0) (.int .i64 0)) fun t108_123 =>
 aCond t108_123 (
 (S3_175 R t37_6 t18_117 vs_120 H_121 again_122)) (
 aLoop [(.int .i64 0)] H_121 fun vs_176 H_177 again_178 =>
 (S3_217 R t32_2 t37_6 t77_60 t18_117 vs_176 H_177 again_178))
def S3_219 (R : Value → AHeap → Prop) (t32_2 : Value) (t37_6 : Value) (t77_60 : Value) (t86_67 : Value) (H_113 : AHeap) : Prop :=
 bnd (aIdxAddr 2 t86_67 (.int .i64 0)) fun t104_115 =>
 bnd (aLdAgg 2 t104_115 H_113) fun t105_116 =>
 aAlloc [(.int .i64 0), (.int .i64 0)] 28 H_113 fun t18_117 H_118 =>
 bnd (aSt 2 t18_117 t105_116 H_118) fun H_119 =>
 aLoop [t77_60] H_119 fun vs_120 H_121 again_122 =>
 (S3_218 R t32_2 t37_6 t77_60 t18_117 vs_120 H_121 again_122)
def S3_220 (R : Value → AHeap → Prop) (t32_2 : Value) (t37_6 : Value) (t77_60 : Value) (t85_65 : Value) (H_66 : AHeap) : Prop :=
 bnd (aExtract t85_65 0) fun t86_67 =>
 bnd (aExtract t85_65 1) fun t87_68 =>
 bnd (aBin .neq .no t87_68 (.int .i64 0)) fun t89_69 =>
 aGuardK t89_69 false (fun K_70 H_71 =>
 K_70 t86_67 H_71) (fun t91_72 H_73 =>
 aGuardK t89_69 false (fun K_74 H_75 =>
 bnd (aLenSl t91_72) fun t92_76 =>
 K_74 t92_76 H_75) (fun t92_77 H_78 =>
 aGuardK t89_69 false (fun K_79 H_80 =>
 bnd (aBin .neq .no t92_77 (.int .i64 1)) fun t93_81 =>
 K_79 t93_81 H_80) (fun t93_82 H_83 =>
 bnd (aPick t89_69 (.bool true) t93_82) fun t94_84 =>
 aGuardK t94_84 false (fun K_85 H_86 =>
 K_85 t37_6 H_86) (fun t96_87 H_88 =>
 aGuardK t94_84 false (fun K_89 H_90 =>
 ACalls Try.prog 17 [t96_87] H_90 fun t97_91 H_92 =>
 K_89 t97_91 H_92) (fun t97_93 H_94 =>
 aGuardK t94_84 false (fun K_95 H_96 =>
 K_95 t77_60 H_96) (fun t98_97 H_98 =>
 aGuardK t94_84 false (fun K_99 H_100 =>
 bnd (aBin .add .no t98_97 (.int .i64 1)) fun t99_101 =>
 K_99 t99_101 H_100) (fun t99_102 H_103 =>
 aGuardK t94_84 false (fun K_104 H_105 =>
 bnd (aBin .mul .no (.int .i64 3) t99_102) fun t100_106 =>
 K_104 t100_106 H_105) (fun t100_107 H_108 =>
 aGuardK t94_84 false (fun K_109 H_110 =>
 bnd (aBin .neq .no t97_93 t100_107) fun t101_111 =>
 K_109 t101_111 H_110) (fun t101_112 H_113 =>
 bnd (aPick t94_84 (.bool true) t101_112) fun t102_114 =>
 aCond t102_114 (
 R (.bool false) H_113) (
 (S3_219 R t32_2 t37_6 t77_60 t86_67 H_113))) H_108) H_103) H_98) H_94) H_88) H_83) H_78) H_73) H_66
def S3_221 (a1 : Value) (R : Value → AHeap → Prop) (t32_2 : Value) (t37_6 : Value) (vs_25 : List Value) (H_57 : AHeap) : Prop :=
 bnd (aConvInt .i64 a1) fun t75_59 =>
 bnd (aBin .rem .no t75_59 t32_2) fun t77_60 =>
 bnd (aIdxAddr 2 (nth vs_25 0) t77_60) fun t82_61 =>
 bnd (aLdAgg 2 t82_61 H_57) fun t83_62 =>
 aBuildSlice 2 1 28 [(.int .i64 0), (.int .i64 0)] [(0, 2, t83_62)] H_57 fun t84_63 H_64 =>
 ACalls Try.prog 16 [t37_6, t84_63] H_64 fun t85_65 H_66 =>
 (S3_220 R t32_2 t37_6 t77_60 t85_65 H_66)
def S3_222 (a1 : Value) (R : Value → AHeap → Prop) (t32_2 : Value) (t37_6 : Value) (vs_25 : List Value) (H_26 : AHeap) : Prop :=
 ACalls Try.prog 15 [t37_6, (.int .i64 2), (.slice none 0 0)] H_26 fun t69_51 H_52 =>
 bnd (aExtract t69_51 0) fun t70_53 =>
 bnd (aExtract t69_51 1) fun t71_54 =>
 aAlloc [(.int .i64 0), (.int .i64 0)] 28 H_52 fun t13_55 H_56 =>
 bnd (aSt 2 t13_55 t70_53 H_56) fun H_57 =>
 bnd (aBin .neq .no t71_54 (.int .i64 16)) fun t73_58 =>
 aCond t73_58 (
 R (.bool false) H_57) (
 (S3_221 a1 R t32_2 t37_6 vs_25 H_57))
def S3_223 (a1 : Value) (R : Value → AHeap → Prop) (t32_2 : Value) (t37_6 : Value) (t8_22 : Value) (vs_25 : List Value) (H_26 : AHeap) (again_27 : List Value → AHeap → Prop) : Prop :=
 bnd (aBin .lss .no (nth vs_25 1) t32_2) fun t48_28 =>
 aCond t48_28 (
 (S3_50 R t37_6 t8_22 vs_25 H_26 again_27)) (
 (S3_222 a1 R t32_2 t37_6 vs_25 H_26))
def S3_224 (a1 : Value) (R : Value → AHeap → Prop) (t32_2 : Value) (t37_6 : Value) (H_19 : AHeap) : Prop :=
 bnd (aFill [(.int .i64 0), (.int .i64 0)] []) fun t45_21 =>
 aAlloc [(.int .i64 0), (.int .i64 0)] 28 H_19 fun t8_22 H_23 =>
 bnd (aSt 2 t8_22 (.agg t45_21.toArray) H_23) fun H_24 =>
 aLoop [(.slice none 0 0), (.int .i64 0)] H_24 fun vs_25 H_26 again_27 =>
 (S3_223 a1 R t32_2 t37_6 t8_22 vs_25 H_26 again_27)
def S3_225 (a1 : Value) (R : Value → AHeap → Prop) (t32_2 : Value) (t36_4 : Value) (H_5 : AHeap) : Prop :=
 bnd (aExtract t36_4 0) fun t37_6 =>
 bnd (aExtract t36_4 1) fun t38_7 =>
 ACalls Try.prog 14 [] H_5 fun t39_8 H_9 =>
 bnd (aUn .not t39_8) fun t40_10 =>
 aGuardK t40_10 false (fun K_11 H_12 =>
 K_11 t38_7 H_12) (fun t42_13 H_14 =>
 aGuardK t40_10 false (fun K_15 H_16 =>
 bnd (aBin .neq .no t42_13 (.int .i64 0)) fun t43_17 =>
 K_15 t43_17 H_16) (fun t43_18 H_19 =>
 bnd (aPick t40_10 (.bool true) t43_18) fun t44_20 =>
 aCond t44_20 (
 R (.bool false) H_19) (
 (S3_224 a1 R t32_2 t37_6 H_19))) H_14) H_9
def S3 (a0 : Value) (a1 : Value) (H : AHeap) (R : Value → AHeap → Prop) : Prop :=
 bnd (aBin .rem .no a0 (.int .u8 40)) fun t30_0 =>
 bnd (aConvInt .i64 t30_0) fun t31_1 =>
 bnd (aBin .add .no t31_1 (.int .i64 1)) fun t32_2 =>
 bnd (aBin .mul .no (.int .i64 3) t32_2) fun t35_3 =>
 ACalls Try.prog 13 [t35_3] H fun t36_4 H_5 =>
 (S3_225 a1 R t32_2 t36_4 H_5)
theorem S3_calls {a0 a1 : Value} {H : AHeap} {R : Value → AHeap → Prop} (h : S3 a0 a1 H R) : ACalls Try.prog 3 [a0, a1] H R :=
  have e : S3 a0 a1 H R = awpFn Try.prog (Try.f3.body.getD .skip) Try.f3.results.toList ann3 [a0, a1] H R := by kernel_rfl
  calls_of_awp (fn := Try.f3) (c := Try.f3.body.getD .skip) (an := ann3) (by kernel_rfl) Try.func3 (by kernel_rfl) (by kernel_rfl) (of_decide_eq_true (by kernel_rfl)) (e ▸ h)

/-- 4: marginalia/marginalialaw06.StoreRings -/
def ann4 : Ann := (.two .leaf (.two .leaf (.two .leaf (.two (.two .leaf (.two (.two .leaf .leaf) .leaf)) (.two .leaf (.two (.two .leaf (.one (.loop [8, 9] [8, 9, 10, 11, 33, 34, 35, 36, 37, 38, 39, 40, 41, 42, 43, 44, 45, 46, 47, 48] (.two (.two .leaf (.two .leaf .leaf)) (.two (.one (.two .leaf .leaf)) .leaf))))) (.two (.two .leaf (.one (.loop [12] [12, 49, 50, 51, 52, 53, 54, 55, 56, 57, 58, 59, 60, 61, 62, 63, 64, 65, 66] (.two (.two .leaf (.two .leaf .leaf)) (.two (.one (.draw [(0, []), (1, []), (2, []), (3, []), (4, []), (5, []), (6, []), (7, []), (8, []), (9, []), (10, []), (11, []), (12, [])])) .leaf))))) (.two (.two .leaf (.two (.two .leaf (.two .leaf .leaf)) .leaf)) (.two (.draw [(0, []), (1, []), (2, []), (3, []), (4, []), (5, []), (6, []), (7, []), (8, []), (9, []), (10, []), (11, []), (12, []), (13, []), (14, []), (15, [])]) (.two (.two .leaf (.two (.two .leaf .leaf) .leaf)) (.two .leaf (.two (.two .leaf (.one (.loop [18] [18, 117, 118, 119, 120, 121, 122, 123, 124, 125, 126, 127] (.two (.two .leaf (.two .leaf .leaf)) (.two (.one .leaf) .leaf))))) (.two (.draw [(0, []), (1, []), (2, []), (3, []), (4, []), (5, []), (6, []), (7, []), (8, []), (9, []), (10, []), (11, []), (12, []), (13, []), (14, [])]) .leaf)))))))))))))
def S4_40 (vs_20 : List Value) (again_22 : List Value → AHeap → Prop) (t42_27 : Value) (H_28 : AHeap) : Prop :=
 bnd (aExtract t42_27 0) fun t43_29 =>
 bnd (aExtract t42_27 1) fun t44_30 =>
 aAlloc [(.int .i64 0), (.int .i64 0)] 28 H_28 fun t10_31 H_32 =>
 bnd (aSt 2 t10_31 t43_29 H_32) fun H_33 =>
 bnd (aLdAgg 2 t10_31 H_33) fun t46_34 =>
 aBuildSlice 2 1 28 [(.int .i64 0), (.int .i64 0)] [(0, 2, t46_34)] H_33 fun t47_35 H_36 =>
 aAppend 2 16 28 (nth vs_20 0) t47_35 H_36 fun t48_37 H_38 =>
 bnd (aBin .add .no (nth vs_20 1) (.int .i64 1)) fun t37_39 =>
 again_22 [t48_37, t37_39] H_38
def S4_41 (t25_5 : Value) (vs_20 : List Value) (H_21 : AHeap) (again_22 : List Value → AHeap → Prop) : Prop :=
 bnd (aFill [(.int .i64 0), (.int .i64 0)] []) fun t40_24 =>
 aBuildSlice 2 1 28 [(.int .i64 0), (.int .i64 0)] [(0, 2, (.agg t40_24.toArray))] H_21 fun t41_25 H_26 =>
 ACalls Try.prog 15 [t25_5, (.int .i64 3), t41_25] H_26 fun t42_27 H_28 =>
 (S4_40 vs_20 again_22 t42_27 H_28)
def S4_55 (t22_2 : Value) (t25_5 : Value) (vs_20 : List Value) (vs_42 : List Value) (H_43 : AHeap) (again_44 : List Value → AHeap → Prop) : Prop :=
 bnd (aIdxAddr 2 (nth vs_20 0) (nth vs_42 0)) fun t57_46 =>
 bnd (aLdAgg 2 t57_46 H_43) fun t58_47 =>
 bnd (aBin .add .no (nth vs_42 0) (.int .i64 1)) fun t61_48 =>
 bnd (aBin .rem .no t61_48 t22_2) fun t63_49 =>
 bnd (aIdxAddr 2 (nth vs_20 0) t63_49) fun t64_50 =>
 bnd (aLdAgg 2 t64_50 H_43) fun t65_51 =>
 ACalls Try.prog 19 [t25_5, t58_47, (.int .i64 0), t65_51] H_43 fun t66_52 H_53 =>
 bnd (aBin .add .no (nth vs_42 0) (.int .i64 1)) fun t53_54 =>
 again_44 [t53_54] H_53
def S4_93 (R : Value → AHeap → Prop) (t25_5 : Value) (t71_57 : Value) (H_58 : AHeap) : Prop :=
 bnd (aExtract t71_57 0) fun t72_59 =>
 bnd (aExtract t71_57 1) fun t73_60 =>
 bnd (aBin .eql .no t73_60 (.int .i64 0)) fun t75_61 =>
 aGuardK t75_61 true (fun K_62 H_63 =>
 K_62 t72_59 H_63) (fun t77_64 H_65 =>
 aGuardK t75_61 true (fun K_66 H_67 =>
 bnd (aLenSl t77_64) fun t78_68 =>
 K_66 t78_68 H_67) (fun t78_69 H_70 =>
 aGuardK t75_61 true (fun K_71 H_72 =>
 bnd (aBin .eql .no t78_69 (.int .i64 0)) fun t79_73 =>
 K_71 t79_73 H_72) (fun t79_74 H_75 =>
 bnd (aPick t75_61 t79_74 (.bool false)) fun t80_76 =>
 aGuardK t80_76 true (fun K_77 H_78 =>
 K_77 t25_5 H_78) (fun t82_79 H_80 =>
 aGuardK t80_76 true (fun K_81 H_82 =>
 ACalls Try.prog 17 [t82_79] H_82 fun t83_83 H_84 =>
 K_81 t83_83 H_84) (fun t83_85 H_86 =>
 aGuardK t80_76 true (fun K_87 H_88 =>
 bnd (aBin .eql .no t83_85 (.int .i64 0)) fun t84_89 =>
 K_87 t84_89 H_88) (fun t84_90 H_91 =>
 bnd (aPick t80_76 t84_90 (.bool false)) fun t85_92 =>
 R t85_92 H_91) H_86) H_80) H_75) H_70) H_65) H_58
def S4_162 (t25_5 : Value) (t17_148 : Value) (vs_151 : List Value) (H_152 : AHeap) (again_153 : List Value → AHeap → Prop) : Prop :=
 bnd (aLdAgg 2 t17_148 H_152) fun t124_155 =>
 ACalls Try.prog 18 [t25_5, t124_155, (.int .i64 0)] H_152 fun t125_156 H_157 =>
 bnd (aExtract t125_156 0) fun t126_158 =>
 bnd (aExtract t125_156 1) fun t127_159 =>
 bnd (aSt 2 t17_148 t126_158 H_157) fun H_160 =>
 bnd (aBin .add .no (nth vs_151 0) (.int .i64 1)) fun t121_161 =>
 again_153 [t121_161] H_160
def S4_201 (R : Value → AHeap → Prop) (t98_103 : Value) (t17_148 : Value) (H_152 : AHeap) : Prop :=
 bnd (aLdAgg 2 t17_148 H_152) fun t128_163 =>
 bnd (aIdxAddr 2 t98_103 (.int .i64 0)) fun t130_164 =>
 bnd (aLdAgg 2 t130_164 H_152) fun t131_165 =>
 bnd (aBin .eql (.cells [.int, .int]) t128_163 t131_165) fun t132_166 =>
 aGuardK t132_166 true (fun K_167 H_168 =>
 K_167 t98_103 H_168) (fun t134_169 H_170 =>
 aGuardK t132_166 true (fun K_171 H_172 =>
 bnd (aIdxAddr 2 t134_169 (.int .i64 0)) fun t135_173 =>
 K_171 t135_173 H_172) (fun t135_174 H_175 =>
 aGuardK t132_166 true (fun K_176 H_177 =>
 bnd (aLdAgg 2 t135_174 H_177) fun t136_178 =>
 K_176 t136_178 H_177) (fun t136_179 H_180 =>
 aGuardK t132_166 true (fun K_181 H_182 =>
 K_181 t98_103 H_182) (fun t137_183 H_184 =>
 aGuardK t132_166 true (fun K_185 H_186 =>
 bnd (aIdxAddr 2 t137_183 (.int .i64 1)) fun t138_187 =>
 K_185 t138_187 H_186) (fun t138_188 H_189 =>
 aGuardK t132_166 true (fun K_190 H_191 =>
 bnd (aLdAgg 2 t138_188 H_191) fun t139_192 =>
 K_190 t139_192 H_191) (fun t139_193 H_194 =>
 aGuardK t132_166 true (fun K_195 H_196 =>
 bnd (aBin .neq (.cells [.int, .int]) t136_179 t139_193) fun t140_197 =>
 K_195 t140_197 H_196) (fun t140_198 H_199 =>
 bnd (aPick t132_166 t140_198 (.bool false)) fun t141_200 =>
 R t141_200 H_199) H_194) H_189) H_184) H_180) H_175) H_170) H_152
def S4_202 (R : Value → AHeap → Prop) (t22_2 : Value) (t25_5 : Value) (t98_103 : Value) (t17_148 : Value) (vs_151 : List Value) (H_152 : AHeap) (again_153 : List Value → AHeap → Prop) : Prop :=
 bnd (aBin .lss .no (nth vs_151 0) t22_2) fun t119_154 =>
 aCond t119_154 (
 (S4_162 t25_5 t17_148 vs_151 H_152 again_153)) (
 (S4_201 R t98_103 t17_148 H_152))
def S4_203 (R : Value → AHeap → Prop) (t22_2 : Value) (t25_5 : Value) (t98_103 : Value) (H_144 : AHeap) : Prop :=
 bnd (aIdxAddr 2 t98_103 (.int .i64 0)) fun t115_146 =>
 bnd (aLdAgg 2 t115_146 H_144) fun t116_147 =>
 aAlloc [(.int .i64 0), (.int .i64 0)] 28 H_144 fun t17_148 H_149 =>
 bnd (aSt 2 t17_148 t116_147 H_149) fun H_150 =>
 aLoop [(.int .i64 0)] H_150 fun vs_151 H_152 again_153 =>
 (S4_202 R t22_2 t25_5 t98_103 t17_148 vs_151 H_152 again_153)
def S4_204 (R : Value → AHeap → Prop) (t22_2 : Value) (t25_5 : Value) (t97_101 : Value) (H_102 : AHeap) : Prop :=
 bnd (aExtract t97_101 0) fun t98_103 =>
 bnd (aExtract t97_101 1) fun t99_104 =>
 bnd (aBin .neq .no t99_104 (.int .i64 0)) fun t101_105 =>
 aGuardK t101_105 false (fun K_106 H_107 =>
 K_106 t98_103 H_107) (fun t103_108 H_109 =>
 aGuardK t101_105 false (fun K_110 H_111 =>
 bnd (aLenSl t103_108) fun t104_112 =>
 K_110 t104_112 H_111) (fun t104_113 H_114 =>
 aGuardK t101_105 false (fun K_115 H_116 =>
 bnd (aBin .neq .no t104_113 (.int .i64 2)) fun t105_117 =>
 K_115 t105_117 H_116) (fun t105_118 H_119 =>
 bnd (aPick t101_105 (.bool true) t105_118) fun t106_120 =>
 aGuardK t106_120 false (fun K_121 H_122 =>
 K_121 t25_5 H_122) (fun t108_123 H_124 =>
 aGuardK t106_120 false (fun K_125 H_126 =>
 ACalls Try.prog 17 [t108_123] H_126 fun t109_127 H_128 =>
 K_125 t109_127 H_128) (fun t109_129 H_130 =>
 aGuardK t106_120 false (fun K_131 H_132 =>
 K_131 t22_2 H_132) (fun t110_133 H_134 =>
 aGuardK t106_120 false (fun K_135 H_136 =>
 bnd (aBin .mul .no (.int .i64 2) t110_133) fun t111_137 =>
 K_135 t111_137 H_136) (fun t111_138 H_139 =>
 aGuardK t106_120 false (fun K_140 H_141 =>
 bnd (aBin .neq .no t109_129 t111_138) fun t112_142 =>
 K_140 t112_142 H_141) (fun t112_143 H_144 =>
 bnd (aPick t106_120 (.bool true) t112_143) fun t113_145 =>
 aCond t113_145 (
 R (.bool false) H_144) (
 (S4_203 R t22_2 t25_5 t98_103 H_144))) H_139) H_134) H_130) H_124) H_119) H_114) H_109) H_102
def S4_205 (R : Value → AHeap → Prop) (t22_2 : Value) (t25_5 : Value) (vs_20 : List Value) (H_43 : AHeap) : Prop :=
 bnd (aBin .quo .no t22_2 (.int .i64 2)) fun t90_94 =>
 bnd (aIdxAddr 2 (nth vs_20 0) t90_94) fun t91_95 =>
 bnd (aLdAgg 2 t91_95 H_43) fun t92_96 =>
 bnd (aIdxAddr 2 (nth vs_20 0) (.int .i64 0)) fun t94_97 =>
 bnd (aLdAgg 2 t94_97 H_43) fun t95_98 =>
 aBuildSlice 2 2 28 [(.int .i64 0), (.int .i64 0)] [(0, 2, t92_96), (2, 2, t95_98)] H_43 fun t96_99 H_100 =>
 ACalls Try.prog 16 [t25_5, t96_99] H_100 fun t97_101 H_102 =>
 (S4_204 R t22_2 t25_5 t97_101 H_102)
def S4_206 (a1 : Value) (R : Value → AHeap → Prop) (t22_2 : Value) (t25_5 : Value) (vs_20 : List Value) (vs_42 : List Value) (H_43 : AHeap) (again_44 : List Value → AHeap → Prop) : Prop :=
 bnd (aBin .lss .no (nth vs_42 0) t22_2) fun t51_45 =>
 aCond t51_45 (
 (S4_55 t22_2 t25_5 vs_20 vs_42 H_43 again_44)) (
 bnd (aUn .not a1) fun t68_56 =>
 aCond t68_56 (
 ACalls Try.prog 16 [t25_5, (.slice none 0 0)] H_43 fun t71_57 H_58 =>
 (S4_93 R t25_5 t71_57 H_58)) (
 (S4_205 R t22_2 t25_5 vs_20 H_43)))
def S4_207 (a1 : Value) (R : Value → AHeap → Prop) (t22_2 : Value) (t25_5 : Value) (vs_20 : List Value) (H_21 : AHeap) (again_22 : List Value → AHeap → Prop) : Prop :=
 bnd (aBin .lss .no (nth vs_20 1) t22_2) fun t35_23 =>
 aCond t35_23 (
 (S4_41 t25_5 vs_20 H_21 again_22)) (
 aLoop [(.int .i64 0)] H_21 fun vs_42 H_43 again_44 =>
 (S4_206 a1 R t22_2 t25_5 vs_20 vs_42 H_43 again_44))
def S4_208 (a1 : Value) (R : Value → AHeap → Prop) (t22_2 : Value) (t25_5 : Value) (t26_6 : Value) (t27_7 : Value) (H_8 : AHeap) : Prop :=
 bnd (aUn .not t27_7) fun t28_9 =>
 aGuardK t28_9 false (fun K_10 H_11 =>
 K_10 t26_6 H_11) (fun t30_12 H_13 =>
 aGuardK t28_9 false (fun K_14 H_15 =>
 bnd (aBin .neq .no t30_12 (.int .i64 0)) fun t31_16 =>
 K_14 t31_16 H_15) (fun t31_17 H_18 =>
 bnd (aPick t28_9 (.bool true) t31_17) fun t32_19 =>
 aCond t32_19 (
 R (.bool false) H_18) (
 aLoop [(.slice none 0 0), (.int .i64 0)] H_18 fun vs_20 H_21 again_22 =>
 (S4_207 a1 R t22_2 t25_5 vs_20 H_21 again_22))) H_13) H_8
def S4 (a0 : Value) (a1 : Value) (H : AHeap) (R : Value → AHeap → Prop) : Prop :=
 bnd (aBin .rem .no a0 (.int .u8 20)) fun t20_0 =>
 bnd (aConvInt .i64 t20_0) fun t21_1 =>
 bnd (aBin .add .no t21_1 (.int .i64 2)) fun t22_2 =>
 ACalls Try.prog 13 [(.int .i64 1000)] H fun t24_3 H_4 =>
 bnd (aExtract t24_3 0) fun t25_5 =>
 bnd (aExtract t24_3 1) fun t26_6 =>
 ACalls Try.prog 14 [] H_4 fun t27_7 H_8 =>
 (S4_208 a1 R t22_2 t25_5 t26_6 t27_7 H_8)
theorem S4_calls {a0 a1 : Value} {H : AHeap} {R : Value → AHeap → Prop} (h : S4 a0 a1 H R) : ACalls Try.prog 4 [a0, a1] H R :=
  have e : S4 a0 a1 H R = awpFn Try.prog (Try.f4.body.getD .skip) Try.f4.results.toList ann4 [a0, a1] H R := by kernel_rfl
  calls_of_awp (fn := Try.f4) (c := Try.f4.body.getD .skip) (an := ann4) (by kernel_rfl) Try.func4 (by kernel_rfl) (by kernel_rfl) (of_decide_eq_true (by kernel_rfl)) (e ▸ h)

/-- 5: marginalia/marginalialaw07.SameBuilt -/
def ann5 : Ann := (.two .leaf (.two .leaf (.two (.two .leaf (.two (.two .leaf .leaf) .leaf)) (.two .leaf (.two .leaf (.two (.two .leaf (.one (.loop [10, 11] [6, 10, 11, 12, 13, 14, 15, 16, 46, 47, 48, 49, 50, 51, 52, 53, 54, 55, 56, 57, 58, 59, 60, 61, 62, 63, 64, 65, 66, 67, 68, 69, 70, 71, 72, 73, 74, 75, 76, 77, 78, 79, 80, 81, 82, 83, 84, 85, 86, 87, 88, 89, 90, 91, 92] (.two (.two .leaf (.two .leaf .leaf)) (.two (.one (.two .leaf (.two (.two .leaf (.one (.loop [13] [6, 13, 14, 15, 16, 51, 52, 53, 54, 55, 56, 57, 58, 59, 60, 61, 62, 63, 64, 65, 66, 67, 68, 69, 70, 71, 72, 73, 74, 75, 76, 77, 78, 79, 80, 81, 82, 83, 84, 85, 86, 87, 88] (.two (.two .leaf (.two .leaf .leaf)) (.two (.one (.two .leaf (.join [] [63, 64, 65, 66, 67, 68, 69, 70, 71, 72, 73, 74, 75, 76] (.two .leaf (.two .leaf .leaf)) (.two .leaf (.two (.two .leaf (.two (.two .leaf .leaf) .leaf)) .leaf))))) .leaf))))) .leaf))) .leaf))))) (.two (.draw [(0, []), (1, []), (2, []), (3, []), (4, []), (5, []), (6, []), (7, []), (8, []), (9, []), (10, []), (11, []), (12, []), (13, []), (14, [])]) (.two (.draw [(0, []), (1, []), (2, []), (3, []), (4, []), (5, []), (6, []), (7, []), (8, []), (9, []), (10, []), (11, []), (12, []), (13, []), (14, []), (15, []), (16, []), (17, []), (18, []), (19, [])]) .leaf))))))))
def S5_91 (R : Value → AHeap → Prop) (t12_57 : Value) (vs_60 : List Value) (again_62 : List Value → AHeap → Prop) (t83_80 : Value) (H_81 : AHeap) : Prop :=
 bnd (aExtract t83_80 0) fun t84_82 =>
 bnd (aExtract t83_80 1) fun t85_83 =>
 aAlloc [(.int .i64 0), (.int .i64 0)] 28 H_81 fun t15_84 H_85 =>
 bnd (aSt 2 t15_84 t84_82 H_85) fun H_86 =>
 bnd (aBin .neq .no t85_83 (.int .i64 0)) fun t87_87 =>
 aCond t87_87 (
 R (.bool false) H_86) (
 bnd (aLdAgg 2 t15_84 H_86) fun t88_88 =>
 bnd (aSt 2 t12_57 t88_88 H_86) fun H_89 =>
 bnd (aBin .add .no (nth vs_60 0) (.int .i64 1)) fun t56_90 =>
 again_62 [t56_90] H_89)
def S5_117 (R : Value → AHeap → Prop) (t22_2 : Value) (t12_57 : Value) (vs_60 : List Value) (again_62 : List Value → AHeap → Prop) (t14_69 : Value) (H_73 : AHeap) : Prop :=
 bnd (aLdAgg 2 t14_69 H_73) fun t79_75 =>
 bnd (aLdAgg 2 t12_57 H_73) fun t80_76 =>
 bnd (aLdAgg 2 t14_69 H_73) fun t81_77 =>
 aBuildSlice 2 3 28 [(.int .i64 0), (.int .i64 0)] [(0, 2, t79_75), (2, 2, t80_76), (4, 2, t81_77)] H_73 fun t82_78 H_79 =>
 ACalls Try.prog 15 [t22_2, (.int .i64 2), t82_78] H_79 fun t83_80 H_81 =>
 (S5_91 R t12_57 vs_60 again_62 t83_80 H_81)
def S5_118 (a0 : Value) (a2 : Value) (R : Value → AHeap → Prop) (t22_2 : Value) (t45_51 : Value) (vs_52 : List Value) (t12_57 : Value) (vs_60 : List Value) (H_61 : AHeap) (again_62 : List Value → AHeap → Prop) : Prop :=
 bnd (aIdxAddr 1 a0 (nth vs_60 0)) fun t59_65 =>
 bnd (aLdCell t59_65 H_61) fun t60_66 =>
 bnd (aConvInt .i64 t60_66) fun t61_67 =>
 bnd (aFill [(.int .i64 0), (.int .i64 0)] [(0, 1, (.int .i64 4)), (1, 1, t61_67)]) fun t62_68 =>
 aAlloc [(.int .i64 0), (.int .i64 0)] 28 H_61 fun t14_69 H_70 =>
 bnd (aSt 2 t14_69 (.agg t62_68.toArray) H_70) fun H_71 =>
 aJoin (fun vs_72 H_73 =>
 (S5_117 R t22_2 t12_57 vs_60 again_62 t14_69 H_73)) fun J_74 =>
 bnd (aBin .eql .no (nth vs_52 1) (.int .i64 1)) fun t64_92 =>
 aGuardK t64_92 true (fun K_93 H_94 =>
 K_93 a2 H_94) (fun t66_95 H_96 =>
 bnd (aPick t64_92 t66_95 (.bool false)) fun t67_97 =>
 aGuardK t67_97 true (fun K_98 H_99 =>
 K_98 (nth vs_60 0) H_99) (fun t69_100 H_101 =>
 aGuardK t67_97 true (fun K_102 H_103 =>
 K_102 t45_51 H_103) (fun t70_104 H_105 =>
 aGuardK t67_97 true (fun K_106 H_107 =>
 bnd (aBin .eql .no t69_100 t70_104) fun t71_108 =>
 K_106 t71_108 H_107) (fun t71_109 H_110 =>
 bnd (aPick t67_97 t71_109 (.bool false)) fun t72_111 =>
 aCond t72_111 (
 bnd (aAdd 1 t14_69) fun t73_112 =>
 bnd (aLdCell t73_112 H_110) fun t74_113 =>
 bnd (aBin .add .no t74_113 (.int .i64 1)) fun t75_114 =>
 bnd (aAdd 1 t14_69) fun t76_115 =>
 bnd (aSt 1 t76_115 t75_114 H_110) fun H_116 =>
 J_74 [] H_116) (
 J_74 [] H_110)) H_105) H_101) H_96) H_71
def S5_125 (vs_52 : List Value) (again_54 : List Value → AHeap → Prop) (t12_57 : Value) (H_61 : AHeap) : Prop :=
 bnd (aLdAgg 2 t12_57 H_61) fun t90_119 =>
 aBuildSlice 2 1 28 [(.int .i64 0), (.int .i64 0)] [(0, 2, t90_119)] H_61 fun t91_120 H_121 =>
 aAppend 2 16 28 (nth vs_52 0) t91_120 H_121 fun t92_122 H_123 =>
 bnd (aBin .add .no (nth vs_52 1) (.int .i64 1)) fun t49_124 =>
 again_54 [t92_122, t49_124] H_123
def S5_126 (a0 : Value) (a2 : Value) (R : Value → AHeap → Prop) (t22_2 : Value) (t45_51 : Value) (vs_52 : List Value) (again_54 : List Value → AHeap → Prop) (t12_57 : Value) (vs_60 : List Value) (H_61 : AHeap) (again_62 : List Value → AHeap → Prop) : Prop :=
 bnd (aLenSl a0) fun t53_63 =>
 bnd (aBin .lss .no (nth vs_60 0) t53_63) fun t54_64 =>
 aCond t54_64 (
 (S5_118 a0 a2 R t22_2 t45_51 vs_52 t12_57 vs_60 H_61 again_62)) (
 (S5_125 vs_52 again_54 t12_57 H_61))
def S5_127 (a0 : Value) (a2 : Value) (R : Value → AHeap → Prop) (t22_2 : Value) (t45_51 : Value) (vs_52 : List Value) (H_53 : AHeap) (again_54 : List Value → AHeap → Prop) : Prop :=
 bnd (aFill [(.int .i64 0), (.int .i64 0)] []) fun t50_56 =>
 aAlloc [(.int .i64 0), (.int .i64 0)] 28 H_53 fun t12_57 H_58 =>
 bnd (aSt 2 t12_57 (.agg t50_56.toArray) H_58) fun H_59 =>
 aLoop [(.int .i64 0)] H_59 fun vs_60 H_61 again_62 =>
 (S5_126 a0 a2 R t22_2 t45_51 vs_52 again_54 t12_57 vs_60 H_61 again_62)
def S5_201 (a2 : Value) (R : Value → AHeap → Prop) (t22_2 : Value) (vs_52 : List Value) (t101_132 : Value) (H_133 : AHeap) : Prop :=
 bnd (aExtract t101_132 0) fun t102_134 =>
 bnd (aExtract t101_132 1) fun t103_135 =>
 bnd (aExtract t101_132 2) fun t104_136 =>
 bnd (aBin .eql .no t104_136 (.int .i64 0)) fun t106_137 =>
 aGuardK t106_137 true (fun K_138 H_139 =>
 K_138 t102_134 H_139) (fun t108_140 H_141 =>
 aGuardK t106_137 true (fun K_142 H_143 =>
 K_142 a2 H_143) (fun t109_144 H_145 =>
 aGuardK t106_137 true (fun K_146 H_147 =>
 bnd (aUn .not t109_144) fun t110_148 =>
 K_146 t110_148 H_147) (fun t110_149 H_150 =>
 aGuardK t106_137 true (fun K_151 H_152 =>
 bnd (aBin .eql .bool t108_140 t110_149) fun t111_153 =>
 K_151 t111_153 H_152) (fun t111_154 H_155 =>
 bnd (aPick t106_137 t111_154 (.bool false)) fun t112_156 =>
 aGuardK t112_156 true (fun K_157 H_158 =>
 K_157 t22_2 H_158) (fun t114_159 H_160 =>
 aGuardK t112_156 true (fun K_161 H_162 =>
 K_161 (nth vs_52 0) H_162) (fun t115_163 H_164 =>
 aGuardK t112_156 true (fun K_165 H_166 =>
 bnd (aIdxAddr 2 t115_163 (.int .i64 0)) fun t116_167 =>
 K_165 t116_167 H_166) (fun t116_168 H_169 =>
 aGuardK t112_156 true (fun K_170 H_171 =>
 bnd (aLdAgg 2 t116_168 H_171) fun t117_172 =>
 K_170 t117_172 H_171) (fun t117_173 H_174 =>
 aGuardK t112_156 true (fun K_175 H_176 =>
 K_175 (nth vs_52 0) H_176) (fun t118_177 H_178 =>
 aGuardK t112_156 true (fun K_179 H_180 =>
 bnd (aIdxAddr 2 t118_177 (.int .i64 1)) fun t119_181 =>
 K_179 t119_181 H_180) (fun t119_182 H_183 =>
 aGuardK t112_156 true (fun K_184 H_185 =>
 bnd (aLdAgg 2 t119_182 H_185) fun t120_186 =>
 K_184 t120_186 H_185) (fun t120_187 H_188 =>
 aGuardK t112_156 true (fun K_189 H_190 =>
 ACalls Try.prog 22 [t114_159, t117_173, t120_187] H_190 fun t121_191 H_192 =>
 K_189 t121_191 H_192) (fun t121_193 H_194 =>
 aGuardK t112_156 true (fun K_195 H_196 =>
 bnd (aUn .not t121_193) fun t122_197 =>
 K_195 t122_197 H_196) (fun t122_198 H_199 =>
 bnd (aPick t112_156 t122_198 (.bool false)) fun t123_200 =>
 R t123_200 H_199) H_194) H_188) H_183) H_178) H_174) H_169) H_164) H_160) H_155) H_150) H_145) H_141) H_133
def S5_202 (a2 : Value) (R : Value → AHeap → Prop) (t22_2 : Value) (vs_52 : List Value) (H_53 : AHeap) : Prop :=
 bnd (aIdxAddr 2 (nth vs_52 0) (.int .i64 0)) fun t96_128 =>
 bnd (aLdAgg 2 t96_128 H_53) fun t97_129 =>
 bnd (aIdxAddr 2 (nth vs_52 0) (.int .i64 1)) fun t99_130 =>
 bnd (aLdAgg 2 t99_130 H_53) fun t100_131 =>
 ACalls Try.prog 21 [t22_2, t97_129, t100_131, (.int .i64 2000)] H_53 fun t101_132 H_133 =>
 (S5_201 a2 R t22_2 vs_52 t101_132 H_133)
def S5_203 (a0 : Value) (a2 : Value) (R : Value → AHeap → Prop) (t22_2 : Value) (t45_51 : Value) (vs_52 : List Value) (H_53 : AHeap) (again_54 : List Value → AHeap → Prop) : Prop :=
 bnd (aBin .lss .no (nth vs_52 1) (.int .i64 2)) fun t47_55 =>
 aCond t47_55 (
 (S5_127 a0 a2 R t22_2 t45_51 vs_52 H_53 again_54)) (
 (S5_202 a2 R t22_2 vs_52 H_53))
def S5_204 (a0 : Value) (a1 : Value) (a2 : Value) (R : Value → AHeap → Prop) (t22_2 : Value) (t24_4 : Value) (H_5 : AHeap) : Prop :=
 bnd (aUn .not t24_4) fun t25_6 =>
 aGuardK t25_6 false (fun K_7 H_8 =>
 K_7 t22_2 H_8) (fun t27_9 H_10 =>
 aGuardK t25_6 false (fun K_11 H_12 =>
 bnd (aBin .eql .ptr t27_9 (.pointer none)) fun t28_13 =>
 K_11 t28_13 H_12) (fun t28_14 H_15 =>
 bnd (aPick t25_6 (.bool true) t28_14) fun t29_16 =>
 aGuardK t29_16 false (fun K_17 H_18 =>
 K_17 a0 H_18) (fun t31_19 H_20 =>
 aGuardK t29_16 false (fun K_21 H_22 =>
 bnd (aLenSl t31_19) fun t32_23 =>
 K_21 t32_23 H_22) (fun t32_24 H_25 =>
 aGuardK t29_16 false (fun K_26 H_27 =>
 bnd (aBin .gtr .no t32_24 (.int .i64 200)) fun t33_28 =>
 K_26 t33_28 H_27) (fun t33_29 H_30 =>
 bnd (aPick t29_16 (.bool true) t33_29) fun t34_31 =>
 aGuardK t34_31 false (fun K_32 H_33 =>
 K_32 a0 H_33) (fun t36_34 H_35 =>
 aGuardK t34_31 false (fun K_36 H_37 =>
 bnd (aLenSl t36_34) fun t37_38 =>
 K_36 t37_38 H_37) (fun t37_39 H_40 =>
 aGuardK t34_31 false (fun K_41 H_42 =>
 bnd (aBin .eql .no t37_39 (.int .i64 0)) fun t38_43 =>
 K_41 t38_43 H_42) (fun t38_44 H_45 =>
 bnd (aPick t34_31 (.bool true) t38_44) fun t39_46 =>
 aCond t39_46 (
 ACalls Try.prog 20 [] H_45 fun t40_47 H_48 =>
 R t40_47 H_48) (
 bnd (aConvInt .i64 a1) fun t42_49 =>
 bnd (aLenSl a0) fun t44_50 =>
 bnd (aBin .rem .no t42_49 t44_50) fun t45_51 =>
 aLoop [(.slice none 0 0), (.int .i64 0)] H_45 fun vs_52 H_53 again_54 =>
 (S5_203 a0 a2 R t22_2 t45_51 vs_52 H_53 again_54))) H_40) H_35) H_30) H_25) H_20) H_15) H_10) H_5
def S5 (a0 : Value) (a1 : Value) (a2 : Value) (H : AHeap) (R : Value → AHeap → Prop) : Prop :=
 ACalls Try.prog 13 [(.int .i64 4000)] H fun t21_0 H_1 =>
 bnd (aExtract t21_0 0) fun t22_2 =>
 bnd (aExtract t21_0 1) fun t23_3 =>
 ACalls Try.prog 20 [] H_1 fun t24_4 H_5 =>
 (S5_204 a0 a1 a2 R t22_2 t24_4 H_5)
theorem S5_calls {a0 a1 a2 : Value} {H : AHeap} {R : Value → AHeap → Prop} (h : S5 a0 a1 a2 H R) : ACalls Try.prog 5 [a0, a1, a2] H R :=
  have e : S5 a0 a1 a2 H R = awpFn Try.prog (Try.f5.body.getD .skip) Try.f5.results.toList ann5 [a0, a1, a2] H R := by kernel_rfl
  calls_of_awp (fn := Try.f5) (c := Try.f5.body.getD .skip) (an := ann5) (by kernel_rfl) Try.func5 (by kernel_rfl) (by kernel_rfl) (of_decide_eq_true (by kernel_rfl)) (e ▸ h)

/-- 6: marginalia/marginalialaw06.StoreNames -/
def ann6 : Ann := (.two .leaf (.two .leaf (.two (.two .leaf (.two (.two .leaf .leaf) .leaf)) (.two .leaf (.two (.two .leaf (.one (.loop [5, 6] [2, 5, 6, 7, 8, 23, 24, 25, 26, 27, 28, 29, 30, 31, 32, 33, 34, 35, 36, 37, 38, 39, 40, 41, 42, 43, 44, 45, 46, 47, 48, 49, 50, 51, 52, 53, 54, 55, 56, 57, 58, 59, 60, 61, 62] (.two (.two .leaf (.two .leaf .leaf)) (.two (.one (.two .leaf (.two (.two .leaf (.two (.two .leaf .leaf) .leaf)) .leaf))) .leaf))))) (.two .leaf (.two (.two .leaf (.one (.loop [9] [2, 9, 10, 11, 12, 65, 66, 67, 68, 69, 70, 71, 72, 73, 74, 75, 76, 77, 78, 79, 80, 81, 82, 83, 84, 85, 86, 87, 88, 89, 90, 91, 92, 93, 94, 95, 96, 97, 98, 99, 100, 101, 102, 103, 104, 105, 106, 107, 108, 109, 110, 111, 112, 113, 114, 115, 116, 117, 118, 119, 120, 121, 122, 123, 124, 125, 126, 127, 128, 129, 130, 131, 132, 133, 134, 135, 136, 137, 138, 139, 140, 141, 142, 143] (.two (.two .leaf (.two .leaf .leaf)) (.join [] [2, 10, 11, 12, 71, 72, 73, 74, 75, 76, 77, 78, 79, 80, 81, 82, 83, 84, 85, 86, 87, 88, 89, 90, 91, 92, 93, 94, 95, 96, 97, 98, 99, 100, 101, 102, 103, 104, 105, 106, 107, 108, 109, 110, 111, 112, 113, 114, 115, 116, 117, 118, 119, 120, 121, 122, 123, 124, 125, 126, 127, 128, 129, 130, 131, 132, 133, 134, 135, 136, 137, 138, 139, 140, 141, 142, 143] (.one (.two (.two .leaf (.two .leaf .leaf)) (.two .leaf (.two (.two .leaf (.two (.two .leaf .leaf) .leaf)) (.two .leaf (.one (.loop [12] [2, 12, 104, 105, 106, 107, 108, 109, 110, 111, 112, 113, 114, 115, 116, 117, 118, 119, 120, 121, 122, 123, 124, 125, 126, 127, 128, 129, 130, 131, 132, 133, 134, 135, 136, 137, 138, 139, 140, 141, 142, 143] (.two (.two .leaf (.two .leaf .leaf)) (.two (.one (.two (.draw [(0, []), (1, []), (2, []), (3, []), (4, []), (5, []), (6, []), (7, []), (8, []), (9, []), (10, []), (11, []), (12, []), (13, []), (14, []), (15, []), (16, []), (17, []), (18, []), (19, []), (20, []), (21, []), (22, []), (23, []), (24, []), (25, []), (26, []), (27, []), (28, []), (29, []), (30, []), (31, []), (32, []), (33, []), (34, [])]) (.two (.two .leaf .leaf) .leaf))) .leaf))))))))) .leaf))))) (.two .leaf .leaf))))))))
def S6_82 (vs_17 : List Value) (again_19 : List Value → AHeap → Prop) (t7_38 : Value) (H_73 : AHeap) : Prop :=
 bnd (aLdAgg 2 t7_38 H_73) fun t60_76 =>
 aBuildSlice 2 1 28 [(.int .i64 0), (.int .i64 0)] [(0, 2, t60_76)] H_73 fun t61_77 H_78 =>
 aAppend 2 16 28 (nth vs_17 0) t61_77 H_78 fun t62_79 H_80 =>
 bnd (aBin .add .no (nth vs_17 1) (.int .i64 1)) fun t32_81 =>
 again_19 [t62_79, t32_81] H_80
def S6_83 (a0 : Value) (R : Value → AHeap → Prop) (vs_17 : List Value) (again_19 : List Value → AHeap → Prop) (t39_34 : Value) (H_35 : AHeap) : Prop :=
 bnd (aExtract t39_34 0) fun t40_36 =>
 bnd (aExtract t39_34 1) fun t41_37 =>
 aAlloc [(.int .i64 0), (.int .i64 0)] 28 H_35 fun t7_38 H_39 =>
 bnd (aSt 2 t7_38 t40_36 H_39) fun H_40 =>
 bnd (aBin .eql .no t41_37 (.int .i64 0)) fun t43_41 =>
 bnd (aIdxAddr 1 a0 (nth vs_17 1)) fun t46_42 =>
 bnd (aLdCell t46_42 H_40) fun t47_43 =>
 bnd (aLenStr t47_43) fun t48_44 =>
 bnd (aBin .geq .no t48_44 (.int .i64 1)) fun t49_45 =>
 aGuardK t49_45 true (fun K_46 H_47 =>
 K_46 a0 H_47) (fun t51_48 H_49 =>
 aGuardK t49_45 true (fun K_50 H_51 =>
 K_50 (nth vs_17 1) H_51) (fun t52_52 H_53 =>
 aGuardK t49_45 true (fun K_54 H_55 =>
 bnd (aIdxAddr 1 t51_48 t52_52) fun t53_56 =>
 K_54 t53_56 H_55) (fun t53_57 H_58 =>
 aGuardK t49_45 true (fun K_59 H_60 =>
 bnd (aLdCell t53_57 H_60) fun t54_61 =>
 K_59 t54_61 H_60) (fun t54_62 H_63 =>
 aGuardK t49_45 true (fun K_64 H_65 =>
 bnd (aLenStr t54_62) fun t55_66 =>
 K_64 t55_66 H_65) (fun t55_67 H_68 =>
 aGuardK t49_45 true (fun K_69 H_70 =>
 bnd (aBin .leq .no t55_67 (.int .i64 64)) fun t56_71 =>
 K_69 t56_71 H_70) (fun t56_72 H_73 =>
 bnd (aPick t49_45 t56_72 (.bool false)) fun t57_74 =>
 bnd (aBin .neq .bool t43_41 t57_74) fun t58_75 =>
 aCond t58_75 (
 R (.bool false) H_73) (
 (S6_82 vs_17 again_19 t7_38 H_73))) H_68) H_63) H_58) H_53) H_49) H_40
def S6_289 (a0 : Value) (R : Value → AHeap → Prop) (vs_17 : List Value) (vs_86 : List Value) (vs_163 : List Value) (H_164 : AHeap) (again_165 : List Value → AHeap → Prop) : Prop :=
 bnd (aIdxAddr 1 a0 (nth vs_163 0)) fun t111_167 =>
 bnd (aLdCell t111_167 H_164) fun t112_168 =>
 bnd (aLenStr t112_168) fun t113_169 =>
 bnd (aBin .geq .no t113_169 (.int .i64 1)) fun t114_170 =>
 aGuardK t114_170 true (fun K_171 H_172 =>
 K_171 a0 H_172) (fun t116_173 H_174 =>
 aGuardK t114_170 true (fun K_175 H_176 =>
 K_175 (nth vs_163 0) H_176) (fun t117_177 H_178 =>
 aGuardK t114_170 true (fun K_179 H_180 =>
 bnd (aIdxAddr 1 t116_173 t117_177) fun t118_181 =>
 K_179 t118_181 H_180) (fun t118_182 H_183 =>
 aGuardK t114_170 true (fun K_184 H_185 =>
 bnd (aLdCell t118_182 H_185) fun t119_186 =>
 K_184 t119_186 H_185) (fun t119_187 H_188 =>
 aGuardK t114_170 true (fun K_189 H_190 =>
 bnd (aLenStr t119_187) fun t120_191 =>
 K_189 t120_191 H_190) (fun t120_192 H_193 =>
 aGuardK t114_170 true (fun K_194 H_195 =>
 bnd (aBin .leq .no t120_192 (.int .i64 64)) fun t121_196 =>
 K_194 t121_196 H_195) (fun t121_197 H_198 =>
 bnd (aPick t114_170 t121_197 (.bool false)) fun t122_199 =>
 aGuardK t122_199 true (fun K_200 H_201 =>
 K_200 (nth vs_17 0) H_201) (fun t124_202 H_203 =>
 aGuardK t122_199 true (fun K_204 H_205 =>
 K_204 (nth vs_86 0) H_205) (fun t125_206 H_207 =>
 aGuardK t122_199 true (fun K_208 H_209 =>
 bnd (aIdxAddr 2 t124_202 t125_206) fun t126_210 =>
 K_208 t126_210 H_209) (fun t126_211 H_212 =>
 aGuardK t122_199 true (fun K_213 H_214 =>
 bnd (aLdAgg 2 t126_211 H_214) fun t127_215 =>
 K_213 t127_215 H_214) (fun t127_216 H_217 =>
 aGuardK t122_199 true (fun K_218 H_219 =>
 K_218 (nth vs_17 0) H_219) (fun t128_220 H_221 =>
 aGuardK t122_199 true (fun K_222 H_223 =>
 K_222 (nth vs_163 0) H_223) (fun t129_224 H_225 =>
 aGuardK t122_199 true (fun K_226 H_227 =>
 bnd (aIdxAddr 2 t128_220 t129_224) fun t130_228 =>
 K_226 t130_228 H_227) (fun t130_229 H_230 =>
 aGuardK t122_199 true (fun K_231 H_232 =>
 bnd (aLdAgg 2 t130_229 H_232) fun t131_233 =>
 K_231 t131_233 H_232) (fun t131_234 H_235 =>
 aGuardK t122_199 true (fun K_236 H_237 =>
 bnd (aBin .eql (.cells [.int, .int]) t127_216 t131_234) fun t132_238 =>
 K_236 t132_238 H_237) (fun t132_239 H_240 =>
 aGuardK t122_199 true (fun K_241 H_242 =>
 K_241 a0 H_242) (fun t133_243 H_244 =>
 aGuardK t122_199 true (fun K_245 H_246 =>
 K_245 (nth vs_86 0) H_246) (fun t134_247 H_248 =>
 aGuardK t122_199 true (fun K_249 H_250 =>
 bnd (aIdxAddr 1 t133_243 t134_247) fun t135_251 =>
 K_249 t135_251 H_250) (fun t135_252 H_253 =>
 aGuardK t122_199 true (fun K_254 H_255 =>
 bnd (aLdCell t135_252 H_255) fun t136_256 =>
 K_254 t136_256 H_255) (fun t136_257 H_258 =>
 aGuardK t122_199 true (fun K_259 H_260 =>
 K_259 a0 H_260) (fun t137_261 H_262 =>
 aGuardK t122_199 true (fun K_263 H_264 =>
 K_263 (nth vs_163 0) H_264) (fun t138_265 H_266 =>
 aGuardK t122_199 true (fun K_267 H_268 =>
 bnd (aIdxAddr 1 t137_261 t138_265) fun t139_269 =>
 K_267 t139_269 H_268) (fun t139_270 H_271 =>
 aGuardK t122_199 true (fun K_272 H_273 =>
 bnd (aLdCell t139_270 H_273) fun t140_274 =>
 K_272 t140_274 H_273) (fun t140_275 H_276 =>
 aGuardK t122_199 true (fun K_277 H_278 =>
 bnd (aBin .eql .no t136_257 t140_275) fun t141_279 =>
 K_277 t141_279 H_278) (fun t141_280 H_281 =>
 aGuardK t122_199 true (fun K_282 H_283 =>
 bnd (aBin .neq .bool t132_239 t141_280) fun t142_284 =>
 K_282 t142_284 H_283) (fun t142_285 H_286 =>
 bnd (aPick t122_199 t142_285 (.bool false)) fun t143_287 =>
 aCond t143_287 (
 R (.bool false) H_286) (
 bnd (aBin .add .no (nth vs_163 0) (.int .i64 1)) fun t108_288 =>
 again_165 [t108_288] H_286)) H_281) H_276) H_271) H_266) H_262) H_258) H_253) H_248) H_244) H_240) H_235) H_230) H_225) H_221) H_217) H_212) H_207) H_203) H_198) H_193) H_188) H_183) H_178) H_174) H_164
def S6_290 (a0 : Value) (R : Value → AHeap → Prop) (vs_17 : List Value) (vs_86 : List Value) (J_93 : List Value → AHeap → Prop) (vs_163 : List Value) (H_164 : AHeap) (again_165 : List Value → AHeap → Prop) : Prop :=
 bnd (aBin .lss .no (nth vs_163 0) (nth vs_86 0)) fun t106_166 =>
 aCond t106_166 (
 (S6_289 a0 R vs_17 vs_86 vs_163 H_164 again_165)) (
 J_93 [] H_164)
def S6_291 (a0 : Value) (R : Value → AHeap → Prop) (vs_17 : List Value) (vs_86 : List Value) (J_93 : List Value → AHeap → Prop) (t91_130 : Value) (H_131 : AHeap) : Prop :=
 bnd (aExtract t91_130 0) fun t92_132 =>
 bnd (aExtract t91_130 1) fun t93_133 =>
 bnd (aBin .neq .no t93_133 (.int .i64 0)) fun t95_134 =>
 aGuardK t95_134 false (fun K_135 H_136 =>
 K_135 t92_132 H_136) (fun t97_137 H_138 =>
 aGuardK t95_134 false (fun K_139 H_140 =>
 K_139 a0 H_140) (fun t98_141 H_142 =>
 aGuardK t95_134 false (fun K_143 H_144 =>
 K_143 (nth vs_86 0) H_144) (fun t99_145 H_146 =>
 aGuardK t95_134 false (fun K_147 H_148 =>
 bnd (aIdxAddr 1 t98_141 t99_145) fun t100_149 =>
 K_147 t100_149 H_148) (fun t100_150 H_151 =>
 aGuardK t95_134 false (fun K_152 H_153 =>
 bnd (aLdCell t100_150 H_153) fun t101_154 =>
 K_152 t101_154 H_153) (fun t101_155 H_156 =>
 aGuardK t95_134 false (fun K_157 H_158 =>
 bnd (aBin .neq .no t97_137 t101_155) fun t102_159 =>
 K_157 t102_159 H_158) (fun t102_160 H_161 =>
 bnd (aPick t95_134 (.bool true) t102_160) fun t103_162 =>
 aCond t103_162 (
 R (.bool false) H_161) (
 aLoop [(.int .i64 0)] H_161 fun vs_163 H_164 again_165 =>
 (S6_290 a0 R vs_17 vs_86 J_93 vs_163 H_164 again_165))) H_156) H_151) H_146) H_142) H_138) H_131
def S6_292 (a0 : Value) (R : Value → AHeap → Prop) (t15_2 : Value) (vs_17 : List Value) (vs_86 : List Value) (H_87 : AHeap) (again_88 : List Value → AHeap → Prop) : Prop :=
 aJoin (fun vs_91 H_92 =>
 bnd (aBin .add .no (nth vs_86 0) (.int .i64 1)) fun t70_94 =>
 again_88 [t70_94] H_92) fun J_93 =>
 bnd (aIdxAddr 1 a0 (nth vs_86 0)) fun t73_95 =>
 bnd (aLdCell t73_95 H_87) fun t74_96 =>
 bnd (aLenStr t74_96) fun t75_97 =>
 bnd (aBin .lss .no t75_97 (.int .i64 1)) fun t76_98 =>
 aGuardK t76_98 false (fun K_99 H_100 =>
 K_99 a0 H_100) (fun t78_101 H_102 =>
 aGuardK t76_98 false (fun K_103 H_104 =>
 K_103 (nth vs_86 0) H_104) (fun t79_105 H_106 =>
 aGuardK t76_98 false (fun K_107 H_108 =>
 bnd (aIdxAddr 1 t78_101 t79_105) fun t80_109 =>
 K_107 t80_109 H_108) (fun t80_110 H_111 =>
 aGuardK t76_98 false (fun K_112 H_113 =>
 bnd (aLdCell t80_110 H_113) fun t81_114 =>
 K_112 t81_114 H_113) (fun t81_115 H_116 =>
 aGuardK t76_98 false (fun K_117 H_118 =>
 bnd (aLenStr t81_115) fun t82_119 =>
 K_117 t82_119 H_118) (fun t82_120 H_121 =>
 aGuardK t76_98 false (fun K_122 H_123 =>
 bnd (aBin .gtr .no t82_120 (.int .i64 64)) fun t83_124 =>
 K_122 t83_124 H_123) (fun t83_125 H_126 =>
 bnd (aPick t76_98 (.bool true) t83_125) fun t84_127 =>
 aCond t84_127 (
 J_93 [] H_126) (
 bnd (aIdxAddr 2 (nth vs_17 0) (nth vs_86 0)) fun t89_128 =>
 bnd (aLdAgg 2 t89_128 H_126) fun t90_129 =>
 ACalls Try.prog 24 [t15_2, t90_129] H_126 fun t91_130 H_131 =>
 (S6_291 a0 R vs_17 vs_86 J_93 t91_130 H_131))) H_121) H_116) H_111) H_106) H_102) H_87
def S6_296 (a0 : Value) (R : Value → AHeap → Prop) (t15_2 : Value) (vs_17 : List Value) (vs_86 : List Value) (H_87 : AHeap) (again_88 : List Value → AHeap → Prop) : Prop :=
 bnd (aLenSl (nth vs_17 0)) fun t67_89 =>
 bnd (aBin .lss .no (nth vs_86 0) t67_89) fun t68_90 =>
 aCond t68_90 (
 (S6_292 a0 R t15_2 vs_17 vs_86 H_87 again_88)) (
 ACalls Try.prog 17 [t15_2] H_87 fun t145_293 H_294 =>
 bnd (aBin .eql .no t145_293 (.int .i64 0)) fun t146_295 =>
 R t146_295 H_294)
def S6_297 (a0 : Value) (R : Value → AHeap → Prop) (t15_2 : Value) (vs_17 : List Value) (H_18 : AHeap) (again_19 : List Value → AHeap → Prop) : Prop :=
 bnd (aLenSl a0) fun t25_20 =>
 bnd (aBin .lss .no (nth vs_17 1) t25_20) fun t26_21 =>
 aGuardK t26_21 true (fun K_22 H_23 =>
 K_22 (nth vs_17 1) H_23) (fun t28_24 H_25 =>
 aGuardK t26_21 true (fun K_26 H_27 =>
 bnd (aBin .lss .no t28_24 (.int .i64 60)) fun t29_28 =>
 K_26 t29_28 H_27) (fun t29_29 H_30 =>
 bnd (aPick t26_21 t29_29 (.bool false)) fun t30_31 =>
 aCond t30_31 (
 bnd (aIdxAddr 1 a0 (nth vs_17 1)) fun t37_32 =>
 bnd (aLdCell t37_32 H_30) fun t38_33 =>
 ACalls Try.prog 23 [t15_2, t38_33] H_30 fun t39_34 H_35 =>
 (S6_83 a0 R vs_17 again_19 t39_34 H_35)) (
 ACalls Try.prog 16 [t15_2, (.slice none 0 0)] H_30 fun t64_84 H_85 =>
 aLoop [(.int .i64 0)] H_85 fun vs_86 H_87 again_88 =>
 (S6_296 a0 R t15_2 vs_17 vs_86 H_87 again_88))) H_25) H_18
def S6_298 (a0 : Value) (R : Value → AHeap → Prop) (t15_2 : Value) (t16_3 : Value) (t17_4 : Value) (H_5 : AHeap) : Prop :=
 bnd (aUn .not t17_4) fun t18_6 =>
 aGuardK t18_6 false (fun K_7 H_8 =>
 K_7 t16_3 H_8) (fun t20_9 H_10 =>
 aGuardK t18_6 false (fun K_11 H_12 =>
 bnd (aBin .neq .no t20_9 (.int .i64 0)) fun t21_13 =>
 K_11 t21_13 H_12) (fun t21_14 H_15 =>
 bnd (aPick t18_6 (.bool true) t21_14) fun t22_16 =>
 aCond t22_16 (
 R (.bool false) H_15) (
 aLoop [(.slice none 0 0), (.int .i64 0)] H_15 fun vs_17 H_18 again_19 =>
 (S6_297 a0 R t15_2 vs_17 H_18 again_19))) H_10) H_5
def S6 (a0 : Value) (H : AHeap) (R : Value → AHeap → Prop) : Prop :=
 ACalls Try.prog 13 [(.int .i64 0)] H fun t14_0 H_1 =>
 bnd (aExtract t14_0 0) fun t15_2 =>
 bnd (aExtract t14_0 1) fun t16_3 =>
 ACalls Try.prog 14 [] H_1 fun t17_4 H_5 =>
 (S6_298 a0 R t15_2 t16_3 t17_4 H_5)
theorem S6_calls {a0 : Value} {H : AHeap} {R : Value → AHeap → Prop} (h : S6 a0 H R) : ACalls Try.prog 6 [a0] H R :=
  have e : S6 a0 H R = awpFn Try.prog (Try.f6.body.getD .skip) Try.f6.results.toList ann6 [a0] H R := by kernel_rfl
  calls_of_awp (fn := Try.f6) (c := Try.f6.body.getD .skip) (an := ann6) (by kernel_rfl) Try.func6 (by kernel_rfl) (by kernel_rfl) (of_decide_eq_true (by kernel_rfl)) (e ▸ h)

/-- 9: marginalia/marginalialaw07.SameRound -/
def ann9 : Ann := (.two .leaf (.two .leaf (.two (.two .leaf (.two (.two .leaf .leaf) .leaf)) (.two .leaf (.two .leaf (.two .leaf (.two (.two .leaf (.one (.loop [15] [15, 53, 54, 55, 56, 57, 58, 59, 60, 61, 62, 63] (.two (.two .leaf (.two .leaf .leaf)) (.two (.one .leaf) .leaf))))) (.two .leaf (.two .leaf .leaf)))))))))
def S9_59 (t21_2 : Value) (t14_43 : Value) (vs_46 : List Value) (H_47 : AHeap) (again_48 : List Value → AHeap → Prop) : Prop :=
 bnd (aLdAgg 2 t14_43 H_47) fun t59_50 =>
 aBuildSlice 2 1 28 [(.int .i64 0), (.int .i64 0)] [(0, 2, t59_50)] H_47 fun t60_51 H_52 =>
 ACalls Try.prog 15 [t21_2, (.int .i64 3), t60_51] H_52 fun t61_53 H_54 =>
 bnd (aExtract t61_53 0) fun t62_55 =>
 bnd (aExtract t61_53 1) fun t63_56 =>
 bnd (aSt 2 t14_43 t62_55 H_54) fun H_57 =>
 bnd (aBin .add .no (nth vs_46 0) (.int .i64 1)) fun t56_58 =>
 again_48 [t56_58] H_57
def S9_98 (R : Value → AHeap → Prop) (t50_40 : Value) (t51_41 : Value) (t68_62 : Value) (H_63 : AHeap) : Prop :=
 bnd (aExtract t68_62 0) fun t69_64 =>
 bnd (aExtract t68_62 1) fun t70_65 =>
 bnd (aExtract t68_62 2) fun t71_66 =>
 bnd (aBin .eql .no t51_41 (.int .i64 15)) fun t73_67 =>
 aGuardK t73_67 true (fun K_68 H_69 =>
 K_68 t50_40 H_69) (fun t75_70 H_71 =>
 aGuardK t73_67 true (fun K_72 H_73 =>
 bnd (aBin .eql .no t75_70 (.int .i64 0)) fun t76_74 =>
 K_72 t76_74 H_73) (fun t76_75 H_76 =>
 bnd (aPick t73_67 t76_75 (.bool false)) fun t77_77 =>
 aGuardK t77_77 true (fun K_78 H_79 =>
 K_78 t69_64 H_79) (fun t79_80 H_81 =>
 aGuardK t77_77 true (fun K_82 H_83 =>
 bnd (aUn .not t79_80) fun t80_84 =>
 K_82 t80_84 H_83) (fun t80_85 H_86 =>
 bnd (aPick t77_77 t80_85 (.bool false)) fun t81_87 =>
 aGuardK t81_87 true (fun K_88 H_89 =>
 K_88 t71_66 H_89) (fun t83_90 H_91 =>
 aGuardK t81_87 true (fun K_92 H_93 =>
 bnd (aBin .eql .no t83_90 (.int .i64 0)) fun t84_94 =>
 K_92 t84_94 H_93) (fun t84_95 H_96 =>
 bnd (aPick t81_87 t84_95 (.bool false)) fun t85_97 =>
 R t85_97 H_96) H_91) H_86) H_81) H_76) H_71) H_63
def S9_99 (R : Value → AHeap → Prop) (t21_2 : Value) (t9_27 : Value) (t50_40 : Value) (t51_41 : Value) (t14_43 : Value) (vs_46 : List Value) (H_47 : AHeap) (again_48 : List Value → AHeap → Prop) : Prop :=
 bnd (aBin .lss .no (nth vs_46 0) (.int .i64 30)) fun t54_49 =>
 aCond t54_49 (
 (S9_59 t21_2 t14_43 vs_46 H_47 again_48)) (
 bnd (aLdAgg 2 t9_27 H_47) fun t66_60 =>
 bnd (aLdAgg 2 t14_43 H_47) fun t67_61 =>
 ACalls Try.prog 21 [t21_2, t66_60, t67_61, (.int .i64 100)] H_47 fun t68_62 H_63 =>
 (S9_98 R t50_40 t51_41 t68_62 H_63))
def S9_100 (R : Value → AHeap → Prop) (t21_2 : Value) (t9_27 : Value) (t48_37 : Value) (H_38 : AHeap) : Prop :=
 bnd (aExtract t48_37 0) fun t49_39 =>
 bnd (aExtract t48_37 1) fun t50_40 =>
 bnd (aExtract t48_37 2) fun t51_41 =>
 bnd (aFill [(.int .i64 0), (.int .i64 0)] []) fun t52_42 =>
 aAlloc [(.int .i64 0), (.int .i64 0)] 28 H_38 fun t14_43 H_44 =>
 bnd (aSt 2 t14_43 (.agg t52_42.toArray) H_44) fun H_45 =>
 aLoop [(.int .i64 0)] H_45 fun vs_46 H_47 again_48 =>
 (S9_99 R t21_2 t9_27 t50_40 t51_41 t14_43 vs_46 H_47 again_48)
def S9_101 (a2 : Value) (R : Value → AHeap → Prop) (t21_2 : Value) (t34_20 : Value) (t40_25 : Value) (H_26 : AHeap) : Prop :=
 aAlloc [(.int .i64 0), (.int .i64 0)] 28 H_26 fun t9_27 H_28 =>
 aAlloc [(.int .i64 0), (.int .i64 0)] 28 H_28 fun t10_29 H_30 =>
 bnd (aSt 2 t9_27 t34_20 H_30) fun H_31 =>
 bnd (aSt 2 t10_29 t40_25 H_31) fun H_32 =>
 bnd (aLdAgg 2 t9_27 H_32) fun t43_33 =>
 bnd (aLdAgg 2 t10_29 H_32) fun t44_34 =>
 bnd (aBin .rem .no a2 (.int .u16 2000)) fun t46_35 =>
 bnd (aConvInt .i64 t46_35) fun t47_36 =>
 ACalls Try.prog 21 [t21_2, t43_33, t44_34, t47_36] H_32 fun t48_37 H_38 =>
 (S9_100 R t21_2 t9_27 t48_37 H_38)
def S9_102 (a0 : Value) (a1 : Value) (a2 : Value) (R : Value → AHeap → Prop) (t21_2 : Value) (H_15 : AHeap) : Prop :=
 bnd (aBin .rem .no a0 (.int .u8 9)) fun t31_17 =>
 bnd (aConvInt .i64 t31_17) fun t32_18 =>
 bnd (aBin .add .no t32_18 (.int .i64 1)) fun t33_19 =>
 ACalls Try.prog 28 [t21_2, t33_19] H_15 fun t34_20 H_21 =>
 bnd (aBin .rem .no a1 (.int .u8 9)) fun t37_22 =>
 bnd (aConvInt .i64 t37_22) fun t38_23 =>
 bnd (aBin .add .no t38_23 (.int .i64 1)) fun t39_24 =>
 ACalls Try.prog 28 [t21_2, t39_24] H_21 fun t40_25 H_26 =>
 (S9_101 a2 R t21_2 t34_20 t40_25 H_26)
def S9_103 (a0 : Value) (a1 : Value) (a2 : Value) (R : Value → AHeap → Prop) (t20_0 : Value) (H_1 : AHeap) : Prop :=
 bnd (aExtract t20_0 0) fun t21_2 =>
 bnd (aExtract t20_0 1) fun t22_3 =>
 ACalls Try.prog 20 [] H_1 fun t23_4 H_5 =>
 bnd (aUn .not t23_4) fun t24_6 =>
 aGuardK t24_6 false (fun K_7 H_8 =>
 K_7 t21_2 H_8) (fun t26_9 H_10 =>
 aGuardK t24_6 false (fun K_11 H_12 =>
 bnd (aBin .eql .ptr t26_9 (.pointer none)) fun t27_13 =>
 K_11 t27_13 H_12) (fun t27_14 H_15 =>
 bnd (aPick t24_6 (.bool true) t27_14) fun t28_16 =>
 aCond t28_16 (
 R (.bool false) H_15) (
 (S9_102 a0 a1 a2 R t21_2 H_15))) H_10) H_5
def S9 (a0 : Value) (a1 : Value) (a2 : Value) (H : AHeap) (R : Value → AHeap → Prop) : Prop :=
 ACalls Try.prog 13 [(.int .i64 4000)] H fun t20_0 H_1 =>
 (S9_103 a0 a1 a2 R t20_0 H_1)
theorem S9_calls {a0 a1 a2 : Value} {H : AHeap} {R : Value → AHeap → Prop} (h : S9 a0 a1 a2 H R) : ACalls Try.prog 9 [a0, a1, a2] H R :=
  have e : S9 a0 a1 a2 H R = awpFn Try.prog (Try.f9.body.getD .skip) Try.f9.results.toList ann9 [a0, a1, a2] H R := by kernel_rfl
  calls_of_awp (fn := Try.f9) (c := Try.f9.body.getD .skip) (an := ann9) (by kernel_rfl) Try.func9 (by kernel_rfl) (by kernel_rfl) (of_decide_eq_true (by kernel_rfl)) (e ▸ h)

/-- 13: marginalia/store.New -/
def ann13 : Ann := (.two .leaf (.two (.two .leaf (.two (.two .leaf .leaf) .leaf)) (.two .leaf .leaf)))
def S13_16 (a0 : Value) (R : Value → AHeap → Prop) (H_9 : AHeap) : Prop :=
 aMakeMap H_9 fun m_12 H_11 =>
 bnd (aFill [(.int .i64 0), (.int .i64 0), (.slice none 0 0), (.slice none 0 0), (.map none)] [(0, 1, a0), (4, 1, m_12)]) fun t12_13 =>
 aBox 88 (.agg t12_13.toArray) H_11 fun t13_14 H_15 =>
 R (.tuple #[t13_14, (.int .i64 0)]) H_15
def S13 (a0 : Value) (H : AHeap) (R : Value → AHeap → Prop) : Prop :=
 bnd (aBin .lss .no a0 (.int .i64 0)) fun t5_0 =>
 aGuardK t5_0 false (fun K_1 H_2 =>
 K_1 a0 H_2) (fun t7_3 H_4 =>
 aGuardK t5_0 false (fun K_5 H_6 =>
 bnd (aBin .gtr .no t7_3 (.int .i64 1048576)) fun t8_7 =>
 K_5 t8_7 H_6) (fun t8_8 H_9 =>
 bnd (aPick t5_0 (.bool true) t8_8) fun t9_10 =>
 aCond t9_10 (
 R (.tuple #[(.pointer none), (.int .i64 1)]) H_9) (
 (S13_16 a0 R H_9))) H_4) H
theorem S13_calls {a0 : Value} {H : AHeap} {R : Value → AHeap → Prop} (h : S13 a0 H R) : ACalls Try.prog 13 [a0] H R :=
  have e : S13 a0 H R = awpFn Try.prog (Try.f13.body.getD .skip) Try.f13.results.toList ann13 [a0] H R := by kernel_rfl
  calls_of_awp (fn := Try.f13) (c := Try.f13.body.getD .skip) (an := ann13) (by kernel_rfl) Try.func13 (by kernel_rfl) (by kernel_rfl) (of_decide_eq_true (by kernel_rfl)) (e ▸ h)

/-- 14: marginalia/marginalialaw06.answers -/
def ann14 : Ann := (.two .leaf (.two .leaf (.two (.two .leaf (.two (.two .leaf .leaf) .leaf)) (.two .leaf (.two .leaf (.two .leaf .leaf))))))
def S14_76 (R : Value → AHeap → Prop) (t9_2 : Value) (t23_21 : Value) (t27_26 : Value) (H_27 : AHeap) : Prop :=
 bnd (aExtract t27_26 0) fun t28_28 =>
 bnd (aExtract t27_26 1) fun t29_29 =>
 aAlloc [(.int .i64 0), (.int .i64 0)] 28 H_27 fun t5_30 H_31 =>
 bnd (aSt 2 t5_30 t28_28 H_31) fun H_32 =>
 bnd (aBin .eql .no t23_21 (.int .i64 0)) fun t31_33 =>
 aGuardK t31_33 true (fun K_34 H_35 =>
 K_34 t29_29 H_35) (fun t33_36 H_37 =>
 aGuardK t31_33 true (fun K_38 H_39 =>
 bnd (aBin .eql .no t33_36 (.int .i64 0)) fun t34_40 =>
 K_38 t34_40 H_39) (fun t34_41 H_42 =>
 bnd (aPick t31_33 t34_41 (.bool false)) fun t35_43 =>
 aGuardK t35_43 true (fun K_44 H_45 =>
 bnd (aAdd 1 t5_30) fun t37_46 =>
 K_44 t37_46 H_45) (fun t37_47 H_48 =>
 aGuardK t35_43 true (fun K_49 H_50 =>
 bnd (aLdCell t37_47 H_50) fun t38_51 =>
 K_49 t38_51 H_50) (fun t38_52 H_53 =>
 aGuardK t35_43 true (fun K_54 H_55 =>
 bnd (aBin .eql .no t38_52 (.int .i64 3)) fun t39_56 =>
 K_54 t39_56 H_55) (fun t39_57 H_58 =>
 bnd (aPick t35_43 t39_57 (.bool false)) fun t40_59 =>
 aGuardK t40_59 true (fun K_60 H_61 =>
 K_60 t9_2 H_61) (fun t42_62 H_63 =>
 aGuardK t40_59 true (fun K_64 H_65 =>
 ACalls Try.prog 17 [t42_62] H_65 fun t43_66 H_67 =>
 K_64 t43_66 H_67) (fun t43_68 H_69 =>
 aGuardK t40_59 true (fun K_70 H_71 =>
 bnd (aBin .eql .no t43_68 (.int .i64 2)) fun t44_72 =>
 K_70 t44_72 H_71) (fun t44_73 H_74 =>
 bnd (aPick t40_59 t44_73 (.bool false)) fun t45_75 =>
 R t45_75 H_74) H_69) H_63) H_58) H_53) H_48) H_42) H_37) H_32
def S14_77 (R : Value → AHeap → Prop) (t9_2 : Value) (H_13 : AHeap) : Prop :=
 bnd (aFill [(.int .i64 0), (.int .i64 0)] [(0, 1, (.int .i64 4)), (1, 1, (.int .i64 3))]) fun t19_15 =>
 aBuildSlice 2 1 28 [(.int .i64 0), (.int .i64 0)] [(0, 2, (.agg t19_15.toArray))] H_13 fun t20_16 H_17 =>
 ACalls Try.prog 15 [t9_2, (.int .i64 3), t20_16] H_17 fun t21_18 H_19 =>
 bnd (aExtract t21_18 0) fun t22_20 =>
 bnd (aExtract t21_18 1) fun t23_21 =>
 aAlloc [(.int .i64 0), (.int .i64 0)] 28 H_19 fun t3_22 H_23 =>
 bnd (aSt 2 t3_22 t22_20 H_23) fun H_24 =>
 bnd (aLdAgg 2 t3_22 H_24) fun t26_25 =>
 ACalls Try.prog 18 [t9_2, t26_25, (.int .i64 0)] H_24 fun t27_26 H_27 =>
 (S14_76 R t9_2 t23_21 t27_26 H_27)
def S14_78 (R : Value → AHeap → Prop) (t8_0 : Value) (H_1 : AHeap) : Prop :=
 bnd (aExtract t8_0 0) fun t9_2 =>
 bnd (aExtract t8_0 1) fun t10_3 =>
 bnd (aBin .neq .no t10_3 (.int .i64 0)) fun t12_4 =>
 aGuardK t12_4 false (fun K_5 H_6 =>
 K_5 t9_2 H_6) (fun t14_7 H_8 =>
 aGuardK t12_4 false (fun K_9 H_10 =>
 bnd (aBin .eql .ptr t14_7 (.pointer none)) fun t15_11 =>
 K_9 t15_11 H_10) (fun t15_12 H_13 =>
 bnd (aPick t12_4 (.bool true) t15_12) fun t16_14 =>
 aCond t16_14 (
 R (.bool false) H_13) (
 (S14_77 R t9_2 H_13))) H_8) H_1
def S14 (H : AHeap) (R : Value → AHeap → Prop) : Prop :=
 ACalls Try.prog 13 [(.int .i64 5)] H fun t8_0 H_1 =>
 (S14_78 R t8_0 H_1)
theorem S14_calls {H : AHeap} {R : Value → AHeap → Prop} (h : S14 H R) : ACalls Try.prog 14 [] H R :=
  have e : S14 H R = awpFn Try.prog (Try.f14.body.getD .skip) Try.f14.results.toList ann14 [] H R := by kernel_rfl
  calls_of_awp (fn := Try.f14) (c := Try.f14.body.getD .skip) (an := ann14) (by kernel_rfl) Try.func14 (by kernel_rfl) (by kernel_rfl) (of_decide_eq_true (by kernel_rfl)) (e ▸ h)

/-- 15: (*marginalia/store.Store).Make -/
def ann15 : Ann := (.two .leaf (.two (.one (.two .leaf (.two (.two .leaf .leaf) (.two .leaf (.two (.two .leaf .leaf) .leaf))))) (.two (.draw [(0, []), (1, []), (2, []), (3, [0]), (4, []), (5, []), (6, []), (7, []), (8, []), (9, [])]) .leaf)))
def S15_50 (a1 : Value) (R : Value → AHeap → Prop) (t3_0 : Value) (t6_2 : Value) (t24_39 : Value) (t27_40 : Value) (H_41 : AHeap) : Prop :=
 ((bnd (aLdCell t3_0 H_41) fun t24_49 =>
 t24_49 = t24_39)) ∧
 bnd (aFill [(.int .i64 0), (.slice none 0 0), (.int .i64 0), (.string ⟨#[]⟩), (.bool false), (.slice none 0 0), (.slice none 0 0), (.int .i64 0), (.slice none 0 0), (.slice none 0 0)] [(0, 1, a1), (1, 1, t27_40)]) fun t28_42 =>
 ACalls Try.prog 41 [t24_39, (.agg t28_42.toArray)] H_41 fun t29_43 H_44 =>
 bnd (aExtract t29_43 0) fun t30_45 =>
 bnd (aExtract t29_43 1) fun t31_46 =>
 bnd (aSt 2 t6_2 t30_45 H_44) fun H_47 =>
 bnd (aLdAgg 2 t6_2 H_47) fun r_48 =>
 R (.tuple #[r_48, t31_46]) H_47
def S15_51 (a1 : Value) (a2 : Value) (R : Value → AHeap → Prop) (t3_0 : Value) (t6_2 : Value) (H_29 : AHeap) : Prop :=
 ACalls Try.prog 39 [a2, (.func (.func 40) [].toArray [t3_0].toArray)] H_29 fun t22_34 H_35 =>
 aCond t22_34 (
 bnd (aFill [(.int .i64 0), (.int .i64 0)] []) fun t23_36 =>
 bnd (aSt 2 t6_2 (.agg t23_36.toArray) H_35) fun H_37 =>
 bnd (aLdAgg 2 t6_2 H_37) fun r_38 =>
 R (.tuple #[r_38, (.int .i64 2)]) H_37) (
 bnd (aLdCell t3_0 H_35) fun t24_39 =>
 ACalls Try.prog 42 [a2] H_35 fun t27_40 H_41 =>
 (S15_50 a1 R t3_0 t6_2 t24_39 t27_40 H_41))
def S15 (a0 : Value) (a1 : Value) (a2 : Value) (H : AHeap) (R : Value → AHeap → Prop) : Prop :=
 aBox 22 a0 H fun t3_0 H_1 =>
 aAlloc [(.int .i64 0), (.int .i64 0)] 28 H_1 fun t6_2 H_3 =>
 bnd (aLdCell t3_0 H_3) fun t9_4 =>
 bnd (aBin .eql .ptr t9_4 (.pointer none)) fun t10_5 =>
 aGuardK t10_5 false (fun K_6 H_7 =>
 K_6 a1 H_7) (fun t12_8 H_9 =>
 aGuardK t10_5 false (fun K_10 H_11 =>
 K_10 a2 H_11) (fun t13_12 H_13 =>
 aGuardK t10_5 false (fun K_14 H_15 =>
 bnd (aLenSl t13_12) fun t14_16 =>
 K_14 t14_16 H_15) (fun t14_17 H_18 =>
 aGuardK t10_5 false (fun K_19 H_20 =>
 ACalls Try.prog 38 [t12_8, t14_17] H_20 fun t15_21 H_22 =>
 K_19 t15_21 H_22) (fun t15_23 H_24 =>
 aGuardK t10_5 false (fun K_25 H_26 =>
 bnd (aUn .not t15_23) fun t16_27 =>
 K_25 t16_27 H_26) (fun t16_28 H_29 =>
 bnd (aPick t10_5 (.bool true) t16_28) fun t17_30 =>
 aCond t17_30 (
 bnd (aFill [(.int .i64 0), (.int .i64 0)] []) fun t18_31 =>
 bnd (aSt 2 t6_2 (.agg t18_31.toArray) H_29) fun H_32 =>
 bnd (aLdAgg 2 t6_2 H_32) fun r_33 =>
 R (.tuple #[r_33, (.int .i64 1)]) H_32) (
 (S15_51 a1 a2 R t3_0 t6_2 H_29))) H_24) H_18) H_13) H_9) H_3
theorem S15_calls {a0 a1 a2 : Value} {H : AHeap} {R : Value → AHeap → Prop} (h : S15 a0 a1 a2 H R) : ACalls Try.prog 15 [a0, a1, a2] H R :=
  have e : S15 a0 a1 a2 H R = awpFn Try.prog (Try.f15.body.getD .skip) Try.f15.results.toList ann15 [a0, a1, a2] H R := by kernel_rfl
  calls_of_awp (fn := Try.f15) (c := Try.f15.body.getD .skip) (an := ann15) (by kernel_rfl) Try.func15 (by kernel_rfl) (by kernel_rfl) (of_decide_eq_true (by kernel_rfl)) (e ▸ h)

/-- 16: (*marginalia/store.Store).Collect -/
def ann16 : Ann := (.two .leaf (.two (.one (.two .leaf (.two (.two .leaf .leaf) (.two .leaf (.two (.two .leaf .leaf) .leaf))))) (.two .leaf (.two .leaf (.two .leaf (.two .leaf (.two (.two .leaf (.one (.loop [8, 39] [8, 9, 10, 39, 40, 41, 42, 43, 44, 45, 46, 47, 48, 49, 50, 51, 52, 53, 54, 55, 56, 57, 58, 59, 60, 61, 62, 63, 64, 65] (.two .leaf (.two (.two .leaf .leaf) (.join [8] [8, 9, 10, 41, 42, 43, 44, 45, 46, 47, 48, 49, 50, 51, 52, 53, 54, 55, 56, 57, 58, 59, 60, 61, 62, 63, 64] (.one (.two .leaf (.two .leaf (.two (.two .leaf (.two .leaf (.draw [(0, []), (1, []), (2, []), (3, []), (4, [0, 3]), (5, []), (6, []), (7, []), (8, [])]))) .leaf)))) .leaf)))))) (.two .leaf (.two (.two .leaf (.one (.loop [69] [13, 69, 70, 71, 72, 73, 74, 75, 76, 77] (.two .leaf (.two (.two .leaf .leaf) (.two (.one (.two .leaf .leaf)) .leaf)))))) (.two .leaf (.two .leaf (.two .leaf (.two .leaf .leaf)))))))))))))
def S16_64 (t2_0 : Value) (t7_16 : Value) (vs_28 : List Value) (J_34 : List Value → AHeap → Prop) (t10_38 : Value) (H_40 : AHeap) : Prop :=
 bnd (aLdCell t7_16 H_40) fun t48_43 =>
 bnd (aLenSl (nth vs_28 0)) fun t51_44 =>
 bnd (aIdxAddr 1 t48_43 (nth vs_28 1)) fun t52_45 =>
 bnd (aSt 1 t52_45 t51_44 H_40) fun H_46 =>
 bnd (aLdAgg 10 t10_38 H_46) fun t54_47 =>
 aBuildSlice 10 1 94 [(.int .i64 0), (.slice none 0 0), (.int .i64 0), (.string ⟨#[]⟩), (.bool false), (.slice none 0 0), (.slice none 0 0), (.int .i64 0), (.slice none 0 0), (.slice none 0 0)] [(0, 10, t54_47)] H_46 fun t55_48 H_49 =>
 aAppend 10 168 94 (nth vs_28 0) t55_48 H_49 fun t56_50 H_51 =>
 bnd (aLdCell t2_0 H_51) fun t57_52 =>
 bnd (aNilCheck t57_52) fun t58_53 =>
 bnd (aAdd 1 t58_53) fun t59_54 =>
 bnd (aLdCell t59_54 H_51) fun t60_55 =>
 ACalls Try.prog 45 [t10_38] H_51 fun t61_56 H_57 =>
 ((bnd (aLdCell t2_0 H_57) fun t57_62 =>
 t57_62 = t57_52) ∧ (bnd (aLdCell t59_54 H_57) fun t60_63 =>
 t60_63 = t60_55)) ∧
 bnd (aBin .add .no t60_55 t61_56) fun t62_58 =>
 bnd (aNilCheck t57_52) fun t63_59 =>
 bnd (aAdd 1 t63_59) fun t64_60 =>
 bnd (aSt 1 t64_60 t62_58 H_57) fun H_61 =>
 J_34 [t56_50] H_61
def S16_65 (t2_0 : Value) (t24_7 : Value) (t7_16 : Value) (t37_26 : Value) (vs_28 : List Value) (H_29 : AHeap) (again_30 : List Value → AHeap → Prop) : Prop :=
 aJoin (fun vs_32 H_33 =>
 bnd (aBin .add .no (nth vs_28 1) (.int .i64 1)) fun t65_35 =>
 again_30 [(nth vs_32 0), t65_35] H_33) fun J_34 =>
 bnd (aIdxAddr 10 t37_26 (nth vs_28 1)) fun t42_36 =>
 bnd (aLdAgg 10 t42_36 H_29) fun t43_37 =>
 aAlloc [(.int .i64 0), (.slice none 0 0), (.int .i64 0), (.string ⟨#[]⟩), (.bool false), (.slice none 0 0), (.slice none 0 0), (.int .i64 0), (.slice none 0 0), (.slice none 0 0)] 94 H_29 fun t10_38 H_39 =>
 bnd (aSt 10 t10_38 t43_37 H_39) fun H_40 =>
 bnd (aIdxAddr 1 t24_7 (nth vs_28 1)) fun t46_41 =>
 bnd (aLdCell t46_41 H_40) fun t47_42 =>
 aCond t47_42 (
 (S16_64 t2_0 t7_16 vs_28 J_34 t10_38 H_40)) (
 J_34 [(nth vs_28 0)] H_40)
def S16_81 (t7_16 : Value) (vs_28 : List Value) (vs_67 : List Value) (H_68 : AHeap) (again_69 : List Value → AHeap → Prop) : Prop :=
 bnd (aIdxAddr 10 (nth vs_28 0) (nth vs_67 0)) fun t71_71 =>
 bnd (aLdAgg 10 t71_71 H_68) fun t72_72 =>
 aAlloc [(.int .i64 0), (.slice none 0 0), (.int .i64 0), (.string ⟨#[]⟩), (.bool false), (.slice none 0 0), (.slice none 0 0), (.int .i64 0), (.slice none 0 0), (.slice none 0 0)] 94 H_68 fun t13_73 H_74 =>
 bnd (aSt 10 t13_73 t72_72 H_74) fun H_75 =>
 bnd (aAdd 1 t13_73) fun t74_76 =>
 bnd (aLdCell t74_76 H_75) fun t75_77 =>
 aCallV Try.prog (.func (.func 46) [].toArray [t7_16].toArray) [t75_77] H_75 fun t76_78 H_79 =>
 bnd (aBin .add .no (nth vs_67 0) (.int .i64 1)) fun t77_80 =>
 again_69 [t77_80] H_79
def S16_90 (a1 : Value) (R : Value → AHeap → Prop) (t2_0 : Value) (t7_16 : Value) (vs_28 : List Value) (H_68 : AHeap) : Prop :=
 bnd (aLdCell t2_0 H_68) fun t78_82 =>
 bnd (aNilCheck t78_82) fun t80_83 =>
 bnd (aAdd 2 t80_83) fun t81_84 =>
 bnd (aSt 1 t81_84 (nth vs_28 0) H_68) fun H_85 =>
 ACalls Try.prog 42 [a1] H_85 fun t83_86 H_87 =>
 aCallV Try.prog (.func (.func 46) [].toArray [t7_16].toArray) [t83_86] H_87 fun t86_88 H_89 =>
 R (.tuple #[t83_86, (.int .i64 0)]) H_89
def S16_91 (a1 : Value) (R : Value → AHeap → Prop) (t2_0 : Value) (t7_16 : Value) (vs_28 : List Value) (t68_66 : Value) (vs_67 : List Value) (H_68 : AHeap) (again_69 : List Value → AHeap → Prop) : Prop :=
 bnd (aBin .lss .no (nth vs_67 0) t68_66) fun t70_70 =>
 aCond t70_70 (
 (S16_81 t7_16 vs_28 vs_67 H_68 again_69)) (
 (S16_90 a1 R t2_0 t7_16 vs_28 H_68))
def S16_92 (a1 : Value) (R : Value → AHeap → Prop) (t2_0 : Value) (t24_7 : Value) (t7_16 : Value) (t37_26 : Value) (t38_27 : Value) (vs_28 : List Value) (H_29 : AHeap) (again_30 : List Value → AHeap → Prop) : Prop :=
 bnd (aBin .lss .no (nth vs_28 1) t38_27) fun t40_31 =>
 aCond t40_31 (
 (S16_65 t2_0 t24_7 t7_16 t37_26 vs_28 H_29 again_30)) (
 bnd (aLenSl (nth vs_28 0)) fun t68_66 =>
 aLoop [(.int .i64 0)] H_29 fun vs_67 H_68 again_69 =>
 (S16_91 a1 R t2_0 t7_16 vs_28 t68_66 vs_67 H_68 again_69))
def S16_93 (a1 : Value) (R : Value → AHeap → Prop) (t2_0 : Value) (t24_7 : Value) (H_8 : AHeap) : Prop :=
 bnd (aLdCell t2_0 H_8) fun t25_9 =>
 bnd (aNilCheck t25_9) fun t26_10 =>
 bnd (aAdd 2 t26_10) fun t27_11 =>
 bnd (aLdCell t27_11 H_8) fun t28_12 =>
 bnd (aLenSl t28_12) fun t29_13 =>
 aMakeSlice 8 3 [(.int .i64 0)] t29_13 t29_13 H_8 fun t30_14 H_15 =>
 aAlloc [(.slice none 0 0)] 77 H_15 fun t7_16 H_17 =>
 bnd (aSt 1 t7_16 t30_14 H_17) fun H_18 =>
 bnd (aLdCell t2_0 H_18) fun t31_19 =>
 bnd (aNilCheck t31_19) fun t32_20 =>
 bnd (aAdd 1 t32_20) fun t33_21 =>
 bnd (aSt 1 t33_21 (.int .i64 0) H_18) fun H_22 =>
 bnd (aLdCell t2_0 H_22) fun t34_23 =>
 bnd (aNilCheck t34_23) fun t35_24 =>
 bnd (aAdd 2 t35_24) fun t36_25 =>
 bnd (aLdCell t36_25 H_22) fun t37_26 =>
 bnd (aLenSl t37_26) fun t38_27 =>
 aLoop [(.slice none 0 0), (.int .i64 0)] H_22 fun vs_28 H_29 again_30 =>
 (S16_92 a1 R t2_0 t24_7 t7_16 t37_26 t38_27 vs_28 H_29 again_30)
def S16_94 (a1 : Value) (R : Value → AHeap → Prop) (t2_0 : Value) (H_1 : AHeap) : Prop :=
 ACalls Try.prog 39 [a1, (.func (.func 43) [].toArray [t2_0].toArray)] H_1 fun t21_4 H_5 =>
 aCond t21_4 (
 R (.tuple #[(.slice none 0 0), (.int .i64 2)]) H_5) (
 bnd (aLdCell t2_0 H_5) fun t22_6 =>
 ACalls Try.prog 44 [t22_6, a1] H_5 fun t24_7 H_8 =>
 (S16_93 a1 R t2_0 t24_7 H_8))
def S16 (a0 : Value) (a1 : Value) (H : AHeap) (R : Value → AHeap → Prop) : Prop :=
 aBox 22 a0 H fun t2_0 H_1 =>
 bnd (aLdCell t2_0 H_1) fun t16_2 =>
 bnd (aBin .eql .ptr t16_2 (.pointer none)) fun t17_3 =>
 aCond t17_3 (
 R (.tuple #[(.slice none 0 0), (.int .i64 1)]) H_1) (
 (S16_94 a1 R t2_0 H_1))
theorem S16_calls {a0 a1 : Value} {H : AHeap} {R : Value → AHeap → Prop} (h : S16 a0 a1 H R) : ACalls Try.prog 16 [a0, a1] H R :=
  have e : S16 a0 a1 H R = awpFn Try.prog (Try.f16.body.getD .skip) Try.f16.results.toList ann16 [a0, a1] H R := by kernel_rfl
  calls_of_awp (fn := Try.f16) (c := Try.f16.body.getD .skip) (an := ann16) (by kernel_rfl) Try.func16 (by kernel_rfl) (by kernel_rfl) (of_decide_eq_true (by kernel_rfl)) (e ▸ h)

/-- 17: (*marginalia/store.Store).Used -/
def ann17 : Ann := (.two .leaf (.two (.two .leaf (.two (.two .leaf .leaf) .leaf)) (.two .leaf .leaf)))
def S17 (a0 : Value) (H : AHeap) (R : Value → AHeap → Prop) : Prop :=
 bnd (aBin .eql .ptr a0 (.pointer none)) fun t4_0 =>
 aCond t4_0 (
 R (.int .i64 0) H) (
 bnd (aNilCheck a0) fun t6_1 =>
 bnd (aAdd 1 t6_1) fun t7_2 =>
 bnd (aLdCell t7_2 H) fun t8_3 =>
 R t8_3 H)
theorem S17_calls {a0 : Value} {H : AHeap} {R : Value → AHeap → Prop} (h : S17 a0 H R) : ACalls Try.prog 17 [a0] H R :=
  have e : S17 a0 H R = awpFn Try.prog (Try.f17.body.getD .skip) Try.f17.results.toList ann17 [a0] H R := by kernel_rfl
  calls_of_awp (fn := Try.f17) (c := Try.f17.body.getD .skip) (an := ann17) (by kernel_rfl) Try.func17 (by kernel_rfl) (by kernel_rfl) (of_decide_eq_true (by kernel_rfl)) (e ▸ h)

/-- 18: (*marginalia/store.Store).Get -/
def ann18 : Ann := (.two .leaf (.two .leaf (.two (.two .leaf (.two (.two .leaf .leaf) .leaf)) (.two .leaf .leaf))))
def S18_17 (R : Value → AHeap → Prop) (t6_2 : Value) (t14_5 : Value) (H_6 : AHeap) : Prop :=
 bnd (aExtract t14_5 0) fun t15_7 =>
 bnd (aExtract t14_5 1) fun t16_8 =>
 bnd (aBin .neq .no t16_8 (.int .i64 0)) fun t18_9 =>
 aCond t18_9 (
 bnd (aFill [(.int .i64 0), (.int .i64 0)] []) fun t19_10 =>
 bnd (aSt 2 t6_2 (.agg t19_10.toArray) H_6) fun H_11 =>
 bnd (aLdAgg 2 t6_2 H_11) fun r_12 =>
 R (.tuple #[r_12, t16_8]) H_11) (
 bnd (aNilCheck t15_7) fun t22_13 =>
 bnd (aLdAgg 2 t22_13 H_6) fun t23_14 =>
 bnd (aSt 2 t6_2 t23_14 H_6) fun H_15 =>
 bnd (aLdAgg 2 t6_2 H_15) fun r_16 =>
 R (.tuple #[r_16, (.int .i64 0)]) H_15)
def S18 (a0 : Value) (a1 : Value) (a2 : Value) (H : AHeap) (R : Value → AHeap → Prop) : Prop :=
 aBox 28 a1 H fun t4_0 H_1 =>
 aAlloc [(.int .i64 0), (.int .i64 0)] 28 H_1 fun t6_2 H_3 =>
 bnd (aLdAgg 2 t4_0 H_3) fun t12_4 =>
 ACalls Try.prog 47 [a0, t12_4, a2] H_3 fun t14_5 H_6 =>
 (S18_17 R t6_2 t14_5 H_6)
theorem S18_calls {a0 a1 a2 : Value} {H : AHeap} {R : Value → AHeap → Prop} (h : S18 a0 a1 a2 H R) : ACalls Try.prog 18 [a0, a1, a2] H R :=
  have e : S18 a0 a1 a2 H R = awpFn Try.prog (Try.f18.body.getD .skip) Try.f18.results.toList ann18 [a0, a1, a2] H R := by kernel_rfl
  calls_of_awp (fn := Try.f18) (c := Try.f18.body.getD .skip) (an := ann18) (by kernel_rfl) Try.func18 (by kernel_rfl) (by kernel_rfl) (of_decide_eq_true (by kernel_rfl)) (e ▸ h)

/-- 19: (*marginalia/store.Store).Set -/
def ann19 : Ann := (.two .leaf (.two .leaf (.two (.one (.two .leaf (.two (.two .leaf .leaf) (.two .leaf (.two (.two .leaf .leaf) .leaf))))) (.two .leaf (.two .leaf .leaf)))))
def S19_17 (a0 : Value) (R : Value → AHeap → Prop) (t7_2 : Value) (H_6 : AHeap) (t16_7 : Value) : Prop :=
 bnd (aLdAgg 2 t7_2 H_6) fun t24_10 =>
 ACalls Try.prog 30 [a0, t24_10] H_6 fun t25_11 H_12 =>
 bnd (aUn .not t25_11) fun t26_13 =>
 aCond t26_13 (
 R (.int .i64 2) H_12) (
 bnd (aLdAgg 2 t7_2 H_12) fun t28_14 =>
 bnd (aNilCheck t16_7) fun t29_15 =>
 bnd (aSt 2 t29_15 t28_14 H_12) fun H_16 =>
 R (.int .i64 0) H_16)
def S19 (a0 : Value) (a1 : Value) (a2 : Value) (a3 : Value) (H : AHeap) (R : Value → AHeap → Prop) : Prop :=
 aBox 28 a1 H fun t5_0 H_1 =>
 aBox 28 a3 H_1 fun t7_2 H_3 =>
 bnd (aLdAgg 2 t5_0 H_3) fun t13_4 =>
 ACalls Try.prog 47 [a0, t13_4, a2] H_3 fun t15_5 H_6 =>
 bnd (aExtract t15_5 0) fun t16_7 =>
 bnd (aExtract t15_5 1) fun t17_8 =>
 bnd (aBin .neq .no t17_8 (.int .i64 0)) fun t20_9 =>
 aCond t20_9 (
 R t17_8 H_6) (
 (S19_17 a0 R t7_2 H_6 t16_7))
theorem S19_calls {a0 a1 a2 a3 : Value} {H : AHeap} {R : Value → AHeap → Prop} (h : S19 a0 a1 a2 a3 H R) : ACalls Try.prog 19 [a0, a1, a2, a3] H R :=
  have e : S19 a0 a1 a2 a3 H R = awpFn Try.prog (Try.f19.body.getD .skip) Try.f19.results.toList ann19 [a0, a1, a2, a3] H R := by kernel_rfl
  calls_of_awp (fn := Try.f19) (c := Try.f19.body.getD .skip) (an := ann19) (by kernel_rfl) Try.func19 (by kernel_rfl) (by kernel_rfl) (of_decide_eq_true (by kernel_rfl)) (e ▸ h)

/-- 20: marginalia/marginalialaw07.answers -/
def ann20 : Ann := (.two .leaf (.two .leaf (.two (.two .leaf (.two (.two .leaf .leaf) .leaf)) (.two .leaf (.two .leaf (.two .leaf (.two .leaf .leaf)))))))
def S20_99 (R : Value → AHeap → Prop) (t12_2 : Value) (t3_12 : Value) (t5_22 : Value) (t34_27 : Value) (H_28 : AHeap) : Prop :=
 bnd (aExtract t34_27 0) fun t35_29 =>
 bnd (aExtract t34_27 1) fun t36_30 =>
 bnd (aExtract t34_27 2) fun t37_31 =>
 aGuardK t35_29 true (fun K_32 H_33 =>
 K_32 t36_30 H_33) (fun t40_34 H_35 =>
 aGuardK t35_29 true (fun K_36 H_37 =>
 bnd (aBin .eql .no t40_34 (.int .i64 3)) fun t41_38 =>
 K_36 t41_38 H_37) (fun t41_39 H_40 =>
 bnd (aPick t35_29 t41_39 (.bool false)) fun t42_41 =>
 aGuardK t42_41 true (fun K_42 H_43 =>
 K_42 t37_31 H_43) (fun t44_44 H_45 =>
 aGuardK t42_41 true (fun K_46 H_47 =>
 bnd (aBin .eql .no t44_44 (.int .i64 0)) fun t45_48 =>
 K_46 t45_48 H_47) (fun t45_49 H_50 =>
 bnd (aPick t42_41 t45_49 (.bool false)) fun t46_51 =>
 aGuardK t46_51 true (fun K_52 H_53 =>
 K_52 t12_2 H_53) (fun t48_54 H_55 =>
 aGuardK t46_51 true (fun K_56 H_57 =>
 bnd (aLdAgg 2 t3_12 H_57) fun t49_58 =>
 K_56 t49_58 H_57) (fun t49_59 H_60 =>
 aGuardK t46_51 true (fun K_61 H_62 =>
 bnd (aLdAgg 2 t3_12 H_62) fun t50_63 =>
 K_61 t50_63 H_62) (fun t50_64 H_65 =>
 aGuardK t46_51 true (fun K_66 H_67 =>
 ACalls Try.prog 22 [t48_54, t49_59, t50_64] H_67 fun t51_68 H_69 =>
 K_66 t51_68 H_69) (fun t51_70 H_71 =>
 bnd (aPick t46_51 t51_70 (.bool false)) fun t52_72 =>
 aGuardK t52_72 true (fun K_73 H_74 =>
 K_73 t12_2 H_74) (fun t54_75 H_76 =>
 aGuardK t52_72 true (fun K_77 H_78 =>
 bnd (aLdAgg 2 t3_12 H_78) fun t55_79 =>
 K_77 t55_79 H_78) (fun t55_80 H_81 =>
 aGuardK t52_72 true (fun K_82 H_83 =>
 bnd (aLdAgg 2 t5_22 H_83) fun t56_84 =>
 K_82 t56_84 H_83) (fun t56_85 H_86 =>
 aGuardK t52_72 true (fun K_87 H_88 =>
 ACalls Try.prog 22 [t54_75, t55_80, t56_85] H_88 fun t57_89 H_90 =>
 K_87 t57_89 H_90) (fun t57_91 H_92 =>
 aGuardK t52_72 true (fun K_93 H_94 =>
 bnd (aUn .not t57_91) fun t58_95 =>
 K_93 t58_95 H_94) (fun t58_96 H_97 =>
 bnd (aPick t52_72 t58_96 (.bool false)) fun t59_98 =>
 R t59_98 H_97) H_92) H_86) H_81) H_76) H_71) H_65) H_60) H_55) H_50) H_45) H_40) H_35) H_28
def S20_100 (R : Value → AHeap → Prop) (t12_2 : Value) (t20_8 : Value) (H_9 : AHeap) : Prop :=
 bnd (aExtract t20_8 0) fun t21_10 =>
 bnd (aExtract t20_8 1) fun t22_11 =>
 aAlloc [(.int .i64 0), (.int .i64 0)] 28 H_9 fun t3_12 H_13 =>
 bnd (aSt 2 t3_12 t21_10 H_13) fun H_14 =>
 bnd (aFill [(.int .i64 0), (.int .i64 0)] []) fun t25_15 =>
 aBuildSlice 2 1 28 [(.int .i64 0), (.int .i64 0)] [(0, 2, (.agg t25_15.toArray))] H_14 fun t26_16 H_17 =>
 ACalls Try.prog 15 [t12_2, (.int .i64 3), t26_16] H_17 fun t27_18 H_19 =>
 bnd (aExtract t27_18 0) fun t28_20 =>
 bnd (aExtract t27_18 1) fun t29_21 =>
 aAlloc [(.int .i64 0), (.int .i64 0)] 28 H_19 fun t5_22 H_23 =>
 bnd (aSt 2 t5_22 t28_20 H_23) fun H_24 =>
 bnd (aLdAgg 2 t3_12 H_24) fun t32_25 =>
 bnd (aLdAgg 2 t5_22 H_24) fun t33_26 =>
 ACalls Try.prog 21 [t12_2, t32_25, t33_26, (.int .i64 5)] H_24 fun t34_27 H_28 =>
 (S20_99 R t12_2 t3_12 t5_22 t34_27 H_28)
def S20_101 (R : Value → AHeap → Prop) (H_1 : AHeap) (t12_2 : Value) : Prop :=
 bnd (aFill [(.int .i64 0), (.int .i64 0)] []) fun t18_5 =>
 aBuildSlice 2 1 28 [(.int .i64 0), (.int .i64 0)] [(0, 2, (.agg t18_5.toArray))] H_1 fun t19_6 H_7 =>
 ACalls Try.prog 15 [t12_2, (.int .i64 3), t19_6] H_7 fun t20_8 H_9 =>
 (S20_100 R t12_2 t20_8 H_9)
def S20 (H : AHeap) (R : Value → AHeap → Prop) : Prop :=
 ACalls Try.prog 13 [(.int .i64 50)] H fun t11_0 H_1 =>
 bnd (aExtract t11_0 0) fun t12_2 =>
 bnd (aExtract t11_0 1) fun t13_3 =>
 bnd (aBin .eql .ptr t12_2 (.pointer none)) fun t15_4 =>
 aCond t15_4 (
 R (.bool false) H_1) (
 (S20_101 R H_1 t12_2))
theorem S20_calls {H : AHeap} {R : Value → AHeap → Prop} (h : S20 H R) : ACalls Try.prog 20 [] H R :=
  have e : S20 H R = awpFn Try.prog (Try.f20.body.getD .skip) Try.f20.results.toList ann20 [] H R := by kernel_rfl
  calls_of_awp (fn := Try.f20) (c := Try.f20.body.getD .skip) (an := ann20) (by kernel_rfl) Try.func20 (by kernel_rfl) (by kernel_rfl) (of_decide_eq_true (by kernel_rfl)) (e ▸ h)

/-- 21: marginalia/same.Equal -/
def ann21 : Ann := (.two .leaf (.two .leaf (.two (.one (.loop [3, 11] [3, 8, 9, 10, 11, 12, 13, 14, 15, 20, 21, 22, 23, 24, 25, 26, 27, 28, 29, 30, 31, 32, 33, 34, 35, 36, 37, 38, 39, 40, 41, 42, 43, 44, 45, 46, 47, 48, 49, 50, 51, 52, 53, 54, 55, 56, 57, 58, 59, 60, 61, 62, 63, 64, 65, 66] (.two (.two .leaf (.two .leaf .leaf)) (.one (.two (.two .leaf (.two (.two .leaf .leaf) .leaf)) (.two .leaf (.two .leaf (.two .leaf (.two (.two .leaf (.two .leaf .leaf)) (.two .leaf (.two (.two .leaf (.two (.two .leaf .leaf) .leaf)) (.two .leaf (.one (.loop [11, 15] [11, 15, 56, 57, 58, 59, 60, 61, 62, 63, 64, 65, 66] (.two (.two .leaf (.two .leaf .leaf)) (.two (.one .leaf) .leaf)))))))))))))))) (.two .leaf .leaf))))
def S21_51 (t48_35 : Value) (vs_40 : List Value) (H_41 : AHeap) (again_42 : List Value → AHeap → Prop) : Prop :=
 bnd (aIdxAddr 4 t48_35 (nth vs_40 1)) fun t63_44 =>
 bnd (aLdAgg 4 t63_44 H_41) fun t64_45 =>
 aBuildSlice 4 1 102 [(.int .i64 0), (.int .i64 0), (.int .i64 0), (.int .i64 0)] [(0, 4, t64_45)] H_41 fun t65_46 H_47 =>
 aAppend 4 32 102 (nth vs_40 0) t65_46 H_47 fun t66_48 H_49 =>
 bnd (aBin .sub .no (nth vs_40 1) (.int .i64 1)) fun t59_50 =>
 again_42 [t66_48, t59_50] H_49
def S21_52 (again_11 : List Value → AHeap → Prop) (t26_15 : Value) (t48_35 : Value) (vs_40 : List Value) (H_41 : AHeap) (again_42 : List Value → AHeap → Prop) : Prop :=
 bnd (aBin .geq .no (nth vs_40 1) (.int .i64 0)) fun t57_43 =>
 aCond t57_43 (
 (S21_51 t48_35 vs_40 H_41 again_42)) (
 again_11 [t26_15, (nth vs_40 0)] H_41)
def S21_53 (a0 : Value) (R : Value → AHeap → Prop) (again_11 : List Value → AHeap → Prop) (t26_15 : Value) (t12_20 : Value) (t37_25 : Value) (H_31 : AHeap) : Prop :=
 bnd (aLdAgg 4 t12_20 H_31) fun t46_32 =>
 ACalls Try.prog 48 [a0, t46_32] H_31 fun t47_33 H_34 =>
 bnd (aExtract t47_33 0) fun t48_35 =>
 bnd (aExtract t47_33 1) fun t49_36 =>
 bnd (aUn .not t49_36) fun t51_37 =>
 aCond t51_37 (
 R (.tuple #[(.bool false), t26_15, (.int .i64 0)]) H_34) (
 bnd (aLenSl t48_35) fun t54_38 =>
 bnd (aBin .sub .no t54_38 (.int .i64 1)) fun t55_39 =>
 aLoop [t37_25, t55_39] H_34 fun vs_40 H_41 again_42 =>
 (S21_52 again_11 t26_15 t48_35 vs_40 H_41 again_42))
def S21_54 (a0 : Value) (R : Value → AHeap → Prop) (vs_9 : List Value) (H_10 : AHeap) (again_11 : List Value → AHeap → Prop) : Prop :=
 bnd (aBin .sub .no (nth vs_9 0) (.int .i64 1)) fun t26_15 =>
 bnd (aLenSl (nth vs_9 1)) fun t29_16 =>
 bnd (aBin .sub .no t29_16 (.int .i64 1)) fun t30_17 =>
 bnd (aIdxAddr 4 (nth vs_9 1) t30_17) fun t31_18 =>
 bnd (aLdAgg 4 t31_18 H_10) fun t32_19 =>
 aAlloc [(.int .i64 0), (.int .i64 0), (.int .i64 0), (.int .i64 0)] 102 H_10 fun t12_20 H_21 =>
 bnd (aSt 4 t12_20 t32_19 H_21) fun H_22 =>
 bnd (aLenSl (nth vs_9 1)) fun t35_23 =>
 bnd (aBin .sub .no t35_23 (.int .i64 1)) fun t36_24 =>
 bnd (aSliceSl 4 (nth vs_9 1) none (some t36_24)) fun t37_25 =>
 bnd (aAdd 0 t12_20) fun t39_26 =>
 bnd (aLdAgg 2 t39_26 H_22) fun t40_27 =>
 bnd (aAdd 2 t12_20) fun t41_28 =>
 bnd (aLdAgg 2 t41_28 H_22) fun t42_29 =>
 ACalls Try.prog 22 [a0, t40_27, t42_29] H_22 fun t43_30 H_31 =>
 aCond t43_30 (
 again_11 [t26_15, t37_25] H_31) (
 (S21_53 a0 R again_11 t26_15 t12_20 t37_25 H_31))
def S21_55 (a0 : Value) (R : Value → AHeap → Prop) (vs_9 : List Value) (H_10 : AHeap) (again_11 : List Value → AHeap → Prop) : Prop :=
 bnd (aLenSl (nth vs_9 1)) fun t21_12 =>
 bnd (aBin .gtr .no t21_12 (.int .i64 0)) fun t22_13 =>
 aCond t22_13 (
 bnd (aBin .leq .no (nth vs_9 0) (.int .i64 0)) fun t24_14 =>
 aCond t24_14 (
 R (.tuple #[(.bool false), (.int .i64 0), (.int .i64 15)]) H_10) (
 (S21_54 a0 R vs_9 H_10 again_11))) (
 R (.tuple #[(.bool true), (nth vs_9 0), (.int .i64 0)]) H_10)
def S21 (a0 : Value) (a1 : Value) (a2 : Value) (a3 : Value) (H : AHeap) (R : Value → AHeap → Prop) : Prop :=
 aBox 28 a1 H fun t5_0 H_1 =>
 aBox 28 a2 H_1 fun t6_2 H_3 =>
 bnd (aLdAgg 2 t5_0 H_3) fun t16_4 =>
 bnd (aLdAgg 2 t6_2 H_3) fun t17_5 =>
 bnd (aFill [(.int .i64 0), (.int .i64 0), (.int .i64 0), (.int .i64 0)] [(0, 2, t16_4), (2, 2, t17_5)]) fun t18_6 =>
 aBuildSlice 4 1 102 [(.int .i64 0), (.int .i64 0), (.int .i64 0), (.int .i64 0)] [(0, 4, (.agg t18_6.toArray))] H_3 fun t19_7 H_8 =>
 aLoop [a3, t19_7] H_8 fun vs_9 H_10 again_11 =>
 (S21_55 a0 R vs_9 H_10 again_11)
theorem S21_calls {a0 a1 a2 a3 : Value} {H : AHeap} {R : Value → AHeap → Prop} (h : S21 a0 a1 a2 a3 H R) : ACalls Try.prog 21 [a0, a1, a2, a3] H R :=
  have e : S21 a0 a1 a2 a3 H R = awpFn Try.prog (Try.f21.body.getD .skip) Try.f21.results.toList ann21 [a0, a1, a2, a3] H R := by kernel_rfl
  calls_of_awp (fn := Try.f21) (c := Try.f21.body.getD .skip) (an := ann21) (by kernel_rfl) Try.func21 (by kernel_rfl) (by kernel_rfl) (of_decide_eq_true (by kernel_rfl)) (e ▸ h)

/-- 22: marginalia/same.Eqv -/
def ann22 : Ann := (.two .leaf (.two (.two .leaf (.two (.two .leaf .leaf) .leaf)) (.two (.two (.draw [(0, []), (1, []), (2, []), (3, []), (4, []), (5, []), (6, []), (7, []), (8, []), (9, []), (10, []), (11, []), (12, []), (14, []), (15, []), (13, [15]), (16, []), (17, []), (18, [])]) (.two (.two .leaf .leaf) .leaf)) (.two (.two .leaf (.one (.loop [37] [6, 7, 8, 9, 10, 11, 37, 38, 39, 40, 41, 42, 43, 44, 45, 46, 47, 48, 49, 50, 51, 52, 53, 54, 55, 56, 57] (.two .leaf (.two (.two .leaf .leaf) (.two (.one (.two .leaf (.two .leaf (.two .leaf (.two .leaf (.two (.two .leaf .leaf) .leaf)))))) .leaf)))))) (.two .leaf .leaf)))))
def S22_95 (R : Value → AHeap → Prop) (vs_71 : List Value) (again_73 : List Value → AHeap → Prop) (t8_80 : Value) (t51_84 : Value) (H_85 : AHeap) : Prop :=
 bnd (aExtract t51_84 0) fun t52_86 =>
 bnd (aExtract t51_84 1) fun t53_87 =>
 aAlloc [(.int .i64 0), (.int .i64 0)] 28 H_85 fun t10_88 H_89 =>
 bnd (aSt 2 t10_88 t52_86 H_89) fun H_90 =>
 bnd (aLdAgg 2 t8_80 H_90) fun t54_91 =>
 bnd (aLdAgg 2 t10_88 H_90) fun t55_92 =>
 bnd (aBin .neq (.cells [.int, .int]) t54_91 t55_92) fun t56_93 =>
 aCond t56_93 (
 R (.bool false) H_90) (
 bnd (aBin .add .no (nth vs_71 0) (.int .i64 1)) fun t57_94 =>
 again_73 [t57_94] H_90)
def S22_96 (a0 : Value) (R : Value → AHeap → Prop) (t4_0 : Value) (t5_2 : Value) (vs_71 : List Value) (H_72 : AHeap) (again_73 : List Value → AHeap → Prop) : Prop :=
 bnd (aLdAgg 2 t4_0 H_72) fun t42_75 =>
 ACalls Try.prog 18 [a0, t42_75, (nth vs_71 0)] H_72 fun t44_76 H_77 =>
 bnd (aExtract t44_76 0) fun t45_78 =>
 bnd (aExtract t44_76 1) fun t46_79 =>
 aAlloc [(.int .i64 0), (.int .i64 0)] 28 H_77 fun t8_80 H_81 =>
 bnd (aSt 2 t8_80 t45_78 H_81) fun H_82 =>
 bnd (aLdAgg 2 t5_2 H_82) fun t49_83 =>
 ACalls Try.prog 18 [a0, t49_83, (nth vs_71 0)] H_82 fun t51_84 H_85 =>
 (S22_95 R vs_71 again_73 t8_80 t51_84 H_85)
def S22_97 (a0 : Value) (R : Value → AHeap → Prop) (t4_0 : Value) (t5_2 : Value) (t36_69 : Value) (vs_71 : List Value) (H_72 : AHeap) (again_73 : List Value → AHeap → Prop) : Prop :=
 bnd (aBin .lss .no (nth vs_71 0) t36_69) fun t38_74 =>
 aCond t38_74 (
 (S22_96 a0 R t4_0 t5_2 vs_71 H_72 again_73)) (
 R (.bool true) H_72)
def S22_101 (a0 : Value) (R : Value → AHeap → Prop) (t4_0 : Value) (t5_2 : Value) (t17_8 : Value) (H_9 : AHeap) : Prop :=
 bnd (aBin .neq .no t17_8 (.int .i64 5)) fun t18_10 =>
 aGuardK t18_10 false (fun K_11 H_12 =>
 K_11 a0 H_12) (fun t20_13 H_14 =>
 aGuardK t18_10 false (fun K_15 H_16 =>
 bnd (aLdAgg 2 t5_2 H_16) fun t21_17 =>
 K_15 t21_17 H_16) (fun t21_18 H_19 =>
 aGuardK t18_10 false (fun K_20 H_21 =>
 ACalls Try.prog 36 [t20_13, t21_18] H_21 fun t22_22 H_23 =>
 K_20 t22_22 H_23) (fun t22_24 H_25 =>
 aGuardK t18_10 false (fun K_26 H_27 =>
 bnd (aBin .neq .no t22_24 (.int .i64 5)) fun t23_28 =>
 K_26 t23_28 H_27) (fun t23_29 H_30 =>
 bnd (aPick t18_10 (.bool true) t23_29) fun t24_31 =>
 aGuardK t24_31 false (fun K_32 H_33 =>
 K_32 a0 H_33) (fun t26_34 H_35 =>
 aGuardK t24_31 false (fun K_36 H_37 =>
 bnd (aLdAgg 2 t4_0 H_37) fun t27_38 =>
 K_36 t27_38 H_37) (fun t27_39 H_40 =>
 aGuardK t24_31 false (fun K_41 H_42 =>
 K_41 a0 H_42) (fun t29_43 H_44 =>
 aGuardK t24_31 false (fun K_45 H_46 =>
 bnd (aLdAgg 2 t5_2 H_46) fun t30_47 =>
 K_45 t30_47 H_46) (fun t30_48 H_49 =>
 aGuardK t24_31 false (fun K_50 H_51 =>
 ACalls Try.prog 37 [t26_34, t27_39] H_51 fun t28_52 H_53 =>
 K_50 t28_52 H_53) (fun t28_54 H_55 =>
 ((aGuardK t24_31 false (fun K_98 H_99 =>
 bnd (aLdAgg 2 t5_2 H_99) fun t30_100 =>
 K_98 t30_100 H_99) (fun v _ => v = t30_48) H_55)) ∧
 aGuardK t24_31 false (fun K_56 H_57 =>
 ACalls Try.prog 37 [t29_43, t30_48] H_57 fun t31_58 H_59 =>
 K_56 t31_58 H_59) (fun t31_60 H_61 =>
 aGuardK t24_31 false (fun K_62 H_63 =>
 bnd (aBin .neq .no t28_54 t31_60) fun t32_64 =>
 K_62 t32_64 H_63) (fun t32_65 H_66 =>
 bnd (aPick t24_31 (.bool true) t32_65) fun t33_67 =>
 aCond t33_67 (
 R (.bool false) H_66) (
 bnd (aLdAgg 2 t4_0 H_66) fun t35_68 =>
 ACalls Try.prog 37 [a0, t35_68] H_66 fun t36_69 H_70 =>
 aLoop [(.int .i64 0)] H_70 fun vs_71 H_72 again_73 =>
 (S22_97 a0 R t4_0 t5_2 t36_69 vs_71 H_72 again_73))) H_61) H_55) H_49) H_44) H_40) H_35) H_30) H_25) H_19) H_14) H_9
def S22 (a0 : Value) (a1 : Value) (a2 : Value) (H : AHeap) (R : Value → AHeap → Prop) : Prop :=
 aBox 28 a1 H fun t4_0 H_1 =>
 aBox 28 a2 H_1 fun t5_2 H_3 =>
 bnd (aLdAgg 2 t4_0 H_3) fun t12_4 =>
 bnd (aLdAgg 2 t5_2 H_3) fun t13_5 =>
 bnd (aBin .eql (.cells [.int, .int]) t12_4 t13_5) fun t14_6 =>
 aCond t14_6 (
 R (.bool true) H_3) (
 bnd (aLdAgg 2 t4_0 H_3) fun t16_7 =>
 ACalls Try.prog 36 [a0, t16_7] H_3 fun t17_8 H_9 =>
 (S22_101 a0 R t4_0 t5_2 t17_8 H_9))
theorem S22_calls {a0 a1 a2 : Value} {H : AHeap} {R : Value → AHeap → Prop} (h : S22 a0 a1 a2 H R) : ACalls Try.prog 22 [a0, a1, a2] H R :=
  have e : S22 a0 a1 a2 H R = awpFn Try.prog (Try.f22.body.getD .skip) Try.f22.results.toList ann22 [a0, a1, a2] H R := by kernel_rfl
  calls_of_awp (fn := Try.f22) (c := Try.f22.body.getD .skip) (an := ann22) (by kernel_rfl) Try.func22 (by kernel_rfl) (by kernel_rfl) (of_decide_eq_true (by kernel_rfl)) (e ▸ h)

/-- 23: (*marginalia/store.Store).Symbol -/
def ann23 : Ann := (.two .leaf (.two (.two .leaf (.two (.two .leaf .leaf) .leaf)) (.two .leaf (.join [6] [6, 29, 30, 31, 32, 33, 34, 35, 36, 37, 38, 39, 40, 41, 42, 43, 44, 45, 46, 47, 48, 49, 50, 51] (.two .leaf (.two (.two .leaf (.two .leaf .leaf)) .leaf)) (.two .leaf .leaf)))))
def S23_62 (a0 : Value) (a1 : Value) (H_26 : AHeap) (J_39 : List Value → AHeap → Prop) : Prop :=
 bnd (aNilCheck a0) fun t32_44 =>
 bnd (aAdd 3 t32_44) fun t33_45 =>
 bnd (aLdCell t33_45 H_26) fun t34_46 =>
 bnd (aLenSl t34_46) fun t35_47 =>
 bnd (aNilCheck a0) fun t37_48 =>
 bnd (aAdd 4 t37_48) fun t38_49 =>
 bnd (aLdCell t38_49 H_26) fun t39_50 =>
 bnd (aMapUpd t39_50 a1 t35_47 H_26) fun H_51 =>
 bnd (aNilCheck a0) fun t44_52 =>
 bnd (aAdd 3 t44_52) fun t45_53 =>
 bnd (aLdCell t45_53 H_51) fun t46_54 =>
 aBuildSlice 1 1 9 [(.string ⟨#[]⟩)] [(0, 1, a1)] H_51 fun t48_55 H_56 =>
 aAppend 1 16 9 t46_54 t48_55 H_56 fun t49_57 H_58 =>
 bnd (aNilCheck a0) fun t50_59 =>
 bnd (aAdd 3 t50_59) fun t51_60 =>
 bnd (aSt 1 t51_60 t49_57 H_58) fun H_61 =>
 J_39 [t35_47] H_61
def S23_63 (R : Value → AHeap → Prop) (t4_0 : Value) (vs_37 : List Value) (H_38 : AHeap) : Prop :=
 bnd (aFill [(.int .i64 0), (.int .i64 0)] [(0, 1, (.int .i64 6)), (1, 1, (nth vs_37 0))]) fun t53_40 =>
 bnd (aSt 2 t4_0 (.agg t53_40.toArray) H_38) fun H_41 =>
 bnd (aLdAgg 2 t4_0 H_41) fun r_42 =>
 R (.tuple #[r_42, (.int .i64 0)]) H_41
def S23_64 (a0 : Value) (a1 : Value) (R : Value → AHeap → Prop) (t4_0 : Value) (H_26 : AHeap) : Prop :=
 bnd (aNilCheck a0) fun t22_31 =>
 bnd (aAdd 4 t22_31) fun t23_32 =>
 bnd (aLdCell t23_32 H_26) fun t24_33 =>
 bnd (aLookup (.int .i64 0) t24_33 a1 H_26) fun t26_34 =>
 bnd (aExtract t26_34 0) fun t27_35 =>
 bnd (aExtract t26_34 1) fun t28_36 =>
 aJoin (fun vs_37 H_38 =>
 (S23_63 R t4_0 vs_37 H_38)) fun J_39 =>
 bnd (aUn .not t28_36) fun t30_43 =>
 aCond t30_43 (
 (S23_62 a0 a1 H_26 J_39)) (
 J_39 [t27_35] H_26)
def S23 (a0 : Value) (a1 : Value) (H : AHeap) (R : Value → AHeap → Prop) : Prop :=
 aAlloc [(.int .i64 0), (.int .i64 0)] 28 H fun t4_0 H_1 =>
 bnd (aBin .eql .ptr a0 (.pointer none)) fun t9_2 =>
 aGuardK t9_2 false (fun K_3 H_4 =>
 K_3 a1 H_4) (fun t11_5 H_6 =>
 aGuardK t9_2 false (fun K_7 H_8 =>
 bnd (aBin .eql .no t11_5 (.string ⟨#[]⟩)) fun t12_9 =>
 K_7 t12_9 H_8) (fun t12_10 H_11 =>
 bnd (aPick t9_2 (.bool true) t12_10) fun t13_12 =>
 aGuardK t13_12 false (fun K_13 H_14 =>
 K_13 a1 H_14) (fun t15_15 H_16 =>
 aGuardK t13_12 false (fun K_17 H_18 =>
 bnd (aLenStr t15_15) fun t16_19 =>
 K_17 t16_19 H_18) (fun t16_20 H_21 =>
 aGuardK t13_12 false (fun K_22 H_23 =>
 bnd (aBin .gtr .no t16_20 (.int .i64 64)) fun t17_24 =>
 K_22 t17_24 H_23) (fun t17_25 H_26 =>
 bnd (aPick t13_12 (.bool true) t17_25) fun t18_27 =>
 aCond t18_27 (
 bnd (aFill [(.int .i64 0), (.int .i64 0)] []) fun t19_28 =>
 bnd (aSt 2 t4_0 (.agg t19_28.toArray) H_26) fun H_29 =>
 bnd (aLdAgg 2 t4_0 H_29) fun r_30 =>
 R (.tuple #[r_30, (.int .i64 1)]) H_29) (
 (S23_64 a0 a1 R t4_0 H_26))) H_21) H_16) H_11) H_6) H_1
theorem S23_calls {a0 a1 : Value} {H : AHeap} {R : Value → AHeap → Prop} (h : S23 a0 a1 H R) : ACalls Try.prog 23 [a0, a1] H R :=
  have e : S23 a0 a1 H R = awpFn Try.prog (Try.f23.body.getD .skip) Try.f23.results.toList ann23 [a0, a1] H R := by kernel_rfl
  calls_of_awp (fn := Try.f23) (c := Try.f23.body.getD .skip) (an := ann23) (by kernel_rfl) Try.func23 (by kernel_rfl) (by kernel_rfl) (of_decide_eq_true (by kernel_rfl)) (e ▸ h)

/-- 24: (*marginalia/store.Store).Name -/
def ann24 : Ann := (.two .leaf (.two (.one (.two .leaf (.two (.two .leaf .leaf) (.two .leaf (.two (.two .leaf .leaf) .leaf))))) (.two (.draw [(0, []), (1, []), (2, []), (3, []), (4, []), (5, []), (6, []), (7, []), (8, []), (9, [])]) .leaf)))
def S24_34 (a0 : Value) (R : Value → AHeap → Prop) (t3_0 : Value) (H_25 : AHeap) : Prop :=
 bnd (aNilCheck a0) fun t20_27 =>
 bnd (aAdd 3 t20_27) fun t21_28 =>
 bnd (aLdCell t21_28 H_25) fun t22_29 =>
 bnd (aAdd 1 t3_0) fun t23_30 =>
 bnd (aLdCell t23_30 H_25) fun t24_31 =>
 bnd (aIdxAddr 1 t22_29 t24_31) fun t25_32 =>
 bnd (aLdCell t25_32 H_25) fun t26_33 =>
 R (.tuple #[t26_33, (.int .i64 0)]) H_25
def S24_35 (a0 : Value) (R : Value → AHeap → Prop) (t3_0 : Value) (H_1 : AHeap) : Prop :=
 bnd (aAdd 0 t3_0) fun t10_3 =>
 bnd (aLdCell t10_3 H_1) fun t11_4 =>
 bnd (aBin .neq .no t11_4 (.int .i64 6)) fun t12_5 =>
 aGuardK t12_5 false (fun K_6 H_7 =>
 K_6 a0 H_7) (fun t14_8 H_9 =>
 aGuardK t12_5 false (fun K_10 H_11 =>
 bnd (aLdAgg 2 t3_0 H_11) fun t15_12 =>
 K_10 t15_12 H_11) (fun t15_13 H_14 =>
 aGuardK t12_5 false (fun K_15 H_16 =>
 ACalls Try.prog 30 [t14_8, t15_13] H_16 fun t16_17 H_18 =>
 K_15 t16_17 H_18) (fun t16_19 H_20 =>
 aGuardK t12_5 false (fun K_21 H_22 =>
 bnd (aUn .not t16_19) fun t17_23 =>
 K_21 t17_23 H_22) (fun t17_24 H_25 =>
 bnd (aPick t12_5 (.bool true) t17_24) fun t18_26 =>
 aCond t18_26 (
 R (.tuple #[(.string ⟨#[]⟩), (.int .i64 10)]) H_25) (
 (S24_34 a0 R t3_0 H_25))) H_20) H_14) H_9) H_1
def S24 (a0 : Value) (a1 : Value) (H : AHeap) (R : Value → AHeap → Prop) : Prop :=
 aBox 28 a1 H fun t3_0 H_1 =>
 bnd (aBin .eql .ptr a0 (.pointer none)) fun t8_2 =>
 aCond t8_2 (
 R (.tuple #[(.string ⟨#[]⟩), (.int .i64 1)]) H_1) (
 (S24_35 a0 R t3_0 H_1))
theorem S24_calls {a0 a1 : Value} {H : AHeap} {R : Value → AHeap → Prop} (h : S24 a0 a1 H R) : ACalls Try.prog 24 [a0, a1] H R :=
  have e : S24 a0 a1 H R = awpFn Try.prog (Try.f24.body.getD .skip) Try.f24.results.toList ann24 [a0, a1] H R := by kernel_rfl
  calls_of_awp (fn := Try.f24) (c := Try.f24.body.getD .skip) (an := ann24) (by kernel_rfl) Try.func24 (by kernel_rfl) (by kernel_rfl) (of_decide_eq_true (by kernel_rfl)) (e ▸ h)

/-- 28: marginalia/marginalialaw07.ring -/
def ann28 : Ann := (.two .leaf (.two .leaf (.two .leaf (.two (.two .leaf (.one (.loop [8] [8, 9, 10, 19, 20, 21, 22, 23, 24, 25, 26, 27, 28, 29, 30, 31] (.two (.two .leaf (.two .leaf .leaf)) (.two (.one (.two .leaf .leaf)) .leaf))))) (.two .leaf (.two .leaf .leaf))))))
def S28_33 (a0 : Value) (t7_13 : Value) (vs_16 : List Value) (H_17 : AHeap) (again_18 : List Value → AHeap → Prop) : Prop :=
 bnd (aLdAgg 2 t7_13 H_17) fun t26_20 =>
 aBuildSlice 2 1 28 [(.int .i64 0), (.int .i64 0)] [(0, 2, t26_20)] H_17 fun t27_21 H_22 =>
 ACalls Try.prog 15 [a0, (.int .i64 3), t27_21] H_22 fun t28_23 H_24 =>
 bnd (aExtract t28_23 0) fun t29_25 =>
 bnd (aExtract t28_23 1) fun t30_26 =>
 aAlloc [(.int .i64 0), (.int .i64 0)] 28 H_24 fun t9_27 H_28 =>
 bnd (aSt 2 t9_27 t29_25 H_28) fun H_29 =>
 bnd (aLdAgg 2 t9_27 H_29) fun t31_30 =>
 bnd (aSt 2 t7_13 t31_30 H_29) fun H_31 =>
 bnd (aBin .add .no (nth vs_16 0) (.int .i64 1)) fun t23_32 =>
 again_18 [t23_32] H_31
def S28_41 (a0 : Value) (R : Value → AHeap → Prop) (t4_0 : Value) (t5_9 : Value) (t7_13 : Value) (H_17 : AHeap) : Prop :=
 bnd (aLdAgg 2 t5_9 H_17) fun t33_34 =>
 bnd (aLdAgg 2 t7_13 H_17) fun t34_35 =>
 ACalls Try.prog 19 [a0, t33_34, (.int .i64 0), t34_35] H_17 fun t35_36 H_37 =>
 bnd (aLdAgg 2 t7_13 H_37) fun t36_38 =>
 bnd (aSt 2 t4_0 t36_38 H_37) fun H_39 =>
 bnd (aLdAgg 2 t4_0 H_39) fun r_40 =>
 R r_40 H_39
def S28_42 (a0 : Value) (a1 : Value) (R : Value → AHeap → Prop) (t4_0 : Value) (t5_9 : Value) (t7_13 : Value) (vs_16 : List Value) (H_17 : AHeap) (again_18 : List Value → AHeap → Prop) : Prop :=
 bnd (aBin .lss .no (nth vs_16 0) a1) fun t21_19 =>
 aCond t21_19 (
 (S28_33 a0 t7_13 vs_16 H_17 again_18)) (
 (S28_41 a0 R t4_0 t5_9 t7_13 H_17))
def S28_43 (a0 : Value) (a1 : Value) (R : Value → AHeap → Prop) (t4_0 : Value) (t15_5 : Value) (H_6 : AHeap) : Prop :=
 bnd (aExtract t15_5 0) fun t16_7 =>
 bnd (aExtract t15_5 1) fun t17_8 =>
 aAlloc [(.int .i64 0), (.int .i64 0)] 28 H_6 fun t5_9 H_10 =>
 bnd (aSt 2 t5_9 t16_7 H_10) fun H_11 =>
 bnd (aLdAgg 2 t5_9 H_11) fun t18_12 =>
 aAlloc [(.int .i64 0), (.int .i64 0)] 28 H_11 fun t7_13 H_14 =>
 bnd (aSt 2 t7_13 t18_12 H_14) fun H_15 =>
 aLoop [(.int .i64 1)] H_15 fun vs_16 H_17 again_18 =>
 (S28_42 a0 a1 R t4_0 t5_9 t7_13 vs_16 H_17 again_18)
def S28 (a0 : Value) (a1 : Value) (H : AHeap) (R : Value → AHeap → Prop) : Prop :=
 aAlloc [(.int .i64 0), (.int .i64 0)] 28 H fun t4_0 H_1 =>
 bnd (aFill [(.int .i64 0), (.int .i64 0)] []) fun t13_2 =>
 aBuildSlice 2 1 28 [(.int .i64 0), (.int .i64 0)] [(0, 2, (.agg t13_2.toArray))] H_1 fun t14_3 H_4 =>
 ACalls Try.prog 15 [a0, (.int .i64 3), t14_3] H_4 fun t15_5 H_6 =>
 (S28_43 a0 a1 R t4_0 t15_5 H_6)
theorem S28_calls {a0 a1 : Value} {H : AHeap} {R : Value → AHeap → Prop} (h : S28 a0 a1 H R) : ACalls Try.prog 28 [a0, a1] H R :=
  have e : S28 a0 a1 H R = awpFn Try.prog (Try.f28.body.getD .skip) Try.f28.results.toList ann28 [a0, a1] H R := by kernel_rfl
  calls_of_awp (fn := Try.f28) (c := Try.f28.body.getD .skip) (an := ann28) (by kernel_rfl) Try.func28 (by kernel_rfl) (by kernel_rfl) (of_decide_eq_true (by kernel_rfl)) (e ▸ h)

/-- 30: (*marginalia/store.Store).Sound -/
def ann30 : Ann := (.two .leaf (.two (.two .leaf (.one (.join [7] [7, 8, 9, 10, 11, 12] (.two .leaf (.two .leaf (.two .leaf (.two .leaf (.two .leaf (.two .leaf (.two .leaf (.two .leaf .leaf)))))))) (.two (.two .leaf .leaf) (.two .leaf (.two (.two .leaf .leaf) (.two .leaf (.two (.two .leaf .leaf) (.two .leaf (.two (.two .leaf .leaf) (.two .leaf (.two (.two (.draw [(0, []), (1, []), (2, []), (3, []), (4, []), (5, []), (6, []), (7, []), (8, []), (9, []), (10, []), (11, []), (12, []), (13, []), (14, []), (15, []), (16, []), (17, [])]) .leaf) (.two .leaf (.two (.two .leaf .leaf) .leaf)))))))))))))) (.two .leaf .leaf)))
def S30_24 (a0 : Value) (R : Value → AHeap → Prop) (t3_0 : Value) (H_5 : AHeap) : Prop :=
 bnd (aBin .neq .ptr a0 (.pointer none)) fun t14_7 =>
 aGuardK t14_7 true (fun K_8 H_9 =>
 bnd (aAdd 1 t3_0) fun t16_10 =>
 K_8 t16_10 H_9) (fun t16_11 H_12 =>
 aGuardK t14_7 true (fun K_13 H_14 =>
 bnd (aLdCell t16_11 H_14) fun t17_15 =>
 K_13 t17_15 H_14) (fun t17_16 H_17 =>
 aGuardK t14_7 true (fun K_18 H_19 =>
 bnd (aBin .eql .no t17_16 (.int .i64 0)) fun t18_20 =>
 K_18 t18_20 H_19) (fun t18_21 H_22 =>
 bnd (aPick t14_7 t18_21 (.bool false)) fun t19_23 =>
 R t19_23 H_22) H_17) H_12) H_5
def S30_46 (a0 : Value) (R : Value → AHeap → Prop) (t3_0 : Value) (H_5 : AHeap) : Prop :=
 bnd (aBin .neq .ptr a0 (.pointer none)) fun t27_28 =>
 aGuardK t27_28 true (fun K_29 H_30 =>
 bnd (aAdd 1 t3_0) fun t29_31 =>
 K_29 t29_31 H_30) (fun t29_32 H_33 =>
 aGuardK t27_28 true (fun K_34 H_35 =>
 bnd (aLdCell t29_32 H_35) fun t30_36 =>
 K_34 t30_36 H_35) (fun t30_37 H_38 =>
 aGuardK t27_28 true (fun K_39 H_40 =>
 ACalls Try.prog 61 [t30_37] H_40 fun t31_41 H_42 =>
 K_39 t31_41 H_42) (fun t31_43 H_44 =>
 bnd (aPick t27_28 t31_43 (.bool false)) fun t32_45 =>
 R t32_45 H_44) H_38) H_33) H_5
def S30_81 (a0 : Value) (R : Value → AHeap → Prop) (t3_0 : Value) (H_5 : AHeap) : Prop :=
 bnd (aBin .neq .ptr a0 (.pointer none)) fun t36_48 =>
 aGuardK t36_48 true (fun K_49 H_50 =>
 bnd (aAdd 1 t3_0) fun t38_51 =>
 K_49 t38_51 H_50) (fun t38_52 H_53 =>
 aGuardK t36_48 true (fun K_54 H_55 =>
 bnd (aLdCell t38_52 H_55) fun t39_56 =>
 K_54 t39_56 H_55) (fun t39_57 H_58 =>
 aGuardK t36_48 true (fun K_59 H_60 =>
 bnd (aBin .geq .no t39_57 (.int .i64 0)) fun t40_61 =>
 K_59 t40_61 H_60) (fun t40_62 H_63 =>
 bnd (aPick t36_48 t40_62 (.bool false)) fun t41_64 =>
 aGuardK t41_64 true (fun K_65 H_66 =>
 bnd (aAdd 1 t3_0) fun t43_67 =>
 K_65 t43_67 H_66) (fun t43_68 H_69 =>
 aGuardK t41_64 true (fun K_70 H_71 =>
 bnd (aLdCell t43_68 H_71) fun t44_72 =>
 K_70 t44_72 H_71) (fun t44_73 H_74 =>
 aGuardK t41_64 true (fun K_75 H_76 =>
 bnd (aBin .lss .no t44_73 (.int .i64 256)) fun t45_77 =>
 K_75 t45_77 H_76) (fun t45_78 H_79 =>
 bnd (aPick t41_64 t45_78 (.bool false)) fun t46_80 =>
 R t46_80 H_79) H_74) H_69) H_63) H_58) H_53) H_5
def S30_140 (a0 : Value) (R : Value → AHeap → Prop) (t3_0 : Value) (H_5 : AHeap) : Prop :=
 bnd (aBin .neq .ptr a0 (.pointer none)) fun t50_83 =>
 aGuardK t50_83 true (fun K_84 H_85 =>
 bnd (aAdd 1 t3_0) fun t52_86 =>
 K_84 t52_86 H_85) (fun t52_87 H_88 =>
 aGuardK t50_83 true (fun K_89 H_90 =>
 bnd (aLdCell t52_87 H_90) fun t53_91 =>
 K_89 t53_91 H_90) (fun t53_92 H_93 =>
 aGuardK t50_83 true (fun K_94 H_95 =>
 bnd (aBin .geq .no t53_92 (.int .i64 0)) fun t54_96 =>
 K_94 t54_96 H_95) (fun t54_97 H_98 =>
 bnd (aPick t50_83 t54_97 (.bool false)) fun t55_99 =>
 aGuardK t55_99 true (fun K_100 H_101 =>
 bnd (aAdd 1 t3_0) fun t57_102 =>
 K_100 t57_102 H_101) (fun t57_103 H_104 =>
 aGuardK t55_99 true (fun K_105 H_106 =>
 bnd (aLdCell t57_103 H_106) fun t58_107 =>
 K_105 t58_107 H_106) (fun t58_108 H_109 =>
 aGuardK t55_99 true (fun K_110 H_111 =>
 K_110 a0 H_111) (fun t59_112 H_113 =>
 aGuardK t55_99 true (fun K_114 H_115 =>
 bnd (aNilCheck t59_112) fun t60_116 =>
 K_114 t60_116 H_115) (fun t60_117 H_118 =>
 aGuardK t55_99 true (fun K_119 H_120 =>
 bnd (aAdd 3 t60_117) fun t61_121 =>
 K_119 t61_121 H_120) (fun t61_122 H_123 =>
 aGuardK t55_99 true (fun K_124 H_125 =>
 bnd (aLdCell t61_122 H_125) fun t62_126 =>
 K_124 t62_126 H_125) (fun t62_127 H_128 =>
 aGuardK t55_99 true (fun K_129 H_130 =>
 bnd (aLenSl t62_127) fun t63_131 =>
 K_129 t63_131 H_130) (fun t63_132 H_133 =>
 aGuardK t55_99 true (fun K_134 H_135 =>
 bnd (aBin .lss .no t58_108 t63_132) fun t64_136 =>
 K_134 t64_136 H_135) (fun t64_137 H_138 =>
 bnd (aPick t55_99 t64_137 (.bool false)) fun t65_139 =>
 R t65_139 H_138) H_133) H_128) H_123) H_118) H_113) H_109) H_104) H_98) H_93) H_88) H_5
def S30_146 (a0 : Value) (R : Value → AHeap → Prop) (t3_0 : Value) (t6_3 : Value) (H_5 : AHeap) : Prop :=
 bnd (aBin .eql .no t6_3 (.int .i64 7)) fun t67_141 =>
 aCond t67_141 (
 bnd (aLdAgg 2 t3_0 H_5) fun t69_142 =>
 ACalls Try.prog 62 [a0, t69_142] H_5 fun t70_143 H_144 =>
 bnd (aBin .neq .ptr t70_143 (.pointer none)) fun t71_145 =>
 R t71_145 H_144) (
 R (.bool false) H_5)
def S30_147 (a0 : Value) (R : Value → AHeap → Prop) (t3_0 : Value) (t6_3 : Value) (H_5 : AHeap) : Prop :=
 bnd (aBin .eql .no t6_3 (.int .i64 5)) fun t25_27 =>
 aCond t25_27 (
 (S30_46 a0 R t3_0 H_5)) (
 bnd (aBin .eql .no t6_3 (.int .i64 8)) fun t34_47 =>
 aCond t34_47 (
 (S30_81 a0 R t3_0 H_5)) (
 bnd (aBin .eql .no t6_3 (.int .i64 6)) fun t48_82 =>
 aCond t48_82 (
 (S30_140 a0 R t3_0 H_5)) (
 (S30_146 a0 R t3_0 t6_3 H_5))))
def S30_153 (H_1 : AHeap) (t6_3 : Value) (J_6 : List Value → AHeap → Prop) : Prop :=
 bnd (aBin .eql .no t6_3 (.int .i64 2)) fun t10_150 =>
 aCond t10_150 (
 J_6 [t10_150] H_1) (
 bnd (aBin .eql .no t6_3 (.int .i64 3)) fun t11_151 =>
 aCond t11_151 (
 J_6 [t11_151] H_1) (
 bnd (aBin .eql .no t6_3 (.int .i64 9)) fun t12_152 =>
 J_6 [t12_152] H_1))
def S30_154 (a0 : Value) (R : Value → AHeap → Prop) (t3_0 : Value) (t6_3 : Value) (vs_4 : List Value) (H_5 : AHeap) : Prop :=
 aCond (nth vs_4 0) (
 (S30_24 a0 R t3_0 H_5)) (
 bnd (aBin .eql .no t6_3 (.int .i64 4)) fun t21_25 =>
 aCond t21_25 (
 bnd (aBin .neq .ptr a0 (.pointer none)) fun t23_26 =>
 R t23_26 H_5) (
 (S30_147 a0 R t3_0 t6_3 H_5)))
def S30 (a0 : Value) (a1 : Value) (H : AHeap) (R : Value → AHeap → Prop) : Prop :=
 aBox 28 a1 H fun t3_0 H_1 =>
 bnd (aAdd 0 t3_0) fun t5_2 =>
 bnd (aLdCell t5_2 H_1) fun t6_3 =>
 aJoin (fun vs_4 H_5 =>
 (S30_154 a0 R t3_0 t6_3 vs_4 H_5)) fun J_6 =>
 bnd (aBin .eql .no t6_3 (.int .i64 0)) fun t8_148 =>
 aCond t8_148 (
 J_6 [t8_148] H_1) (
 bnd (aBin .eql .no t6_3 (.int .i64 1)) fun t9_149 =>
 aCond t9_149 (
 J_6 [t9_149] H_1) (
 (S30_153 H_1 t6_3 J_6)))
theorem S30_calls {a0 a1 : Value} {H : AHeap} {R : Value → AHeap → Prop} (h : S30 a0 a1 H R) : ACalls Try.prog 30 [a0, a1] H R :=
  have e : S30 a0 a1 H R = awpFn Try.prog (Try.f30.body.getD .skip) Try.f30.results.toList ann30 [a0, a1] H R := by kernel_rfl
  calls_of_awp (fn := Try.f30) (c := Try.f30.body.getD .skip) (an := ann30) (by kernel_rfl) Try.func30 (by kernel_rfl) (by kernel_rfl) (of_decide_eq_true (by kernel_rfl)) (e ▸ h)

/-- 36: (*marginalia/store.Store).Kind -/
def ann36 : Ann := (.two .leaf (.two (.two .leaf (.two .leaf (.two (.two .leaf .leaf) .leaf))) (.two .leaf .leaf)))
def S36 (a0 : Value) (a1 : Value) (H : AHeap) (R : Value → AHeap → Prop) : Prop :=
 aBox 28 a1 H fun t3_0 H_1 =>
 bnd (aLdAgg 2 t3_0 H_1) fun t7_2 =>
 ACalls Try.prog 62 [a0, t7_2] H_1 fun t8_3 H_4 =>
 bnd (aBin .neq .ptr t8_3 (.pointer none)) fun t10_5 =>
 aCond t10_5 (
 bnd (aNilCheck t8_3) fun t12_6 =>
 bnd (aAdd 0 t12_6) fun t13_7 =>
 bnd (aLdCell t13_7 H_4) fun t14_8 =>
 R t14_8 H_4) (
 R (.int .i64 0) H_4)
theorem S36_calls {a0 a1 : Value} {H : AHeap} {R : Value → AHeap → Prop} (h : S36 a0 a1 H R) : ACalls Try.prog 36 [a0, a1] H R :=
  have e : S36 a0 a1 H R = awpFn Try.prog (Try.f36.body.getD .skip) Try.f36.results.toList ann36 [a0, a1] H R := by kernel_rfl
  calls_of_awp (fn := Try.f36) (c := Try.f36.body.getD .skip) (an := ann36) (by kernel_rfl) Try.func36 (by kernel_rfl) (by kernel_rfl) (of_decide_eq_true (by kernel_rfl)) (e ▸ h)

/-- 37: (*marginalia/store.Store).Len -/
def ann37 : Ann := (.two .leaf (.two (.two .leaf (.two .leaf (.two (.two .leaf .leaf) .leaf))) (.two .leaf .leaf)))
def S37 (a0 : Value) (a1 : Value) (H : AHeap) (R : Value → AHeap → Prop) : Prop :=
 aBox 28 a1 H fun t3_0 H_1 =>
 bnd (aLdAgg 2 t3_0 H_1) fun t7_2 =>
 ACalls Try.prog 62 [a0, t7_2] H_1 fun t8_3 H_4 =>
 bnd (aBin .neq .ptr t8_3 (.pointer none)) fun t10_5 =>
 aCond t10_5 (
 bnd (aNilCheck t8_3) fun t12_6 =>
 bnd (aAdd 1 t12_6) fun t13_7 =>
 bnd (aLdCell t13_7 H_4) fun t14_8 =>
 bnd (aLenSl t14_8) fun t15_9 =>
 R t15_9 H_4) (
 R (.int .i64 0) H_4)
theorem S37_calls {a0 a1 : Value} {H : AHeap} {R : Value → AHeap → Prop} (h : S37 a0 a1 H R) : ACalls Try.prog 37 [a0, a1] H R :=
  have e : S37 a0 a1 H R = awpFn Try.prog (Try.f37.body.getD .skip) Try.f37.results.toList ann37 [a0, a1] H R := by kernel_rfl
  calls_of_awp (fn := Try.f37) (c := Try.f37.body.getD .skip) (an := ann37) (by kernel_rfl) Try.func37 (by kernel_rfl) (by kernel_rfl) (of_decide_eq_true (by kernel_rfl)) (e ▸ h)

/-- 38: marginalia/store.shaped -/
def ann38 : Ann := (.two .leaf (.two (.two .leaf (.one (.two .leaf (.two (.two .leaf .leaf) (.two .leaf (.two (.two .leaf .leaf) .leaf)))))) (.two .leaf .leaf)))
def S38_15 (a0 : Value) (H : AHeap) (R : Value → AHeap → Prop) : Prop :=
 bnd (aBin .geq .no a0 (.int .i64 1)) fun t15_4 =>
 aGuardK t15_4 true (fun K_5 H_6 =>
 K_5 a0 H_6) (fun t17_7 H_8 =>
 aGuardK t15_4 true (fun K_9 H_10 =>
 bnd (aBin .leq .no t17_7 (.int .i64 9)) fun t18_11 =>
 K_9 t18_11 H_10) (fun t18_12 H_13 =>
 bnd (aPick t15_4 t18_12 (.bool false)) fun t19_14 =>
 R t19_14 H_13) H_8) H
def S38 (a0 : Value) (a1 : Value) (H : AHeap) (R : Value → AHeap → Prop) : Prop :=
 bnd (aBin .eql .no a0 (.int .i64 1)) fun t7_0 =>
 aCond t7_0 (
 bnd (aBin .eql .no a1 (.int .i64 2)) fun t9_1 =>
 R t9_1 H) (
 bnd (aBin .eql .no a0 (.int .i64 3)) fun t11_2 =>
 aCond t11_2 (
 bnd (aBin .eql .no a1 (.int .i64 1)) fun t13_3 =>
 R t13_3 H) (
 (S38_15 a0 H R)))
theorem S38_calls {a0 a1 : Value} {H : AHeap} {R : Value → AHeap → Prop} (h : S38 a0 a1 H R) : ACalls Try.prog 38 [a0, a1] H R :=
  have e : S38 a0 a1 H R = awpFn Try.prog (Try.f38.body.getD .skip) Try.f38.results.toList ann38 [a0, a1] H R := by kernel_rfl
  calls_of_awp (fn := Try.f38) (c := Try.f38.body.getD .skip) (an := ann38) (by kernel_rfl) Try.func38 (by kernel_rfl) (by kernel_rfl) (of_decide_eq_true (by kernel_rfl)) (e ▸ h)

/-- 39: slices.ContainsFunc[[]marginalia/api.Value,marginalia/api.Value] -/
def ann39 : Ann := (.two .leaf (.two .leaf .leaf))
def S39 (a0 : Value) (a1 : Value) (H : AHeap) (R : Value → AHeap → Prop) : Prop :=
 ACalls Try.prog 67 [a0, a1] H fun t7_0 H_1 =>
 bnd (aBin .geq .no t7_0 (.int .i64 0)) fun t8_2 =>
 R t8_2 H_1
theorem S39_calls {a0 a1 : Value} {H : AHeap} {R : Value → AHeap → Prop} (h : S39 a0 a1 H R) : ACalls Try.prog 39 [a0, a1] H R :=
  have e : S39 a0 a1 H R = awpFn Try.prog (Try.f39.body.getD .skip) Try.f39.results.toList ann39 [a0, a1] H R := by kernel_rfl
  calls_of_awp (fn := Try.f39) (c := Try.f39.body.getD .skip) (an := ann39) (by kernel_rfl) Try.func39 (by kernel_rfl) (by kernel_rfl) (of_decide_eq_true (by kernel_rfl)) (e ▸ h)

/-- 40: (*marginalia/store.Store).Make$1 -/
def ann40 : Ann := (.two .leaf (.two .leaf .leaf))
def S40 (a0 : Value) (a1 : Value) (H : AHeap) (R : Value → AHeap → Prop) : Prop :=
 aBox 28 a0 H fun t2_0 H_1 =>
 bnd (aLdCell a1 H_1) fun t4_2 =>
 bnd (aLdAgg 2 t2_0 H_1) fun t5_3 =>
 ACalls Try.prog 30 [t4_2, t5_3] H_1 fun t6_4 H_5 =>
 bnd (aUn .not t6_4) fun t7_6 =>
 R t7_6 H_5
theorem S40_calls {a0 a1 : Value} {H : AHeap} {R : Value → AHeap → Prop} (h : S40 a0 a1 H R) : ACalls Try.prog 40 [a0, a1] H R :=
  have e : S40 a0 a1 H R = awpFn Try.prog (Try.f40.body.getD .skip) Try.f40.results.toList ann40 [a0, a1] H R := by kernel_rfl
  calls_of_awp (fn := Try.f40) (c := Try.f40.body.getD .skip) (an := ann40) (by kernel_rfl) Try.func40 (by kernel_rfl) (by kernel_rfl) (of_decide_eq_true (by kernel_rfl)) (e ▸ h)

/-- 41: (*marginalia/store.Store).put -/
def ann41 : Ann := (.two .leaf (.two (.two (.draw [(1, []), (2, []), (3, []), (4, []), (5, []), (6, []), (7, []), (8, []), (9, []), (0, [4, 8]), (10, [])]) (.two (.two .leaf .leaf) .leaf)) (.two (.draw [(0, []), (1, []), (2, []), (3, []), (4, [3]), (5, []), (6, []), (7, []), (8, [])]) (.two (.draw [(0, []), (1, []), (2, []), (3, []), (4, []), (5, []), (6, []), (7, []), (8, []), (9, []), (10, [])]) (.two .leaf .leaf)))))
def S41_46 (a0 : Value) (R : Value → AHeap → Prop) (t3_0 : Value) (t4_2 : Value) (t20_18 : Value) (t21_19 : Value) (t22_20 : Value) (H_21 : AHeap) : Prop :=
 ((bnd (aLdCell t20_18 H_21) fun t21_45 =>
 t21_45 = t21_19)) ∧
 bnd (aBin .add .no t21_19 t22_20) fun t23_22 =>
 bnd (aNilCheck a0) fun t24_23 =>
 bnd (aAdd 1 t24_23) fun t25_24 =>
 bnd (aSt 1 t25_24 t23_22 H_21) fun H_25 =>
 bnd (aNilCheck a0) fun t28_26 =>
 bnd (aAdd 2 t28_26) fun t29_27 =>
 bnd (aLdCell t29_27 H_25) fun t30_28 =>
 bnd (aLdAgg 10 t3_0 H_25) fun t31_29 =>
 aBuildSlice 10 1 94 [(.int .i64 0), (.slice none 0 0), (.int .i64 0), (.string ⟨#[]⟩), (.bool false), (.slice none 0 0), (.slice none 0 0), (.int .i64 0), (.slice none 0 0), (.slice none 0 0)] [(0, 10, t31_29)] H_25 fun t32_30 H_31 =>
 aAppend 10 168 94 t30_28 t32_30 H_31 fun t33_32 H_33 =>
 bnd (aNilCheck a0) fun t34_34 =>
 bnd (aAdd 2 t34_34) fun t35_35 =>
 bnd (aSt 1 t35_35 t33_32 H_33) fun H_36 =>
 bnd (aNilCheck a0) fun t37_37 =>
 bnd (aAdd 2 t37_37) fun t38_38 =>
 bnd (aLdCell t38_38 H_36) fun t39_39 =>
 bnd (aLenSl t39_39) fun t40_40 =>
 bnd (aBin .sub .no t40_40 (.int .i64 1)) fun t41_41 =>
 bnd (aFill [(.int .i64 0), (.int .i64 0)] [(0, 1, (.int .i64 7)), (1, 1, t41_41)]) fun t42_42 =>
 bnd (aSt 2 t4_2 (.agg t42_42.toArray) H_36) fun H_43 =>
 bnd (aLdAgg 2 t4_2 H_43) fun r_44 =>
 R (.tuple #[r_44, (.int .i64 0)]) H_43
def S41_49 (a0 : Value) (R : Value → AHeap → Prop) (t3_0 : Value) (t4_2 : Value) (t9_5 : Value) (t10_6 : Value) (t13_8 : Value) (t14_9 : Value) (t15_10 : Value) (t6_11 : Value) (H_12 : AHeap) : Prop :=
 ((bnd (aLdCell t9_5 H_12) fun t10_47 =>
 t10_47 = t10_6) ∧ (bnd (aLdCell t13_8 H_12) fun t14_48 =>
 t14_48 = t14_9)) ∧
 bnd (aBin .gtr .no t6_11 t15_10) fun t16_13 =>
 aCond t16_13 (
 bnd (aFill [(.int .i64 0), (.int .i64 0)] []) fun t17_14 =>
 bnd (aSt 2 t4_2 (.agg t17_14.toArray) H_12) fun H_15 =>
 bnd (aLdAgg 2 t4_2 H_15) fun r_16 =>
 R (.tuple #[r_16, (.int .i64 16)]) H_15) (
 bnd (aNilCheck a0) fun t19_17 =>
 bnd (aAdd 1 t19_17) fun t20_18 =>
 bnd (aLdCell t20_18 H_12) fun t21_19 =>
 ACalls Try.prog 45 [t3_0] H_12 fun t22_20 H_21 =>
 (S41_46 a0 R t3_0 t4_2 t20_18 t21_19 t22_20 H_21))
def S41 (a0 : Value) (a1 : Value) (H : AHeap) (R : Value → AHeap → Prop) : Prop :=
 aBox 94 a1 H fun t3_0 H_1 =>
 aAlloc [(.int .i64 0), (.int .i64 0)] 28 H_1 fun t4_2 H_3 =>
 bnd (aNilCheck a0) fun t8_4 =>
 bnd (aAdd 0 t8_4) fun t9_5 =>
 bnd (aLdCell t9_5 H_3) fun t10_6 =>
 bnd (aNilCheck a0) fun t12_7 =>
 bnd (aAdd 1 t12_7) fun t13_8 =>
 bnd (aLdCell t13_8 H_3) fun t14_9 =>
 bnd (aBin .sub .no t10_6 t14_9) fun t15_10 =>
 ACalls Try.prog 45 [t3_0] H_3 fun t6_11 H_12 =>
 (S41_49 a0 R t3_0 t4_2 t9_5 t10_6 t13_8 t14_9 t15_10 t6_11 H_12)
theorem S41_calls {a0 a1 : Value} {H : AHeap} {R : Value → AHeap → Prop} (h : S41 a0 a1 H R) : ACalls Try.prog 41 [a0, a1] H R :=
  have e : S41 a0 a1 H R = awpFn Try.prog (Try.f41.body.getD .skip) Try.f41.results.toList ann41 [a0, a1] H R := by kernel_rfl
  calls_of_awp (fn := Try.f41) (c := Try.f41.body.getD .skip) (an := ann41) (by kernel_rfl) Try.func41 (by kernel_rfl) (by kernel_rfl) (of_decide_eq_true (by kernel_rfl)) (e ▸ h)

/-- 42: slices.Clone[[]marginalia/api.Value,marginalia/api.Value] -/
def ann42 : Ann := (.two .leaf (.two (.two .leaf (.two (.two .leaf .leaf) .leaf)) (.two .leaf .leaf)))
def S42 (a0 : Value) (H : AHeap) (R : Value → AHeap → Prop) : Prop :=
 aSlEq .eql a0 (.slice none 0 0) H fun t4_0 H_1 =>
 aCond t4_0 (
 R (.slice none 0 0) H_1) (
 aBuildSlice 2 0 28 [(.int .i64 0), (.int .i64 0)] [] H_1 fun t5_2 H_3 =>
 aAppend 2 16 28 t5_2 a0 H_3 fun t7_4 H_5 =>
 R t7_4 H_5)
theorem S42_calls {a0 : Value} {H : AHeap} {R : Value → AHeap → Prop} (h : S42 a0 H R) : ACalls Try.prog 42 [a0] H R :=
  have e : S42 a0 H R = awpFn Try.prog (Try.f42.body.getD .skip) Try.f42.results.toList ann42 [a0] H R := by kernel_rfl
  calls_of_awp (fn := Try.f42) (c := Try.f42.body.getD .skip) (an := ann42) (by kernel_rfl) Try.func42 (by kernel_rfl) (by kernel_rfl) (of_decide_eq_true (by kernel_rfl)) (e ▸ h)

/-- 43: (*marginalia/store.Store).Collect$1 -/
def ann43 : Ann := (.two .leaf (.two .leaf .leaf))
def S43 (a0 : Value) (a1 : Value) (H : AHeap) (R : Value → AHeap → Prop) : Prop :=
 aBox 28 a0 H fun t2_0 H_1 =>
 bnd (aLdCell a1 H_1) fun t4_2 =>
 bnd (aLdAgg 2 t2_0 H_1) fun t5_3 =>
 ACalls Try.prog 30 [t4_2, t5_3] H_1 fun t6_4 H_5 =>
 bnd (aUn .not t6_4) fun t7_6 =>
 R t7_6 H_5
theorem S43_calls {a0 a1 : Value} {H : AHeap} {R : Value → AHeap → Prop} (h : S43 a0 a1 H R) : ACalls Try.prog 43 [a0, a1] H R :=
  have e : S43 a0 a1 H R = awpFn Try.prog (Try.f43.body.getD .skip) Try.f43.results.toList ann43 [a0, a1] H R := by kernel_rfl
  calls_of_awp (fn := Try.f43) (c := Try.f43.body.getD .skip) (an := ann43) (by kernel_rfl) Try.func43 (by kernel_rfl) (by kernel_rfl) (of_decide_eq_true (by kernel_rfl)) (e ▸ h)

/-- 44: (*marginalia/store.Store).reach -/
def ann44 : Ann := (.two .leaf (.two .leaf (.two .leaf (.two (.one (.loop [6] [6, 7, 16, 17, 18, 19, 20, 21, 22, 23, 24, 25, 26, 27, 28, 29, 30, 31, 32, 33, 34, 35, 36, 37, 38, 39, 40, 41, 42, 43, 44, 45, 46, 47, 48, 49, 50, 51, 52, 53, 54, 55] (.two (.two .leaf (.two .leaf .leaf)) (.one (.two .leaf (.two .leaf (.two .leaf (.two (.two .leaf (.draw [(0, []), (1, []), (2, []), (3, []), (4, []), (5, []), (6, []), (7, []), (8, []), (9, []), (10, []), (11, [])])) .leaf)))))))) (.two .leaf .leaf)))))
def S44_70 (a0 : Value) (t13_4 : Value) (again_10 : List Value → AHeap → Prop) (t7_17 : Value) (t29_22 : Value) (H_54 : AHeap) : Prop :=
 bnd (aAdd 1 t7_17) fun t42_56 =>
 bnd (aLdCell t42_56 H_54) fun t43_57 =>
 bnd (aIdxAddr 1 t13_4 t43_57) fun t44_58 =>
 bnd (aSt 1 t44_58 (.bool true) H_54) fun H_59 =>
 bnd (aNilCheck a0) fun t47_60 =>
 bnd (aAdd 2 t47_60) fun t48_61 =>
 bnd (aLdCell t48_61 H_59) fun t49_62 =>
 bnd (aAdd 1 t7_17) fun t50_63 =>
 bnd (aLdCell t50_63 H_59) fun t51_64 =>
 bnd (aIdxAddr 10 t49_62 t51_64) fun t52_65 =>
 bnd (aAdd 1 t52_65) fun t53_66 =>
 bnd (aLdCell t53_66 H_59) fun t54_67 =>
 aAppend 2 16 28 t29_22 t54_67 H_59 fun t55_68 H_69 =>
 again_10 [t55_68] H_69
def S44_71 (a0 : Value) (t13_4 : Value) (vs_8 : List Value) (H_9 : AHeap) (again_10 : List Value → AHeap → Prop) : Prop :=
 bnd (aLenSl (nth vs_8 0)) fun t21_13 =>
 bnd (aBin .sub .no t21_13 (.int .i64 1)) fun t22_14 =>
 bnd (aIdxAddr 2 (nth vs_8 0) t22_14) fun t23_15 =>
 bnd (aLdAgg 2 t23_15 H_9) fun t24_16 =>
 aAlloc [(.int .i64 0), (.int .i64 0)] 28 H_9 fun t7_17 H_18 =>
 bnd (aSt 2 t7_17 t24_16 H_18) fun H_19 =>
 bnd (aLenSl (nth vs_8 0)) fun t27_20 =>
 bnd (aBin .sub .no t27_20 (.int .i64 1)) fun t28_21 =>
 bnd (aSliceSl 2 (nth vs_8 0) none (some t28_21)) fun t29_22 =>
 bnd (aAdd 0 t7_17) fun t30_23 =>
 bnd (aLdCell t30_23 H_19) fun t31_24 =>
 bnd (aBin .eql .no t31_24 (.int .i64 7)) fun t32_25 =>
 aGuardK t32_25 true (fun K_26 H_27 =>
 K_26 t13_4 H_27) (fun t34_28 H_29 =>
 aGuardK t32_25 true (fun K_30 H_31 =>
 bnd (aAdd 1 t7_17) fun t35_32 =>
 K_30 t35_32 H_31) (fun t35_33 H_34 =>
 aGuardK t32_25 true (fun K_35 H_36 =>
 bnd (aLdCell t35_33 H_36) fun t36_37 =>
 K_35 t36_37 H_36) (fun t36_38 H_39 =>
 aGuardK t32_25 true (fun K_40 H_41 =>
 bnd (aIdxAddr 1 t34_28 t36_38) fun t37_42 =>
 K_40 t37_42 H_41) (fun t37_43 H_44 =>
 aGuardK t32_25 true (fun K_45 H_46 =>
 bnd (aLdCell t37_43 H_46) fun t38_47 =>
 K_45 t38_47 H_46) (fun t38_48 H_49 =>
 aGuardK t32_25 true (fun K_50 H_51 =>
 bnd (aUn .not t38_48) fun t39_52 =>
 K_50 t39_52 H_51) (fun t39_53 H_54 =>
 bnd (aPick t32_25 t39_53 (.bool false)) fun t40_55 =>
 aCond t40_55 (
 (S44_70 a0 t13_4 again_10 t7_17 t29_22 H_54)) (
 again_10 [t29_22] H_54)) H_49) H_44) H_39) H_34) H_29) H_19
def S44_72 (a0 : Value) (R : Value → AHeap → Prop) (t13_4 : Value) (vs_8 : List Value) (H_9 : AHeap) (again_10 : List Value → AHeap → Prop) : Prop :=
 bnd (aLenSl (nth vs_8 0)) fun t17_11 =>
 bnd (aBin .gtr .no t17_11 (.int .i64 0)) fun t18_12 =>
 aCond t18_12 (
 (S44_71 a0 t13_4 vs_8 H_9 again_10)) (
 R t13_4 H_9)
def S44 (a0 : Value) (a1 : Value) (H : AHeap) (R : Value → AHeap → Prop) : Prop :=
 bnd (aNilCheck a0) fun t9_0 =>
 bnd (aAdd 2 t9_0) fun t10_1 =>
 bnd (aLdCell t10_1 H) fun t11_2 =>
 bnd (aLenSl t11_2) fun t12_3 =>
 aMakeSlice 1 4 [(.bool false)] t12_3 t12_3 H fun t13_4 H_5 =>
 ACalls Try.prog 42 [a1] H_5 fun t15_6 H_7 =>
 aLoop [t15_6] H_7 fun vs_8 H_9 again_10 =>
 (S44_72 a0 R t13_4 vs_8 H_9 again_10)
theorem S44_calls {a0 a1 : Value} {H : AHeap} {R : Value → AHeap → Prop} (h : S44 a0 a1 H R) : ACalls Try.prog 44 [a0, a1] H R :=
  have e : S44 a0 a1 H R = awpFn Try.prog (Try.f44.body.getD .skip) Try.f44.results.toList ann44 [a0, a1] H R := by kernel_rfl
  calls_of_awp (fn := Try.f44) (c := Try.f44.body.getD .skip) (an := ann44) (by kernel_rfl) Try.func44 (by kernel_rfl) (by kernel_rfl) (of_decide_eq_true (by kernel_rfl)) (e ▸ h)

/-- 45: (*marginalia/store.object).cells -/
def ann45 : Ann := (.two .leaf (.two (.two .leaf (.two (.two .leaf .leaf) .leaf)) (.two .leaf .leaf)))
def S45 (a0 : Value) (H : AHeap) (R : Value → AHeap → Prop) : Prop :=
 bnd (aNilCheck a0) fun t4_0 =>
 bnd (aAdd 0 t4_0) fun t5_1 =>
 bnd (aLdCell t5_1 H) fun t6_2 =>
 bnd (aBin .eql .no t6_2 (.int .i64 10)) fun t7_3 =>
 aCond t7_3 (
 bnd (aNilCheck a0) fun t9_4 =>
 bnd (aAdd 2 t9_4) fun t10_5 =>
 ACalls Try.prog 68 [t10_5] H fun t11_6 H_7 =>
 bnd (aBin .add .no (.int .i64 1) t11_6) fun t12_8 =>
 R t12_8 H_7) (
 bnd (aNilCheck a0) fun t14_9 =>
 bnd (aAdd 1 t14_9) fun t15_10 =>
 bnd (aLdCell t15_10 H) fun t16_11 =>
 bnd (aLenSl t16_11) fun t17_12 =>
 bnd (aBin .add .no (.int .i64 1) t17_12) fun t18_13 =>
 R t18_13 H)
theorem S45_calls {a0 : Value} {H : AHeap} {R : Value → AHeap → Prop} (h : S45 a0 H R) : ACalls Try.prog 45 [a0] H R :=
  have e : S45 a0 H R = awpFn Try.prog (Try.f45.body.getD .skip) Try.f45.results.toList ann45 [a0] H R := by kernel_rfl
  calls_of_awp (fn := Try.f45) (c := Try.f45.body.getD .skip) (an := ann45) (by kernel_rfl) Try.func45 (by kernel_rfl) (by kernel_rfl) (of_decide_eq_true (by kernel_rfl)) (e ▸ h)

/-- 46: (*marginalia/store.Store).Collect$2 -/
def ann46 : Ann := (.two .leaf (.one (.loop [7] [3, 4, 7, 8, 9, 10, 11, 12, 13, 14, 15, 16, 17, 18, 19, 20, 21, 22, 23, 24] (.two .leaf (.two (.two .leaf .leaf) (.join [] [3, 4, 9, 10, 11, 12, 13, 14, 15, 16, 17, 18, 19, 20, 21, 22, 23] (.one (.two .leaf (.two .leaf (.two .leaf .leaf)))) .leaf))))))
def S46_25 (a0 : Value) (a1 : Value) (vs_1 : List Value) (J_7 : List Value → AHeap → Prop) (t4_11 : Value) (H_13 : AHeap) : Prop :=
 bnd (aLdCell a1 H_13) fun t17_17 =>
 bnd (aAdd 1 t4_11) fun t18_18 =>
 bnd (aLdCell t18_18 H_13) fun t19_19 =>
 bnd (aIdxAddr 1 t17_17 t19_19) fun t20_20 =>
 bnd (aLdCell t20_20 H_13) fun t21_21 =>
 bnd (aIdxAddr 2 a0 (nth vs_1 0)) fun t22_22 =>
 bnd (aAdd 1 t22_22) fun t23_23 =>
 bnd (aSt 1 t23_23 t21_21 H_13) fun H_24 =>
 J_7 [] H_24
def S46_26 (a0 : Value) (a1 : Value) (vs_1 : List Value) (H_2 : AHeap) (again_3 : List Value → AHeap → Prop) : Prop :=
 aJoin (fun vs_5 H_6 =>
 bnd (aBin .add .no (nth vs_1 0) (.int .i64 1)) fun t24_8 =>
 again_3 [t24_8] H_6) fun J_7 =>
 bnd (aIdxAddr 2 a0 (nth vs_1 0)) fun t10_9 =>
 bnd (aLdAgg 2 t10_9 H_2) fun t11_10 =>
 aAlloc [(.int .i64 0), (.int .i64 0)] 28 H_2 fun t4_11 H_12 =>
 bnd (aSt 2 t4_11 t11_10 H_12) fun H_13 =>
 bnd (aAdd 0 t4_11) fun t12_14 =>
 bnd (aLdCell t12_14 H_13) fun t13_15 =>
 bnd (aBin .eql .no t13_15 (.int .i64 7)) fun t14_16 =>
 aCond t14_16 (
 (S46_25 a0 a1 vs_1 J_7 t4_11 H_13)) (
 J_7 [] H_13)
def S46_27 (a0 : Value) (a1 : Value) (R : Value → AHeap → Prop) (t6_0 : Value) (vs_1 : List Value) (H_2 : AHeap) (again_3 : List Value → AHeap → Prop) : Prop :=
 bnd (aBin .lss .no (nth vs_1 0) t6_0) fun t8_4 =>
 aCond t8_4 (
 (S46_26 a0 a1 vs_1 H_2 again_3)) (
 R (.tuple #[]) H_2)
def S46 (a0 : Value) (a1 : Value) (H : AHeap) (R : Value → AHeap → Prop) : Prop :=
 bnd (aLenSl a0) fun t6_0 =>
 aLoop [(.int .i64 0)] H fun vs_1 H_2 again_3 =>
 (S46_27 a0 a1 R t6_0 vs_1 H_2 again_3)
theorem S46_calls {a0 a1 : Value} {H : AHeap} {R : Value → AHeap → Prop} (h : S46 a0 a1 H R) : ACalls Try.prog 46 [a0, a1] H R :=
  have e : S46 a0 a1 H R = awpFn Try.prog (Try.f46.body.getD .skip) Try.f46.results.toList ann46 [a0, a1] H R := by kernel_rfl
  calls_of_awp (fn := Try.f46) (c := Try.f46.body.getD .skip) (an := ann46) (by kernel_rfl) Try.func46 (by kernel_rfl) (by kernel_rfl) (of_decide_eq_true (by kernel_rfl)) (e ▸ h)

/-- 47: (*marginalia/store.Store).slot -/
def ann47 : Ann := (.two .leaf (.two .leaf (.two (.one (.two .leaf (.two (.two .leaf .leaf) (.two .leaf (.two (.two .leaf .leaf) (.two .leaf (.two (.two .leaf .leaf) .leaf))))))) (.two .leaf .leaf))))
def S47_46 (a2 : Value) (R : Value → AHeap → Prop) (t11_3 : Value) (H_4 : AHeap) : Prop :=
 bnd (aBin .lss .no a2 (.int .i64 0)) fun t20_7 =>
 aGuardK t20_7 false (fun K_8 H_9 =>
 K_8 a2 H_9) (fun t22_10 H_11 =>
 aGuardK t20_7 false (fun K_12 H_13 =>
 K_12 t11_3 H_13) (fun t23_14 H_15 =>
 aGuardK t20_7 false (fun K_16 H_17 =>
 bnd (aNilCheck t23_14) fun t24_18 =>
 K_16 t24_18 H_17) (fun t24_19 H_20 =>
 aGuardK t20_7 false (fun K_21 H_22 =>
 bnd (aAdd 1 t24_19) fun t25_23 =>
 K_21 t25_23 H_22) (fun t25_24 H_25 =>
 aGuardK t20_7 false (fun K_26 H_27 =>
 bnd (aLdCell t25_24 H_27) fun t26_28 =>
 K_26 t26_28 H_27) (fun t26_29 H_30 =>
 aGuardK t20_7 false (fun K_31 H_32 =>
 bnd (aLenSl t26_29) fun t27_33 =>
 K_31 t27_33 H_32) (fun t27_34 H_35 =>
 aGuardK t20_7 false (fun K_36 H_37 =>
 bnd (aBin .geq .no t22_10 t27_34) fun t28_38 =>
 K_36 t28_38 H_37) (fun t28_39 H_40 =>
 bnd (aPick t20_7 (.bool true) t28_39) fun t29_41 =>
 aCond t29_41 (
 R (.tuple #[(.pointer none), (.int .i64 12)]) H_40) (
 bnd (aNilCheck t11_3) fun t31_42 =>
 bnd (aAdd 1 t31_42) fun t32_43 =>
 bnd (aLdCell t32_43 H_40) fun t33_44 =>
 bnd (aIdxAddr 2 t33_44 a2) fun t35_45 =>
 R (.tuple #[t35_45, (.int .i64 0)]) H_40)) H_35) H_30) H_25) H_20) H_15) H_11) H_4
def S47 (a0 : Value) (a1 : Value) (a2 : Value) (H : AHeap) (R : Value → AHeap → Prop) : Prop :=
 aBox 28 a1 H fun t4_0 H_1 =>
 bnd (aLdAgg 2 t4_0 H_1) fun t10_2 =>
 ACalls Try.prog 62 [a0, t10_2] H_1 fun t11_3 H_4 =>
 bnd (aBin .eql .ptr a0 (.pointer none)) fun t14_5 =>
 aCond t14_5 (
 R (.tuple #[(.pointer none), (.int .i64 1)]) H_4) (
 bnd (aBin .eql .ptr t11_3 (.pointer none)) fun t17_6 =>
 aCond t17_6 (
 R (.tuple #[(.pointer none), (.int .i64 10)]) H_4) (
 (S47_46 a2 R t11_3 H_4)))
theorem S47_calls {a0 a1 a2 : Value} {H : AHeap} {R : Value → AHeap → Prop} (h : S47 a0 a1 a2 H R) : ACalls Try.prog 47 [a0, a1, a2] H R :=
  have e : S47 a0 a1 a2 H R = awpFn Try.prog (Try.f47.body.getD .skip) Try.f47.results.toList ann47 [a0, a1, a2] H R := by kernel_rfl
  calls_of_awp (fn := Try.f47) (c := Try.f47.body.getD .skip) (an := ann47) (by kernel_rfl) Try.func47 (by kernel_rfl) (by kernel_rfl) (of_decide_eq_true (by kernel_rfl)) (e ▸ h)

/-- 48: marginalia/same.parts -/
def ann48 : Ann := (.two .leaf (.two .leaf (.two (.two (.draw [(0, []), (1, []), (2, []), (3, []), (4, []), (5, []), (6, []), (7, []), (8, []), (9, []), (11, []), (12, []), (13, []), (10, [13]), (14, []), (15, []), (16, [])]) (.two (.two .leaf .leaf) .leaf)) (.two (.two .leaf (.one (.join [35] [35, 36, 37, 38, 39] (.two .leaf (.two .leaf (.two .leaf (.two .leaf (.two .leaf (.two .leaf .leaf)))))) (.two .leaf (.two .leaf .leaf))))) (.two .leaf (.two (.two .leaf (.one (.loop [7, 44] [7, 8, 9, 10, 11, 12, 44, 45, 46, 47, 48, 49, 50, 51, 52, 53, 54, 55, 56, 57, 58, 59, 60, 61, 62, 63, 64, 65, 66, 67, 68, 69] (.two .leaf (.two (.two .leaf .leaf) (.two (.one (.two .leaf (.two .leaf (.two .leaf .leaf)))) .leaf)))))) (.two .leaf .leaf)))))))
def S48_94 (vs_64 : List Value) (again_66 : List Value → AHeap → Prop) (t9_74 : Value) (t60_79 : Value) (H_80 : AHeap) : Prop :=
 bnd (aExtract t60_79 0) fun t61_81 =>
 bnd (aExtract t60_79 1) fun t62_82 =>
 aAlloc [(.int .i64 0), (.int .i64 0)] 28 H_80 fun t11_83 H_84 =>
 bnd (aSt 2 t11_83 t61_81 H_84) fun H_85 =>
 bnd (aLdAgg 2 t9_74 H_85) fun t64_86 =>
 bnd (aLdAgg 2 t11_83 H_85) fun t65_87 =>
 bnd (aFill [(.int .i64 0), (.int .i64 0), (.int .i64 0), (.int .i64 0)] [(0, 2, t64_86), (2, 2, t65_87)]) fun t66_88 =>
 aBuildSlice 4 1 102 [(.int .i64 0), (.int .i64 0), (.int .i64 0), (.int .i64 0)] [(0, 4, (.agg t66_88.toArray))] H_85 fun t67_89 H_90 =>
 aAppend 4 32 102 (nth vs_64 0) t67_89 H_90 fun t68_91 H_92 =>
 bnd (aBin .add .no (nth vs_64 1) (.int .i64 1)) fun t69_93 =>
 again_66 [t68_91, t69_93] H_92
def S48_95 (a0 : Value) (t3_0 : Value) (vs_64 : List Value) (H_65 : AHeap) (again_66 : List Value → AHeap → Prop) : Prop :=
 bnd (aAdd 0 t3_0) fun t49_68 =>
 bnd (aLdAgg 2 t49_68 H_65) fun t50_69 =>
 ACalls Try.prog 18 [a0, t50_69, (nth vs_64 1)] H_65 fun t52_70 H_71 =>
 bnd (aExtract t52_70 0) fun t53_72 =>
 bnd (aExtract t52_70 1) fun t54_73 =>
 aAlloc [(.int .i64 0), (.int .i64 0)] 28 H_71 fun t9_74 H_75 =>
 bnd (aSt 2 t9_74 t53_72 H_75) fun H_76 =>
 bnd (aAdd 2 t3_0) fun t57_77 =>
 bnd (aLdAgg 2 t57_77 H_76) fun t58_78 =>
 ACalls Try.prog 18 [a0, t58_78, (nth vs_64 1)] H_76 fun t60_79 H_80 =>
 (S48_94 vs_64 again_66 t9_74 t60_79 H_80)
def S48_96 (a0 : Value) (R : Value → AHeap → Prop) (t3_0 : Value) (t43_62 : Value) (vs_64 : List Value) (H_65 : AHeap) (again_66 : List Value → AHeap → Prop) : Prop :=
 bnd (aBin .lss .no (nth vs_64 1) t43_62) fun t45_67 =>
 aCond t45_67 (
 (S48_95 a0 t3_0 vs_64 H_65 again_66)) (
 R (.tuple #[(nth vs_64 0), (.bool true)]) H_65)
def S48_101 (t16_4 : Value) (H_55 : AHeap) (J_59 : List Value → AHeap → Prop) : Prop :=
 bnd (aBin .eql .no t16_4 (.int .i64 2)) fun t37_98 =>
 aCond t37_98 (
 J_59 [t37_98] H_55) (
 bnd (aBin .eql .no t16_4 (.int .i64 3)) fun t38_99 =>
 aCond t38_99 (
 J_59 [t38_99] H_55) (
 bnd (aBin .eql .no t16_4 (.int .i64 4)) fun t39_100 =>
 J_59 [t39_100] H_55))
def S48_102 (a0 : Value) (R : Value → AHeap → Prop) (t3_0 : Value) (vs_57 : List Value) (H_58 : AHeap) : Prop :=
 aCond (nth vs_57 0) (
 bnd (aAdd 0 t3_0) fun t41_60 =>
 bnd (aLdAgg 2 t41_60 H_58) fun t42_61 =>
 ACalls Try.prog 37 [a0, t42_61] H_58 fun t43_62 H_63 =>
 aLoop [(.slice none 0 0), (.int .i64 0)] H_63 fun vs_64 H_65 again_66 =>
 (S48_96 a0 R t3_0 t43_62 vs_64 H_65 again_66)) (
 R (.tuple #[(.slice none 0 0), (.bool false)]) H_58)
def S48_106 (a0 : Value) (R : Value → AHeap → Prop) (t3_0 : Value) (t16_4 : Value) (t21_8 : Value) (H_9 : AHeap) : Prop :=
 bnd (aBin .neq .no t16_4 t21_8) fun t22_10 =>
 aGuardK t22_10 false (fun K_11 H_12 =>
 K_11 a0 H_12) (fun t24_13 H_14 =>
 aGuardK t22_10 false (fun K_15 H_16 =>
 bnd (aAdd 0 t3_0) fun t25_17 =>
 K_15 t25_17 H_16) (fun t25_18 H_19 =>
 aGuardK t22_10 false (fun K_20 H_21 =>
 bnd (aLdAgg 2 t25_18 H_21) fun t26_22 =>
 K_20 t26_22 H_21) (fun t26_23 H_24 =>
 aGuardK t22_10 false (fun K_25 H_26 =>
 K_25 a0 H_26) (fun t28_27 H_28 =>
 aGuardK t22_10 false (fun K_29 H_30 =>
 bnd (aAdd 2 t3_0) fun t29_31 =>
 K_29 t29_31 H_30) (fun t29_32 H_33 =>
 aGuardK t22_10 false (fun K_34 H_35 =>
 bnd (aLdAgg 2 t29_32 H_35) fun t30_36 =>
 K_34 t30_36 H_35) (fun t30_37 H_38 =>
 aGuardK t22_10 false (fun K_39 H_40 =>
 ACalls Try.prog 37 [t24_13, t26_23] H_40 fun t27_41 H_42 =>
 K_39 t27_41 H_42) (fun t27_43 H_44 =>
 ((aGuardK t22_10 false (fun K_103 H_104 =>
 bnd (aLdAgg 2 t29_32 H_104) fun t30_105 =>
 K_103 t30_105 H_104) (fun v _ => v = t30_37) H_44)) ∧
 aGuardK t22_10 false (fun K_45 H_46 =>
 ACalls Try.prog 37 [t28_27, t30_37] H_46 fun t31_47 H_48 =>
 K_45 t31_47 H_48) (fun t31_49 H_50 =>
 aGuardK t22_10 false (fun K_51 H_52 =>
 bnd (aBin .neq .no t27_43 t31_49) fun t32_53 =>
 K_51 t32_53 H_52) (fun t32_54 H_55 =>
 bnd (aPick t22_10 (.bool true) t32_54) fun t33_56 =>
 aCond t33_56 (
 R (.tuple #[(.slice none 0 0), (.bool false)]) H_55) (
 aJoin (fun vs_57 H_58 =>
 (S48_102 a0 R t3_0 vs_57 H_58)) fun J_59 =>
 bnd (aBin .eql .no t16_4 (.int .i64 1)) fun t36_97 =>
 aCond t36_97 (
 J_59 [t36_97] H_55) (
 (S48_101 t16_4 H_55 J_59)))) H_50) H_44) H_38) H_33) H_28) H_24) H_19) H_14) H_9
def S48 (a0 : Value) (a1 : Value) (H : AHeap) (R : Value → AHeap → Prop) : Prop :=
 aBox 102 a1 H fun t3_0 H_1 =>
 bnd (aAdd 0 t3_0) fun t14_2 =>
 bnd (aLdAgg 2 t14_2 H_1) fun t15_3 =>
 ACalls Try.prog 36 [a0, t15_3] H_1 fun t16_4 H_5 =>
 bnd (aAdd 2 t3_0) fun t19_6 =>
 bnd (aLdAgg 2 t19_6 H_5) fun t20_7 =>
 ACalls Try.prog 36 [a0, t20_7] H_5 fun t21_8 H_9 =>
 (S48_106 a0 R t3_0 t16_4 t21_8 H_9)
theorem S48_calls {a0 a1 : Value} {H : AHeap} {R : Value → AHeap → Prop} (h : S48 a0 a1 H R) : ACalls Try.prog 48 [a0, a1] H R :=
  have e : S48 a0 a1 H R = awpFn Try.prog (Try.f48.body.getD .skip) Try.f48.results.toList ann48 [a0, a1] H R := by kernel_rfl
  calls_of_awp (fn := Try.f48) (c := Try.f48.body.getD .skip) (an := ann48) (by kernel_rfl) Try.func48 (by kernel_rfl) (by kernel_rfl) (of_decide_eq_true (by kernel_rfl)) (e ▸ h)

/-- 61: marginalia/utf.Scalar -/
def ann61 : Ann := (.two .leaf (.two .leaf .leaf))
def S61 (a0 : Value) (H : AHeap) (R : Value → AHeap → Prop) : Prop :=
 bnd (aBin .geq .no a0 (.int .i64 0)) fun t4_0 =>
 aGuardK t4_0 true (fun K_1 H_2 =>
 K_1 a0 H_2) (fun t6_3 H_4 =>
 aGuardK t4_0 true (fun K_5 H_6 =>
 bnd (aBin .leq .no t6_3 (.int .i64 1114111)) fun t7_7 =>
 K_5 t7_7 H_6) (fun t7_8 H_9 =>
 bnd (aPick t4_0 t7_8 (.bool false)) fun t8_10 =>
 aGuardK t8_10 true (fun K_11 H_12 =>
 K_11 a0 H_12) (fun t10_13 H_14 =>
 aGuardK t8_10 true (fun K_15 H_16 =>
 bnd (aConvInt .i32 t10_13) fun t11_17 =>
 K_15 t11_17 H_16) (fun t11_18 H_19 =>
 aGuardK t8_10 true (fun K_20 H_21 =>
 ACalls Try.prog 71 [t11_18] H_21 fun t12_22 H_23 =>
 K_20 t12_22 H_23) (fun t12_24 H_25 =>
 bnd (aPick t8_10 t12_24 (.bool false)) fun t13_26 =>
 R t13_26 H_25) H_19) H_14) H_9) H_4) H
theorem S61_calls {a0 : Value} {H : AHeap} {R : Value → AHeap → Prop} (h : S61 a0 H R) : ACalls Try.prog 61 [a0] H R :=
  have e : S61 a0 H R = awpFn Try.prog (Try.f61.body.getD .skip) Try.f61.results.toList ann61 [a0] H R := by kernel_rfl
  calls_of_awp (fn := Try.f61) (c := Try.f61.body.getD .skip) (an := ann61) (by kernel_rfl) Try.func61 (by kernel_rfl) (by kernel_rfl) (of_decide_eq_true (by kernel_rfl)) (e ▸ h)

/-- 62: (*marginalia/store.Store).object -/
def ann62 : Ann := (.two .leaf (.two (.two (.draw [(0, []), (1, []), (2, []), (3, []), (4, []), (5, []), (6, []), (7, []), (8, []), (9, []), (10, []), (11, []), (12, []), (13, []), (14, []), (15, []), (16, []), (17, []), (18, []), (19, []), (20, []), (21, [])]) (.two (.two .leaf .leaf) .leaf)) (.two (.draw [(0, []), (1, []), (2, []), (3, []), (4, []), (5, []), (6, []), (7, [])]) .leaf)))
def S62 (a0 : Value) (a1 : Value) (H : AHeap) (R : Value → AHeap → Prop) : Prop :=
 aBox 28 a1 H fun t3_0 H_1 =>
 bnd (aBin .eql .ptr a0 (.pointer none)) fun t6_2 =>
 aGuardK t6_2 false (fun K_3 H_4 =>
 bnd (aAdd 0 t3_0) fun t8_5 =>
 K_3 t8_5 H_4) (fun t8_6 H_7 =>
 aGuardK t6_2 false (fun K_8 H_9 =>
 bnd (aLdCell t8_6 H_9) fun t9_10 =>
 K_8 t9_10 H_9) (fun t9_11 H_12 =>
 aGuardK t6_2 false (fun K_13 H_14 =>
 bnd (aBin .neq .no t9_11 (.int .i64 7)) fun t10_15 =>
 K_13 t10_15 H_14) (fun t10_16 H_17 =>
 bnd (aPick t6_2 (.bool true) t10_16) fun t11_18 =>
 aGuardK t11_18 false (fun K_19 H_20 =>
 bnd (aAdd 1 t3_0) fun t13_21 =>
 K_19 t13_21 H_20) (fun t13_22 H_23 =>
 aGuardK t11_18 false (fun K_24 H_25 =>
 bnd (aLdCell t13_22 H_25) fun t14_26 =>
 K_24 t14_26 H_25) (fun t14_27 H_28 =>
 aGuardK t11_18 false (fun K_29 H_30 =>
 bnd (aBin .lss .no t14_27 (.int .i64 0)) fun t15_31 =>
 K_29 t15_31 H_30) (fun t15_32 H_33 =>
 bnd (aPick t11_18 (.bool true) t15_32) fun t16_34 =>
 aGuardK t16_34 false (fun K_35 H_36 =>
 bnd (aAdd 1 t3_0) fun t18_37 =>
 K_35 t18_37 H_36) (fun t18_38 H_39 =>
 aGuardK t16_34 false (fun K_40 H_41 =>
 bnd (aLdCell t18_38 H_41) fun t19_42 =>
 K_40 t19_42 H_41) (fun t19_43 H_44 =>
 aGuardK t16_34 false (fun K_45 H_46 =>
 K_45 a0 H_46) (fun t20_47 H_48 =>
 aGuardK t16_34 false (fun K_49 H_50 =>
 bnd (aNilCheck t20_47) fun t21_51 =>
 K_49 t21_51 H_50) (fun t21_52 H_53 =>
 aGuardK t16_34 false (fun K_54 H_55 =>
 bnd (aAdd 2 t21_52) fun t22_56 =>
 K_54 t22_56 H_55) (fun t22_57 H_58 =>
 aGuardK t16_34 false (fun K_59 H_60 =>
 bnd (aLdCell t22_57 H_60) fun t23_61 =>
 K_59 t23_61 H_60) (fun t23_62 H_63 =>
 aGuardK t16_34 false (fun K_64 H_65 =>
 bnd (aLenSl t23_62) fun t24_66 =>
 K_64 t24_66 H_65) (fun t24_67 H_68 =>
 aGuardK t16_34 false (fun K_69 H_70 =>
 bnd (aBin .geq .no t19_43 t24_67) fun t25_71 =>
 K_69 t25_71 H_70) (fun t25_72 H_73 =>
 bnd (aPick t16_34 (.bool true) t25_72) fun t26_74 =>
 aCond t26_74 (
 R (.pointer none) H_73) (
 bnd (aNilCheck a0) fun t28_75 =>
 bnd (aAdd 2 t28_75) fun t29_76 =>
 bnd (aLdCell t29_76 H_73) fun t30_77 =>
 bnd (aAdd 1 t3_0) fun t31_78 =>
 bnd (aLdCell t31_78 H_73) fun t32_79 =>
 bnd (aIdxAddr 10 t30_77 t32_79) fun t33_80 =>
 R t33_80 H_73)) H_68) H_63) H_58) H_53) H_48) H_44) H_39) H_33) H_28) H_23) H_17) H_12) H_7) H_1
theorem S62_calls {a0 a1 : Value} {H : AHeap} {R : Value → AHeap → Prop} (h : S62 a0 a1 H R) : ACalls Try.prog 62 [a0, a1] H R :=
  have e : S62 a0 a1 H R = awpFn Try.prog (Try.f62.body.getD .skip) Try.f62.results.toList ann62 [a0, a1] H R := by kernel_rfl
  calls_of_awp (fn := Try.f62) (c := Try.f62.body.getD .skip) (an := ann62) (by kernel_rfl) Try.func62 (by kernel_rfl) (by kernel_rfl) (of_decide_eq_true (by kernel_rfl)) (e ▸ h)

/-- 67: slices.IndexFunc[[]marginalia/api.Value,marginalia/api.Value] -/
def ann67 : Ann := (.two .leaf (.two (.two .leaf (.one (.loop [8] [4, 5, 8, 9, 10, 11, 12, 13, 14, 15, 16, 17, 18] (.two .leaf (.two (.two .leaf .leaf) (.two (.one (.two .leaf (.two .leaf (.two (.two .leaf .leaf) .leaf)))) .leaf)))))) (.two .leaf .leaf)))
def S67_10 (a0 : Value) (a1 : Value) (R : Value → AHeap → Prop) (t7_0 : Value) (vs_1 : List Value) (H_2 : AHeap) (again_3 : List Value → AHeap → Prop) : Prop :=
 bnd (aBin .lss .no (nth vs_1 0) t7_0) fun t9_4 =>
 aCond t9_4 (
 bnd (aIdxAddr 2 a0 (nth vs_1 0)) fun t14_5 =>
 bnd (aLdAgg 2 t14_5 H_2) fun t15_6 =>
 aCallV Try.prog a1 [t15_6] H_2 fun t16_7 H_8 =>
 aCond t16_7 (
 R (nth vs_1 0) H_8) (
 bnd (aBin .add .no (nth vs_1 0) (.int .i64 1)) fun t18_9 =>
 again_3 [t18_9] H_8)) (
 R (.int .i64 (-1)) H_2)
def S67 (a0 : Value) (a1 : Value) (H : AHeap) (R : Value → AHeap → Prop) : Prop :=
 bnd (aLenSl a0) fun t7_0 =>
 aLoop [(.int .i64 0)] H fun vs_1 H_2 again_3 =>
 (S67_10 a0 a1 R t7_0 vs_1 H_2 again_3)
theorem S67_calls {a0 a1 : Value} {H : AHeap} {R : Value → AHeap → Prop} (h : S67 a0 a1 H R) : ACalls Try.prog 67 [a0, a1] H R :=
  have e : S67 a0 a1 H R = awpFn Try.prog (Try.f67.body.getD .skip) Try.f67.results.toList ann67 [a0, a1] H R := by kernel_rfl
  calls_of_awp (fn := Try.f67) (c := Try.f67.body.getD .skip) (an := ann67) (by kernel_rfl) Try.func67 (by kernel_rfl) (by kernel_rfl) (of_decide_eq_true (by kernel_rfl)) (e ▸ h)

/-- 68: marginalia/store.pieces -/
def ann68 : Ann := (.two .leaf (.two (.draw [(0, []), (1, []), (2, []), (3, []), (4, []), (5, []), (6, []), (7, []), (8, []), (9, []), (10, []), (11, []), (12, []), (13, []), (14, []), (15, []), (16, []), (17, []), (18, []), (19, [])]) (.two (.two .leaf (.one (.loop [3, 29] [3, 4, 29, 30, 31, 32, 33, 34, 35, 36, 37, 38, 39, 40, 41] (.two .leaf (.two (.two .leaf .leaf) (.two (.one (.two .leaf .leaf)) .leaf)))))) (.two .leaf .leaf))))
def S68_32 (a0 : Value) (vs_20 : List Value) (H_21 : AHeap) (again_22 : List Value → AHeap → Prop) : Prop :=
 bnd (aNilCheck a0) fun t34_24 =>
 bnd (aAdd 4 t34_24) fun t35_25 =>
 bnd (aLdCell t35_25 H_21) fun t36_26 =>
 bnd (aIdxAddr 8 t36_26 (nth vs_20 1)) fun t38_27 =>
 ACalls Try.prog 68 [t38_27] H_21 fun t39_28 H_29 =>
 bnd (aBin .add .no (nth vs_20 0) t39_28) fun t40_30 =>
 bnd (aBin .add .no (nth vs_20 1) (.int .i64 1)) fun t41_31 =>
 again_22 [t40_30, t41_31] H_29
def S68_33 (a0 : Value) (R : Value → AHeap → Prop) (t28_19 : Value) (vs_20 : List Value) (H_21 : AHeap) (again_22 : List Value → AHeap → Prop) : Prop :=
 bnd (aBin .lss .no (nth vs_20 1) t28_19) fun t30_23 =>
 aCond t30_23 (
 (S68_32 a0 vs_20 H_21 again_22)) (
 R (nth vs_20 0) H_21)
def S68 (a0 : Value) (H : AHeap) (R : Value → AHeap → Prop) : Prop :=
 bnd (aNilCheck a0) fun t6_0 =>
 bnd (aAdd 6 t6_0) fun t7_1 =>
 bnd (aLdCell t7_1 H) fun t8_2 =>
 bnd (aLenSl t8_2) fun t9_3 =>
 bnd (aBin .add .no (.int .i64 1) t9_3) fun t10_4 =>
 bnd (aNilCheck a0) fun t12_5 =>
 bnd (aAdd 7 t12_5) fun t13_6 =>
 bnd (aLdCell t13_6 H) fun t14_7 =>
 bnd (aLenSl t14_7) fun t15_8 =>
 bnd (aBin .add .no t10_4 t15_8) fun t16_9 =>
 bnd (aNilCheck a0) fun t18_10 =>
 bnd (aAdd 2 t18_10) fun t19_11 =>
 bnd (aAdd 1 t19_11) fun t20_12 =>
 bnd (aLdCell t20_12 H) fun t21_13 =>
 bnd (aLenSl t21_13) fun t22_14 =>
 bnd (aBin .add .no t16_9 t22_14) fun t23_15 =>
 bnd (aNilCheck a0) fun t25_16 =>
 bnd (aAdd 4 t25_16) fun t26_17 =>
 bnd (aLdCell t26_17 H) fun t27_18 =>
 bnd (aLenSl t27_18) fun t28_19 =>
 aLoop [t23_15, (.int .i64 0)] H fun vs_20 H_21 again_22 =>
 (S68_33 a0 R t28_19 vs_20 H_21 again_22)
theorem S68_calls {a0 : Value} {H : AHeap} {R : Value → AHeap → Prop} (h : S68 a0 H R) : ACalls Try.prog 68 [a0] H R :=
  have e : S68 a0 H R = awpFn Try.prog (Try.f68.body.getD .skip) Try.f68.results.toList ann68 [a0] H R := by kernel_rfl
  calls_of_awp (fn := Try.f68) (c := Try.f68.body.getD .skip) (an := ann68) (by kernel_rfl) Try.func68 (by kernel_rfl) (by kernel_rfl) (of_decide_eq_true (by kernel_rfl)) (e ▸ h)

/-- 71: unicode/utf8.ValidRune -/
def ann71 : Ann := (.two .leaf (.two (.one (.two .leaf (.two (.two .leaf .leaf) (.two .leaf (.two (.two .leaf .leaf) .leaf))))) (.two .leaf .leaf)))
def S71_22 (a0 : Value) (R : Value → AHeap → Prop) (H_9 : AHeap) : Prop :=
 bnd (aBin .lss .no (.int .i32 57343) a0) fun t12_11 =>
 aGuardK t12_11 true (fun K_12 H_13 =>
 K_12 a0 H_13) (fun t14_14 H_15 =>
 aGuardK t12_11 true (fun K_16 H_17 =>
 bnd (aBin .leq .no t14_14 (.int .i32 1114111)) fun t15_18 =>
 K_16 t15_18 H_17) (fun t15_19 H_20 =>
 bnd (aPick t12_11 t15_19 (.bool false)) fun t16_21 =>
 aCond t16_21 (
 R (.bool true) H_20) (
 R (.bool false) H_20)) H_15) H_9
def S71 (a0 : Value) (H : AHeap) (R : Value → AHeap → Prop) : Prop :=
 bnd (aBin .leq .no (.int .i32 0) a0) fun t5_0 =>
 aGuardK t5_0 true (fun K_1 H_2 =>
 K_1 a0 H_2) (fun t7_3 H_4 =>
 aGuardK t5_0 true (fun K_5 H_6 =>
 bnd (aBin .lss .no t7_3 (.int .i32 55296)) fun t8_7 =>
 K_5 t8_7 H_6) (fun t8_8 H_9 =>
 bnd (aPick t5_0 t8_8 (.bool false)) fun t9_10 =>
 aCond t9_10 (
 R (.bool true) H_9) (
 (S71_22 a0 R H_9))) H_4) H
theorem S71_calls {a0 : Value} {H : AHeap} {R : Value → AHeap → Prop} (h : S71 a0 H R) : ACalls Try.prog 71 [a0] H R :=
  have e : S71 a0 H R = awpFn Try.prog (Try.f71.body.getD .skip) Try.f71.results.toList ann71 [a0] H R := by kernel_rfl
  calls_of_awp (fn := Try.f71) (c := Try.f71.body.getD .skip) (an := ann71) (by kernel_rfl) Try.func71 (by kernel_rfl) (by kernel_rfl) (of_decide_eq_true (by kernel_rfl)) (e ▸ h)

end Go.Proofs.Ytngldjajfpbmbaa.A
