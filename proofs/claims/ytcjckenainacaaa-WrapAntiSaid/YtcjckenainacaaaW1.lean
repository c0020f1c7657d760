/- The texts that functions' bodies come to (printed by gen.lean, a tool of our own). -/
import Derived.Test.YtcjckenainacaaaAbsV
import Derived.Test.YtcjckenainacaaaProg
import Derived.KernelRfl
set_option linter.unusedVariables false
set_option maxRecDepth 100000
namespace Go.Proofs.Ytcjckenainacaaa.A
open Go Go.Abs

/-- 3: marginalia/marginalialaw09.WrapMarks -/
def ann3 : Ann := (.two .leaf (.two .leaf (.two .leaf (.two (.two .leaf (.two (.two .leaf .leaf) .leaf)) (.two (.two .leaf (.two (.two .leaf .leaf) .leaf)) (.two .leaf .leaf))))))
def S3_245 (a0 : Value) (R : Value → AHeap → Prop) (t4_6 : Value) (H_189 : AHeap) : Prop :=
 bnd (aBin .gtr .no a0 (.int .i64 0)) fun t67_191 =>
 bnd (aAdd 1 t4_6) fun t68_192 =>
 bnd (aLdCell t68_192 H_189) fun t69_193 =>
 bnd (aLenSl t69_193) fun t70_194 =>
 bnd (aBin .eql .no t70_194 (.int .i64 1)) fun t71_195 =>
 bnd (aBin .eql .bool t67_191 t71_195) fun t72_196 =>
 aGuardK t72_196 true (fun K_197 H_198 =>
 K_197 a0 H_198) (fun t74_199 H_200 =>
 aGuardK t72_196 true (fun K_201 H_202 =>
 bnd (aBin .lss .no t74_199 (.int .i64 1)) fun t75_203 =>
 K_201 t75_203 H_202) (fun t75_204 H_205 =>
 aGuardK t72_196 true (fun K_206 H_207 =>
 K_206 t75_204 H_207) (fun t76_208 H_209 =>
 aGuardK t76_208 false (fun K_210 H_211 =>
 bnd (aAdd 1 t4_6) fun t77_212 =>
 K_210 t77_212 H_211) (fun t77_213 H_214 =>
 aGuardK t76_208 false (fun K_215 H_216 =>
 bnd (aLdCell t77_213 H_216) fun t78_217 =>
 K_215 t78_217 H_216) (fun t78_218 H_219 =>
 aGuardK t76_208 false (fun K_220 H_221 =>
 bnd (aIdxAddr 1 t78_218 (.int .i64 0)) fun t79_222 =>
 K_220 t79_222 H_221) (fun t79_223 H_224 =>
 aGuardK t76_208 false (fun K_225 H_226 =>
 bnd (aLdCell t79_223 H_226) fun t80_227 =>
 K_225 t80_227 H_226) (fun t80_228 H_229 =>
 aGuardK t76_208 false (fun K_230 H_231 =>
 K_230 a0 H_231) (fun t81_232 H_233 =>
 aGuardK t76_208 false (fun K_234 H_235 =>
 bnd (aBin .eql .no t80_228 t81_232) fun t82_236 =>
 K_234 t82_236 H_235) (fun t82_237 H_238 =>
 aGuardK t72_196 true (fun K_239 H_240 =>
 bnd (aPick t76_208 (.bool true) t82_237) fun t83_241 =>
 K_239 t83_241 H_240) (fun t83_242 H_243 =>
 bnd (aPick t72_196 t83_242 (.bool false)) fun t84_244 =>
 R t84_244 H_243) H_238) H_233) H_229) H_224) H_219) H_214) H_209) H_205) H_200) H_189
def S3_246 (a0 : Value) (R : Value → AHeap → Prop) (t3_4 : Value) (t4_6 : Value) (t15_20 : Value) (H_77 : AHeap) : Prop :=
 bnd (aAdd 0 t3_4) fun t35_79 =>
 bnd (aLdCell t35_79 H_77) fun t36_80 =>
 bnd (aLenSl t36_80) fun t37_81 =>
 bnd (aBin .eql .no t37_81 (.int .i64 1)) fun t38_82 =>
 bnd (aBin .neq .bool t15_20 t38_82) fun t39_83 =>
 aGuardK t39_83 false (fun K_84 H_85 =>
 K_84 t15_20 H_85) (fun t41_86 H_87 =>
 aGuardK t39_83 false (fun K_88 H_89 =>
 bnd (aAdd 1 t3_4) fun t42_90 =>
 K_88 t42_90 H_89) (fun t42_91 H_92 =>
 aGuardK t39_83 false (fun K_93 H_94 =>
 bnd (aLdCell t42_91 H_94) fun t43_95 =>
 K_93 t43_95 H_94) (fun t43_96 H_97 =>
 aGuardK t39_83 false (fun K_98 H_99 =>
 bnd (aLenSl t43_96) fun t44_100 =>
 K_98 t44_100 H_99) (fun t44_101 H_102 =>
 aGuardK t39_83 false (fun K_103 H_104 =>
 bnd (aBin .eql .no t44_101 (.int .i64 1)) fun t45_105 =>
 K_103 t45_105 H_104) (fun t45_106 H_107 =>
 aGuardK t39_83 false (fun K_108 H_109 =>
 bnd (aBin .neq .bool t41_86 t45_106) fun t46_110 =>
 K_108 t46_110 H_109) (fun t46_111 H_112 =>
 bnd (aPick t39_83 (.bool true) t46_111) fun t47_113 =>
 aGuardK t47_113 false (fun K_114 H_115 =>
 K_114 t15_20 H_115) (fun t49_116 H_117 =>
 aGuardK t47_113 false (fun K_118 H_119 =>
 K_118 t49_116 H_119) (fun t50_120 H_121 =>
 aGuardK t50_120 true (fun K_122 H_123 =>
 bnd (aAdd 0 t3_4) fun t51_124 =>
 K_122 t51_124 H_123) (fun t51_125 H_126 =>
 aGuardK t50_120 true (fun K_127 H_128 =>
 bnd (aLdCell t51_125 H_128) fun t52_129 =>
 K_127 t52_129 H_128) (fun t52_130 H_131 =>
 aGuardK t50_120 true (fun K_132 H_133 =>
 bnd (aIdxAddr 1 t52_130 (.int .i64 0)) fun t53_134 =>
 K_132 t53_134 H_133) (fun t53_135 H_136 =>
 aGuardK t50_120 true (fun K_137 H_138 =>
 bnd (aLdCell t53_135 H_138) fun t54_139 =>
 K_137 t54_139 H_138) (fun t54_140 H_141 =>
 aGuardK t50_120 true (fun K_142 H_143 =>
 K_142 a0 H_143) (fun t55_144 H_145 =>
 aGuardK t50_120 true (fun K_146 H_147 =>
 bnd (aBin .neq .no t54_140 t55_144) fun t56_148 =>
 K_146 t56_148 H_147) (fun t56_149 H_150 =>
 aGuardK t50_120 true (fun K_151 H_152 =>
 K_151 t56_149 H_152) (fun t57_153 H_154 =>
 aGuardK t57_153 false (fun K_155 H_156 =>
 bnd (aAdd 1 t3_4) fun t58_157 =>
 K_155 t58_157 H_156) (fun t58_158 H_159 =>
 aGuardK t57_153 false (fun K_160 H_161 =>
 bnd (aLdCell t58_158 H_161) fun t59_162 =>
 K_160 t59_162 H_161) (fun t59_163 H_164 =>
 aGuardK t57_153 false (fun K_165 H_166 =>
 bnd (aIdxAddr 1 t59_163 (.int .i64 0)) fun t60_167 =>
 K_165 t60_167 H_166) (fun t60_168 H_169 =>
 aGuardK t57_153 false (fun K_170 H_171 =>
 bnd (aLdCell t60_168 H_171) fun t61_172 =>
 K_170 t61_172 H_171) (fun t61_173 H_174 =>
 aGuardK t57_153 false (fun K_175 H_176 =>
 bnd (aBin .neq .no t61_173 (.int .i64 0)) fun t62_177 =>
 K_175 t62_177 H_176) (fun t62_178 H_179 =>
 aGuardK t50_120 true (fun K_180 H_181 =>
 bnd (aPick t57_153 (.bool true) t62_178) fun t63_182 =>
 K_180 t63_182 H_181) (fun t63_183 H_184 =>
 aGuardK t47_113 false (fun K_185 H_186 =>
 bnd (aPick t50_120 t63_183 (.bool false)) fun t64_187 =>
 K_185 t64_187 H_186) (fun t64_188 H_189 =>
 bnd (aPick t47_113 (.bool true) t64_188) fun t65_190 =>
 aCond t65_190 (
 R (.bool false) H_189) (
 (S3_245 a0 R t4_6 H_189))) H_184) H_179) H_174) H_169) H_164) H_159) H_154) H_150) H_145) H_141) H_136) H_131) H_126) H_121) H_117) H_112) H_107) H_102) H_97) H_92) H_87) H_77
def S3_247 (a0 : Value) (R : Value → AHeap → Prop) (t3_4 : Value) (t4_6 : Value) (t15_20 : Value) (t16_21 : Value) (H_22 : AHeap) : Prop :=
 bnd (aUn .not t16_21) fun t17_23 =>
 aGuardK t17_23 false (fun K_24 H_25 =>
 bnd (aLdAgg 2 t3_4 H_25) fun t19_26 =>
 K_24 t19_26 H_25) (fun t19_27 H_28 =>
 aGuardK t17_23 false (fun K_29 H_30 =>
 ACalls Try.prog 12 [t19_27] H_30 fun t20_31 H_32 =>
 K_29 t20_31 H_32) (fun t20_33 H_34 =>
 aGuardK t17_23 false (fun K_35 H_36 =>
 bnd (aUn .not t20_33) fun t21_37 =>
 K_35 t21_37 H_36) (fun t21_38 H_39 =>
 bnd (aPick t17_23 (.bool true) t21_38) fun t22_40 =>
 aGuardK t22_40 false (fun K_41 H_42 =>
 bnd (aLdAgg 2 t4_6 H_42) fun t24_43 =>
 K_41 t24_43 H_42) (fun t24_44 H_45 =>
 aGuardK t22_40 false (fun K_46 H_47 =>
 ACalls Try.prog 12 [t24_44] H_47 fun t25_48 H_49 =>
 K_46 t25_48 H_49) (fun t25_50 H_51 =>
 aGuardK t22_40 false (fun K_52 H_53 =>
 bnd (aUn .not t25_50) fun t26_54 =>
 K_52 t26_54 H_53) (fun t26_55 H_56 =>
 bnd (aPick t22_40 (.bool true) t26_55) fun t27_57 =>
 aGuardK t27_57 false (fun K_58 H_59 =>
 bnd (aAdd 0 t4_6) fun t29_60 =>
 K_58 t29_60 H_59) (fun t29_61 H_62 =>
 aGuardK t27_57 false (fun K_63 H_64 =>
 bnd (aLdCell t29_61 H_64) fun t30_65 =>
 K_63 t30_65 H_64) (fun t30_66 H_67 =>
 aGuardK t27_57 false (fun K_68 H_69 =>
 bnd (aLenSl t30_66) fun t31_70 =>
 K_68 t31_70 H_69) (fun t31_71 H_72 =>
 aGuardK t27_57 false (fun K_73 H_74 =>
 bnd (aBin .neq .no t31_71 (.int .i64 0)) fun t32_75 =>
 K_73 t32_75 H_74) (fun t32_76 H_77 =>
 bnd (aPick t27_57 (.bool true) t32_76) fun t33_78 =>
 aCond t33_78 (
 R (.bool false) H_77) (
 (S3_246 a0 R t3_4 t4_6 t15_20 H_77))) H_72) H_67) H_62) H_56) H_51) H_45) H_39) H_34) H_28) H_22
def S3_248 (a0 : Value) (R : Value → AHeap → Prop) (t7_0 : Value) (t9_2 : Value) (H_3 : AHeap) : Prop :=
 aAlloc [(.slice none 0 0), (.slice none 0 0)] 24 H_3 fun t3_4 H_5 =>
 aAlloc [(.slice none 0 0), (.slice none 0 0)] 24 H_5 fun t4_6 H_7 =>
 bnd (aSt 2 t3_4 t7_0 H_7) fun H_8 =>
 bnd (aSt 2 t4_6 t9_2 H_8) fun H_9 =>
 bnd (aBin .gtr .no a0 (.int .i64 0)) fun t11_10 =>
 aGuardK t11_10 false (fun K_11 H_12 =>
 K_11 a0 H_12) (fun t13_13 H_14 =>
 aGuardK t11_10 false (fun K_15 H_16 =>
 bnd (aBin .eql .no t13_13 (.int .i64 (-1))) fun t14_17 =>
 K_15 t14_17 H_16) (fun t14_18 H_19 =>
 bnd (aPick t11_10 (.bool true) t14_18) fun t15_20 =>
 ACalls Try.prog 11 [] H_19 fun t16_21 H_22 =>
 (S3_247 a0 R t3_4 t4_6 t15_20 t16_21 H_22)) H_14) H_9
def S3 (a0 : Value) (H : AHeap) (R : Value → AHeap → Prop) : Prop :=
 ACalls Try.prog 9 [a0] H fun t7_0 H_1 =>
 ACalls Try.prog 10 [a0] H_1 fun t9_2 H_3 =>
 (S3_248 a0 R t7_0 t9_2 H_3)
theorem S3_calls {a0 : Value} {H : AHeap} {R : Value → AHeap → Prop} (h : S3 a0 H R) : ACalls Try.prog 3 [a0] H R :=
  have e : S3 a0 H R = awpFn Try.prog (Try.f3.body.getD .skip) Try.f3.results.toList ann3 [a0] H R := by kernel_rfl
  calls_of_awp (fn := Try.f3) (c := Try.f3.body.getD .skip) (an := ann3) (by kernel_rfl) Try.func3 (by kernel_rfl) (by kernel_rfl) (of_decide_eq_true (by kernel_rfl)) (e ▸ h)

/-- 4: marginalia/marginalialaw09.WrapOrder -/
def ann4 : Ann := (.two .leaf (.two (.two .leaf (.two (.two .leaf .leaf) .leaf)) (.two .leaf (.two .leaf (.two (.two .leaf (.two (.two .leaf .leaf) .leaf)) (.two .leaf (.two .leaf (.two (.two .leaf (.two (.two .leaf .leaf) .leaf)) (.two (.draw [(0, []), (2, []), (8, []), (1, [2, 8]), (3, [8]), (4, [8]), (5, []), (6, []), (7, []), (9, []), (10, [])]) (.two (.draw [(0, []), (1, []), (7, []), (2, [0, 7]), (3, [7]), (4, []), (5, []), (6, []), (8, []), (9, [])]) (.two (.draw [(0, []), (2, []), (8, []), (1, [2, 8]), (3, [8]), (4, [8]), (5, []), (6, []), (7, []), (9, []), (10, [])]) (.two (.draw [(0, []), (2, []), (7, []), (1, [2, 7]), (3, [7]), (4, []), (5, []), (6, []), (8, []), (9, [])]) (.two .leaf .leaf)))))))))))))
def S4_251 (R : Value → AHeap → Prop) (t11_118 : Value) (t13_127 : Value) (t17_156 : Value) (t97_163 : Value) (t21_180 : Value) (H_183 : AHeap) (t110_184 : Value) (H_185 : AHeap) : Prop :=
 ((H_185.at_ (blkOf t21_180) = H_183.at_ (blkOf t21_180))) ∧
 bnd (aExtract t110_184 0) fun t111_186 =>
 bnd (aExtract t110_184 1) fun t112_187 =>
 bnd (aSt 2 t21_180 t111_186 H_185) fun H_188 =>
 bnd (aBin .eql .no t97_163 (.int .i64 0)) fun t114_189 =>
 aGuardK t114_189 true (fun K_190 H_191 =>
 K_190 t112_187 H_191) (fun t116_192 H_193 =>
 aGuardK t114_189 true (fun K_194 H_195 =>
 bnd (aBin .eql .no t116_192 (.int .i64 0)) fun t117_196 =>
 K_194 t117_196 H_195) (fun t117_197 H_198 =>
 bnd (aPick t114_189 t117_197 (.bool false)) fun t118_199 =>
 aGuardK t118_199 true (fun K_200 H_201 =>
 bnd (aLdAgg 2 t17_156 H_201) fun t120_202 =>
 K_200 t120_202 H_201) (fun t120_203 H_204 =>
 aGuardK t118_199 true (fun K_205 H_206 =>
 bnd (aLdAgg 2 t11_118 H_206) fun t121_207 =>
 K_205 t121_207 H_206) (fun t121_208 H_209 =>
 aGuardK t118_199 true (fun K_210 H_211 =>
 ACalls Try.prog 17 [t120_203, t121_208] H_211 fun t122_212 H_213 =>
 K_210 t122_212 H_213) (fun t122_214 H_215 =>
 bnd (aPick t118_199 t122_214 (.bool false)) fun t123_216 =>
 aGuardK t123_216 true (fun K_217 H_218 =>
 bnd (aLdAgg 2 t21_180 H_218) fun t125_219 =>
 K_217 t125_219 H_218) (fun t125_220 H_221 =>
 aGuardK t123_216 true (fun K_222 H_223 =>
 bnd (aLdAgg 2 t13_127 H_223) fun t126_224 =>
 K_222 t126_224 H_223) (fun t126_225 H_226 =>
 aGuardK t123_216 true (fun K_227 H_228 =>
 ACalls Try.prog 17 [t125_220, t126_225] H_228 fun t127_229 H_230 =>
 K_227 t127_229 H_230) (fun t127_231 H_232 =>
 bnd (aPick t123_216 t127_231 (.bool false)) fun t128_233 =>
 aGuardK t128_233 true (fun K_234 H_235 =>
 bnd (aLdAgg 2 t17_156 H_235) fun t130_236 =>
 K_234 t130_236 H_235) (fun t130_237 H_238 =>
 aGuardK t128_233 true (fun K_239 H_240 =>
 bnd (aLdAgg 2 t21_180 H_240) fun t131_241 =>
 K_239 t131_241 H_240) (fun t131_242 H_243 =>
 aGuardK t128_233 true (fun K_244 H_245 =>
 ACalls Try.prog 17 [t130_237, t131_242] H_245 fun t132_246 H_247 =>
 K_244 t132_246 H_247) (fun t132_248 H_249 =>
 bnd (aPick t128_233 t132_248 (.bool false)) fun t133_250 =>
 R t133_250 H_249) H_243) H_238) H_232) H_226) H_221) H_215) H_209) H_204) H_198) H_193) H_188
def S4_253 (R : Value → AHeap → Prop) (t3_0 : Value) (t11_118 : Value) (t13_127 : Value) (t17_156 : Value) (t97_163 : Value) (t19_167 : Value) (H_172 : AHeap) (t103_173 : Value) (H_174 : AHeap) : Prop :=
 ((H_174.at_ (blkOf t19_167) = H_172.at_ (blkOf t19_167))) ∧
 bnd (aExtract t103_173 0) fun t104_175 =>
 bnd (aExtract t103_173 1) fun t105_176 =>
 bnd (aSt 2 t19_167 t104_175 H_174) fun H_177 =>
 bnd (aLdAgg 2 t3_0 H_177) fun t107_178 =>
 bnd (aLdAgg 2 t19_167 H_177) fun t109_179 =>
 aAlloc [(.slice none 0 0), (.slice none 0 0)] 24 H_177 fun t21_180 H_181 =>
 ACalls Try.prog 16 [t107_178] H_181 fun t108_182 H_183 =>
 ((bnd (aLdAgg 2 t19_167 H_183) fun t109_252 =>
 t109_252 = t109_179) ∧ (H_183.at_ (blkOf t21_180) = H_181.at_ (blkOf t21_180))) ∧
 ACalls Try.prog 15 [t108_182, t109_179] H_183 fun t110_184 H_185 =>
 (S4_251 R t11_118 t13_127 t17_156 t97_163 t21_180 H_183 t110_184 H_185)
def S4_255 (R : Value → AHeap → Prop) (t3_0 : Value) (t4_2 : Value) (t5_4 : Value) (t11_118 : Value) (t13_127 : Value) (t17_156 : Value) (H_159 : AHeap) (t95_160 : Value) (H_161 : AHeap) : Prop :=
 ((H_161.at_ (blkOf t17_156) = H_159.at_ (blkOf t17_156))) ∧
 bnd (aExtract t95_160 0) fun t96_162 =>
 bnd (aExtract t95_160 1) fun t97_163 =>
 bnd (aSt 2 t17_156 t96_162 H_161) fun H_164 =>
 bnd (aLdAgg 2 t4_2 H_164) fun t99_165 =>
 bnd (aLdAgg 2 t5_4 H_164) fun t101_166 =>
 aAlloc [(.slice none 0 0), (.slice none 0 0)] 24 H_164 fun t19_167 H_168 =>
 ACalls Try.prog 16 [t99_165] H_168 fun t100_169 H_170 =>
 ((bnd (aLdAgg 2 t5_4 H_170) fun t101_254 =>
 t101_254 = t101_166) ∧ (H_170.at_ (blkOf t19_167) = H_168.at_ (blkOf t19_167))) ∧
 ACalls Try.prog 16 [t101_166] H_170 fun t102_171 H_172 =>
 ((H_172.at_ (blkOf t19_167) = H_170.at_ (blkOf t19_167))) ∧
 ACalls Try.prog 15 [t100_169, t102_171] H_172 fun t103_173 H_174 =>
 (S4_253 R t3_0 t11_118 t13_127 t17_156 t97_163 t19_167 H_172 t103_173 H_174)
def S4_257 (R : Value → AHeap → Prop) (t3_0 : Value) (t4_2 : Value) (t5_4 : Value) (t11_118 : Value) (t13_127 : Value) (t15_143 : Value) (H_148 : AHeap) (t88_149 : Value) (H_150 : AHeap) : Prop :=
 ((H_150.at_ (blkOf t15_143) = H_148.at_ (blkOf t15_143))) ∧
 bnd (aExtract t88_149 0) fun t89_151 =>
 bnd (aExtract t88_149 1) fun t90_152 =>
 bnd (aSt 2 t15_143 t89_151 H_150) fun H_153 =>
 bnd (aLdAgg 2 t15_143 H_153) fun t92_154 =>
 bnd (aLdAgg 2 t5_4 H_153) fun t93_155 =>
 aAlloc [(.slice none 0 0), (.slice none 0 0)] 24 H_153 fun t17_156 H_157 =>
 ACalls Try.prog 16 [t93_155] H_157 fun t94_158 H_159 =>
 ((bnd (aLdAgg 2 t15_143 H_159) fun t92_256 =>
 t92_256 = t92_154) ∧ (H_159.at_ (blkOf t17_156) = H_157.at_ (blkOf t17_156))) ∧
 ACalls Try.prog 15 [t92_154, t94_158] H_159 fun t95_160 H_161 =>
 (S4_255 R t3_0 t4_2 t5_4 t11_118 t13_127 t17_156 H_159 t95_160 H_161)
def S4_259 (R : Value → AHeap → Prop) (t3_0 : Value) (t4_2 : Value) (t5_4 : Value) (t11_118 : Value) (t13_127 : Value) (H_139 : AHeap) : Prop :=
 bnd (aLdAgg 2 t3_0 H_139) fun t84_141 =>
 bnd (aLdAgg 2 t4_2 H_139) fun t86_142 =>
 aAlloc [(.slice none 0 0), (.slice none 0 0)] 24 H_139 fun t15_143 H_144 =>
 ACalls Try.prog 16 [t84_141] H_144 fun t85_145 H_146 =>
 ((bnd (aLdAgg 2 t4_2 H_146) fun t86_258 =>
 t86_258 = t86_142) ∧ (H_146.at_ (blkOf t15_143) = H_144.at_ (blkOf t15_143))) ∧
 ACalls Try.prog 16 [t86_142] H_146 fun t87_147 H_148 =>
 ((H_148.at_ (blkOf t15_143) = H_146.at_ (blkOf t15_143))) ∧
 ACalls Try.prog 15 [t85_145, t87_147] H_148 fun t88_149 H_150 =>
 (S4_257 R t3_0 t4_2 t5_4 t11_118 t13_127 t15_143 H_148 t88_149 H_150)
def S4_260 (R : Value → AHeap → Prop) (t3_0 : Value) (t4_2 : Value) (t5_4 : Value) (t70_117 : Value) (t11_118 : Value) (t74_123 : Value) (H_124 : AHeap) : Prop :=
 bnd (aExtract t74_123 0) fun t75_125 =>
 bnd (aExtract t74_123 1) fun t76_126 =>
 aAlloc [(.slice none 0 0), (.slice none 0 0)] 24 H_124 fun t13_127 H_128 =>
 bnd (aSt 2 t13_127 t75_125 H_128) fun H_129 =>
 bnd (aUn .not t70_117) fun t78_130 =>
 aGuardK t78_130 false (fun K_131 H_132 =>
 K_131 t76_126 H_132) (fun t80_133 H_134 =>
 aGuardK t78_130 false (fun K_135 H_136 =>
 bnd (aUn .not t80_133) fun t81_137 =>
 K_135 t81_137 H_136) (fun t81_138 H_139 =>
 bnd (aPick t78_130 (.bool true) t81_138) fun t82_140 =>
 aCond t82_140 (
 R (.bool true) H_139) (
 (S4_259 R t3_0 t4_2 t5_4 t11_118 t13_127 H_139))) H_134) H_129
def S4_261 (R : Value → AHeap → Prop) (t3_0 : Value) (t4_2 : Value) (t5_4 : Value) (t9_77 : Value) (t68_114 : Value) (H_115 : AHeap) : Prop :=
 bnd (aExtract t68_114 0) fun t69_116 =>
 bnd (aExtract t68_114 1) fun t70_117 =>
 aAlloc [(.slice none 0 0), (.slice none 0 0)] 24 H_115 fun t11_118 H_119 =>
 bnd (aSt 2 t11_118 t69_116 H_119) fun H_120 =>
 bnd (aLdAgg 2 t3_0 H_120) fun t72_121 =>
 bnd (aLdAgg 2 t9_77 H_120) fun t73_122 =>
 ACalls Try.prog 14 [t72_121, t73_122] H_120 fun t74_123 H_124 =>
 (S4_260 R t3_0 t4_2 t5_4 t70_117 t11_118 t74_123 H_124)
def S4_262 (R : Value → AHeap → Prop) (t3_0 : Value) (t4_2 : Value) (t5_4 : Value) (t46_67 : Value) (t7_68 : Value) (t50_73 : Value) (H_74 : AHeap) : Prop :=
 bnd (aExtract t50_73 0) fun t51_75 =>
 bnd (aExtract t50_73 1) fun t52_76 =>
 aAlloc [(.slice none 0 0), (.slice none 0 0)] 24 H_74 fun t9_77 H_78 =>
 bnd (aSt 2 t9_77 t51_75 H_78) fun H_79 =>
 bnd (aUn .not t46_67) fun t54_80 =>
 aGuardK t54_80 false (fun K_81 H_82 =>
 K_81 t52_76 H_82) (fun t56_83 H_84 =>
 aGuardK t54_80 false (fun K_85 H_86 =>
 bnd (aUn .not t56_83) fun t57_87 =>
 K_85 t57_87 H_86) (fun t57_88 H_89 =>
 bnd (aPick t54_80 (.bool true) t57_88) fun t58_90 =>
 aGuardK t58_90 false (fun K_91 H_92 =>
 bnd (aAdd 0 t4_2) fun t60_93 =>
 K_91 t60_93 H_92) (fun t60_94 H_95 =>
 aGuardK t58_90 false (fun K_96 H_97 =>
 bnd (aLdCell t60_94 H_97) fun t61_98 =>
 K_96 t61_98 H_97) (fun t61_99 H_100 =>
 aGuardK t58_90 false (fun K_101 H_102 =>
 bnd (aLenSl t61_99) fun t62_103 =>
 K_101 t62_103 H_102) (fun t62_104 H_105 =>
 aGuardK t58_90 false (fun K_106 H_107 =>
 bnd (aBin .lss .no t62_104 (.int .i64 2)) fun t63_108 =>
 K_106 t63_108 H_107) (fun t63_109 H_110 =>
 bnd (aPick t58_90 (.bool true) t63_109) fun t64_111 =>
 aCond t64_111 (
 R (.bool true) H_110) (
 bnd (aLdAgg 2 t7_68 H_110) fun t66_112 =>
 bnd (aLdAgg 2 t5_4 H_110) fun t67_113 =>
 ACalls Try.prog 14 [t66_112, t67_113] H_110 fun t68_114 H_115 =>
 (S4_261 R t3_0 t4_2 t5_4 t9_77 t68_114 H_115))) H_105) H_100) H_95) H_89) H_84) H_79
def S4_263 (R : Value → AHeap → Prop) (t3_0 : Value) (t4_2 : Value) (t5_4 : Value) (H_58 : AHeap) : Prop :=
 bnd (aLdAgg 2 t3_0 H_58) fun t42_62 =>
 bnd (aLdAgg 2 t4_2 H_58) fun t43_63 =>
 ACalls Try.prog 14 [t42_62, t43_63] H_58 fun t44_64 H_65 =>
 bnd (aExtract t44_64 0) fun t45_66 =>
 bnd (aExtract t44_64 1) fun t46_67 =>
 aAlloc [(.slice none 0 0), (.slice none 0 0)] 24 H_65 fun t7_68 H_69 =>
 bnd (aSt 2 t7_68 t45_66 H_69) fun H_70 =>
 bnd (aLdAgg 2 t4_2 H_70) fun t48_71 =>
 bnd (aLdAgg 2 t5_4 H_70) fun t49_72 =>
 ACalls Try.prog 14 [t48_71, t49_72] H_70 fun t50_73 H_74 =>
 (S4_262 R t3_0 t4_2 t5_4 t46_67 t7_68 t50_73 H_74)
def S4_264 (R : Value → AHeap → Prop) (t3_0 : Value) (t4_2 : Value) (t5_4 : Value) (t23_6 : Value) (H_7 : AHeap) : Prop :=
 bnd (aUn .not t23_6) fun t24_8 =>
 aGuardK t24_8 false (fun K_9 H_10 =>
 bnd (aLdAgg 2 t3_0 H_10) fun t26_11 =>
 K_9 t26_11 H_10) (fun t26_12 H_13 =>
 aGuardK t24_8 false (fun K_14 H_15 =>
 ACalls Try.prog 13 [t26_12] H_15 fun t27_16 H_17 =>
 K_14 t27_16 H_17) (fun t27_18 H_19 =>
 aGuardK t24_8 false (fun K_20 H_21 =>
 bnd (aUn .not t27_18) fun t28_22 =>
 K_20 t28_22 H_21) (fun t28_23 H_24 =>
 bnd (aPick t24_8 (.bool true) t28_23) fun t29_25 =>
 aGuardK t29_25 false (fun K_26 H_27 =>
 bnd (aLdAgg 2 t4_2 H_27) fun t31_28 =>
 K_26 t31_28 H_27) (fun t31_29 H_30 =>
 aGuardK t29_25 false (fun K_31 H_32 =>
 ACalls Try.prog 13 [t31_29] H_32 fun t32_33 H_34 =>
 K_31 t32_33 H_34) (fun t32_35 H_36 =>
 aGuardK t29_25 false (fun K_37 H_38 =>
 bnd (aUn .not t32_35) fun t33_39 =>
 K_37 t33_39 H_38) (fun t33_40 H_41 =>
 bnd (aPick t29_25 (.bool true) t33_40) fun t34_42 =>
 aGuardK t34_42 false (fun K_43 H_44 =>
 bnd (aLdAgg 2 t5_4 H_44) fun t36_45 =>
 K_43 t36_45 H_44) (fun t36_46 H_47 =>
 aGuardK t34_42 false (fun K_48 H_49 =>
 ACalls Try.prog 13 [t36_46] H_49 fun t37_50 H_51 =>
 K_48 t37_50 H_51) (fun t37_52 H_53 =>
 aGuardK t34_42 false (fun K_54 H_55 =>
 bnd (aUn .not t37_52) fun t38_56 =>
 K_54 t38_56 H_55) (fun t38_57 H_58 =>
 bnd (aPick t34_42 (.bool true) t38_57) fun t39_59 =>
 aCond t39_59 (
 ACalls Try.prog 11 [] H_58 fun t40_60 H_61 =>
 R t40_60 H_61) (
 (S4_263 R t3_0 t4_2 t5_4 H_58))) H_53) H_47) H_41) H_36) H_30) H_24) H_19) H_13) H_7
def S4 (a0 : Value) (a1 : Value) (a2 : Value) (H : AHeap) (R : Value → AHeap → Prop) : Prop :=
 aBox 24 a0 H fun t3_0 H_1 =>
 aBox 24 a1 H_1 fun t4_2 H_3 =>
 aBox 24 a2 H_3 fun t5_4 H_5 =>
 ACalls Try.prog 11 [] H_5 fun t23_6 H_7 =>
 (S4_264 R t3_0 t4_2 t5_4 t23_6 H_7)
theorem S4_calls {a0 a1 a2 : Value} {H : AHeap} {R : Value → AHeap → Prop} (h : S4 a0 a1 a2 H R) : ACalls Try.prog 4 [a0, a1, a2] H R :=
  have e : S4 a0 a1 a2 H R = awpFn Try.prog (Try.f4.body.getD .skip) Try.f4.results.toList ann4 [a0, a1, a2] H R := by kernel_rfl
  calls_of_awp (fn := Try.f4) (c := Try.f4.body.getD .skip) (an := ann4) (by kernel_rfl) Try.func4 (by kernel_rfl) (by kernel_rfl) (of_decide_eq_true (by kernel_rfl)) (e ▸ h)

/-- 5: marginalia/marginalialaw09.WrapNone -/
def ann5 : Ann := (.two .leaf (.two (.two .leaf (.two (.two .leaf .leaf) .leaf)) (.two .leaf (.two .leaf (.two (.two .leaf (.two (.two .leaf .leaf) .leaf)) (.two .leaf .leaf))))))
def S5_64 (R : Value → AHeap → Prop) (t21_31 : Value) (t28_42 : Value) (H_51 : AHeap) : Prop :=
 bnd (aBin .eql .no t21_31 (.int .i64 2)) fun t36_53 =>
 aGuardK t36_53 true (fun K_54 H_55 =>
 K_54 t28_42 H_55) (fun t38_56 H_57 =>
 aGuardK t36_53 true (fun K_58 H_59 =>
 bnd (aBin .eql .no t38_56 (.int .i64 2)) fun t39_60 =>
 K_58 t39_60 H_59) (fun t39_61 H_62 =>
 bnd (aPick t36_53 t39_61 (.bool false)) fun t40_63 =>
 R t40_63 H_62) H_57) H_51
def S5_110 (R : Value → AHeap → Prop) (t1_0 : Value) (t21_31 : Value) (t3_32 : Value) (t28_42 : Value) (t5_43 : Value) (H_51 : AHeap) : Prop :=
 bnd (aBin .eql .no t21_31 (.int .i64 0)) fun t42_65 =>
 aGuardK t42_65 true (fun K_66 H_67 =>
 K_66 t28_42 H_67) (fun t44_68 H_69 =>
 aGuardK t42_65 true (fun K_70 H_71 =>
 bnd (aBin .eql .no t44_68 (.int .i64 0)) fun t45_72 =>
 K_70 t45_72 H_71) (fun t45_73 H_74 =>
 bnd (aPick t42_65 t45_73 (.bool false)) fun t46_75 =>
 aGuardK t46_75 true (fun K_76 H_77 =>
 bnd (aLdAgg 2 t3_32 H_77) fun t48_78 =>
 K_76 t48_78 H_77) (fun t48_79 H_80 =>
 aGuardK t46_75 true (fun K_81 H_82 =>
 bnd (aLdAgg 2 t1_0 H_82) fun t49_83 =>
 K_81 t49_83 H_82) (fun t49_84 H_85 =>
 aGuardK t46_75 true (fun K_86 H_87 =>
 ACalls Try.prog 17 [t48_79, t49_84] H_87 fun t50_88 H_89 =>
 K_86 t50_88 H_89) (fun t50_90 H_91 =>
 bnd (aPick t46_75 t50_90 (.bool false)) fun t51_92 =>
 aGuardK t51_92 true (fun K_93 H_94 =>
 bnd (aLdAgg 2 t5_43 H_94) fun t53_95 =>
 K_93 t53_95 H_94) (fun t53_96 H_97 =>
 aGuardK t51_92 true (fun K_98 H_99 =>
 bnd (aLdAgg 2 t1_0 H_99) fun t54_100 =>
 K_98 t54_100 H_99) (fun t54_101 H_102 =>
 aGuardK t51_92 true (fun K_103 H_104 =>
 ACalls Try.prog 17 [t53_96, t54_101] H_104 fun t55_105 H_106 =>
 K_103 t55_105 H_106) (fun t55_107 H_108 =>
 bnd (aPick t51_92 t55_107 (.bool false)) fun t56_109 =>
 R t56_109 H_108) H_102) H_97) H_91) H_85) H_80) H_74) H_69) H_51
def S5_111 (R : Value → AHeap → Prop) (t1_0 : Value) (t21_31 : Value) (t3_32 : Value) (t26_39 : Value) (H_40 : AHeap) : Prop :=
 bnd (aExtract t26_39 0) fun t27_41 =>
 bnd (aExtract t26_39 1) fun t28_42 =>
 aAlloc [(.slice none 0 0), (.slice none 0 0)] 24 H_40 fun t5_43 H_44 =>
 bnd (aSt 2 t5_43 t27_41 H_44) fun H_45 =>
 bnd (aAdd 0 t1_0) fun t29_46 =>
 bnd (aLdCell t29_46 H_45) fun t30_47 =>
 bnd (aAdd 1 t1_0) fun t31_48 =>
 bnd (aLdCell t31_48 H_45) fun t32_49 =>
 ACalls Try.prog 18 [t30_47, t32_49] H_45 fun t33_50 H_51 =>
 bnd (aUn .not t33_50) fun t34_52 =>
 aCond t34_52 (
 (S5_64 R t21_31 t28_42 H_51)) (
 (S5_110 R t1_0 t21_31 t3_32 t28_42 t5_43 H_51))
def S5_112 (R : Value → AHeap → Prop) (t1_0 : Value) (t19_28 : Value) (H_29 : AHeap) : Prop :=
 bnd (aExtract t19_28 0) fun t20_30 =>
 bnd (aExtract t19_28 1) fun t21_31 =>
 aAlloc [(.slice none 0 0), (.slice none 0 0)] 24 H_29 fun t3_32 H_33 =>
 bnd (aSt 2 t3_32 t20_30 H_33) fun H_34 =>
 bnd (aFill [(.slice none 0 0), (.slice none 0 0)] []) fun t23_35 =>
 bnd (aLdAgg 2 t1_0 H_34) fun t24_36 =>
 ACalls Try.prog 16 [t24_36] H_34 fun t25_37 H_38 =>
 ACalls Try.prog 15 [(.agg t23_35.toArray), t25_37] H_38 fun t26_39 H_40 =>
 (S5_111 R t1_0 t21_31 t3_32 t26_39 H_40)
def S5_113 (R : Value → AHeap → Prop) (t1_0 : Value) (H_20 : AHeap) : Prop :=
 bnd (aLdAgg 2 t1_0 H_20) fun t16_24 =>
 ACalls Try.prog 16 [t16_24] H_20 fun t17_25 H_26 =>
 bnd (aFill [(.slice none 0 0), (.slice none 0 0)] []) fun t18_27 =>
 ACalls Try.prog 15 [t17_25, (.agg t18_27.toArray)] H_26 fun t19_28 H_29 =>
 (S5_112 R t1_0 t19_28 H_29)
def S5_114 (R : Value → AHeap → Prop) (t1_0 : Value) (t7_2 : Value) (H_3 : AHeap) : Prop :=
 bnd (aUn .not t7_2) fun t8_4 =>
 aGuardK t8_4 false (fun K_5 H_6 =>
 bnd (aLdAgg 2 t1_0 H_6) fun t10_7 =>
 K_5 t10_7 H_6) (fun t10_8 H_9 =>
 aGuardK t8_4 false (fun K_10 H_11 =>
 ACalls Try.prog 13 [t10_8] H_11 fun t11_12 H_13 =>
 K_10 t11_12 H_13) (fun t11_14 H_15 =>
 aGuardK t8_4 false (fun K_16 H_17 =>
 bnd (aUn .not t11_14) fun t12_18 =>
 K_16 t12_18 H_17) (fun t12_19 H_20 =>
 bnd (aPick t8_4 (.bool true) t12_19) fun t13_21 =>
 aCond t13_21 (
 ACalls Try.prog 11 [] H_20 fun t14_22 H_23 =>
 R t14_22 H_23) (
 (S5_113 R t1_0 H_20))) H_15) H_9) H_3
def S5 (a0 : Value) (H : AHeap) (R : Value → AHeap → Prop) : Prop :=
 aBox 24 a0 H fun t1_0 H_1 =>
 ACalls Try.prog 11 [] H_1 fun t7_2 H_3 =>
 (S5_114 R t1_0 t7_2 H_3)
theorem S5_calls {a0 : Value} {H : AHeap} {R : Value → AHeap → Prop} (h : S5 a0 H R) : ACalls Try.prog 5 [a0] H R :=
  have e : S5 a0 H R = awpFn Try.prog (Try.f5.body.getD .skip) Try.f5.results.toList ann5 [a0] H R := by kernel_rfl
  calls_of_awp (fn := Try.f5) (c := Try.f5.body.getD .skip) (an := ann5) (by kernel_rfl) Try.func5 (by kernel_rfl) (by kernel_rfl) (of_decide_eq_true (by kernel_rfl)) (e ▸ h)

/-- 6: marginalia/marginalialaw09.WrapAnti -/
def ann6 : Ann := (.two .leaf (.two (.two .leaf (.two (.two .leaf .leaf) .leaf)) (.two (.draw [(1, []), (7, []), (0, [1, 7]), (2, [7]), (3, [7]), (4, []), (5, []), (6, []), (8, []), (9, [])]) (.two .leaf (.two .leaf (.two (.two .leaf (.one (.loop [11] [6, 11, 12, 13, 14, 76, 77, 78, 79, 80, 81, 82, 83, 84, 85, 86, 87, 88, 89, 90, 91, 92, 93, 94, 95, 96, 97, 98, 99, 100, 101, 102, 103, 104, 105, 106] (.two (.two .leaf (.two .leaf .leaf)) (.two (.one (.two .leaf (.two .leaf (.two .leaf (.two .leaf (.two .leaf (.two (.two .leaf .leaf) .leaf))))))) .leaf))))) (.two .leaf (.two .leaf .leaf))))))))
def S6_233 (R : Value → AHeap → Prop) (t10_190 : Value) (vs_193 : List Value) (again_195 : List Value → AHeap → Prop) (t94_212 : Value) (t98_216 : Value) (H_217 : AHeap) : Prop :=
 bnd (aExtract t98_216 0) fun t99_218 =>
 bnd (aExtract t98_216 1) fun t100_219 =>
 bnd (aSt 2 t10_190 t99_218 H_217) fun H_220 =>
 bnd (aBin .neq .no t94_212 (.int .i64 0)) fun t102_221 =>
 aGuardK t102_221 false (fun K_222 H_223 =>
 K_222 t100_219 H_223) (fun t104_224 H_225 =>
 aGuardK t102_221 false (fun K_226 H_227 =>
 bnd (aBin .neq .no t104_224 (.int .i64 0)) fun t105_228 =>
 K_226 t105_228 H_227) (fun t105_229 H_230 =>
 bnd (aPick t102_221 (.bool true) t105_229) fun t106_231 =>
 aCond t106_231 (
 R (.bool false) H_230) (
 bnd (aBin .add .no (nth vs_193 0) (.int .i64 1)) fun t81_232 =>
 again_195 [t81_232] H_230)) H_225) H_220
def S6_234 (R : Value → AHeap → Prop) (t9_184 : Value) (t10_190 : Value) (vs_193 : List Value) (again_195 : List Value → AHeap → Prop) (t88_202 : Value) (H_203 : AHeap) : Prop :=
 aAlloc [(.slice none 0 0), (.slice none 0 0)] 24 H_203 fun t12_204 H_205 =>
 bnd (aSt 2 t12_204 t88_202 H_205) fun H_206 =>
 bnd (aLdAgg 2 t12_204 H_206) fun t90_207 =>
 bnd (aLdAgg 2 t9_184 H_206) fun t91_208 =>
 ACalls Try.prog 15 [t90_207, t91_208] H_206 fun t92_209 H_210 =>
 bnd (aExtract t92_209 0) fun t93_211 =>
 bnd (aExtract t92_209 1) fun t94_212 =>
 bnd (aSt 2 t9_184 t93_211 H_210) fun H_213 =>
 bnd (aLdAgg 2 t12_204 H_213) fun t96_214 =>
 bnd (aLdAgg 2 t10_190 H_213) fun t97_215 =>
 ACalls Try.prog 15 [t96_214, t97_215] H_213 fun t98_216 H_217 =>
 (S6_233 R t10_190 vs_193 again_195 t94_212 t98_216 H_217)
def S6_235 (a1 : Value) (R : Value → AHeap → Prop) (t9_184 : Value) (t10_190 : Value) (vs_193 : List Value) (H_194 : AHeap) (again_195 : List Value → AHeap → Prop) : Prop :=
 bnd (aIdxAddr 1 a1 (nth vs_193 0)) fun t84_198 =>
 bnd (aLdCell t84_198 H_194) fun t85_199 =>
 bnd (aConvInt .i64 t85_199) fun t86_200 =>
 bnd (aBin .add .no t86_200 (.int .i64 1)) fun t87_201 =>
 ACalls Try.prog 10 [t87_201] H_194 fun t88_202 H_203 =>
 (S6_234 R t9_184 t10_190 vs_193 again_195 t88_202 H_203)
def S6_273 (R : Value → AHeap → Prop) (t69_178 : Value) (t10_190 : Value) (t110_238 : Value) (H_239 : AHeap) : Prop :=
 bnd (aExtract t110_238 0) fun t111_240 =>
 bnd (aExtract t110_238 1) fun t112_241 =>
 aAlloc [(.slice none 0 0), (.slice none 0 0)] 24 H_239 fun t15_242 H_243 =>
 bnd (aSt 2 t15_242 t111_240 H_243) fun H_244 =>
 bnd (aBin .eql .no t69_178 (.int .i64 0)) fun t114_245 =>
 aGuardK t114_245 true (fun K_246 H_247 =>
 K_246 t112_241 H_247) (fun t116_248 H_249 =>
 aGuardK t114_245 true (fun K_250 H_251 =>
 bnd (aBin .eql .no t116_248 (.int .i64 0)) fun t117_252 =>
 K_250 t117_252 H_251) (fun t117_253 H_254 =>
 bnd (aPick t114_245 t117_253 (.bool false)) fun t118_255 =>
 aGuardK t118_255 true (fun K_256 H_257 =>
 bnd (aLdAgg 2 t15_242 H_257) fun t120_258 =>
 K_256 t120_258 H_257) (fun t120_259 H_260 =>
 aGuardK t118_255 true (fun K_261 H_262 =>
 bnd (aLdAgg 2 t10_190 H_262) fun t121_263 =>
 K_261 t121_263 H_262) (fun t121_264 H_265 =>
 aGuardK t118_255 true (fun K_266 H_267 =>
 ACalls Try.prog 17 [t120_259, t121_264] H_267 fun t122_268 H_269 =>
 K_266 t122_268 H_269) (fun t122_270 H_271 =>
 bnd (aPick t118_255 t122_270 (.bool false)) fun t123_272 =>
 R t123_272 H_271) H_265) H_260) H_254) H_249) H_244
def S6_274 (a1 : Value) (R : Value → AHeap → Prop) (t7_169 : Value) (t69_178 : Value) (t9_184 : Value) (t10_190 : Value) (vs_193 : List Value) (H_194 : AHeap) (again_195 : List Value → AHeap → Prop) : Prop :=
 bnd (aLenSl a1) fun t78_196 =>
 bnd (aBin .lss .no (nth vs_193 0) t78_196) fun t79_197 =>
 aCond t79_197 (
 (S6_235 a1 R t9_184 t10_190 vs_193 H_194 again_195)) (
 bnd (aLdAgg 2 t9_184 H_194) fun t108_236 =>
 bnd (aLdAgg 2 t7_169 H_194) fun t109_237 =>
 ACalls Try.prog 15 [t108_236, t109_237] H_194 fun t110_238 H_239 =>
 (S6_273 R t69_178 t10_190 t110_238 H_239))
def S6_275 (a1 : Value) (R : Value → AHeap → Prop) (t3_0 : Value) (t7_169 : Value) (t69_178 : Value) (t73_182 : Value) (H_183 : AHeap) : Prop :=
 aAlloc [(.slice none 0 0), (.slice none 0 0)] 24 H_183 fun t9_184 H_185 =>
 bnd (aSt 2 t9_184 t73_182 H_185) fun H_186 =>
 bnd (aLdAgg 2 t3_0 H_186) fun t74_187 =>
 ACalls Try.prog 16 [t74_187] H_186 fun t75_188 H_189 =>
 aAlloc [(.slice none 0 0), (.slice none 0 0)] 24 H_189 fun t10_190 H_191 =>
 bnd (aSt 2 t10_190 t75_188 H_191) fun H_192 =>
 aLoop [(.int .i64 0)] H_192 fun vs_193 H_194 again_195 =>
 (S6_274 a1 R t7_169 t69_178 t9_184 t10_190 vs_193 H_194 again_195)
def S6_276 (a1 : Value) (a2 : Value) (R : Value → AHeap → Prop) (t3_0 : Value) (t7_169 : Value) (t64_171 : Value) (H_172 : AHeap) (t66_173 : Value) (H_174 : AHeap) : Prop :=
 ((H_174.at_ (blkOf t7_169) = H_172.at_ (blkOf t7_169))) ∧
 ACalls Try.prog 15 [t64_171, t66_173] H_174 fun t67_175 H_176 =>
 ((H_176.at_ (blkOf t7_169) = H_174.at_ (blkOf t7_169))) ∧
 bnd (aExtract t67_175 0) fun t68_177 =>
 bnd (aExtract t67_175 1) fun t69_178 =>
 bnd (aSt 2 t7_169 t68_177 H_176) fun H_179 =>
 bnd (aConvInt .i64 a2) fun t71_180 =>
 bnd (aBin .add .no t71_180 (.int .i64 1)) fun t72_181 =>
 ACalls Try.prog 9 [t72_181] H_179 fun t73_182 H_183 =>
 (S6_275 a1 R t3_0 t7_169 t69_178 t73_182 H_183)
def S6_278 (a1 : Value) (a2 : Value) (R : Value → AHeap → Prop) (t3_0 : Value) (H_164 : AHeap) : Prop :=
 bnd (aLdAgg 2 t3_0 H_164) fun t65_168 =>
 aAlloc [(.slice none 0 0), (.slice none 0 0)] 24 H_164 fun t7_169 H_170 =>
 ACalls Try.prog 9 [(.int .i64 (-1))] H_170 fun t64_171 H_172 =>
 ((bnd (aLdAgg 2 t3_0 H_172) fun t65_277 =>
 t65_277 = t65_168) ∧ (H_172.at_ (blkOf t7_169) = H_170.at_ (blkOf t7_169))) ∧
 ACalls Try.prog 16 [t65_168] H_172 fun t66_173 H_174 =>
 (S6_276 a1 a2 R t3_0 t7_169 t64_171 H_172 t66_173 H_174)
def S6_279 (a1 : Value) (a2 : Value) (R : Value → AHeap → Prop) (t3_0 : Value) (t17_2 : Value) (H_3 : AHeap) : Prop :=
 bnd (aUn .not t17_2) fun t18_4 =>
 aGuardK t18_4 false (fun K_5 H_6 =>
 bnd (aLdAgg 2 t3_0 H_6) fun t20_7 =>
 K_5 t20_7 H_6) (fun t20_8 H_9 =>
 aGuardK t18_4 false (fun K_10 H_11 =>
 ACalls Try.prog 13 [t20_8] H_11 fun t21_12 H_13 =>
 K_10 t21_12 H_13) (fun t21_14 H_15 =>
 aGuardK t18_4 false (fun K_16 H_17 =>
 bnd (aUn .not t21_14) fun t22_18 =>
 K_16 t22_18 H_17) (fun t22_19 H_20 =>
 bnd (aPick t18_4 (.bool true) t22_19) fun t23_21 =>
 aGuardK t23_21 false (fun K_22 H_23 =>
 bnd (aAdd 0 t3_0) fun t25_24 =>
 K_22 t25_24 H_23) (fun t25_25 H_26 =>
 aGuardK t23_21 false (fun K_27 H_28 =>
 bnd (aLdCell t25_25 H_28) fun t26_29 =>
 K_27 t26_29 H_28) (fun t26_30 H_31 =>
 aGuardK t23_21 false (fun K_32 H_33 =>
 bnd (aAdd 1 t3_0) fun t27_34 =>
 K_32 t27_34 H_33) (fun t27_35 H_36 =>
 aGuardK t23_21 false (fun K_37 H_38 =>
 bnd (aLdCell t27_35 H_38) fun t28_39 =>
 K_37 t28_39 H_38) (fun t28_40 H_41 =>
 aGuardK t23_21 false (fun K_42 H_43 =>
 ACalls Try.prog 18 [t26_30, t28_40] H_43 fun t29_44 H_45 =>
 K_42 t29_44 H_45) (fun t29_46 H_47 =>
 aGuardK t23_21 false (fun K_48 H_49 =>
 bnd (aUn .not t29_46) fun t30_50 =>
 K_48 t30_50 H_49) (fun t30_51 H_52 =>
 bnd (aPick t23_21 (.bool true) t30_51) fun t31_53 =>
 aGuardK t31_53 false (fun K_54 H_55 =>
 bnd (aAdd 1 t3_0) fun t33_56 =>
 K_54 t33_56 H_55) (fun t33_57 H_58 =>
 aGuardK t31_53 false (fun K_59 H_60 =>
 bnd (aLdCell t33_57 H_60) fun t34_61 =>
 K_59 t34_61 H_60) (fun t34_62 H_63 =>
 aGuardK t31_53 false (fun K_64 H_65 =>
 bnd (aLenSl t34_62) fun t35_66 =>
 K_64 t35_66 H_65) (fun t35_67 H_68 =>
 aGuardK t31_53 false (fun K_69 H_70 =>
 bnd (aBin .gtr .no t35_67 (.int .i64 200)) fun t36_71 =>
 K_69 t36_71 H_70) (fun t36_72 H_73 =>
 bnd (aPick t31_53 (.bool true) t36_72) fun t37_74 =>
 aGuardK t37_74 false (fun K_75 H_76 =>
 bnd (aAdd 0 t3_0) fun t39_77 =>
 K_75 t39_77 H_76) (fun t39_78 H_79 =>
 aGuardK t37_74 false (fun K_80 H_81 =>
 bnd (aLdCell t39_78 H_81) fun t40_82 =>
 K_80 t40_82 H_81) (fun t40_83 H_84 =>
 aGuardK t37_74 false (fun K_85 H_86 =>
 bnd (aLenSl t40_83) fun t41_87 =>
 K_85 t41_87 H_86) (fun t41_88 H_89 =>
 aGuardK t37_74 false (fun K_90 H_91 =>
 bnd (aBin .gtr .no t41_88 (.int .i64 200)) fun t42_92 =>
 K_90 t42_92 H_91) (fun t42_93 H_94 =>
 bnd (aPick t37_74 (.bool true) t42_93) fun t43_95 =>
 aGuardK t43_95 false (fun K_96 H_97 =>
 bnd (aAdd 0 t3_0) fun t45_98 =>
 K_96 t45_98 H_97) (fun t45_99 H_100 =>
 aGuardK t43_95 false (fun K_101 H_102 =>
 bnd (aLdCell t45_99 H_102) fun t46_103 =>
 K_101 t46_103 H_102) (fun t46_104 H_105 =>
 aGuardK t43_95 false (fun K_106 H_107 =>
 bnd (aLenSl t46_104) fun t47_108 =>
 K_106 t47_108 H_107) (fun t47_109 H_110 =>
 aGuardK t43_95 false (fun K_111 H_112 =>
 bnd (aBin .gtr .no t47_109 (.int .i64 0)) fun t48_113 =>
 K_111 t48_113 H_112) (fun t48_114 H_115 =>
 aGuardK t43_95 false (fun K_116 H_117 =>
 K_116 t48_114 H_117) (fun t49_118 H_119 =>
 aGuardK t49_118 true (fun K_120 H_121 =>
 bnd (aAdd 0 t3_0) fun t50_122 =>
 K_120 t50_122 H_121) (fun t50_123 H_124 =>
 aGuardK t49_118 true (fun K_125 H_126 =>
 bnd (aLdCell t50_123 H_126) fun t51_127 =>
 K_125 t51_127 H_126) (fun t51_128 H_129 =>
 aGuardK t49_118 true (fun K_130 H_131 =>
 bnd (aIdxAddr 1 t51_128 (.int .i64 0)) fun t52_132 =>
 K_130 t52_132 H_131) (fun t52_133 H_134 =>
 aGuardK t49_118 true (fun K_135 H_136 =>
 bnd (aLdCell t52_133 H_136) fun t53_137 =>
 K_135 t53_137 H_136) (fun t53_138 H_139 =>
 aGuardK t49_118 true (fun K_140 H_141 =>
 bnd (aBin .eql .no t53_138 (.int .i64 (-1))) fun t54_142 =>
 K_140 t54_142 H_141) (fun t54_143 H_144 =>
 aGuardK t43_95 false (fun K_145 H_146 =>
 bnd (aPick t49_118 t54_143 (.bool false)) fun t55_147 =>
 K_145 t55_147 H_146) (fun t55_148 H_149 =>
 bnd (aPick t43_95 (.bool true) t55_148) fun t56_150 =>
 aGuardK t56_150 false (fun K_151 H_152 =>
 K_151 a1 H_152) (fun t58_153 H_154 =>
 aGuardK t56_150 false (fun K_155 H_156 =>
 bnd (aLenSl t58_153) fun t59_157 =>
 K_155 t59_157 H_156) (fun t59_158 H_159 =>
 aGuardK t56_150 false (fun K_160 H_161 =>
 bnd (aBin .gtr .no t59_158 (.int .i64 20)) fun t60_162 =>
 K_160 t60_162 H_161) (fun t60_163 H_164 =>
 bnd (aPick t56_150 (.bool true) t60_163) fun t61_165 =>
 aCond t61_165 (
 ACalls Try.prog 11 [] H_164 fun t62_166 H_167 =>
 R t62_166 H_167) (
 (S6_278 a1 a2 R t3_0 H_164))) H_159) H_154) H_149) H_144) H_139) H_134) H_129) H_124) H_119) H_115) H_110) H_105) H_100) H_94) H_89) H_84) H_79) H_73) H_68) H_63) H_58) H_52) H_47) H_41) H_36) H_31) H_26) H_20) H_15) H_9) H_3
def S6 (a0 : Value) (a1 : Value) (a2 : Value) (H : AHeap) (R : Value → AHeap → Prop) : Prop :=
 aBox 24 a0 H fun t3_0 H_1 =>
 ACalls Try.prog 11 [] H_1 fun t17_2 H_3 =>
 (S6_279 a1 a2 R t3_0 t17_2 H_3)
theorem S6_calls {a0 a1 a2 : Value} {H : AHeap} {R : Value → AHeap → Prop} (h : S6 a0 a1 a2 H R) : ACalls Try.prog 6 [a0, a1, a2] H R :=
  have e : S6 a0 a1 a2 H R = awpFn Try.prog (Try.f6.body.getD .skip) Try.f6.results.toList ann6 [a0, a1, a2] H R := by kernel_rfl
  calls_of_awp (fn := Try.f6) (c := Try.f6.body.getD .skip) (an := ann6) (by kernel_rfl) Try.func6 (by kernel_rfl) (by kernel_rfl) (of_decide_eq_true (by kernel_rfl)) (e ▸ h)

/-- 7: marginalia/marginalialaw09.WrapGrows -/
def ann7 : Ann := (.two .leaf (.two .leaf (.two .leaf (.join [] [12, 13] (.two .leaf (.two .leaf .leaf)) (.two .leaf (.two (.two .leaf (.one (.loop [8] [4, 8, 9, 10, 18, 19, 20, 21, 22, 23, 24, 25, 26, 27, 28, 29, 30, 31, 32, 33, 34, 35, 36, 37, 38, 39, 40, 41, 42, 43, 44, 45, 46, 47, 48, 49, 50, 51, 52, 53, 54, 55, 56, 57] (.two (.two .leaf (.two .leaf .leaf)) (.two (.one (.two .leaf (.two (.two .leaf (.two (.two .leaf .leaf) .leaf)) (.two (.two .leaf (.two (.two .leaf .leaf) .leaf)) .leaf)))) .leaf))))) (.two .leaf .leaf)))))))
def S7_102 (R : Value → AHeap → Prop) (t5_0 : Value) (t9_23 : Value) (t44_58 : Value) (H_59 : AHeap) : Prop :=
 aGuardK t44_58 true (fun K_60 H_61 =>
 bnd (aAdd 1 t9_23) fun t46_62 =>
 K_60 t46_62 H_61) (fun t46_63 H_64 =>
 aGuardK t44_58 true (fun K_65 H_66 =>
 bnd (aLdCell t46_63 H_66) fun t47_67 =>
 K_65 t47_67 H_66) (fun t47_68 H_69 =>
 aGuardK t44_58 true (fun K_70 H_71 =>
 bnd (aLenSl t47_68) fun t48_72 =>
 K_70 t48_72 H_71) (fun t48_73 H_74 =>
 aGuardK t44_58 true (fun K_75 H_76 =>
 bnd (aBin .eql .no t48_73 (.int .i64 0)) fun t49_77 =>
 K_75 t49_77 H_76) (fun t49_78 H_79 =>
 bnd (aPick t44_58 t49_78 (.bool false)) fun t50_80 =>
 aGuardK t50_80 true (fun K_81 H_82 =>
 bnd (aAdd 1 t5_0) fun t52_83 =>
 K_81 t52_83 H_82) (fun t52_84 H_85 =>
 aGuardK t50_80 true (fun K_86 H_87 =>
 bnd (aLdCell t52_84 H_87) fun t53_88 =>
 K_86 t53_88 H_87) (fun t53_89 H_90 =>
 aGuardK t50_80 true (fun K_91 H_92 =>
 bnd (aLenSl t53_89) fun t54_93 =>
 K_91 t54_93 H_92) (fun t54_94 H_95 =>
 aGuardK t50_80 true (fun K_96 H_97 =>
 bnd (aBin .eql .no t54_94 (.int .i64 256)) fun t55_98 =>
 K_96 t55_98 H_97) (fun t55_99 H_100 =>
 bnd (aPick t50_80 t55_99 (.bool false)) fun t56_101 =>
 R t56_101 H_100) H_95) H_90) H_85) H_79) H_74) H_69) H_64) H_59
def S7_106 (R : Value → AHeap → Prop) (t5_0 : Value) (vs_13 : List Value) (again_15 : List Value → AHeap → Prop) (t28_22 : Value) (t9_23 : Value) (H_55 : AHeap) : Prop :=
 bnd (aBin .neq .no t28_22 (.int .i64 0)) fun t43_57 =>
 aCond t43_57 (
 ACalls Try.prog 11 [] H_55 fun t44_58 H_59 =>
 (S7_102 R t5_0 t9_23 t44_58 H_59)) (
 bnd (aLdAgg 2 t9_23 H_55) fun t57_103 =>
 bnd (aSt 2 t5_0 t57_103 H_55) fun H_104 =>
 bnd (aBin .add .no (nth vs_13 0) (.int .i64 1)) fun t22_105 =>
 again_15 [t22_105] H_104)
def S7_107 (R : Value → AHeap → Prop) (t5_0 : Value) (vs_13 : List Value) (again_15 : List Value → AHeap → Prop) (t26_19 : Value) (H_20 : AHeap) : Prop :=
 bnd (aExtract t26_19 0) fun t27_21 =>
 bnd (aExtract t26_19 1) fun t28_22 =>
 aAlloc [(.slice none 0 0), (.slice none 0 0)] 24 H_20 fun t9_23 H_24 =>
 bnd (aSt 2 t9_23 t27_21 H_24) fun H_25 =>
 bnd (aBin .eql .no t28_22 (.int .i64 0)) fun t30_26 =>
 bnd (aBin .lss .no (nth vs_13 0) (.int .i64 256)) fun t32_27 =>
 bnd (aBin .neq .bool t30_26 t32_27) fun t33_28 =>
 aGuardK t33_28 false (fun K_29 H_30 =>
 K_29 t28_22 H_30) (fun t35_31 H_32 =>
 aGuardK t33_28 false (fun K_33 H_34 =>
 bnd (aBin .neq .no t35_31 (.int .i64 0)) fun t36_35 =>
 K_33 t36_35 H_34) (fun t36_36 H_37 =>
 aGuardK t33_28 false (fun K_38 H_39 =>
 K_38 t36_36 H_39) (fun t37_40 H_41 =>
 aGuardK t37_40 true (fun K_42 H_43 =>
 K_42 t28_22 H_43) (fun t38_44 H_45 =>
 aGuardK t37_40 true (fun K_46 H_47 =>
 bnd (aBin .neq .no t38_44 (.int .i64 6)) fun t39_48 =>
 K_46 t39_48 H_47) (fun t39_49 H_50 =>
 aGuardK t33_28 false (fun K_51 H_52 =>
 bnd (aPick t37_40 t39_49 (.bool false)) fun t40_53 =>
 K_51 t40_53 H_52) (fun t40_54 H_55 =>
 bnd (aPick t33_28 (.bool true) t40_54) fun t41_56 =>
 aCond t41_56 (
 R (.bool false) H_55) (
 (S7_106 R t5_0 vs_13 again_15 t28_22 t9_23 H_55))) H_50) H_45) H_41) H_37) H_32) H_25
def S7_135 (R : Value → AHeap → Prop) (t5_0 : Value) (t17_12 : Value) (t58_108 : Value) (H_109 : AHeap) : Prop :=
 aGuardK t58_108 true (fun K_110 H_111 =>
 bnd (aAdd 1 t5_0) fun t60_112 =>
 K_110 t60_112 H_111) (fun t60_113 H_114 =>
 aGuardK t58_108 true (fun K_115 H_116 =>
 bnd (aLdCell t60_113 H_116) fun t61_117 =>
 K_115 t61_117 H_116) (fun t61_118 H_119 =>
 aGuardK t58_108 true (fun K_120 H_121 =>
 bnd (aLenSl t61_118) fun t62_122 =>
 K_120 t62_122 H_121) (fun t62_123 H_124 =>
 aGuardK t58_108 true (fun K_125 H_126 =>
 K_125 t17_12 H_126) (fun t63_127 H_128 =>
 aGuardK t58_108 true (fun K_129 H_130 =>
 bnd (aBin .eql .no t62_123 t63_127) fun t64_131 =>
 K_129 t64_131 H_130) (fun t64_132 H_133 =>
 bnd (aPick t58_108 t64_132 (.bool false)) fun t65_134 =>
 R t65_134 H_133) H_128) H_124) H_119) H_114) H_109
def S7_136 (R : Value → AHeap → Prop) (t5_0 : Value) (t6_4 : Value) (t17_12 : Value) (vs_13 : List Value) (H_14 : AHeap) (again_15 : List Value → AHeap → Prop) : Prop :=
 bnd (aBin .lss .no (nth vs_13 0) t17_12) fun t20_16 =>
 aCond t20_16 (
 bnd (aLdAgg 2 t6_4 H_14) fun t24_17 =>
 bnd (aLdAgg 2 t5_0 H_14) fun t25_18 =>
 ACalls Try.prog 15 [t24_17, t25_18] H_14 fun t26_19 H_20 =>
 (S7_107 R t5_0 vs_13 again_15 t26_19 H_20)) (
 ACalls Try.prog 11 [] H_14 fun t58_108 H_109 =>
 (S7_135 R t5_0 t17_12 t58_108 H_109))
def S7_140 (a0 : Value) (R : Value → AHeap → Prop) (t5_0 : Value) (t6_4 : Value) (H_8 : AHeap) : Prop :=
 bnd (aBin .rem .no a0 (.int .u8 12)) fun t15_10 =>
 bnd (aConvInt .i64 t15_10) fun t16_11 =>
 bnd (aBin .add .no (.int .i64 250) t16_11) fun t17_12 =>
 aLoop [(.int .i64 0)] H_8 fun vs_13 H_14 again_15 =>
 (S7_136 R t5_0 t6_4 t17_12 vs_13 H_14 again_15)
def S7 (a0 : Value) (a1 : Value) (H : AHeap) (R : Value → AHeap → Prop) : Prop :=
 aAlloc [(.slice none 0 0), (.slice none 0 0)] 24 H fun t5_0 H_1 =>
 ACalls Try.prog 10 [(.int .i64 1)] H_1 fun t11_2 H_3 =>
 aAlloc [(.slice none 0 0), (.slice none 0 0)] 24 H_3 fun t6_4 H_5 =>
 bnd (aSt 2 t6_4 t11_2 H_5) fun H_6 =>
 aJoin (fun vs_7 H_8 =>
 (S7_140 a0 R t5_0 t6_4 H_8)) fun J_9 =>
 aCond a1 (
 ACalls Try.prog 9 [(.int .i64 2)] H_6 fun t13_137 H_138 =>
 bnd (aSt 2 t6_4 t13_137 H_138) fun H_139 =>
 J_9 [] H_139) (
 J_9 [] H_6)
theorem S7_calls {a0 a1 : Value} {H : AHeap} {R : Value → AHeap → Prop} (h : S7 a0 a1 H R) : ACalls Try.prog 7 [a0, a1] H R :=
  have e : S7 a0 a1 H R = awpFn Try.prog (Try.f7.body.getD .skip) Try.f7.results.toList ann7 [a0, a1] H R := by kernel_rfl
  calls_of_awp (fn := Try.f7) (c := Try.f7.body.getD .skip) (an := ann7) (by kernel_rfl) Try.func7 (by kernel_rfl) (by kernel_rfl) (of_decide_eq_true (by kernel_rfl)) (e ▸ h)

/-- 8: marginalia/marginalialaw09.WrapJoins -/
def ann8 : Ann := (.two .leaf (.two (.two .leaf (.two (.two .leaf .leaf) .leaf)) (.two (.draw [(0, []), (2, []), (8, []), (1, [2, 8]), (3, [8]), (4, [8]), (5, []), (6, []), (7, []), (9, []), (10, [])]) (.two .leaf (.two (.draw [(0, []), (3, []), (4, []), (5, []), (6, []), (1, [4, 6]), (2, [4, 6]), (7, []), (8, []), (9, []), (10, []), (11, []), (12, []), (13, []), (14, []), (15, []), (16, []), (17, []), (18, []), (19, []), (20, []), (21, []), (22, []), (24, []), (27, []), (28, []), (23, [24, 27, 28]), (25, [27, 28]), (26, [27, 28]), (29, []), (30, []), (31, []), (32, [])]) .leaf)))))
def S8_191 (R : Value → AHeap → Prop) (t2_0 : Value) (t3_2 : Value) (t5_45 : Value) (t30_54 : Value) (t41_66 : Value) (t42_67 : Value) (t43_68 : Value) (t46_76 : Value) (t51_78 : Value) (H_79 : AHeap) : Prop :=
 bnd (aBin .eql .bool t46_76 t51_78) fun t52_80 =>
 aGuardK t52_80 true (fun K_81 H_82 =>
 K_81 t30_54 H_82) (fun t54_83 H_84 =>
 aGuardK t52_80 true (fun K_85 H_86 =>
 K_85 t43_68 H_86) (fun t55_87 H_88 =>
 aGuardK t52_80 true (fun K_89 H_90 =>
 bnd (aBin .eql .no t54_83 t55_87) fun t56_91 =>
 K_89 t56_91 H_90) (fun t56_92 H_93 =>
 bnd (aPick t52_80 t56_92 (.bool false)) fun t57_94 =>
 aGuardK t57_94 true (fun K_95 H_96 =>
 bnd (aLdAgg 2 t5_45 H_96) fun t59_97 =>
 K_95 t59_97 H_96) (fun t59_98 H_99 =>
 aGuardK t57_94 true (fun K_100 H_101 =>
 K_100 t41_66 H_101) (fun t60_102 H_103 =>
 aGuardK t57_94 true (fun K_104 H_105 =>
 K_104 t42_67 H_105) (fun t61_106 H_107 =>
 aGuardK t57_94 true (fun K_108 H_109 =>
 bnd (aFill [(.slice none 0 0), (.slice none 0 0)] [(0, 1, t60_102), (1, 1, t61_106)]) fun t62_110 =>
 K_108 (.agg t62_110.toArray) H_109) (fun t62_111 H_112 =>
 aGuardK t57_94 true (fun K_113 H_114 =>
 ACalls Try.prog 17 [t59_98, t62_111] H_114 fun t63_115 H_116 =>
 K_113 t63_115 H_116) (fun t63_117 H_118 =>
 bnd (aPick t57_94 t63_117 (.bool false)) fun t64_119 =>
 aGuardK t64_119 true (fun K_120 H_121 =>
 bnd (aLdAgg 2 t2_0 H_121) fun t66_122 =>
 K_120 t66_122 H_121) (fun t66_123 H_124 =>
 aGuardK t64_119 true (fun K_125 H_126 =>
 bnd (aLdAgg 2 t3_2 H_126) fun t68_127 =>
 K_125 t68_127 H_126) (fun t68_128 H_129 =>
 aGuardK t64_119 true (fun K_130 H_131 =>
 bnd (aLdAgg 2 t2_0 H_131) fun t71_132 =>
 K_130 t71_132 H_131) (fun t71_133 H_134 =>
 aGuardK t64_119 true (fun K_135 H_136 =>
 bnd (aLdAgg 2 t3_2 H_136) fun t72_137 =>
 K_135 t72_137 H_136) (fun t72_138 H_139 =>
 aGuardK t64_119 true (fun K_140 H_141 =>
 ACalls Try.prog 16 [t66_123] H_141 fun t67_142 H_143 =>
 K_140 t67_142 H_143) (fun t67_144 H_145 =>
 ((aGuardK t64_119 true (fun K_182 H_183 =>
 bnd (aLdAgg 2 t3_2 H_183) fun t68_184 =>
 K_182 t68_184 H_183) (fun v _ => v = t68_128) H_145) ∧ (aGuardK t64_119 true (fun K_185 H_186 =>
 bnd (aLdAgg 2 t2_0 H_186) fun t71_187 =>
 K_185 t71_187 H_186) (fun v _ => v = t71_133) H_145) ∧ (aGuardK t64_119 true (fun K_188 H_189 =>
 bnd (aLdAgg 2 t3_2 H_189) fun t72_190 =>
 K_188 t72_190 H_189) (fun v _ => v = t72_138) H_145)) ∧
 aGuardK t64_119 true (fun K_146 H_147 =>
 ACalls Try.prog 16 [t68_128] H_147 fun t69_148 H_149 =>
 K_146 t69_148 H_149) (fun t69_150 H_151 =>
 ((aGuardK t64_119 true (fun K_176 H_177 =>
 bnd (aLdAgg 2 t2_0 H_177) fun t71_178 =>
 K_176 t71_178 H_177) (fun v _ => v = t71_133) H_151) ∧ (aGuardK t64_119 true (fun K_179 H_180 =>
 bnd (aLdAgg 2 t3_2 H_180) fun t72_181 =>
 K_179 t72_181 H_180) (fun v _ => v = t72_138) H_151)) ∧
 aGuardK t64_119 true (fun K_152 H_153 =>
 ACalls Try.prog 20 [t67_144, t69_150] H_153 fun t70_154 H_155 =>
 K_152 t70_154 H_155) (fun t70_156 H_157 =>
 ((aGuardK t64_119 true (fun K_170 H_171 =>
 bnd (aLdAgg 2 t2_0 H_171) fun t71_172 =>
 K_170 t71_172 H_171) (fun v _ => v = t71_133) H_157) ∧ (aGuardK t64_119 true (fun K_173 H_174 =>
 bnd (aLdAgg 2 t3_2 H_174) fun t72_175 =>
 K_173 t72_175 H_174) (fun v _ => v = t72_138) H_157)) ∧
 aGuardK t64_119 true (fun K_158 H_159 =>
 ACalls Try.prog 17 [t71_133, t72_138] H_159 fun t73_160 H_161 =>
 K_158 t73_160 H_161) (fun t73_162 H_163 =>
 aGuardK t64_119 true (fun K_164 H_165 =>
 bnd (aBin .eql .bool t70_156 t73_162) fun t74_166 =>
 K_164 t74_166 H_165) (fun t74_167 H_168 =>
 bnd (aPick t64_119 t74_167 (.bool false)) fun t75_169 =>
 R t75_169 H_168) H_163) H_157) H_151) H_145) H_139) H_134) H_129) H_124) H_118) H_112) H_107) H_103) H_99) H_93) H_88) H_84) H_79
def S8_196 (R : Value → AHeap → Prop) (t2_0 : Value) (t3_2 : Value) (t5_45 : Value) (t30_54 : Value) (t41_66 : Value) (t42_67 : Value) (t43_68 : Value) (t47_70 : Value) (t48_71 : Value) (t49_72 : Value) (t50_73 : Value) (t45_74 : Value) (H_75 : AHeap) : Prop :=
 ((bnd (aLdCell t47_70 H_75) fun t48_194 =>
 t48_194 = t48_71) ∧ (bnd (aLdCell t49_72 H_75) fun t50_195 =>
 t50_195 = t50_73)) ∧
 ACalls Try.prog 12 [t45_74] H_75 fun t46_76 H_77 =>
 ((bnd (aLdCell t47_70 H_77) fun t48_192 =>
 t48_192 = t48_71) ∧ (bnd (aLdCell t49_72 H_77) fun t50_193 =>
 t50_193 = t50_73)) ∧
 ACalls Try.prog 18 [t48_71, t50_73] H_77 fun t51_78 H_79 =>
 (S8_191 R t2_0 t3_2 t5_45 t30_54 t41_66 t42_67 t43_68 t46_76 t51_78 H_79)
def S8_197 (R : Value → AHeap → Prop) (t2_0 : Value) (t3_2 : Value) (t5_45 : Value) (t30_54 : Value) (t40_64 : Value) (H_65 : AHeap) : Prop :=
 bnd (aExtract t40_64 0) fun t41_66 =>
 bnd (aExtract t40_64 1) fun t42_67 =>
 bnd (aExtract t40_64 2) fun t43_68 =>
 bnd (aLdAgg 2 t2_0 H_65) fun t44_69 =>
 bnd (aAdd 0 t2_0) fun t47_70 =>
 bnd (aLdCell t47_70 H_65) fun t48_71 =>
 bnd (aAdd 1 t2_0) fun t49_72 =>
 bnd (aLdCell t49_72 H_65) fun t50_73 =>
 ACalls Try.prog 16 [t44_69] H_65 fun t45_74 H_75 =>
 (S8_196 R t2_0 t3_2 t5_45 t30_54 t41_66 t42_67 t43_68 t47_70 t48_71 t49_72 t50_73 t45_74 H_75)
def S8_198 (R : Value → AHeap → Prop) (t2_0 : Value) (t3_2 : Value) (t5_45 : Value) (H_50 : AHeap) (t28_51 : Value) (H_52 : AHeap) : Prop :=
 ((H_52.at_ (blkOf t5_45) = H_50.at_ (blkOf t5_45))) ∧
 bnd (aExtract t28_51 0) fun t29_53 =>
 bnd (aExtract t28_51 1) fun t30_54 =>
 bnd (aSt 2 t5_45 t29_53 H_52) fun H_55 =>
 bnd (aAdd 0 t2_0) fun t32_56 =>
 bnd (aLdCell t32_56 H_55) fun t33_57 =>
 bnd (aAdd 1 t2_0) fun t34_58 =>
 bnd (aLdCell t34_58 H_55) fun t35_59 =>
 bnd (aAdd 0 t3_2) fun t36_60 =>
 bnd (aLdCell t36_60 H_55) fun t37_61 =>
 bnd (aAdd 1 t3_2) fun t38_62 =>
 bnd (aLdCell t38_62 H_55) fun t39_63 =>
 ACalls Try.prog 19 [t33_57, t35_59, t37_61, t39_63] H_55 fun t40_64 H_65 =>
 (S8_197 R t2_0 t3_2 t5_45 t30_54 t40_64 H_65)
def S8_200 (R : Value → AHeap → Prop) (t2_0 : Value) (t3_2 : Value) (H_39 : AHeap) : Prop :=
 bnd (aLdAgg 2 t2_0 H_39) fun t24_43 =>
 bnd (aLdAgg 2 t3_2 H_39) fun t26_44 =>
 aAlloc [(.slice none 0 0), (.slice none 0 0)] 24 H_39 fun t5_45 H_46 =>
 ACalls Try.prog 16 [t24_43] H_46 fun t25_47 H_48 =>
 ((bnd (aLdAgg 2 t3_2 H_48) fun t26_199 =>
 t26_199 = t26_44) ∧ (H_48.at_ (blkOf t5_45) = H_46.at_ (blkOf t5_45))) ∧
 ACalls Try.prog 16 [t26_44] H_48 fun t27_49 H_50 =>
 ((H_50.at_ (blkOf t5_45) = H_48.at_ (blkOf t5_45))) ∧
 ACalls Try.prog 15 [t25_47, t27_49] H_50 fun t28_51 H_52 =>
 (S8_198 R t2_0 t3_2 t5_45 H_50 t28_51 H_52)
def S8_201 (R : Value → AHeap → Prop) (t2_0 : Value) (t3_2 : Value) (t10_4 : Value) (H_5 : AHeap) : Prop :=
 bnd (aUn .not t10_4) fun t11_6 =>
 aGuardK t11_6 false (fun K_7 H_8 =>
 bnd (aLdAgg 2 t2_0 H_8) fun t13_9 =>
 K_7 t13_9 H_8) (fun t13_10 H_11 =>
 aGuardK t11_6 false (fun K_12 H_13 =>
 ACalls Try.prog 13 [t13_10] H_13 fun t14_14 H_15 =>
 K_12 t14_14 H_15) (fun t14_16 H_17 =>
 aGuardK t11_6 false (fun K_18 H_19 =>
 bnd (aUn .not t14_16) fun t15_20 =>
 K_18 t15_20 H_19) (fun t15_21 H_22 =>
 bnd (aPick t11_6 (.bool true) t15_21) fun t16_23 =>
 aGuardK t16_23 false (fun K_24 H_25 =>
 bnd (aLdAgg 2 t3_2 H_25) fun t18_26 =>
 K_24 t18_26 H_25) (fun t18_27 H_28 =>
 aGuardK t16_23 false (fun K_29 H_30 =>
 ACalls Try.prog 13 [t18_27] H_30 fun t19_31 H_32 =>
 K_29 t19_31 H_32) (fun t19_33 H_34 =>
 aGuardK t16_23 false (fun K_35 H_36 =>
 bnd (aUn .not t19_33) fun t20_37 =>
 K_35 t20_37 H_36) (fun t20_38 H_39 =>
 bnd (aPick t16_23 (.bool true) t20_38) fun t21_40 =>
 aCond t21_40 (
 ACalls Try.prog 11 [] H_39 fun t22_41 H_42 =>
 R t22_41 H_42) (
 (S8_200 R t2_0 t3_2 H_39))) H_34) H_28) H_22) H_17) H_11) H_5
def S8 (a0 : Value) (a1 : Value) (H : AHeap) (R : Value → AHeap → Prop) : Prop :=
 aBox 24 a0 H fun t2_0 H_1 =>
 aBox 24 a1 H_1 fun t3_2 H_3 =>
 ACalls Try.prog 11 [] H_3 fun t10_4 H_5 =>
 (S8_201 R t2_0 t3_2 t10_4 H_5)
theorem S8_calls {a0 a1 : Value} {H : AHeap} {R : Value → AHeap → Prop} (h : S8 a0 a1 H R) : ACalls Try.prog 8 [a0, a1] H R :=
  have e : S8 a0 a1 H R = awpFn Try.prog (Try.f8.body.getD .skip) Try.f8.results.toList ann8 [a0, a1] H R := by kernel_rfl
  calls_of_awp (fn := Try.f8) (c := Try.f8.body.getD .skip) (an := ann8) (by kernel_rfl) Try.func8 (by kernel_rfl) (by kernel_rfl) (of_decide_eq_true (by kernel_rfl)) (e ▸ h)

/-- 9: marginalia/wrap.Mark -/
def ann9 : Ann := (.two .leaf (.two (.two .leaf (.two (.two .leaf .leaf) .leaf)) (.two .leaf .leaf)))
def S9_23 (a0 : Value) (R : Value → AHeap → Prop) (t2_0 : Value) (H_11 : AHeap) : Prop :=
 aBuildSlice 1 1 3 [(.int .i64 0)] [(0, 1, a0)] H_11 fun t11_16 H_17 =>
 aBuildSlice 1 1 3 [(.int .i64 0)] [(0, 1, (.int .i64 0))] H_17 fun t12_18 H_19 =>
 bnd (aFill [(.slice none 0 0), (.slice none 0 0)] [(0, 1, t11_16), (1, 1, t12_18)]) fun t13_20 =>
 bnd (aSt 2 t2_0 (.agg t13_20.toArray) H_19) fun H_21 =>
 bnd (aLdAgg 2 t2_0 H_21) fun r_22 =>
 R r_22 H_21
def S9 (a0 : Value) (H : AHeap) (R : Value → AHeap → Prop) : Prop :=
 aAlloc [(.slice none 0 0), (.slice none 0 0)] 24 H fun t2_0 H_1 =>
 bnd (aBin .eql .no a0 (.int .i64 0)) fun t4_2 =>
 aGuardK t4_2 false (fun K_3 H_4 =>
 K_3 a0 H_4) (fun t6_5 H_6 =>
 aGuardK t4_2 false (fun K_7 H_8 =>
 bnd (aBin .lss .no t6_5 (.int .i64 (-1))) fun t7_9 =>
 K_7 t7_9 H_8) (fun t7_10 H_11 =>
 bnd (aPick t4_2 (.bool true) t7_10) fun t8_12 =>
 aCond t8_12 (
 bnd (aFill [(.slice none 0 0), (.slice none 0 0)] []) fun t9_13 =>
 bnd (aSt 2 t2_0 (.agg t9_13.toArray) H_11) fun H_14 =>
 bnd (aLdAgg 2 t2_0 H_14) fun r_15 =>
 R r_15 H_14) (
 (S9_23 a0 R t2_0 H_11))) H_6) H_1
theorem S9_calls {a0 : Value} {H : AHeap} {R : Value → AHeap → Prop} (h : S9 a0 H R) : ACalls Try.prog 9 [a0] H R :=
  have e : S9 a0 H R = awpFn Try.prog (Try.f9.body.getD .skip) Try.f9.results.toList ann9 [a0] H R := by kernel_rfl
  calls_of_awp (fn := Try.f9) (c := Try.f9.body.getD .skip) (an := ann9) (by kernel_rfl) Try.func9 (by kernel_rfl) (by kernel_rfl) (of_decide_eq_true (by kernel_rfl)) (e ▸ h)

/-- 10: marginalia/wrap.Rib -/
def ann10 : Ann := (.two .leaf (.two (.two .leaf (.two (.two .leaf .leaf) .leaf)) (.two .leaf .leaf)))
def S10 (a0 : Value) (H : AHeap) (R : Value → AHeap → Prop) : Prop :=
 aAlloc [(.slice none 0 0), (.slice none 0 0)] 24 H fun t2_0 H_1 =>
 bnd (aBin .lss .no a0 (.int .i64 1)) fun t4_2 =>
 aCond t4_2 (
 bnd (aFill [(.slice none 0 0), (.slice none 0 0)] []) fun t5_3 =>
 bnd (aSt 2 t2_0 (.agg t5_3.toArray) H_1) fun H_4 =>
 bnd (aLdAgg 2 t2_0 H_4) fun r_5 =>
 R r_5 H_4) (
 aBuildSlice 1 1 3 [(.int .i64 0)] [(0, 1, a0)] H_1 fun t7_6 H_7 =>
 bnd (aFill [(.slice none 0 0), (.slice none 0 0)] [(1, 1, t7_6)]) fun t8_8 =>
 bnd (aSt 2 t2_0 (.agg t8_8.toArray) H_7) fun H_9 =>
 bnd (aLdAgg 2 t2_0 H_9) fun r_10 =>
 R r_10 H_9)
theorem S10_calls {a0 : Value} {H : AHeap} {R : Value → AHeap → Prop} (h : S10 a0 H R) : ACalls Try.prog 10 [a0] H R :=
  have e : S10 a0 H R = awpFn Try.prog (Try.f10.body.getD .skip) Try.f10.results.toList ann10 [a0] H R := by kernel_rfl
  calls_of_awp (fn := Try.f10) (c := Try.f10.body.getD .skip) (an := ann10) (by kernel_rfl) Try.func10 (by kernel_rfl) (by kernel_rfl) (of_decide_eq_true (by kernel_rfl)) (e ▸ h)

/-- 11: marginalia/marginalialaw09.answers -/
def ann11 : Ann := (.two .leaf (.two .leaf (.two .leaf .leaf)))
def S11_80 (R : Value → AHeap → Prop) (t6_4 : Value) (H_5 : AHeap) : Prop :=
 bnd (aExtract t6_4 0) fun t7_6 =>
 bnd (aExtract t6_4 1) fun t8_7 =>
 aAlloc [(.slice none 0 0), (.slice none 0 0)] 24 H_5 fun t1_8 H_9 =>
 bnd (aSt 2 t1_8 t7_6 H_9) fun H_10 =>
 bnd (aBin .eql .no t8_7 (.int .i64 0)) fun t10_11 =>
 aGuardK t10_11 true (fun K_12 H_13 =>
 bnd (aAdd 0 t1_8) fun t12_14 =>
 K_12 t12_14 H_13) (fun t12_15 H_16 =>
 aGuardK t10_11 true (fun K_17 H_18 =>
 bnd (aLdCell t12_15 H_18) fun t13_19 =>
 K_17 t13_19 H_18) (fun t13_20 H_21 =>
 aGuardK t10_11 true (fun K_22 H_23 =>
 bnd (aLenSl t13_20) fun t14_24 =>
 K_22 t14_24 H_23) (fun t14_25 H_26 =>
 aGuardK t10_11 true (fun K_27 H_28 =>
 bnd (aBin .eql .no t14_25 (.int .i64 1)) fun t15_29 =>
 K_27 t15_29 H_28) (fun t15_30 H_31 =>
 bnd (aPick t10_11 t15_30 (.bool false)) fun t16_32 =>
 aGuardK t16_32 true (fun K_33 H_34 =>
 bnd (aAdd 1 t1_8) fun t18_35 =>
 K_33 t18_35 H_34) (fun t18_36 H_37 =>
 aGuardK t16_32 true (fun K_38 H_39 =>
 bnd (aLdCell t18_36 H_39) fun t19_40 =>
 K_38 t19_40 H_39) (fun t19_41 H_42 =>
 aGuardK t16_32 true (fun K_43 H_44 =>
 bnd (aLenSl t19_41) fun t20_45 =>
 K_43 t20_45 H_44) (fun t20_46 H_47 =>
 aGuardK t16_32 true (fun K_48 H_49 =>
 bnd (aBin .eql .no t20_46 (.int .i64 2)) fun t21_50 =>
 K_48 t21_50 H_49) (fun t21_51 H_52 =>
 bnd (aPick t16_32 t21_51 (.bool false)) fun t22_53 =>
 aGuardK t22_53 true (fun K_54 H_55 =>
 bnd (aAdd 1 t1_8) fun t24_56 =>
 K_54 t24_56 H_55) (fun t24_57 H_58 =>
 aGuardK t22_53 true (fun K_59 H_60 =>
 bnd (aLdCell t24_57 H_60) fun t25_61 =>
 K_59 t25_61 H_60) (fun t25_62 H_63 =>
 aGuardK t22_53 true (fun K_64 H_65 =>
 bnd (aIdxAddr 1 t25_62 (.int .i64 0)) fun t26_66 =>
 K_64 t26_66 H_65) (fun t26_67 H_68 =>
 aGuardK t22_53 true (fun K_69 H_70 =>
 bnd (aLdCell t26_67 H_70) fun t27_71 =>
 K_69 t27_71 H_70) (fun t27_72 H_73 =>
 aGuardK t22_53 true (fun K_74 H_75 =>
 bnd (aBin .eql .no t27_72 (.int .i64 2)) fun t28_76 =>
 K_74 t28_76 H_75) (fun t28_77 H_78 =>
 bnd (aPick t22_53 t28_77 (.bool false)) fun t29_79 =>
 R t29_79 H_78) H_73) H_68) H_63) H_58) H_52) H_47) H_42) H_37) H_31) H_26) H_21) H_16) H_10
def S11 (H : AHeap) (R : Value → AHeap → Prop) : Prop :=
 ACalls Try.prog 10 [(.int .i64 2)] H fun t4_0 H_1 =>
 ACalls Try.prog 9 [(.int .i64 5)] H_1 fun t5_2 H_3 =>
 ACalls Try.prog 15 [t4_0, t5_2] H_3 fun t6_4 H_5 =>
 (S11_80 R t6_4 H_5)
theorem S11_calls {H : AHeap} {R : Value → AHeap → Prop} (h : S11 H R) : ACalls Try.prog 11 [] H R :=
  have e : S11 H R = awpFn Try.prog (Try.f11.body.getD .skip) Try.f11.results.toList ann11 [] H R := by kernel_rfl
  calls_of_awp (fn := Try.f11) (c := Try.f11.body.getD .skip) (an := ann11) (by kernel_rfl) Try.func11 (by kernel_rfl) (by kernel_rfl) (of_decide_eq_true (by kernel_rfl)) (e ▸ h)

/-- 12: marginalia/wrap.Sound -/
def ann12 : Ann := (.two .leaf (.two .leaf .leaf))
def S12 (a0 : Value) (H : AHeap) (R : Value → AHeap → Prop) : Prop :=
 aBox 24 a0 H fun t1_0 H_1 =>
 bnd (aLdAgg 2 t1_0 H_1) fun t3_2 =>
 ACalls Try.prog 21 [t3_2] H_1 fun t4_3 H_4 =>
 aGuardK t4_3 true (fun K_5 H_6 =>
 bnd (aLdAgg 2 t1_0 H_6) fun t6_7 =>
 K_5 t6_7 H_6) (fun t6_8 H_9 =>
 aGuardK t4_3 true (fun K_10 H_11 =>
 ACalls Try.prog 22 [t6_8] H_11 fun t7_12 H_13 =>
 K_10 t7_12 H_13) (fun t7_14 H_15 =>
 bnd (aPick t4_3 t7_14 (.bool false)) fun t8_16 =>
 R t8_16 H_15) H_9) H_4
theorem S12_calls {a0 : Value} {H : AHeap} {R : Value → AHeap → Prop} (h : S12 a0 H R) : ACalls Try.prog 12 [a0] H R :=
  have e : S12 a0 H R = awpFn Try.prog (Try.f12.body.getD .skip) Try.f12.results.toList ann12 [a0] H R := by kernel_rfl
  calls_of_awp (fn := Try.f12) (c := Try.f12.body.getD .skip) (an := ann12) (by kernel_rfl) Try.func12 (by kernel_rfl) (by kernel_rfl) (of_decide_eq_true (by kernel_rfl)) (e ▸ h)

/-- 13: marginalia/marginalialaw09.light -/
def ann13 : Ann := (.two .leaf (.two .leaf .leaf))
def S13 (a0 : Value) (H : AHeap) (R : Value → AHeap → Prop) : Prop :=
 aBox 24 a0 H fun t1_0 H_1 =>
 bnd (aAdd 0 t1_0) fun t3_2 =>
 bnd (aLdCell t3_2 H_1) fun t4_3 =>
 bnd (aLenSl t4_3) fun t5_4 =>
 bnd (aBin .leq .no t5_4 (.int .i64 2000)) fun t6_5 =>
 aGuardK t6_5 true (fun K_6 H_7 =>
 bnd (aAdd 1 t1_0) fun t8_8 =>
 K_6 t8_8 H_7) (fun t8_9 H_10 =>
 aGuardK t6_5 true (fun K_11 H_12 =>
 bnd (aLdCell t8_9 H_12) fun t9_13 =>
 K_11 t9_13 H_12) (fun t9_14 H_15 =>
 aGuardK t6_5 true (fun K_16 H_17 =>
 bnd (aLenSl t9_14) fun t10_18 =>
 K_16 t10_18 H_17) (fun t10_19 H_20 =>
 aGuardK t6_5 true (fun K_21 H_22 =>
 bnd (aBin .leq .no t10_19 (.int .i64 2000)) fun t11_23 =>
 K_21 t11_23 H_22) (fun t11_24 H_25 =>
 bnd (aPick t6_5 t11_24 (.bool false)) fun t12_26 =>
 R t12_26 H_25) H_20) H_15) H_10) H_1
theorem S13_calls {a0 : Value} {H : AHeap} {R : Value → AHeap → Prop} (h : S13 a0 H R) : ACalls Try.prog 13 [a0] H R :=
  have e : S13 a0 H R = awpFn Try.prog (Try.f13.body.getD .skip) Try.f13.results.toList ann13 [a0] H R := by kernel_rfl
  calls_of_awp (fn := Try.f13) (c := Try.f13.body.getD .skip) (an := ann13) (by kernel_rfl) Try.func13 (by kernel_rfl) (by kernel_rfl) (of_decide_eq_true (by kernel_rfl)) (e ▸ h)

/-- 14: marginalia/marginalialaw09.join -/
def ann14 : Ann := (.two .leaf (.two .leaf (.two .leaf .leaf)))
def S14 (a0 : Value) (a1 : Value) (H : AHeap) (R : Value → AHeap → Prop) : Prop :=
 aBox 24 a0 H fun t2_0 H_1 =>
 aBox 24 a1 H_1 fun t3_2 H_3 =>
 aAlloc [(.slice none 0 0), (.slice none 0 0)] 24 H_3 fun t4_4 H_5 =>
 bnd (aAdd 0 t2_0) fun t10_6 =>
 bnd (aLdCell t10_6 H_5) fun t11_7 =>
 bnd (aAdd 1 t2_0) fun t12_8 =>
 bnd (aLdCell t12_8 H_5) fun t13_9 =>
 bnd (aAdd 0 t3_2) fun t14_10 =>
 bnd (aLdCell t14_10 H_5) fun t15_11 =>
 bnd (aAdd 1 t3_2) fun t16_12 =>
 bnd (aLdCell t16_12 H_5) fun t17_13 =>
 ACalls Try.prog 19 [t11_7, t13_9, t15_11, t17_13] H_5 fun t18_14 H_15 =>
 bnd (aExtract t18_14 0) fun t19_16 =>
 bnd (aExtract t18_14 1) fun t20_17 =>
 bnd (aExtract t18_14 2) fun t21_18 =>
 bnd (aFill [(.slice none 0 0), (.slice none 0 0)] [(0, 1, t19_16), (1, 1, t20_17)]) fun t24_19 =>
 bnd (aBin .eql .no t21_18 (.int .i64 0)) fun t26_20 =>
 bnd (aSt 2 t4_4 (.agg t24_19.toArray) H_15) fun H_21 =>
 bnd (aLdAgg 2 t4_4 H_21) fun r_22 =>
 R (.tuple #[r_22, t26_20]) H_21
theorem S14_calls {a0 a1 : Value} {H : AHeap} {R : Value → AHeap → Prop} (h : S14 a0 a1 H R) : ACalls Try.prog 14 [a0, a1] H R :=
  have e : S14 a0 a1 H R = awpFn Try.prog (Try.f14.body.getD .skip) Try.f14.results.toList ann14 [a0, a1] H R := by kernel_rfl
  calls_of_awp (fn := Try.f14) (c := Try.f14.body.getD .skip) (an := ann14) (by kernel_rfl) Try.func14 (by kernel_rfl) (by kernel_rfl) (of_decide_eq_true (by kernel_rfl)) (e ▸ h)

/-- 15: marginalia/wrap.Join -/
def ann15 : Ann := (.two .leaf (.two (.two .leaf (.two (.two .leaf .leaf) .leaf)) (.join [] [16, 17, 18, 19, 20, 21, 22, 23, 24, 25, 26, 27, 28, 29, 30, 31, 32, 33, 34, 35, 36, 37, 38, 39, 40] (.two .leaf (.two (.two (.draw [(0, []), (1, []), (2, []), (3, []), (4, []), (5, []), (6, []), (7, []), (8, []), (9, []), (10, []), (11, []), (12, []), (13, []), (14, []), (15, [])]) (.draw [(0, []), (1, []), (2, []), (3, []), (4, []), (5, []), (6, []), (7, [])])) .leaf)) (.two (.draw [(0, []), (1, []), (2, []), (3, []), (4, []), (6, []), (7, []), (8, []), (9, []), (10, []), (13, []), (5, [7, 9, 10, 13]), (11, [13]), (12, []), (14, [])]) (.two (.one (.two .leaf (.two (.two .leaf .leaf) (.two .leaf (.two (.two .leaf .leaf) .leaf))))) (.two .leaf .leaf))))))
def S15_70 (R : Value → AHeap → Prop) (t4_4 : Value) (t6_45 : Value) (t61_61 : Value) (H_62 : AHeap) : Prop :=
 bnd (aUn .not t61_61) fun t62_63 =>
 aCond t62_63 (
 bnd (aFill [(.slice none 0 0), (.slice none 0 0)] []) fun t63_64 =>
 bnd (aSt 2 t4_4 (.agg t63_64.toArray) H_62) fun H_65 =>
 bnd (aLdAgg 2 t4_4 H_65) fun r_66 =>
 R (.tuple #[r_66, (.int .i64 2)]) H_65) (
 bnd (aLdAgg 2 t6_45 H_62) fun t64_67 =>
 bnd (aSt 2 t4_4 t64_67 H_62) fun H_68 =>
 bnd (aLdAgg 2 t4_4 H_68) fun r_69 =>
 R (.tuple #[r_69, (.int .i64 0)]) H_68)
def S15_71 (R : Value → AHeap → Prop) (t4_4 : Value) (t6_45 : Value) (t46_47 : Value) (H_48 : AHeap) (t52_49 : Value) (H_50 : AHeap) : Prop :=
 ((H_50.at_ (blkOf t6_45) = H_48.at_ (blkOf t6_45))) ∧
 bnd (aFill [(.slice none 0 0), (.slice none 0 0)] [(0, 1, t46_47), (1, 1, t52_49)]) fun t53_51 =>
 bnd (aSt 2 t6_45 (.agg t53_51.toArray) H_50) fun H_52 =>
 bnd (aLdAgg 2 t6_45 H_52) fun t55_53 =>
 ACalls Try.prog 21 [t55_53] H_52 fun t56_54 H_55 =>
 bnd (aUn .not t56_54) fun t57_56 =>
 aCond t57_56 (
 bnd (aFill [(.slice none 0 0), (.slice none 0 0)] []) fun t58_57 =>
 bnd (aSt 2 t4_4 (.agg t58_57.toArray) H_55) fun H_58 =>
 bnd (aLdAgg 2 t4_4 H_58) fun r_59 =>
 R (.tuple #[r_59, (.int .i64 6)]) H_58) (
 bnd (aLdAgg 2 t6_45 H_55) fun t60_60 =>
 ACalls Try.prog 22 [t60_60] H_55 fun t61_61 H_62 =>
 (S15_70 R t4_4 t6_45 t61_61 H_62))
def S15_102 (t2_0 : Value) (t3_2 : Value) (J_32 : List Value → AHeap → Prop) (H_77 : AHeap) : Prop :=
 bnd (aAdd 0 t2_0) fun t19_78 =>
 bnd (aLdCell t19_78 H_77) fun t20_79 =>
 bnd (aAdd 0 t2_0) fun t21_80 =>
 bnd (aLdCell t21_80 H_77) fun t22_81 =>
 bnd (aLenSl t22_81) fun t23_82 =>
 bnd (aBin .sub .no t23_82 (.int .i64 1)) fun t24_83 =>
 bnd (aSliceSl 1 t20_79 none (some t24_83)) fun t25_84 =>
 bnd (aAdd 1 t2_0) fun t26_85 =>
 bnd (aLdCell t26_85 H_77) fun t27_86 =>
 bnd (aAdd 1 t2_0) fun t28_87 =>
 bnd (aLdCell t28_87 H_77) fun t29_88 =>
 bnd (aLenSl t29_88) fun t30_89 =>
 bnd (aBin .sub .no t30_89 (.int .i64 1)) fun t31_90 =>
 bnd (aSliceSl 1 t27_86 none (some t31_90)) fun t32_91 =>
 bnd (aFill [(.slice none 0 0), (.slice none 0 0)] [(0, 1, t25_84), (1, 1, t32_91)]) fun t33_92 =>
 bnd (aSt 2 t2_0 (.agg t33_92.toArray) H_77) fun H_93 =>
 bnd (aAdd 0 t3_2) fun t34_94 =>
 bnd (aLdCell t34_94 H_93) fun t35_95 =>
 bnd (aSliceSl 1 t35_95 (some (.int .i64 1)) none) fun t36_96 =>
 bnd (aAdd 1 t3_2) fun t37_97 =>
 bnd (aLdCell t37_97 H_93) fun t38_98 =>
 bnd (aSliceSl 1 t38_98 (some (.int .i64 1)) none) fun t39_99 =>
 bnd (aFill [(.slice none 0 0), (.slice none 0 0)] [(0, 1, t36_96), (1, 1, t39_99)]) fun t40_100 =>
 bnd (aSt 2 t3_2 (.agg t40_100.toArray) H_93) fun H_101 =>
 J_32 [] H_101
def S15_103 (R : Value → AHeap → Prop) (t2_0 : Value) (t3_2 : Value) (t4_4 : Value) (H_31 : AHeap) : Prop :=
 bnd (aAdd 0 t2_0) fun t41_33 =>
 bnd (aLdCell t41_33 H_31) fun t42_34 =>
 bnd (aAdd 0 t3_2) fun t43_35 =>
 bnd (aLdCell t43_35 H_31) fun t44_36 =>
 aBuildSlice 1 2 22 [(.slice none 0 0)] [(0, 1, t42_34), (1, 1, t44_36)] H_31 fun t45_37 H_38 =>
 bnd (aAdd 1 t2_0) fun t47_39 =>
 bnd (aLdCell t47_39 H_38) fun t48_40 =>
 bnd (aAdd 1 t3_2) fun t49_41 =>
 bnd (aLdCell t49_41 H_38) fun t50_42 =>
 aBuildSlice 1 2 22 [(.slice none 0 0)] [(0, 1, t48_40), (1, 1, t50_42)] H_38 fun t51_43 H_44 =>
 aAlloc [(.slice none 0 0), (.slice none 0 0)] 24 H_44 fun t6_45 H_46 =>
 ACalls Try.prog 24 [t45_37] H_46 fun t46_47 H_48 =>
 ((bnd (aLdCell t47_39 H_48) fun t48_72 =>
 t48_72 = t48_40) ∧ (bnd (aLdCell t49_41 H_48) fun t50_73 =>
 t50_73 = t50_42) ∧ (H_48.at_ (blkOf t51_43) = H_46.at_ (blkOf t51_43)) ∧ (H_48.at_ (blkOf t6_45) = H_46.at_ (blkOf t6_45))) ∧
 ACalls Try.prog 24 [t51_43] H_48 fun t52_49 H_50 =>
 (S15_71 R t4_4 t6_45 t46_47 H_48 t52_49 H_50)
def S15_104 (R : Value → AHeap → Prop) (t2_0 : Value) (t3_2 : Value) (t4_4 : Value) (H_25 : AHeap) : Prop :=
 aJoin (fun vs_30 H_31 =>
 (S15_103 R t2_0 t3_2 t4_4 H_31)) fun J_32 =>
 bnd (aLdAgg 2 t2_0 H_25) fun t16_74 =>
 bnd (aLdAgg 2 t3_2 H_25) fun t17_75 =>
 ACalls Try.prog 23 [t16_74, t17_75] H_25 fun t18_76 H_77 =>
 aCond t18_76 (
 (S15_102 t2_0 t3_2 J_32 H_77)) (
 J_32 [] H_77)
def S15_105 (R : Value → AHeap → Prop) (t2_0 : Value) (t3_2 : Value) (t4_4 : Value) (t8_7 : Value) (H_8 : AHeap) : Prop :=
 bnd (aUn .not t8_7) fun t9_9 =>
 aGuardK t9_9 false (fun K_10 H_11 =>
 bnd (aLdAgg 2 t3_2 H_11) fun t11_12 =>
 K_10 t11_12 H_11) (fun t11_13 H_14 =>
 aGuardK t9_9 false (fun K_15 H_16 =>
 ACalls Try.prog 12 [t11_13] H_16 fun t12_17 H_18 =>
 K_15 t12_17 H_18) (fun t12_19 H_20 =>
 aGuardK t9_9 false (fun K_21 H_22 =>
 bnd (aUn .not t12_19) fun t13_23 =>
 K_21 t13_23 H_22) (fun t13_24 H_25 =>
 bnd (aPick t9_9 (.bool true) t13_24) fun t14_26 =>
 aCond t14_26 (
 bnd (aFill [(.slice none 0 0), (.slice none 0 0)] []) fun t15_27 =>
 bnd (aSt 2 t4_4 (.agg t15_27.toArray) H_25) fun H_28 =>
 bnd (aLdAgg 2 t4_4 H_28) fun r_29 =>
 R (.tuple #[r_29, (.int .i64 2)]) H_28) (
 (S15_104 R t2_0 t3_2 t4_4 H_25))) H_20) H_14) H_8
def S15 (a0 : Value) (a1 : Value) (H : AHeap) (R : Value → AHeap → Prop) : Prop :=
 aBox 24 a0 H fun t2_0 H_1 =>
 aBox 24 a1 H_1 fun t3_2 H_3 =>
 aAlloc [(.slice none 0 0), (.slice none 0 0)] 24 H_3 fun t4_4 H_5 =>
 bnd (aLdAgg 2 t2_0 H_5) fun t7_6 =>
 ACalls Try.prog 12 [t7_6] H_5 fun t8_7 H_8 =>
 (S15_105 R t2_0 t3_2 t4_4 t8_7 H_8)
theorem S15_calls {a0 a1 : Value} {H : AHeap} {R : Value → AHeap → Prop} (h : S15 a0 a1 H R) : ACalls Try.prog 15 [a0, a1] H R :=
  have e : S15 a0 a1 H R = awpFn Try.prog (Try.f15.body.getD .skip) Try.f15.results.toList ann15 [a0, a1] H R := by kernel_rfl
  calls_of_awp (fn := Try.f15) (c := Try.f15.body.getD .skip) (an := ann15) (by kernel_rfl) Try.func15 (by kernel_rfl) (by kernel_rfl) (of_decide_eq_true (by kernel_rfl)) (e ▸ h)

/-- 16: marginalia/marginalialaw09.own -/
def ann16 : Ann := (.two .leaf (.two (.draw [(0, []), (1, []), (2, []), (4, []), (5, []), (6, []), (3, [4, 6]), (7, []), (8, []), (9, [])]) .leaf))
def S16 (a0 : Value) (H : AHeap) (R : Value → AHeap → Prop) : Prop :=
 aBox 24 a0 H fun t1_0 H_1 =>
 aAlloc [(.slice none 0 0), (.slice none 0 0)] 24 H_1 fun t2_2 H_3 =>
 aBuildSlice 1 0 3 [(.int .i64 0)] [] H_3 fun t3_4 H_5 =>
 bnd (aAdd 0 t1_0) fun t4_6 =>
 bnd (aLdCell t4_6 H_5) fun t5_7 =>
 aBuildSlice 1 0 3 [(.int .i64 0)] [] H_5 fun t7_8 H_9 =>
 bnd (aAdd 1 t1_0) fun t8_10 =>
 bnd (aLdCell t8_10 H_9) fun t9_11 =>
 aAppend 1 8 3 t3_4 t5_7 H_9 fun t6_12 H_13 =>
 ((H_13.at_ (blkOf t7_8) = H_9.at_ (blkOf t7_8)) ∧ (bnd (aLdCell t8_10 H_13) fun t9_19 =>
 t9_19 = t9_11)) ∧
 aAppend 1 8 3 t7_8 t9_11 H_13 fun t10_14 H_15 =>
 bnd (aFill [(.slice none 0 0), (.slice none 0 0)] [(0, 1, t6_12), (1, 1, t10_14)]) fun t11_16 =>
 bnd (aSt 2 t2_2 (.agg t11_16.toArray) H_15) fun H_17 =>
 bnd (aLdAgg 2 t2_2 H_17) fun r_18 =>
 R r_18 H_17
theorem S16_calls {a0 : Value} {H : AHeap} {R : Value → AHeap → Prop} (h : S16 a0 H R) : ACalls Try.prog 16 [a0] H R :=
  have e : S16 a0 H R = awpFn Try.prog (Try.f16.body.getD .skip) Try.f16.results.toList ann16 [a0] H R := by kernel_rfl
  calls_of_awp (fn := Try.f16) (c := Try.f16.body.getD .skip) (an := ann16) (by kernel_rfl) Try.func16 (by kernel_rfl) (by kernel_rfl) (of_decide_eq_true (by kernel_rfl)) (e ▸ h)

/-- 17: marginalia/marginalialaw09.same -/
def ann17 : Ann := (.two .leaf (.two .leaf .leaf))
def S17_37 (R : Value → AHeap → Prop) (t2_0 : Value) (t3_2 : Value) (t9_8 : Value) (H_9 : AHeap) : Prop :=
 aGuardK t9_8 true (fun K_10 H_11 =>
 bnd (aAdd 1 t2_0) fun t11_12 =>
 K_10 t11_12 H_11) (fun t11_13 H_14 =>
 aGuardK t9_8 true (fun K_15 H_16 =>
 bnd (aLdCell t11_13 H_16) fun t12_17 =>
 K_15 t12_17 H_16) (fun t12_18 H_19 =>
 aGuardK t9_8 true (fun K_20 H_21 =>
 bnd (aAdd 1 t3_2) fun t13_22 =>
 K_20 t13_22 H_21) (fun t13_23 H_24 =>
 aGuardK t9_8 true (fun K_25 H_26 =>
 bnd (aLdCell t13_23 H_26) fun t14_27 =>
 K_25 t14_27 H_26) (fun t14_28 H_29 =>
 aGuardK t9_8 true (fun K_30 H_31 =>
 ACalls Try.prog 25 [t12_18, t14_28] H_31 fun t15_32 H_33 =>
 K_30 t15_32 H_33) (fun t15_34 H_35 =>
 bnd (aPick t9_8 t15_34 (.bool false)) fun t16_36 =>
 R t16_36 H_35) H_29) H_24) H_19) H_14) H_9
def S17 (a0 : Value) (a1 : Value) (H : AHeap) (R : Value → AHeap → Prop) : Prop :=
 aBox 24 a0 H fun t2_0 H_1 =>
 aBox 24 a1 H_1 fun t3_2 H_3 =>
 bnd (aAdd 0 t2_0) fun t5_4 =>
 bnd (aLdCell t5_4 H_3) fun t6_5 =>
 bnd (aAdd 0 t3_2) fun t7_6 =>
 bnd (aLdCell t7_6 H_3) fun t8_7 =>
 ACalls Try.prog 25 [t6_5, t8_7] H_3 fun t9_8 H_9 =>
 (S17_37 R t2_0 t3_2 t9_8 H_9)
theorem S17_calls {a0 a1 : Value} {H : AHeap} {R : Value → AHeap → Prop} (h : S17 a0 a1 H R) : ACalls Try.prog 17 [a0, a1] H R :=
  have e : S17 a0 a1 H R = awpFn Try.prog (Try.f17.body.getD .skip) Try.f17.results.toList ann17 [a0, a1] H R := by kernel_rfl
  calls_of_awp (fn := Try.f17) (c := Try.f17.body.getD .skip) (an := ann17) (by kernel_rfl) Try.func17 (by kernel_rfl) (by kernel_rfl) (of_decide_eq_true (by kernel_rfl)) (e ▸ h)

/-- 18: marginalia/marginaliaref09.SoundWrap -/
def ann18 : Ann := (.two .leaf (.two .leaf .leaf))
def S18 (a0 : Value) (a1 : Value) (H : AHeap) (R : Value → AHeap → Prop) : Prop :=
 bnd (aLenSl a0) fun t6_0 =>
 bnd (aBin .leq .no t6_0 (.int .i64 256)) fun t7_1 =>
 aGuardK t7_1 true (fun K_2 H_3 =>
 K_2 a1 H_3) (fun t9_4 H_5 =>
 aGuardK t7_1 true (fun K_6 H_7 =>
 bnd (aLenSl t9_4) fun t10_8 =>
 K_6 t10_8 H_7) (fun t10_9 H_10 =>
 aGuardK t7_1 true (fun K_11 H_12 =>
 bnd (aBin .leq .no t10_9 (.int .i64 256)) fun t11_13 =>
 K_11 t11_13 H_12) (fun t11_14 H_15 =>
 bnd (aPick t7_1 t11_14 (.bool false)) fun t12_16 =>
 aGuardK t12_16 true (fun K_17 H_18 =>
 K_17 a0 H_18) (fun t14_19 H_20 =>
 aGuardK t12_16 true (fun K_21 H_22 =>
 K_21 a1 H_22) (fun t15_23 H_24 =>
 aGuardK t12_16 true (fun K_25 H_26 =>
 ACalls Try.prog 26 [t14_19, t15_23] H_26 fun t16_27 H_28 =>
 K_25 t16_27 H_28) (fun t16_29 H_30 =>
 bnd (aPick t12_16 t16_29 (.bool false)) fun t17_31 =>
 R t17_31 H_30) H_24) H_20) H_15) H_10) H_5) H
theorem S18_calls {a0 a1 : Value} {H : AHeap} {R : Value → AHeap → Prop} (h : S18 a0 a1 H R) : ACalls Try.prog 18 [a0, a1] H R :=
  have e : S18 a0 a1 H R = awpFn Try.prog (Try.f18.body.getD .skip) Try.f18.results.toList ann18 [a0, a1] H R := by kernel_rfl
  calls_of_awp (fn := Try.f18) (c := Try.f18.body.getD .skip) (an := ann18) (by kernel_rfl) Try.func18 (by kernel_rfl) (by kernel_rfl) (of_decide_eq_true (by kernel_rfl)) (e ▸ h)

/-- 19: marginalia/marginaliaref09.Join -/
def ann19 : Ann := (.two .leaf (.two (.two .leaf (.two (.two .leaf .leaf) .leaf)) (.two .leaf (.two .leaf (.join [0, 1, 2, 3] [0, 1, 2, 3, 29, 30, 31, 32, 33, 34, 35, 36, 37, 38, 39, 40, 41, 42, 43, 44, 45, 46, 47, 48, 49, 50, 51, 52, 53, 54, 55, 56, 57, 58, 59, 60, 61, 62, 63, 64, 65, 66, 67, 68, 69, 70, 71, 72, 73, 74, 75, 76, 77, 78, 79, 80, 81, 82, 83, 84] (.two .leaf (.two (.two .leaf (.two .leaf (.two .leaf .leaf))) .leaf)) (.two .leaf (.two .leaf (.two (.two .leaf (.two (.two .leaf .leaf) .leaf)) (.two (.two .leaf (.two (.two .leaf .leaf) .leaf)) (.two .leaf .leaf))))))))))
def S19_205 (a0 : Value) (a1 : Value) (a2 : Value) (a3 : Value) (t26_23 : Value) (t28_24 : Value) (J_27 : List Value → AHeap → Prop) (H_197 : AHeap) : Prop :=
 bnd (aBin .sub .no t26_23 (.int .i64 1)) fun t75_199 =>
 bnd (aSliceSl 1 a0 none (some t75_199)) fun t76_200 =>
 bnd (aBin .sub .no t28_24 (.int .i64 1)) fun t79_201 =>
 bnd (aSliceSl 1 a1 none (some t79_201)) fun t80_202 =>
 bnd (aSliceSl 1 a2 (some (.int .i64 1)) none) fun t82_203 =>
 bnd (aSliceSl 1 a3 (some (.int .i64 1)) none) fun t84_204 =>
 J_27 [t76_200, t80_202, t82_203, t84_204] H_197
def S19_206 (R : Value → AHeap → Prop) (vs_25 : List Value) (H_26 : AHeap) : Prop :=
 aBuildSlice 1 0 3 [(.int .i64 0)] [] H_26 fun t85_28 H_29 =>
 aAppend 1 8 3 t85_28 (nth vs_25 0) H_29 fun t87_30 H_31 =>
 aAppend 1 8 3 t87_30 (nth vs_25 2) H_31 fun t89_32 H_33 =>
 aBuildSlice 1 0 3 [(.int .i64 0)] [] H_33 fun t90_34 H_35 =>
 aAppend 1 8 3 t90_34 (nth vs_25 1) H_35 fun t92_36 H_37 =>
 aAppend 1 8 3 t92_36 (nth vs_25 3) H_37 fun t94_38 H_39 =>
 bnd (aLenSl t89_32) fun t96_40 =>
 bnd (aBin .gtr .no t96_40 (.int .i64 256)) fun t97_41 =>
 aGuardK t97_41 false (fun K_42 H_43 =>
 K_42 t94_38 H_43) (fun t99_44 H_45 =>
 aGuardK t97_41 false (fun K_46 H_47 =>
 bnd (aLenSl t99_44) fun t100_48 =>
 K_46 t100_48 H_47) (fun t100_49 H_50 =>
 aGuardK t97_41 false (fun K_51 H_52 =>
 bnd (aBin .gtr .no t100_49 (.int .i64 256)) fun t101_53 =>
 K_51 t101_53 H_52) (fun t101_54 H_55 =>
 bnd (aPick t97_41 (.bool true) t101_54) fun t102_56 =>
 aCond t102_56 (
 R (.tuple #[(.slice none 0 0), (.slice none 0 0), (.int .i64 6)]) H_55) (
 ACalls Try.prog 26 [t89_32, t94_38] H_55 fun t105_57 H_58 =>
 bnd (aUn .not t105_57) fun t106_59 =>
 aCond t106_59 (
 R (.tuple #[(.slice none 0 0), (.slice none 0 0), (.int .i64 2)]) H_58) (
 R (.tuple #[t89_32, t94_38, (.int .i64 0)]) H_58))) H_50) H_45) H_39
def S19_207 (a0 : Value) (a1 : Value) (a2 : Value) (a3 : Value) (R : Value → AHeap → Prop) (H_21 : AHeap) : Prop :=
 bnd (aLenSl a0) fun t26_23 =>
 bnd (aLenSl a1) fun t28_24 =>
 aJoin (fun vs_25 H_26 =>
 (S19_206 R vs_25 H_26)) fun J_27 =>
 bnd (aBin .gtr .no t26_23 (.int .i64 0)) fun t30_60 =>
 aGuardK t30_60 true (fun K_61 H_62 =>
 K_61 t28_24 H_62) (fun t32_63 H_64 =>
 aGuardK t30_60 true (fun K_65 H_66 =>
 bnd (aBin .gtr .no t32_63 (.int .i64 0)) fun t33_67 =>
 K_65 t33_67 H_66) (fun t33_68 H_69 =>
 bnd (aPick t30_60 t33_68 (.bool false)) fun t34_70 =>
 aGuardK t34_70 true (fun K_71 H_72 =>
 K_71 a2 H_72) (fun t36_73 H_74 =>
 aGuardK t34_70 true (fun K_75 H_76 =>
 bnd (aLenSl t36_73) fun t37_77 =>
 K_75 t37_77 H_76) (fun t37_78 H_79 =>
 aGuardK t34_70 true (fun K_80 H_81 =>
 bnd (aBin .gtr .no t37_78 (.int .i64 0)) fun t38_82 =>
 K_80 t38_82 H_81) (fun t38_83 H_84 =>
 bnd (aPick t34_70 t38_83 (.bool false)) fun t39_85 =>
 aGuardK t39_85 true (fun K_86 H_87 =>
 K_86 a3 H_87) (fun t41_88 H_89 =>
 aGuardK t39_85 true (fun K_90 H_91 =>
 bnd (aLenSl t41_88) fun t42_92 =>
 K_90 t42_92 H_91) (fun t42_93 H_94 =>
 aGuardK t39_85 true (fun K_95 H_96 =>
 bnd (aBin .gtr .no t42_93 (.int .i64 0)) fun t43_97 =>
 K_95 t43_97 H_96) (fun t43_98 H_99 =>
 bnd (aPick t39_85 t43_98 (.bool false)) fun t44_100 =>
 aGuardK t44_100 true (fun K_101 H_102 =>
 K_101 a2 H_102) (fun t46_103 H_104 =>
 aGuardK t44_100 true (fun K_105 H_106 =>
 bnd (aIdxAddr 1 t46_103 (.int .i64 0)) fun t47_107 =>
 K_105 t47_107 H_106) (fun t47_108 H_109 =>
 aGuardK t44_100 true (fun K_110 H_111 =>
 bnd (aLdCell t47_108 H_111) fun t48_112 =>
 K_110 t48_112 H_111) (fun t48_113 H_114 =>
 aGuardK t44_100 true (fun K_115 H_116 =>
 bnd (aBin .eql .no t48_113 (.int .i64 (-1))) fun t49_117 =>
 K_115 t49_117 H_116) (fun t49_118 H_119 =>
 bnd (aPick t44_100 t49_118 (.bool false)) fun t50_120 =>
 aGuardK t50_120 true (fun K_121 H_122 =>
 K_121 a0 H_122) (fun t52_123 H_124 =>
 aGuardK t50_120 true (fun K_125 H_126 =>
 K_125 t26_23 H_126) (fun t53_127 H_128 =>
 aGuardK t50_120 true (fun K_129 H_130 =>
 bnd (aBin .sub .no t53_127 (.int .i64 1)) fun t54_131 =>
 K_129 t54_131 H_130) (fun t54_132 H_133 =>
 aGuardK t50_120 true (fun K_134 H_135 =>
 bnd (aIdxAddr 1 t52_123 t54_132) fun t55_136 =>
 K_134 t55_136 H_135) (fun t55_137 H_138 =>
 aGuardK t50_120 true (fun K_139 H_140 =>
 bnd (aLdCell t55_137 H_140) fun t56_141 =>
 K_139 t56_141 H_140) (fun t56_142 H_143 =>
 aGuardK t50_120 true (fun K_144 H_145 =>
 bnd (aBin .neq .no t56_142 (.int .i64 (-1))) fun t57_146 =>
 K_144 t57_146 H_145) (fun t57_147 H_148 =>
 bnd (aPick t50_120 t57_147 (.bool false)) fun t58_149 =>
 aGuardK t58_149 true (fun K_150 H_151 =>
 K_150 a1 H_151) (fun t60_152 H_153 =>
 aGuardK t58_149 true (fun K_154 H_155 =>
 K_154 t28_24 H_155) (fun t61_156 H_157 =>
 aGuardK t58_149 true (fun K_158 H_159 =>
 bnd (aBin .sub .no t61_156 (.int .i64 1)) fun t62_160 =>
 K_158 t62_160 H_159) (fun t62_161 H_162 =>
 aGuardK t58_149 true (fun K_163 H_164 =>
 bnd (aIdxAddr 1 t60_152 t62_161) fun t63_165 =>
 K_163 t63_165 H_164) (fun t63_166 H_167 =>
 aGuardK t58_149 true (fun K_168 H_169 =>
 bnd (aLdCell t63_166 H_169) fun t64_170 =>
 K_168 t64_170 H_169) (fun t64_171 H_172 =>
 aGuardK t58_149 true (fun K_173 H_174 =>
 bnd (aBin .eql .no t64_171 (.int .i64 0)) fun t65_175 =>
 K_173 t65_175 H_174) (fun t65_176 H_177 =>
 bnd (aPick t58_149 t65_176 (.bool false)) fun t66_178 =>
 aGuardK t66_178 true (fun K_179 H_180 =>
 K_179 a3 H_180) (fun t68_181 H_182 =>
 aGuardK t66_178 true (fun K_183 H_184 =>
 bnd (aIdxAddr 1 t68_181 (.int .i64 0)) fun t69_185 =>
 K_183 t69_185 H_184) (fun t69_186 H_187 =>
 aGuardK t66_178 true (fun K_188 H_189 =>
 bnd (aLdCell t69_186 H_189) fun t70_190 =>
 K_188 t70_190 H_189) (fun t70_191 H_192 =>
 aGuardK t66_178 true (fun K_193 H_194 =>
 bnd (aBin .eql .no t70_191 (.int .i64 0)) fun t71_195 =>
 K_193 t71_195 H_194) (fun t71_196 H_197 =>
 bnd (aPick t66_178 t71_196 (.bool false)) fun t72_198 =>
 aCond t72_198 (
 (S19_205 a0 a1 a2 a3 t26_23 t28_24 J_27 H_197)) (
 J_27 [a0, a1, a2, a3] H_197)) H_192) H_187) H_182) H_177) H_172) H_167) H_162) H_157) H_153) H_148) H_143) H_138) H_133) H_128) H_124) H_119) H_114) H_109) H_104) H_99) H_94) H_89) H_84) H_79) H_74) H_69) H_64) H_21
def S19_208 (a0 : Value) (a1 : Value) (a2 : Value) (a3 : Value) (R : Value → AHeap → Prop) (t17_0 : Value) (H_1 : AHeap) : Prop :=
 bnd (aUn .not t17_0) fun t18_2 =>
 aGuardK t18_2 false (fun K_3 H_4 =>
 K_3 a2 H_4) (fun t20_5 H_6 =>
 aGuardK t18_2 false (fun K_7 H_8 =>
 K_7 a3 H_8) (fun t21_9 H_10 =>
 aGuardK t18_2 false (fun K_11 H_12 =>
 ACalls Try.prog 18 [t20_5, t21_9] H_12 fun t22_13 H_14 =>
 K_11 t22_13 H_14) (fun t22_15 H_16 =>
 aGuardK t18_2 false (fun K_17 H_18 =>
 bnd (aUn .not t22_15) fun t23_19 =>
 K_17 t23_19 H_18) (fun t23_20 H_21 =>
 bnd (aPick t18_2 (.bool true) t23_20) fun t24_22 =>
 aCond t24_22 (
 R (.tuple #[(.slice none 0 0), (.slice none 0 0), (.int .i64 2)]) H_21) (
 (S19_207 a0 a1 a2 a3 R H_21))) H_16) H_10) H_6) H_1
def S19 (a0 : Value) (a1 : Value) (a2 : Value) (a3 : Value) (H : AHeap) (R : Value → AHeap → Prop) : Prop :=
 ACalls Try.prog 18 [a0, a1] H fun t17_0 H_1 =>
 (S19_208 a0 a1 a2 a3 R t17_0 H_1)
theorem S19_calls {a0 a1 a2 a3 : Value} {H : AHeap} {R : Value → AHeap → Prop} (h : S19 a0 a1 a2 a3 H R) : ACalls Try.prog 19 [a0, a1, a2, a3] H R :=
  have e : S19 a0 a1 a2 a3 H R = awpFn Try.prog (Try.f19.body.getD .skip) Try.f19.results.toList ann19 [a0, a1, a2, a3] H R := by kernel_rfl
  calls_of_awp (fn := Try.f19) (c := Try.f19.body.getD .skip) (an := ann19) (by kernel_rfl) Try.func19 (by kernel_rfl) (by kernel_rfl) (of_decide_eq_true (by kernel_rfl)) (e ▸ h)

/-- 20: marginalia/wrap.Same -/
def ann20 : Ann := (.two .leaf (.two .leaf .leaf))
def S20_37 (R : Value → AHeap → Prop) (t2_0 : Value) (t3_2 : Value) (t9_8 : Value) (H_9 : AHeap) : Prop :=
 aGuardK t9_8 true (fun K_10 H_11 =>
 bnd (aAdd 1 t2_0) fun t11_12 =>
 K_10 t11_12 H_11) (fun t11_13 H_14 =>
 aGuardK t9_8 true (fun K_15 H_16 =>
 bnd (aLdCell t11_13 H_16) fun t12_17 =>
 K_15 t12_17 H_16) (fun t12_18 H_19 =>
 aGuardK t9_8 true (fun K_20 H_21 =>
 bnd (aAdd 1 t3_2) fun t13_22 =>
 K_20 t13_22 H_21) (fun t13_23 H_24 =>
 aGuardK t9_8 true (fun K_25 H_26 =>
 bnd (aLdCell t13_23 H_26) fun t14_27 =>
 K_25 t14_27 H_26) (fun t14_28 H_29 =>
 aGuardK t9_8 true (fun K_30 H_31 =>
 ACalls Try.prog 27 [t12_18, t14_28] H_31 fun t15_32 H_33 =>
 K_30 t15_32 H_33) (fun t15_34 H_35 =>
 bnd (aPick t9_8 t15_34 (.bool false)) fun t16_36 =>
 R t16_36 H_35) H_29) H_24) H_19) H_14) H_9
def S20 (a0 : Value) (a1 : Value) (H : AHeap) (R : Value → AHeap → Prop) : Prop :=
 aBox 24 a0 H fun t2_0 H_1 =>
 aBox 24 a1 H_1 fun t3_2 H_3 =>
 bnd (aAdd 0 t2_0) fun t5_4 =>
 bnd (aLdCell t5_4 H_3) fun t6_5 =>
 bnd (aAdd 0 t3_2) fun t7_6 =>
 bnd (aLdCell t7_6 H_3) fun t8_7 =>
 ACalls Try.prog 27 [t6_5, t8_7] H_3 fun t9_8 H_9 =>
 (S20_37 R t2_0 t3_2 t9_8 H_9)
theorem S20_calls {a0 a1 : Value} {H : AHeap} {R : Value → AHeap → Prop} (h : S20 a0 a1 H R) : ACalls Try.prog 20 [a0, a1] H R :=
  have e : S20 a0 a1 H R = awpFn Try.prog (Try.f20.body.getD .skip) Try.f20.results.toList ann20 [a0, a1] H R := by kernel_rfl
  calls_of_awp (fn := Try.f20) (c := Try.f20.body.getD .skip) (an := ann20) (by kernel_rfl) Try.func20 (by kernel_rfl) (by kernel_rfl) (of_decide_eq_true (by kernel_rfl)) (e ▸ h)

/-- 21: (marginalia/wrap.Wrap).small -/
def ann21 : Ann := (.two .leaf (.two .leaf .leaf))
def S21 (a0 : Value) (H : AHeap) (R : Value → AHeap → Prop) : Prop :=
 aBox 24 a0 H fun t1_0 H_1 =>
 bnd (aAdd 0 t1_0) fun t3_2 =>
 bnd (aLdCell t3_2 H_1) fun t4_3 =>
 bnd (aLenSl t4_3) fun t5_4 =>
 bnd (aBin .leq .no t5_4 (.int .i64 256)) fun t6_5 =>
 aGuardK t6_5 true (fun K_6 H_7 =>
 bnd (aAdd 1 t1_0) fun t8_8 =>
 K_6 t8_8 H_7) (fun t8_9 H_10 =>
 aGuardK t6_5 true (fun K_11 H_12 =>
 bnd (aLdCell t8_9 H_12) fun t9_13 =>
 K_11 t9_13 H_12) (fun t9_14 H_15 =>
 aGuardK t6_5 true (fun K_16 H_17 =>
 bnd (aLenSl t9_14) fun t10_18 =>
 K_16 t10_18 H_17) (fun t10_19 H_20 =>
 aGuardK t6_5 true (fun K_21 H_22 =>
 bnd (aBin .leq .no t10_19 (.int .i64 256)) fun t11_23 =>
 K_21 t11_23 H_22) (fun t11_24 H_25 =>
 bnd (aPick t6_5 t11_24 (.bool false)) fun t12_26 =>
 R t12_26 H_25) H_20) H_15) H_10) H_1
theorem S21_calls {a0 : Value} {H : AHeap} {R : Value → AHeap → Prop} (h : S21 a0 H R) : ACalls Try.prog 21 [a0] H R :=
  have e : S21 a0 H R = awpFn Try.prog (Try.f21.body.getD .skip) Try.f21.results.toList ann21 [a0] H R := by kernel_rfl
  calls_of_awp (fn := Try.f21) (c := Try.f21.body.getD .skip) (an := ann21) (by kernel_rfl) Try.func21 (by kernel_rfl) (by kernel_rfl) (of_decide_eq_true (by kernel_rfl)) (e ▸ h)

/-- 22: (marginalia/wrap.Wrap).sound -/
def ann22 : Ann := (.two .leaf (.two .leaf (.two (.two .leaf (.one (.loop [3, 11] [2, 3, 5, 11, 12, 13, 14, 15, 16, 17, 18, 19, 20, 21] (.two .leaf (.two (.two .leaf .leaf) (.join [3] [2, 3, 5, 13, 14, 15, 16, 17, 18, 19, 20] (.one (.two .leaf (.two (.two .leaf (.two (.two .leaf .leaf) .leaf)) (.two .leaf (.two .leaf .leaf))))) .leaf)))))) (.two (.two .leaf (.one (.loop [25] [2, 6, 7, 25, 26, 27, 28, 29, 30, 31, 32, 33, 34, 35, 36, 37, 38, 39, 40] (.two .leaf (.two (.two .leaf .leaf) (.two (.one (.two .leaf (.two .leaf (.two (.two .leaf .leaf) .leaf)))) .leaf)))))) (.two .leaf .leaf)))))
def S22_18 (R : Value → AHeap → Prop) (t9_3 : Value) (vs_5 : List Value) (H_6 : AHeap) (again_7 : List Value → AHeap → Prop) : Prop :=
 aJoin (fun vs_9 H_10 =>
 bnd (aBin .add .no (nth vs_5 1) (.int .i64 1)) fun t21_12 =>
 again_7 [(nth vs_9 0), t21_12] H_10) fun J_11 =>
 bnd (aIdxAddr 1 t9_3 (nth vs_5 1)) fun t13_13 =>
 bnd (aLdCell t13_13 H_6) fun t14_14 =>
 bnd (aBin .lss .no t14_14 (.int .i64 0)) fun t16_15 =>
 aCond t16_15 (
 R (.bool false) H_6) (
 bnd (aBin .eql .no t14_14 (.int .i64 0)) fun t18_16 =>
 aCond t18_16 (
 bnd (aBin .add .no (nth vs_5 0) (.int .i64 1)) fun t20_17 =>
 J_11 [t20_17] H_6) (
 J_11 [(nth vs_5 0)] H_6))
def S22_58 (R : Value → AHeap → Prop) (t23_20 : Value) (vs_22 : List Value) (H_23 : AHeap) (again_24 : List Value → AHeap → Prop) : Prop :=
 bnd (aIdxAddr 1 t23_20 (nth vs_22 0)) fun t28_26 =>
 bnd (aLdCell t28_26 H_23) fun t29_27 =>
 bnd (aBin .lss .no t29_27 (.int .i64 1)) fun t31_28 =>
 aGuardK t31_28 true (fun K_29 H_30 =>
 K_29 t29_27 H_30) (fun t33_31 H_32 =>
 aGuardK t31_28 true (fun K_33 H_34 =>
 bnd (aBin .neq .no t33_31 (.int .i64 (-1))) fun t34_35 =>
 K_33 t34_35 H_34) (fun t34_36 H_37 =>
 aGuardK t31_28 true (fun K_38 H_39 =>
 K_38 t34_36 H_39) (fun t35_40 H_41 =>
 aGuardK t35_40 false (fun K_42 H_43 =>
 K_42 (nth vs_22 0) H_43) (fun t36_44 H_45 =>
 aGuardK t35_40 false (fun K_46 H_47 =>
 bnd (aBin .gtr .no t36_44 (.int .i64 0)) fun t37_48 =>
 K_46 t37_48 H_47) (fun t37_49 H_50 =>
 aGuardK t31_28 true (fun K_51 H_52 =>
 bnd (aPick t35_40 (.bool true) t37_49) fun t38_53 =>
 K_51 t38_53 H_52) (fun t38_54 H_55 =>
 bnd (aPick t31_28 t38_54 (.bool false)) fun t39_56 =>
 aCond t39_56 (
 R (.bool false) H_55) (
 bnd (aBin .add .no (nth vs_22 0) (.int .i64 1)) fun t40_57 =>
 again_24 [t40_57] H_55)) H_50) H_45) H_41) H_37) H_32) H_23
def S22_63 (R : Value → AHeap → Prop) (t1_0 : Value) (vs_5 : List Value) (t23_20 : Value) (t24_21 : Value) (vs_22 : List Value) (H_23 : AHeap) (again_24 : List Value → AHeap → Prop) : Prop :=
 bnd (aBin .lss .no (nth vs_22 0) t24_21) fun t26_25 =>
 aCond t26_25 (
 (S22_58 R t23_20 vs_22 H_23 again_24)) (
 bnd (aAdd 0 t1_0) fun t42_59 =>
 bnd (aLdCell t42_59 H_23) fun t43_60 =>
 bnd (aLenSl t43_60) fun t44_61 =>
 bnd (aBin .eql .no (nth vs_5 0) t44_61) fun t45_62 =>
 R t45_62 H_23)
def S22_64 (R : Value → AHeap → Prop) (t1_0 : Value) (t9_3 : Value) (t10_4 : Value) (vs_5 : List Value) (H_6 : AHeap) (again_7 : List Value → AHeap → Prop) : Prop :=
 bnd (aBin .lss .no (nth vs_5 1) t10_4) fun t12_8 =>
 aCond t12_8 (
 (S22_18 R t9_3 vs_5 H_6 again_7)) (
 bnd (aAdd 0 t1_0) fun t22_19 =>
 bnd (aLdCell t22_19 H_6) fun t23_20 =>
 bnd (aLenSl t23_20) fun t24_21 =>
 aLoop [(.int .i64 0)] H_6 fun vs_22 H_23 again_24 =>
 (S22_63 R t1_0 vs_5 t23_20 t24_21 vs_22 H_23 again_24))
def S22 (a0 : Value) (H : AHeap) (R : Value → AHeap → Prop) : Prop :=
 aBox 24 a0 H fun t1_0 H_1 =>
 bnd (aAdd 1 t1_0) fun t8_2 =>
 bnd (aLdCell t8_2 H_1) fun t9_3 =>
 bnd (aLenSl t9_3) fun t10_4 =>
 aLoop [(.int .i64 0), (.int .i64 0)] H_1 fun vs_5 H_6 again_7 =>
 (S22_64 R t1_0 t9_3 t10_4 vs_5 H_6 again_7)
theorem S22_calls {a0 : Value} {H : AHeap} {R : Value → AHeap → Prop} (h : S22 a0 H R) : ACalls Try.prog 22 [a0] H R :=
  have e : S22 a0 H R = awpFn Try.prog (Try.f22.body.getD .skip) Try.f22.results.toList ann22 [a0] H R := by kernel_rfl
  calls_of_awp (fn := Try.f22) (c := Try.f22.body.getD .skip) (an := ann22) (by kernel_rfl) Try.func22 (by kernel_rfl) (by kernel_rfl) (of_decide_eq_true (by kernel_rfl)) (e ▸ h)

/-- 23: marginalia/wrap.cancels -/
def ann23 : Ann := (.two .leaf (.two (.draw [(0, []), (1, []), (2, []), (3, []), (4, []), (5, []), (6, []), (7, [])]) (.two .leaf .leaf)))
def S23 (a0 : Value) (a1 : Value) (H : AHeap) (R : Value → AHeap → Prop) : Prop :=
 aBox 24 a0 H fun t2_0 H_1 =>
 aBox 24 a1 H_1 fun t3_2 H_3 =>
 bnd (aAdd 0 t2_0) fun t7_4 =>
 bnd (aLdCell t7_4 H_3) fun t8_5 =>
 bnd (aLenSl t8_5) fun t9_6 =>
 bnd (aAdd 1 t2_0) fun t10_7 =>
 bnd (aLdCell t10_7 H_3) fun t11_8 =>
 bnd (aLenSl t11_8) fun t12_9 =>
 bnd (aBin .gtr .no t9_6 (.int .i64 0)) fun t14_10 =>
 aGuardK t14_10 true (fun K_11 H_12 =>
 K_11 t12_9 H_12) (fun t16_13 H_14 =>
 aGuardK t14_10 true (fun K_15 H_16 =>
 bnd (aBin .gtr .no t16_13 (.int .i64 0)) fun t17_17 =>
 K_15 t17_17 H_16) (fun t17_18 H_19 =>
 bnd (aPick t14_10 t17_18 (.bool false)) fun t18_20 =>
 aGuardK t18_20 true (fun K_21 H_22 =>
 bnd (aAdd 0 t3_2) fun t20_23 =>
 K_21 t20_23 H_22) (fun t20_24 H_25 =>
 aGuardK t18_20 true (fun K_26 H_27 =>
 bnd (aLdCell t20_24 H_27) fun t21_28 =>
 K_26 t21_28 H_27) (fun t21_29 H_30 =>
 aGuardK t18_20 true (fun K_31 H_32 =>
 bnd (aLenSl t21_29) fun t22_33 =>
 K_31 t22_33 H_32) (fun t22_34 H_35 =>
 aGuardK t18_20 true (fun K_36 H_37 =>
 bnd (aBin .gtr .no t22_34 (.int .i64 0)) fun t23_38 =>
 K_36 t23_38 H_37) (fun t23_39 H_40 =>
 bnd (aPick t18_20 t23_39 (.bool false)) fun t24_41 =>
 aGuardK t24_41 true (fun K_42 H_43 =>
 bnd (aAdd 1 t3_2) fun t26_44 =>
 K_42 t26_44 H_43) (fun t26_45 H_46 =>
 aGuardK t24_41 true (fun K_47 H_48 =>
 bnd (aLdCell t26_45 H_48) fun t27_49 =>
 K_47 t27_49 H_48) (fun t27_50 H_51 =>
 aGuardK t24_41 true (fun K_52 H_53 =>
 bnd (aLenSl t27_50) fun t28_54 =>
 K_52 t28_54 H_53) (fun t28_55 H_56 =>
 aGuardK t24_41 true (fun K_57 H_58 =>
 bnd (aBin .gtr .no t28_55 (.int .i64 0)) fun t29_59 =>
 K_57 t29_59 H_58) (fun t29_60 H_61 =>
 bnd (aPick t24_41 t29_60 (.bool false)) fun t30_62 =>
 aGuardK t30_62 true (fun K_63 H_64 =>
 bnd (aAdd 0 t2_0) fun t32_65 =>
 K_63 t32_65 H_64) (fun t32_66 H_67 =>
 aGuardK t30_62 true (fun K_68 H_69 =>
 bnd (aLdCell t32_66 H_69) fun t33_70 =>
 K_68 t33_70 H_69) (fun t33_71 H_72 =>
 aGuardK t30_62 true (fun K_73 H_74 =>
 K_73 t9_6 H_74) (fun t34_75 H_76 =>
 aGuardK t30_62 true (fun K_77 H_78 =>
 bnd (aBin .sub .no t34_75 (.int .i64 1)) fun t35_79 =>
 K_77 t35_79 H_78) (fun t35_80 H_81 =>
 aGuardK t30_62 true (fun K_82 H_83 =>
 bnd (aIdxAddr 1 t33_71 t35_80) fun t36_84 =>
 K_82 t36_84 H_83) (fun t36_85 H_86 =>
 aGuardK t30_62 true (fun K_87 H_88 =>
 bnd (aLdCell t36_85 H_88) fun t37_89 =>
 K_87 t37_89 H_88) (fun t37_90 H_91 =>
 aGuardK t30_62 true (fun K_92 H_93 =>
 bnd (aBin .neq .no t37_90 (.int .i64 (-1))) fun t38_94 =>
 K_92 t38_94 H_93) (fun t38_95 H_96 =>
 bnd (aPick t30_62 t38_95 (.bool false)) fun t39_97 =>
 aGuardK t39_97 true (fun K_98 H_99 =>
 bnd (aAdd 0 t3_2) fun t41_100 =>
 K_98 t41_100 H_99) (fun t41_101 H_102 =>
 aGuardK t39_97 true (fun K_103 H_104 =>
 bnd (aLdCell t41_101 H_104) fun t42_105 =>
 K_103 t42_105 H_104) (fun t42_106 H_107 =>
 aGuardK t39_97 true (fun K_108 H_109 =>
 bnd (aIdxAddr 1 t42_106 (.int .i64 0)) fun t43_110 =>
 K_108 t43_110 H_109) (fun t43_111 H_112 =>
 aGuardK t39_97 true (fun K_113 H_114 =>
 bnd (aLdCell t43_111 H_114) fun t44_115 =>
 K_113 t44_115 H_114) (fun t44_116 H_117 =>
 aGuardK t39_97 true (fun K_118 H_119 =>
 bnd (aBin .eql .no t44_116 (.int .i64 (-1))) fun t45_120 =>
 K_118 t45_120 H_119) (fun t45_121 H_122 =>
 bnd (aPick t39_97 t45_121 (.bool false)) fun t46_123 =>
 aGuardK t46_123 true (fun K_124 H_125 =>
 bnd (aAdd 1 t2_0) fun t48_126 =>
 K_124 t48_126 H_125) (fun t48_127 H_128 =>
 aGuardK t46_123 true (fun K_129 H_130 =>
 bnd (aLdCell t48_127 H_130) fun t49_131 =>
 K_129 t49_131 H_130) (fun t49_132 H_133 =>
 aGuardK t46_123 true (fun K_134 H_135 =>
 K_134 t12_9 H_135) (fun t50_136 H_137 =>
 aGuardK t46_123 true (fun K_138 H_139 =>
 bnd (aBin .sub .no t50_136 (.int .i64 1)) fun t51_140 =>
 K_138 t51_140 H_139) (fun t51_141 H_142 =>
 aGuardK t46_123 true (fun K_143 H_144 =>
 bnd (aIdxAddr 1 t49_132 t51_141) fun t52_145 =>
 K_143 t52_145 H_144) (fun t52_146 H_147 =>
 aGuardK t46_123 true (fun K_148 H_149 =>
 bnd (aLdCell t52_146 H_149) fun t53_150 =>
 K_148 t53_150 H_149) (fun t53_151 H_152 =>
 aGuardK t46_123 true (fun K_153 H_154 =>
 bnd (aBin .eql .no t53_151 (.int .i64 0)) fun t54_155 =>
 K_153 t54_155 H_154) (fun t54_156 H_157 =>
 bnd (aPick t46_123 t54_156 (.bool false)) fun t55_158 =>
 aGuardK t55_158 true (fun K_159 H_160 =>
 bnd (aAdd 1 t3_2) fun t57_161 =>
 K_159 t57_161 H_160) (fun t57_162 H_163 =>
 aGuardK t55_158 true (fun K_164 H_165 =>
 bnd (aLdCell t57_162 H_165) fun t58_166 =>
 K_164 t58_166 H_165) (fun t58_167 H_168 =>
 aGuardK t55_158 true (fun K_169 H_170 =>
 bnd (aIdxAddr 1 t58_167 (.int .i64 0)) fun t59_171 =>
 K_169 t59_171 H_170) (fun t59_172 H_173 =>
 aGuardK t55_158 true (fun K_174 H_175 =>
 bnd (aLdCell t59_172 H_175) fun t60_176 =>
 K_174 t60_176 H_175) (fun t60_177 H_178 =>
 aGuardK t55_158 true (fun K_179 H_180 =>
 bnd (aBin .eql .no t60_177 (.int .i64 0)) fun t61_181 =>
 K_179 t61_181 H_180) (fun t61_182 H_183 =>
 bnd (aPick t55_158 t61_182 (.bool false)) fun t62_184 =>
 R t62_184 H_183) H_178) H_173) H_168) H_163) H_157) H_152) H_147) H_142) H_137) H_133) H_128) H_122) H_117) H_112) H_107) H_102) H_96) H_91) H_86) H_81) H_76) H_72) H_67) H_61) H_56) H_51) H_46) H_40) H_35) H_30) H_25) H_19) H_14) H_3
theorem S23_calls {a0 a1 : Value} {H : AHeap} {R : Value → AHeap → Prop} (h : S23 a0 a1 H R) : ACalls Try.prog 23 [a0, a1] H R :=
  have e : S23 a0 a1 H R = awpFn Try.prog (Try.f23.body.getD .skip) Try.f23.results.toList ann23 [a0, a1] H R := by kernel_rfl
  calls_of_awp (fn := Try.f23) (c := Try.f23.body.getD .skip) (an := ann23) (by kernel_rfl) Try.func23 (by kernel_rfl) (by kernel_rfl) (of_decide_eq_true (by kernel_rfl)) (e ▸ h)

/-- 24: slices.Concat[[]int,int] -/
def ann24 : Ann := (.two .leaf (.two .leaf (.two (.two .leaf (.one (.loop [3, 11] [3, 5, 11, 12, 13, 14, 15, 16, 17, 18, 19, 20, 21, 22] (.two .leaf (.two (.two .leaf .leaf) (.join [3] [3, 5, 13, 14, 15, 16, 17, 18, 19, 20, 21] (.one (.two .leaf (.two .leaf (.two .leaf (.two .leaf .leaf))))) .leaf)))))) (.two .leaf (.two (.two .leaf (.one (.loop [6, 27] [6, 8, 27, 28, 29, 30, 31, 32, 33, 34] (.two .leaf (.two (.two .leaf .leaf) (.two (.one (.two .leaf .leaf)) .leaf)))))) (.two .leaf .leaf))))))
def S24_14 (a0 : Value) (vs_1 : List Value) (H_2 : AHeap) (again_3 : List Value → AHeap → Prop) : Prop :=
 aJoin (fun vs_5 H_6 =>
 bnd (aBin .add .no (nth vs_1 1) (.int .i64 1)) fun t22_8 =>
 again_3 [(nth vs_5 0), t22_8] H_6) fun J_7 =>
 bnd (aIdxAddr 1 a0 (nth vs_1 1)) fun t13_9 =>
 bnd (aLdCell t13_9 H_2) fun t14_10 =>
 bnd (aLenSl t14_10) fun t17_11 =>
 bnd (aBin .add .no (nth vs_1 0) t17_11) fun t18_12 =>
 bnd (aBin .lss .no t18_12 (.int .i64 0)) fun t20_13 =>
 aCond t20_13 (
 False) (
 J_7 [t18_12] H_2)
def S24_27 (a0 : Value) (R : Value → AHeap → Prop) (t26_17 : Value) (vs_18 : List Value) (H_19 : AHeap) (again_20 : List Value → AHeap → Prop) : Prop :=
 bnd (aBin .lss .no (nth vs_18 1) t26_17) fun t28_21 =>
 aCond t28_21 (
 bnd (aIdxAddr 1 a0 (nth vs_18 1)) fun t29_22 =>
 bnd (aLdCell t29_22 H_19) fun t30_23 =>
 aAppend 1 8 3 (nth vs_18 0) t30_23 H_19 fun t33_24 H_25 =>
 bnd (aBin .add .no (nth vs_18 1) (.int .i64 1)) fun t34_26 =>
 again_20 [t33_24, t34_26] H_25) (
 R (nth vs_18 0) H_19)
def S24_28 (a0 : Value) (R : Value → AHeap → Prop) (t10_0 : Value) (vs_1 : List Value) (H_2 : AHeap) (again_3 : List Value → AHeap → Prop) : Prop :=
 bnd (aBin .lss .no (nth vs_1 1) t10_0) fun t12_4 =>
 aCond t12_4 (
 (S24_14 a0 vs_1 H_2 again_3)) (
 ACalls Try.prog 28 [(.slice none 0 0), (nth vs_1 0)] H_2 fun t24_15 H_16 =>
 bnd (aLenSl a0) fun t26_17 =>
 aLoop [t24_15, (.int .i64 0)] H_16 fun vs_18 H_19 again_20 =>
 (S24_27 a0 R t26_17 vs_18 H_19 again_20))
def S24 (a0 : Value) (H : AHeap) (R : Value → AHeap → Prop) : Prop :=
 bnd (aLenSl a0) fun t10_0 =>
 aLoop [(.int .i64 0), (.int .i64 0)] H fun vs_1 H_2 again_3 =>
 (S24_28 a0 R t10_0 vs_1 H_2 again_3)
theorem S24_calls {a0 : Value} {H : AHeap} {R : Value → AHeap → Prop} (h : S24 a0 H R) : ACalls Try.prog 24 [a0] H R :=
  have e : S24 a0 H R = awpFn Try.prog (Try.f24.body.getD .skip) Try.f24.results.toList ann24 [a0] H R := by kernel_rfl
  calls_of_awp (fn := Try.f24) (c := Try.f24.body.getD .skip) (an := ann24) (by kernel_rfl) Try.func24 (by kernel_rfl) (by kernel_rfl) (of_decide_eq_true (by kernel_rfl)) (e ▸ h)

/-- 25: marginalia/marginaliaref02.SameInts -/
def ann25 : Ann := (.two .leaf (.two (.two .leaf (.two (.two .leaf .leaf) .leaf)) (.two (.two .leaf (.one (.loop [5] [4, 5, 11, 12, 13, 14, 15, 16, 17, 18, 19, 20, 21, 22, 23, 24, 25] (.two (.two .leaf (.two .leaf .leaf)) (.two (.one (.two (.draw [(0, []), (1, []), (2, []), (3, []), (4, []), (5, []), (6, []), (7, []), (8, [])]) (.two (.two .leaf .leaf) .leaf))) .leaf))))) (.two .leaf .leaf))))
def S25_14 (a0 : Value) (a1 : Value) (R : Value → AHeap → Prop) (vs_3 : List Value) (H_4 : AHeap) (again_5 : List Value → AHeap → Prop) : Prop :=
 bnd (aIdxAddr 1 a0 (nth vs_3 0)) fun t19_8 =>
 bnd (aLdCell t19_8 H_4) fun t20_9 =>
 bnd (aIdxAddr 1 a1 (nth vs_3 0)) fun t23_10 =>
 bnd (aLdCell t23_10 H_4) fun t24_11 =>
 bnd (aBin .neq .no t20_9 t24_11) fun t25_12 =>
 aCond t25_12 (
 R (.bool false) H_4) (
 bnd (aBin .add .no (nth vs_3 0) (.int .i64 1)) fun t16_13 =>
 again_5 [t16_13] H_4)
def S25_15 (a0 : Value) (a1 : Value) (R : Value → AHeap → Prop) (vs_3 : List Value) (H_4 : AHeap) (again_5 : List Value → AHeap → Prop) : Prop :=
 bnd (aLenSl a0) fun t13_6 =>
 bnd (aBin .lss .no (nth vs_3 0) t13_6) fun t14_7 =>
 aCond t14_7 (
 (S25_14 a0 a1 R vs_3 H_4 again_5)) (
 R (.bool true) H_4)
def S25 (a0 : Value) (a1 : Value) (H : AHeap) (R : Value → AHeap → Prop) : Prop :=
 bnd (aLenSl a0) fun t7_0 =>
 bnd (aLenSl a1) fun t9_1 =>
 bnd (aBin .neq .no t7_0 t9_1) fun t10_2 =>
 aCond t10_2 (
 R (.bool false) H) (
 aLoop [(.int .i64 0)] H fun vs_3 H_4 again_5 =>
 (S25_15 a0 a1 R vs_3 H_4 again_5))
theorem S25_calls {a0 a1 : Value} {H : AHeap} {R : Value → AHeap → Prop} (h : S25 a0 a1 H R) : ACalls Try.prog 25 [a0, a1] H R :=
  have e : S25 a0 a1 H R = awpFn Try.prog (Try.f25.body.getD .skip) Try.f25.results.toList ann25 [a0, a1] H R := by kernel_rfl
  calls_of_awp (fn := Try.f25) (c := Try.f25.body.getD .skip) (an := ann25) (by kernel_rfl) Try.func25 (by kernel_rfl) (by kernel_rfl) (of_decide_eq_true (by kernel_rfl)) (e ▸ h)

/-- 26: marginalia/marginaliaref09.soundWrap -/
def ann26 : Ann := (.two .leaf (.two .leaf (.two (.two .leaf (.one (.loop [5, 6] [4, 5, 6, 8, 9, 10, 11, 12, 13, 14, 15, 16, 17, 18, 19, 20, 21, 22, 23, 24, 25] (.two (.two .leaf (.two .leaf .leaf)) (.join [5] [4, 5, 14, 15, 16, 17, 18, 19, 20, 21, 22, 23, 24, 25] (.one (.two (.two .leaf (.two (.two .leaf .leaf) .leaf)) (.two .leaf (.two .leaf .leaf)))) .leaf))))) (.two (.two .leaf (.one (.loop [7] [4, 7, 26, 27, 28, 29, 30, 31, 32, 33, 34, 35, 36, 37, 38, 39, 40, 41, 42, 43, 44, 45, 46, 47, 48] (.two (.two .leaf (.two .leaf .leaf)) (.two (.one (.two .leaf (.two (.two .leaf .leaf) .leaf))) .leaf))))) (.two .leaf .leaf)))))
def S26_16 (a1 : Value) (vs_0 : List Value) (H_1 : AHeap) (J_7 : List Value → AHeap → Prop) : Prop :=
 bnd (aIdxAddr 1 a1 (nth vs_0 1)) fun t21_12 =>
 bnd (aLdCell t21_12 H_1) fun t22_13 =>
 bnd (aBin .eql .no t22_13 (.int .i64 0)) fun t23_14 =>
 aCond t23_14 (
 bnd (aBin .add .no (nth vs_0 0) (.int .i64 1)) fun t25_15 =>
 J_7 [t25_15] H_1) (
 J_7 [(nth vs_0 0)] H_1)
def S26_17 (a1 : Value) (R : Value → AHeap → Prop) (vs_0 : List Value) (H_1 : AHeap) (again_2 : List Value → AHeap → Prop) : Prop :=
 aJoin (fun vs_5 H_6 =>
 bnd (aBin .add .no (nth vs_0 1) (.int .i64 1)) fun t13_8 =>
 again_2 [(nth vs_5 0), t13_8] H_6) fun J_7 =>
 bnd (aIdxAddr 1 a1 (nth vs_0 1)) fun t16_9 =>
 bnd (aLdCell t16_9 H_1) fun t17_10 =>
 bnd (aBin .lss .no t17_10 (.int .i64 0)) fun t18_11 =>
 aCond t18_11 (
 R (.bool false) H_1) (
 (S26_16 a1 vs_0 H_1 J_7))
def S26_74 (a0 : Value) (R : Value → AHeap → Prop) (vs_18 : List Value) (H_19 : AHeap) (again_20 : List Value → AHeap → Prop) : Prop :=
 bnd (aIdxAddr 1 a0 (nth vs_18 0)) fun t34_23 =>
 bnd (aLdCell t34_23 H_19) fun t35_24 =>
 bnd (aBin .lss .no t35_24 (.int .i64 1)) fun t36_25 =>
 aGuardK t36_25 true (fun K_26 H_27 =>
 K_26 (nth vs_18 0) H_27) (fun t38_28 H_29 =>
 aGuardK t36_25 true (fun K_30 H_31 =>
 bnd (aBin .eql .no t38_28 (.int .i64 0)) fun t39_32 =>
 K_30 t39_32 H_31) (fun t39_33 H_34 =>
 aGuardK t36_25 true (fun K_35 H_36 =>
 K_35 t39_33 H_36) (fun t40_37 H_38 =>
 aGuardK t40_37 true (fun K_39 H_40 =>
 K_39 a0 H_40) (fun t41_41 H_42 =>
 aGuardK t40_37 true (fun K_43 H_44 =>
 K_43 (nth vs_18 0) H_44) (fun t42_45 H_46 =>
 aGuardK t40_37 true (fun K_47 H_48 =>
 bnd (aIdxAddr 1 t41_41 t42_45) fun t43_49 =>
 K_47 t43_49 H_48) (fun t43_50 H_51 =>
 aGuardK t40_37 true (fun K_52 H_53 =>
 bnd (aLdCell t43_50 H_53) fun t44_54 =>
 K_52 t44_54 H_53) (fun t44_55 H_56 =>
 aGuardK t40_37 true (fun K_57 H_58 =>
 bnd (aBin .eql .no t44_55 (.int .i64 (-1))) fun t45_59 =>
 K_57 t45_59 H_58) (fun t45_60 H_61 =>
 aGuardK t36_25 true (fun K_62 H_63 =>
 bnd (aPick t40_37 t45_60 (.bool false)) fun t46_64 =>
 K_62 t46_64 H_63) (fun t46_65 H_66 =>
 aGuardK t36_25 true (fun K_67 H_68 =>
 bnd (aUn .not t46_65) fun t47_69 =>
 K_67 t47_69 H_68) (fun t47_70 H_71 =>
 bnd (aPick t36_25 t47_70 (.bool false)) fun t48_72 =>
 aCond t48_72 (
 R (.bool false) H_71) (
 bnd (aBin .add .no (nth vs_18 0) (.int .i64 1)) fun t31_73 =>
 again_20 [t31_73] H_71)) H_66) H_61) H_56) H_51) H_46) H_42) H_38) H_34) H_29) H_19
def S26_77 (a0 : Value) (R : Value → AHeap → Prop) (vs_0 : List Value) (vs_18 : List Value) (H_19 : AHeap) (again_20 : List Value → AHeap → Prop) : Prop :=
 bnd (aLenSl a0) fun t28_21 =>
 bnd (aBin .lss .no (nth vs_18 0) t28_21) fun t29_22 =>
 aCond t29_22 (
 (S26_74 a0 R vs_18 H_19 again_20)) (
 bnd (aLenSl a0) fun t51_75 =>
 bnd (aBin .eql .no (nth vs_0 0) t51_75) fun t52_76 =>
 R t52_76 H_19)
def S26_78 (a0 : Value) (a1 : Value) (R : Value → AHeap → Prop) (vs_0 : List Value) (H_1 : AHeap) (again_2 : List Value → AHeap → Prop) : Prop :=
 bnd (aLenSl a1) fun t10_3 =>
 bnd (aBin .lss .no (nth vs_0 1) t10_3) fun t11_4 =>
 aCond t11_4 (
 (S26_17 a1 R vs_0 H_1 again_2)) (
 aLoop [(.int .i64 0)] H_1 fun vs_18 H_19 again_20 =>
 (S26_77 a0 R vs_0 vs_18 H_19 again_20))
def S26 (a0 : Value) (a1 : Value) (H : AHeap) (R : Value → AHeap → Prop) : Prop :=
 aLoop [(.int .i64 0), (.int .i64 0)] H fun vs_0 H_1 again_2 =>
 (S26_78 a0 a1 R vs_0 H_1 again_2)
theorem S26_calls {a0 a1 : Value} {H : AHeap} {R : Value → AHeap → Prop} (h : S26 a0 a1 H R) : ACalls Try.prog 26 [a0, a1] H R :=
  have e : S26 a0 a1 H R = awpFn Try.prog (Try.f26.body.getD .skip) Try.f26.results.toList ann26 [a0, a1] H R := by kernel_rfl
  calls_of_awp (fn := Try.f26) (c := Try.f26.body.getD .skip) (an := ann26) (by kernel_rfl) Try.func26 (by kernel_rfl) (by kernel_rfl) (of_decide_eq_true (by kernel_rfl)) (e ▸ h)

/-- 27: slices.Equal[[]int,int] -/
def ann27 : Ann := (.two .leaf (.two (.two .leaf (.two (.two .leaf .leaf) .leaf)) (.two (.two .leaf (.one (.loop [13] [4, 5, 13, 14, 15, 16, 17, 18, 19, 20, 21, 22, 23, 24, 25] (.two .leaf (.two (.two .leaf .leaf) (.two (.one (.two .leaf (.two (.draw [(0, []), (1, []), (2, []), (3, []), (4, []), (5, []), (6, []), (7, []), (8, [])]) (.two (.two .leaf .leaf) .leaf)))) .leaf)))))) (.two .leaf .leaf))))
def S27_14 (a0 : Value) (a1 : Value) (R : Value → AHeap → Prop) (vs_4 : List Value) (H_5 : AHeap) (again_6 : List Value → AHeap → Prop) : Prop :=
 bnd (aIdxAddr 1 a0 (nth vs_4 0)) fun t18_8 =>
 bnd (aLdCell t18_8 H_5) fun t19_9 =>
 bnd (aIdxAddr 1 a1 (nth vs_4 0)) fun t22_10 =>
 bnd (aLdCell t22_10 H_5) fun t23_11 =>
 bnd (aBin .neq .no t19_9 t23_11) fun t24_12 =>
 aCond t24_12 (
 R (.bool false) H_5) (
 bnd (aBin .add .no (nth vs_4 0) (.int .i64 1)) fun t25_13 =>
 again_6 [t25_13] H_5)
def S27_15 (a0 : Value) (a1 : Value) (R : Value → AHeap → Prop) (t12_3 : Value) (vs_4 : List Value) (H_5 : AHeap) (again_6 : List Value → AHeap → Prop) : Prop :=
 bnd (aBin .lss .no (nth vs_4 0) t12_3) fun t14_7 =>
 aCond t14_7 (
 (S27_14 a0 a1 R vs_4 H_5 again_6)) (
 R (.bool true) H_5)
def S27 (a0 : Value) (a1 : Value) (H : AHeap) (R : Value → AHeap → Prop) : Prop :=
 bnd (aLenSl a0) fun t7_0 =>
 bnd (aLenSl a1) fun t9_1 =>
 bnd (aBin .neq .no t7_0 t9_1) fun t10_2 =>
 aCond t10_2 (
 R (.bool false) H) (
 bnd (aLenSl a0) fun t12_3 =>
 aLoop [(.int .i64 0)] H fun vs_4 H_5 again_6 =>
 (S27_15 a0 a1 R t12_3 vs_4 H_5 again_6))
theorem S27_calls {a0 a1 : Value} {H : AHeap} {R : Value → AHeap → Prop} (h : S27 a0 a1 H R) : ACalls Try.prog 27 [a0, a1] H R :=
  have e : S27 a0 a1 H R = awpFn Try.prog (Try.f27.body.getD .skip) Try.f27.results.toList ann27 [a0, a1] H R := by kernel_rfl
  calls_of_awp (fn := Try.f27) (c := Try.f27.body.getD .skip) (an := ann27) (by kernel_rfl) Try.func27 (by kernel_rfl) (by kernel_rfl) (of_decide_eq_true (by kernel_rfl)) (e ▸ h)

/-- 28: slices.Grow[[]int,int] -/
def ann28 : Ann := (.two .leaf (.join [] [5, 6, 7] (.two .leaf (.two .leaf .leaf)) (.join [0] [0, 1, 8, 9, 10, 11, 12, 13, 14, 15, 16, 17, 18, 19, 20, 21, 22, 23, 24, 25] (.two .leaf (.two .leaf (.two .leaf .leaf))) (.two .leaf .leaf))))
def S28_18 (a0 : Value) (a1 : Value) (R : Value → AHeap → Prop) (H_1 : AHeap) : Prop :=
 aJoin (fun vs_3 H_4 =>
 R (nth vs_3 0) H_4) fun J_5 =>
 bnd (aCap a0) fun t10_6 =>
 bnd (aLenSl a0) fun t12_7 =>
 bnd (aBin .sub .no t10_6 t12_7) fun t13_8 =>
 bnd (aBin .sub .no a1 t13_8) fun t14_9 =>
 bnd (aBin .gtr .no t14_9 (.int .i64 0)) fun t16_10 =>
 aCond t16_10 (
 bnd (aCap a0) fun t19_11 =>
 bnd (aSliceSl 1 a0 none (some t19_11)) fun t20_12 =>
 aZeros 8 3 [(.int .i64 0)] t20_12 t14_9 H_1 fun t22_13 H_14 =>
 bnd (aLenSl a0) fun t24_15 =>
 bnd (aSliceSl 1 t22_13 none (some t24_15)) fun t25_16 =>
 J_5 [t25_16] H_14) (
 J_5 [a0] H_1)
def S28 (a0 : Value) (a1 : Value) (H : AHeap) (R : Value → AHeap → Prop) : Prop :=
 aJoin (fun vs_0 H_1 =>
 (S28_18 a0 a1 R H_1)) fun J_2 =>
 bnd (aBin .lss .no a1 (.int .i64 0)) fun t6_17 =>
 aCond t6_17 (
 False) (
 J_2 [] H)
theorem S28_calls {a0 a1 : Value} {H : AHeap} {R : Value → AHeap → Prop} (h : S28 a0 a1 H R) : ACalls Try.prog 28 [a0, a1] H R :=
  have e : S28 a0 a1 H R = awpFn Try.prog (Try.f28.body.getD .skip) Try.f28.results.toList ann28 [a0, a1] H R := by kernel_rfl
  calls_of_awp (fn := Try.f28) (c := Try.f28.body.getD .skip) (an := ann28) (by kernel_rfl) Try.func28 (by kernel_rfl) (by kernel_rfl) (of_decide_eq_true (by kernel_rfl)) (e ▸ h)

end Go.Proofs.Ytcjckenainacaaa.A
