/- Contracts of functions that the statement reaches; each theorem carries its own conditions, the last theorem of the claim has none. -/
import Derived.Test.YtngldjajfpbmbaaAbsY
import Derived.Test.YtngldjajfpbmbaaProg
import Derived.KernelRfl
/- The texts that functions' bodies come to (printed by gen.lean, a tool of our own). -/
set_option linter.unusedVariables false
set_option maxRecDepth 100000
namespace Go.Proofs.Ytngldjajfpbmbaa.A
open Go Go.Abs

/-- 7: marginalia/marginalialaw07.SameTells -/
def ann7 : Ann := (.two .leaf (.join [3] [3, 16, 17] (.two .leaf (.two .leaf .leaf)) (.two .leaf (.two (.two .leaf (.two (.two .leaf .leaf) .leaf)) (.two .leaf (.two .leaf (.two (.two (.draw [(0, []), (1, []), (2, []), (4, []), (5, []), (6, []), (3, [5, 6]), (7, []), (8, [])]) (.two (.two .leaf .leaf) .leaf)) (.two (.two .leaf (.two (.two .leaf .leaf) .leaf)) (.two .leaf .leaf)))))))))
def S7_68 (R : Value → AHeap → Prop) (t35_28 : Value) (t36_29 : Value) (t37_30 : Value) (H_44 : AHeap) : Prop :=
 bnd (aUn .not t35_28) fun t58_47 =>
 aGuardK t58_47 true (fun K_48 H_49 =>
 K_48 t36_29 H_49) (fun t60_50 H_51 =>
 aGuardK t58_47 true (fun K_52 H_53 =>
 bnd (aBin .eql .no t60_50 (.int .i64 0)) fun t61_54 =>
 K_52 t61_54 H_53) (fun t61_55 H_56 =>
 bnd (aPick t58_47 t61_55 (.bool false)) fun t62_57 =>
 aGuardK t62_57 true (fun K_58 H_59 =>
 K_58 t37_30 H_59) (fun t64_60 H_61 =>
 aGuardK t62_57 true (fun K_62 H_63 =>
 bnd (aBin .eql .no t64_60 (.int .i64 15)) fun t65_64 =>
 K_62 t65_64 H_63) (fun t65_65 H_66 =>
 bnd (aPick t62_57 t65_65 (.bool false)) fun t66_67 =>
 R t66_67 H_66) H_61) H_56) H_51) H_44
def S7_94 (R : Value → AHeap → Prop) (t35_28 : Value) (t36_29 : Value) (t37_30 : Value) (t44_35 : Value) (t45_36 : Value) (H_44 : AHeap) : Prop :=
 bnd (aBin .eql .bool t35_28 t44_35) fun t69_69 =>
 aGuardK t69_69 true (fun K_70 H_71 =>
 K_70 t36_29 H_71) (fun t71_72 H_73 =>
 aGuardK t69_69 true (fun K_74 H_75 =>
 K_74 t45_36 H_75) (fun t72_76 H_77 =>
 aGuardK t69_69 true (fun K_78 H_79 =>
 bnd (aBin .eql .no t71_72 t72_76) fun t73_80 =>
 K_78 t73_80 H_79) (fun t73_81 H_82 =>
 bnd (aPick t69_69 t73_81 (.bool false)) fun t74_83 =>
 aGuardK t74_83 true (fun K_84 H_85 =>
 K_84 t37_30 H_85) (fun t76_86 H_87 =>
 aGuardK t74_83 true (fun K_88 H_89 =>
 bnd (aBin .eql .no t76_86 (.int .i64 0)) fun t77_90 =>
 K_88 t77_90 H_89) (fun t77_91 H_92 =>
 bnd (aPick t74_83 t77_91 (.bool false)) fun t78_93 =>
 R t78_93 H_92) H_87) H_82) H_77) H_73) H_44
def S7_97 (R : Value → AHeap → Prop) (t5_0 : Value) (t6_2 : Value) (t22_10 : Value) (t35_28 : Value) (t36_29 : Value) (t37_30 : Value) (t44_35 : Value) (t45_36 : Value) (t51_39 : Value) (t52_40 : Value) (t49_41 : Value) (H_42 : AHeap) : Prop :=
 ((bnd (aLdAgg 2 t5_0 H_42) fun t51_95 =>
 t51_95 = t51_39) ∧ (bnd (aLdAgg 2 t6_2 H_42) fun t52_96 =>
 t52_96 = t52_40)) ∧
 ACalls Try.prog 27 [t22_10, t51_39, t52_40] H_42 fun t53_43 H_44 =>
 bnd (aBin .neq .bool t49_41 t53_43) fun t54_45 =>
 aCond t54_45 (
 R (.bool false) H_44) (
 bnd (aBin .lss .no t45_36 (.int .i64 0)) fun t56_46 =>
 aCond t56_46 (
 (S7_68 R t35_28 t36_29 t37_30 H_44)) (
 (S7_94 R t35_28 t36_29 t37_30 t44_35 t45_36 H_44)))
def S7_98 (R : Value → AHeap → Prop) (t5_0 : Value) (t6_2 : Value) (vs_4 : List Value) (t21_9 : Value) (t22_10 : Value) (t34_26 : Value) (H_27 : AHeap) : Prop :=
 bnd (aExtract t34_26 0) fun t35_28 =>
 bnd (aExtract t34_26 1) fun t36_29 =>
 bnd (aExtract t34_26 2) fun t37_30 =>
 bnd (aLdAgg 2 t5_0 H_27) fun t40_31 =>
 bnd (aLdAgg 2 t6_2 H_27) fun t41_32 =>
 ACalls Try.prog 26 [t22_10, t40_31, t41_32, (nth vs_4 0)] H_27 fun t43_33 H_34 =>
 bnd (aExtract t43_33 0) fun t44_35 =>
 bnd (aExtract t43_33 1) fun t45_36 =>
 bnd (aLdAgg 2 t5_0 H_34) fun t47_37 =>
 bnd (aLdAgg 2 t6_2 H_34) fun t48_38 =>
 bnd (aLdAgg 2 t5_0 H_34) fun t51_39 =>
 bnd (aLdAgg 2 t6_2 H_34) fun t52_40 =>
 ACalls Try.prog 22 [t21_9, t47_37, t48_38] H_34 fun t49_41 H_42 =>
 (S7_97 R t5_0 t6_2 t22_10 t35_28 t36_29 t37_30 t44_35 t45_36 t51_39 t52_40 t49_41 H_42)
def S7_99 (R : Value → AHeap → Prop) (t5_0 : Value) (t6_2 : Value) (vs_4 : List Value) (t21_9 : Value) (t22_10 : Value) (t23_11 : Value) (H_12 : AHeap) : Prop :=
 bnd (aUn .not t23_11) fun t24_13 =>
 aGuardK t24_13 false (fun K_14 H_15 =>
 K_14 t21_9 H_15) (fun t26_16 H_17 =>
 aGuardK t24_13 false (fun K_18 H_19 =>
 bnd (aBin .eql .ptr t26_16 (.pointer none)) fun t27_20 =>
 K_18 t27_20 H_19) (fun t27_21 H_22 =>
 bnd (aPick t24_13 (.bool true) t27_21) fun t28_23 =>
 aCond t28_23 (
 R (.bool false) H_22) (
 bnd (aLdAgg 2 t5_0 H_22) fun t31_24 =>
 bnd (aLdAgg 2 t6_2 H_22) fun t32_25 =>
 ACalls Try.prog 21 [t21_9, t31_24, t32_25, (nth vs_4 0)] H_22 fun t34_26 H_27 =>
 (S7_98 R t5_0 t6_2 vs_4 t21_9 t22_10 t34_26 H_27))) H_17) H_12
def S7_101 (a0 : Value) (R : Value → AHeap → Prop) (t5_0 : Value) (t6_2 : Value) (vs_4 : List Value) (H_5 : AHeap) : Prop :=
 ACalls Try.prog 25 [a0] H_5 fun t20_7 H_8 =>
 bnd (aExtract t20_7 0) fun t21_9 =>
 bnd (aExtract t20_7 1) fun t22_10 =>
 ACalls Try.prog 20 [] H_8 fun t23_11 H_12 =>
 (S7_99 R t5_0 t6_2 vs_4 t21_9 t22_10 t23_11 H_12)
def S7 (a0 : Value) (a1 : Value) (a2 : Value) (a3 : Value) (H : AHeap) (R : Value → AHeap → Prop) : Prop :=
 aBox 28 a1 H fun t5_0 H_1 =>
 aBox 28 a2 H_1 fun t6_2 H_3 =>
 aJoin (fun vs_4 H_5 =>
 (S7_101 a0 R t5_0 t6_2 vs_4 H_5)) fun J_6 =>
 bnd (aBin .gtr .no a3 (.int .i64 3000)) fun t17_100 =>
 aCond t17_100 (
 J_6 [(.int .i64 3000)] H_3) (
 J_6 [a3] H_3)
theorem S7_calls {a0 a1 a2 a3 : Value} {H : AHeap} {R : Value → AHeap → Prop} (h : S7 a0 a1 a2 a3 H R) : ACalls Try.prog 7 [a0, a1, a2, a3] H R :=
  have e : S7 a0 a1 a2 a3 H R = awpFn Try.prog (Try.f7.body.getD .skip) Try.f7.results.toList ann7 [a0, a1, a2, a3] H R := by kernel_rfl
  calls_of_awp (fn := Try.f7) (c := Try.f7.body.getD .skip) (an := ann7) (by kernel_rfl) Try.func7 (by kernel_rfl) (by kernel_rfl) (of_decide_eq_true (by kernel_rfl)) (e ▸ h)

/-- 8: marginalia/marginalialaw07.SameBoth -/
def ann8 : Ann := (.two .leaf (.two .leaf (.two (.two .leaf (.two (.two .leaf .leaf) .leaf)) (.two .leaf (.two .leaf (.two .leaf (.two (.two (.draw [(0, []), (1, []), (2, []), (3, []), (4, []), (5, []), (6, []), (7, []), (8, []), (9, []), (10, []), (11, []), (12, []), (13, []), (15, []), (16, []), (17, []), (14, [16, 17]), (18, []), (19, []), (20, []), (21, []), (22, []), (23, []), (24, []), (25, []), (26, []), (27, [])]) (.two (.two .leaf .leaf) .leaf)) (.two (.two .leaf (.two (.two .leaf .leaf) .leaf)) (.two .leaf (.two .leaf (.two .leaf (.two .leaf .leaf))))))))))))
def S8_312 (a3 : Value) (R : Value → AHeap → Prop) (t5_0 : Value) (t6_2 : Value) (t32_6 : Value) (t45_25 : Value) (t46_26 : Value) (t53_32 : Value) (t55_34 : Value) (t105_143 : Value) (t106_144 : Value) (t107_145 : Value) (t115_151 : Value) (t116_152 : Value) (t117_153 : Value) (t124_157 : Value) (H_158 : AHeap) : Prop :=
 bnd (aExtract t124_157 0) fun t125_159 =>
 bnd (aExtract t124_157 1) fun t126_160 =>
 bnd (aExtract t124_157 2) fun t127_161 =>
 bnd (aBin .eql .no t55_34 (.int .i64 0)) fun t129_162 =>
 aGuardK t129_162 true (fun K_163 H_164 =>
 K_163 t45_25 H_164) (fun t131_165 H_166 =>
 aGuardK t129_162 true (fun K_167 H_168 =>
 K_167 t53_32 H_168) (fun t132_169 H_170 =>
 aGuardK t129_162 true (fun K_171 H_172 =>
 bnd (aBin .eql .bool t131_165 t132_169) fun t133_173 =>
 K_171 t133_173 H_172) (fun t133_174 H_175 =>
 bnd (aPick t129_162 t133_174 (.bool false)) fun t134_176 =>
 aGuardK t134_176 true (fun K_177 H_178 =>
 K_177 t107_145 H_178) (fun t136_179 H_180 =>
 aGuardK t134_176 true (fun K_181 H_182 =>
 bnd (aBin .eql .no t136_179 (.int .i64 0)) fun t137_183 =>
 K_181 t137_183 H_182) (fun t137_184 H_185 =>
 bnd (aPick t134_176 t137_184 (.bool false)) fun t138_186 =>
 aGuardK t138_186 true (fun K_187 H_188 =>
 K_187 t105_143 H_188) (fun t140_189 H_190 =>
 aGuardK t138_186 true (fun K_191 H_192 =>
 K_191 t45_25 H_192) (fun t141_193 H_194 =>
 aGuardK t138_186 true (fun K_195 H_196 =>
 bnd (aBin .eql .bool t140_189 t141_193) fun t142_197 =>
 K_195 t142_197 H_196) (fun t142_198 H_199 =>
 bnd (aPick t138_186 t142_198 (.bool false)) fun t143_200 =>
 aGuardK t143_200 true (fun K_201 H_202 =>
 K_201 t106_144 H_202) (fun t145_203 H_204 =>
 aGuardK t143_200 true (fun K_205 H_206 =>
 K_205 t46_26 H_206) (fun t146_207 H_208 =>
 aGuardK t143_200 true (fun K_209 H_210 =>
 K_209 a3 H_210) (fun t147_211 H_212 =>
 aGuardK t143_200 true (fun K_213 H_214 =>
 bnd (aConvInt .i64 t147_211) fun t148_215 =>
 K_213 t148_215 H_214) (fun t148_216 H_217 =>
 aGuardK t143_200 true (fun K_218 H_219 =>
 bnd (aBin .add .no t146_207 t148_216) fun t149_220 =>
 K_218 t149_220 H_219) (fun t149_221 H_222 =>
 aGuardK t143_200 true (fun K_223 H_224 =>
 bnd (aBin .eql .no t145_203 t149_221) fun t150_225 =>
 K_223 t150_225 H_224) (fun t150_226 H_227 =>
 bnd (aPick t143_200 t150_226 (.bool false)) fun t151_228 =>
 aGuardK t151_228 true (fun K_229 H_230 =>
 K_229 t117_153 H_230) (fun t153_231 H_232 =>
 aGuardK t151_228 true (fun K_233 H_234 =>
 bnd (aBin .eql .no t153_231 (.int .i64 0)) fun t154_235 =>
 K_233 t154_235 H_234) (fun t154_236 H_237 =>
 bnd (aPick t151_228 t154_236 (.bool false)) fun t155_238 =>
 aGuardK t155_238 true (fun K_239 H_240 =>
 K_239 t115_151 H_240) (fun t157_241 H_242 =>
 aGuardK t155_238 true (fun K_243 H_244 =>
 K_243 t45_25 H_244) (fun t158_245 H_246 =>
 aGuardK t155_238 true (fun K_247 H_248 =>
 bnd (aBin .eql .bool t157_241 t158_245) fun t159_249 =>
 K_247 t159_249 H_248) (fun t159_250 H_251 =>
 bnd (aPick t155_238 t159_250 (.bool false)) fun t160_252 =>
 aGuardK t160_252 true (fun K_253 H_254 =>
 K_253 t116_152 H_254) (fun t162_255 H_256 =>
 aGuardK t160_252 true (fun K_257 H_258 =>
 bnd (aBin .eql .no t162_255 (.int .i64 0)) fun t163_259 =>
 K_257 t163_259 H_258) (fun t163_260 H_261 =>
 bnd (aPick t160_252 t163_260 (.bool false)) fun t164_262 =>
 aGuardK t164_262 true (fun K_263 H_264 =>
 K_263 t127_161 H_264) (fun t166_265 H_266 =>
 aGuardK t164_262 true (fun K_267 H_268 =>
 bnd (aBin .eql .no t166_265 (.int .i64 15)) fun t167_269 =>
 K_267 t167_269 H_268) (fun t167_270 H_271 =>
 bnd (aPick t164_262 t167_270 (.bool false)) fun t168_272 =>
 aGuardK t168_272 true (fun K_273 H_274 =>
 K_273 t32_6 H_274) (fun t170_275 H_276 =>
 aGuardK t168_272 true (fun K_277 H_278 =>
 bnd (aLdAgg 2 t5_0 H_278) fun t171_279 =>
 K_277 t171_279 H_278) (fun t171_280 H_281 =>
 aGuardK t168_272 true (fun K_282 H_283 =>
 bnd (aLdAgg 2 t6_2 H_283) fun t172_284 =>
 K_282 t172_284 H_283) (fun t172_285 H_286 =>
 aGuardK t168_272 true (fun K_287 H_288 =>
 ACalls Try.prog 22 [t170_275, t171_280, t172_285] H_288 fun t173_289 H_290 =>
 K_287 t173_289 H_290) (fun t173_291 H_292 =>
 aGuardK t168_272 true (fun K_293 H_294 =>
 bnd (aUn .not t173_291) fun t174_295 =>
 K_293 t174_295 H_294) (fun t174_296 H_297 =>
 aGuardK t168_272 true (fun K_298 H_299 =>
 K_298 t174_296 H_299) (fun t175_300 H_301 =>
 aGuardK t175_300 false (fun K_302 H_303 =>
 K_302 t45_25 H_303) (fun t176_304 H_305 =>
 aGuardK t168_272 true (fun K_306 H_307 =>
 bnd (aPick t175_300 (.bool true) t176_304) fun t177_308 =>
 K_306 t177_308 H_307) (fun t177_309 H_310 =>
 bnd (aPick t168_272 t177_309 (.bool false)) fun t178_311 =>
 R t178_311 H_310) H_305) H_301) H_297) H_292) H_286) H_281) H_276) H_271) H_266) H_261) H_256) H_251) H_246) H_242) H_237) H_232) H_227) H_222) H_217) H_212) H_208) H_204) H_199) H_194) H_190) H_185) H_180) H_175) H_170) H_166) H_158
def S8_313 (a3 : Value) (R : Value → AHeap → Prop) (t5_0 : Value) (t6_2 : Value) (t32_6 : Value) (t45_25 : Value) (t46_26 : Value) (t53_32 : Value) (t55_34 : Value) (t105_143 : Value) (t106_144 : Value) (t107_145 : Value) (t114_149 : Value) (H_150 : AHeap) : Prop :=
 bnd (aExtract t114_149 0) fun t115_151 =>
 bnd (aExtract t114_149 1) fun t116_152 =>
 bnd (aExtract t114_149 2) fun t117_153 =>
 bnd (aLdAgg 2 t5_0 H_150) fun t120_154 =>
 bnd (aLdAgg 2 t6_2 H_150) fun t121_155 =>
 bnd (aBin .sub .no (.int .i64 399) t46_26) fun t123_156 =>
 ACalls Try.prog 21 [t32_6, t120_154, t121_155, t123_156] H_150 fun t124_157 H_158 =>
 (S8_312 a3 R t5_0 t6_2 t32_6 t45_25 t46_26 t53_32 t55_34 t105_143 t106_144 t107_145 t115_151 t116_152 t117_153 t124_157 H_158)
def S8_314 (a3 : Value) (R : Value → AHeap → Prop) (t5_0 : Value) (t6_2 : Value) (t32_6 : Value) (t45_25 : Value) (t46_26 : Value) (t53_32 : Value) (t55_34 : Value) (t104_141 : Value) (H_142 : AHeap) : Prop :=
 bnd (aExtract t104_141 0) fun t105_143 =>
 bnd (aExtract t104_141 1) fun t106_144 =>
 bnd (aExtract t104_141 2) fun t107_145 =>
 bnd (aLdAgg 2 t5_0 H_142) fun t110_146 =>
 bnd (aLdAgg 2 t6_2 H_142) fun t111_147 =>
 bnd (aBin .sub .no (.int .i64 400) t46_26) fun t113_148 =>
 ACalls Try.prog 21 [t32_6, t110_146, t111_147, t113_148] H_142 fun t114_149 H_150 =>
 (S8_313 a3 R t5_0 t6_2 t32_6 t45_25 t46_26 t53_32 t55_34 t105_143 t106_144 t107_145 t114_149 H_150)
def S8_315 (a3 : Value) (R : Value → AHeap → Prop) (t5_0 : Value) (t6_2 : Value) (t32_6 : Value) (t45_25 : Value) (t46_26 : Value) (t53_32 : Value) (t55_34 : Value) (H_133 : AHeap) : Prop :=
 bnd (aLdAgg 2 t5_0 H_133) fun t99_137 =>
 bnd (aLdAgg 2 t6_2 H_133) fun t100_138 =>
 bnd (aConvInt .i64 a3) fun t102_139 =>
 bnd (aBin .add .no (.int .i64 400) t102_139) fun t103_140 =>
 ACalls Try.prog 21 [t32_6, t99_137, t100_138, t103_140] H_133 fun t104_141 H_142 =>
 (S8_314 a3 R t5_0 t6_2 t32_6 t45_25 t46_26 t53_32 t55_34 t104_141 H_142)
def S8_322 (a3 : Value) (R : Value → AHeap → Prop) (t5_0 : Value) (t6_2 : Value) (t32_6 : Value) (t45_25 : Value) (t46_26 : Value) (t47_27 : Value) (t53_32 : Value) (t55_34 : Value) (t60_37 : Value) (H_38 : AHeap) : Prop :=
 bnd (aExtract t60_37 0) fun t61_39 =>
 bnd (aExtract t60_37 1) fun t62_40 =>
 bnd (aExtract t60_37 2) fun t63_41 =>
 bnd (aUn .not t61_39) fun t65_42 =>
 aGuardK t65_42 false (fun K_43 H_44 =>
 K_43 t62_40 H_44) (fun t67_45 H_46 =>
 aGuardK t65_42 false (fun K_47 H_48 =>
 bnd (aBin .neq .no t67_45 (.int .i64 0)) fun t68_49 =>
 K_47 t68_49 H_48) (fun t68_50 H_51 =>
 bnd (aPick t65_42 (.bool true) t68_50) fun t69_52 =>
 aGuardK t69_52 false (fun K_53 H_54 =>
 K_53 t63_41 H_54) (fun t71_55 H_56 =>
 aGuardK t69_52 false (fun K_57 H_58 =>
 bnd (aBin .neq .no t71_55 (.int .i64 0)) fun t72_59 =>
 K_57 t72_59 H_58) (fun t72_60 H_61 =>
 bnd (aPick t69_52 (.bool true) t72_60) fun t73_62 =>
 aGuardK t73_62 false (fun K_63 H_64 =>
 K_63 t32_6 H_64) (fun t75_65 H_66 =>
 aGuardK t73_62 false (fun K_67 H_68 =>
 bnd (aLdAgg 2 t5_0 H_68) fun t76_69 =>
 K_67 t76_69 H_68) (fun t76_70 H_71 =>
 aGuardK t73_62 false (fun K_72 H_73 =>
 bnd (aLdAgg 2 t6_2 H_73) fun t77_74 =>
 K_72 t77_74 H_73) (fun t77_75 H_76 =>
 aGuardK t73_62 false (fun K_77 H_78 =>
 K_77 t32_6 H_78) (fun t79_79 H_80 =>
 aGuardK t73_62 false (fun K_81 H_82 =>
 bnd (aLdAgg 2 t6_2 H_82) fun t80_83 =>
 K_81 t80_83 H_82) (fun t80_84 H_85 =>
 aGuardK t73_62 false (fun K_86 H_87 =>
 bnd (aLdAgg 2 t5_0 H_87) fun t81_88 =>
 K_86 t81_88 H_87) (fun t81_89 H_90 =>
 aGuardK t73_62 false (fun K_91 H_92 =>
 ACalls Try.prog 22 [t75_65, t76_70, t77_75] H_92 fun t78_93 H_94 =>
 K_91 t78_93 H_94) (fun t78_95 H_96 =>
 ((aGuardK t73_62 false (fun K_316 H_317 =>
 bnd (aLdAgg 2 t6_2 H_317) fun t80_318 =>
 K_316 t80_318 H_317) (fun v _ => v = t80_84) H_96) ∧ (aGuardK t73_62 false (fun K_319 H_320 =>
 bnd (aLdAgg 2 t5_0 H_320) fun t81_321 =>
 K_319 t81_321 H_320) (fun v _ => v = t81_89) H_96)) ∧
 aGuardK t73_62 false (fun K_97 H_98 =>
 ACalls Try.prog 22 [t79_79, t80_84, t81_89] H_98 fun t82_99 H_100 =>
 K_97 t82_99 H_100) (fun t82_101 H_102 =>
 aGuardK t73_62 false (fun K_103 H_104 =>
 bnd (aBin .neq .bool t78_95 t82_101) fun t83_105 =>
 K_103 t83_105 H_104) (fun t83_106 H_107 =>
 bnd (aPick t73_62 (.bool true) t83_106) fun t84_108 =>
 aGuardK t84_108 false (fun K_109 H_110 =>
 K_109 t32_6 H_110) (fun t86_111 H_112 =>
 aGuardK t84_108 false (fun K_113 H_114 =>
 bnd (aLdAgg 2 t5_0 H_114) fun t87_115 =>
 K_113 t87_115 H_114) (fun t87_116 H_117 =>
 aGuardK t84_108 false (fun K_118 H_119 =>
 bnd (aLdAgg 2 t5_0 H_119) fun t88_120 =>
 K_118 t88_120 H_119) (fun t88_121 H_122 =>
 aGuardK t84_108 false (fun K_123 H_124 =>
 ACalls Try.prog 22 [t86_111, t87_116, t88_121] H_124 fun t89_125 H_126 =>
 K_123 t89_125 H_126) (fun t89_127 H_128 =>
 aGuardK t84_108 false (fun K_129 H_130 =>
 bnd (aUn .not t89_127) fun t90_131 =>
 K_129 t90_131 H_130) (fun t90_132 H_133 =>
 bnd (aPick t84_108 (.bool true) t90_132) fun t91_134 =>
 aCond t91_134 (
 R (.bool false) H_133) (
 bnd (aBin .neq .no t47_27 (.int .i64 0)) fun t93_135 =>
 aCond t93_135 (
 bnd (aBin .eql .no t55_34 t47_27) fun t96_136 =>
 R t96_136 H_133) (
 (S8_315 a3 R t5_0 t6_2 t32_6 t45_25 t46_26 t53_32 t55_34 H_133)))) H_128) H_122) H_117) H_112) H_107) H_102) H_96) H_90) H_85) H_80) H_76) H_71) H_66) H_61) H_56) H_51) H_46) H_38
def S8_323 (a3 : Value) (R : Value → AHeap → Prop) (t5_0 : Value) (t6_2 : Value) (t32_6 : Value) (t44_23 : Value) (H_24 : AHeap) : Prop :=
 bnd (aExtract t44_23 0) fun t45_25 =>
 bnd (aExtract t44_23 1) fun t46_26 =>
 bnd (aExtract t44_23 2) fun t47_27 =>
 bnd (aLdAgg 2 t6_2 H_24) fun t50_28 =>
 bnd (aLdAgg 2 t5_0 H_24) fun t51_29 =>
 ACalls Try.prog 21 [t32_6, t50_28, t51_29, (.int .i64 400)] H_24 fun t52_30 H_31 =>
 bnd (aExtract t52_30 0) fun t53_32 =>
 bnd (aExtract t52_30 1) fun t54_33 =>
 bnd (aExtract t52_30 2) fun t55_34 =>
 bnd (aLdAgg 2 t5_0 H_31) fun t58_35 =>
 bnd (aLdAgg 2 t5_0 H_31) fun t59_36 =>
 ACalls Try.prog 21 [t32_6, t58_35, t59_36, (.int .i64 1)] H_31 fun t60_37 H_38 =>
 (S8_322 a3 R t5_0 t6_2 t32_6 t45_25 t46_26 t47_27 t53_32 t55_34 t60_37 H_38)
def S8_324 (a3 : Value) (R : Value → AHeap → Prop) (t5_0 : Value) (t6_2 : Value) (t32_6 : Value) (t34_8 : Value) (H_9 : AHeap) : Prop :=
 bnd (aUn .not t34_8) fun t35_10 =>
 aGuardK t35_10 false (fun K_11 H_12 =>
 K_11 t32_6 H_12) (fun t37_13 H_14 =>
 aGuardK t35_10 false (fun K_15 H_16 =>
 bnd (aBin .eql .ptr t37_13 (.pointer none)) fun t38_17 =>
 K_15 t38_17 H_16) (fun t38_18 H_19 =>
 bnd (aPick t35_10 (.bool true) t38_18) fun t39_20 =>
 aCond t39_20 (
 R (.bool false) H_19) (
 bnd (aLdAgg 2 t5_0 H_19) fun t42_21 =>
 bnd (aLdAgg 2 t6_2 H_19) fun t43_22 =>
 ACalls Try.prog 21 [t32_6, t42_21, t43_22, (.int .i64 400)] H_19 fun t44_23 H_24 =>
 (S8_323 a3 R t5_0 t6_2 t32_6 t44_23 H_24))) H_14) H_9
def S8 (a0 : Value) (a1 : Value) (a2 : Value) (a3 : Value) (H : AHeap) (R : Value → AHeap → Prop) : Prop :=
 aBox 28 a1 H fun t5_0 H_1 =>
 aBox 28 a2 H_1 fun t6_2 H_3 =>
 ACalls Try.prog 25 [a0] H_3 fun t31_4 H_5 =>
 bnd (aExtract t31_4 0) fun t32_6 =>
 bnd (aExtract t31_4 1) fun t33_7 =>
 ACalls Try.prog 20 [] H_5 fun t34_8 H_9 =>
 (S8_324 a3 R t5_0 t6_2 t32_6 t34_8 H_9)
theorem S8_calls {a0 a1 a2 a3 : Value} {H : AHeap} {R : Value → AHeap → Prop} (h : S8 a0 a1 a2 a3 H R) : ACalls Try.prog 8 [a0, a1, a2, a3] H R :=
  have e : S8 a0 a1 a2 a3 H R = awpFn Try.prog (Try.f8.body.getD .skip) Try.f8.results.toList ann8 [a0, a1, a2, a3] H R := by kernel_rfl
  calls_of_awp (fn := Try.f8) (c := Try.f8.body.getD .skip) (an := ann8) (by kernel_rfl) Try.func8 (by kernel_rfl) (by kernel_rfl) (of_decide_eq_true (by kernel_rfl)) (e ▸ h)

/-- 10: marginalia/marginalialaw06.StoreSound -/
def ann10 : Ann := (.two .leaf (.two .leaf (.two (.two .leaf (.two (.two .leaf .leaf) .leaf)) (.two .leaf (.two (.two .leaf (.one (.loop [8] [8, 22, 23, 24, 25, 26, 27, 28, 29, 30, 31, 32, 33, 34, 35, 36, 37, 38, 39, 40, 41, 42, 43, 44, 45] (.two (.two .leaf (.two .leaf .leaf)) (.join [] [32, 33, 34, 35, 36, 37, 38, 39, 40, 41, 42, 43, 44, 45] (.one (.two .leaf (.two .leaf .leaf))) .leaf))))) (.two .leaf (.two (.draw [(0, []), (1, []), (3, []), (4, []), (2, [4]), (5, []), (6, []), (7, []), (8, []), (9, []), (10, []), (11, []), (12, []), (13, [])]) .leaf)))))))
def S10_50 (a0 : Value) (t12_4 : Value) (t21_20 : Value) (vs_22 : List Value) (again_24 : List Value → AHeap → Prop) (H_35 : AHeap) : Prop :=
 aJoin (fun vs_37 H_38 =>
 bnd (aBin .add .no (nth vs_22 0) (.int .i64 1)) fun t31_40 =>
 again_24 [t31_40] H_38) fun J_39 =>
 bnd (aIdxAddr 9 a0 (nth vs_22 0)) fun t34_41 =>
 bnd (aAdd 3 t34_41) fun t35_42 =>
 bnd (aLdCell t35_42 H_35) fun t36_43 =>
 bnd (aLenSl t36_43) fun t37_44 =>
 bnd (aBin .leq .no t37_44 (.int .i64 100)) fun t38_45 =>
 aCond t38_45 (
 bnd (aIdxAddr 9 a0 (nth vs_22 0)) fun t43_46 =>
 bnd (aLdAgg 9 t43_46 H_35) fun t44_47 =>
 ACalls Try.prog 29 [t12_4, t21_20, t44_47] H_35 fun t45_48 H_49 =>
 J_39 [] H_49) (
 J_39 [] H_35)
def S10_79 (R : Value → AHeap → Prop) (t3_0 : Value) (t48_53 : Value) (t51_55 : Value) (H_56 : AHeap) : Prop :=
 bnd (aBin .eql .bool t48_53 t51_55) fun t52_57 =>
 aGuardK t52_57 true (fun K_58 H_59 =>
 K_58 (.pointer none) H_59) (fun t54_60 H_61 =>
 aGuardK t52_57 true (fun K_62 H_63 =>
 bnd (aLdAgg 2 t3_0 H_63) fun t55_64 =>
 K_62 t55_64 H_63) (fun t55_65 H_66 =>
 aGuardK t52_57 true (fun K_67 H_68 =>
 ACalls Try.prog 30 [t54_60, t55_65] H_68 fun t56_69 H_70 =>
 K_67 t56_69 H_70) (fun t56_71 H_72 =>
 aGuardK t52_57 true (fun K_73 H_74 =>
 bnd (aUn .not t56_71) fun t57_75 =>
 K_73 t57_75 H_74) (fun t57_76 H_77 =>
 bnd (aPick t52_57 t57_76 (.bool false)) fun t58_78 =>
 R t58_78 H_77) H_72) H_66) H_61) H_56
def S10_81 (R : Value → AHeap → Prop) (t3_0 : Value) (t12_4 : Value) (t21_20 : Value) (H_35 : AHeap) : Prop :=
 bnd (aLdAgg 2 t3_0 H_35) fun t47_51 =>
 bnd (aLdAgg 2 t3_0 H_35) fun t50_52 =>
 ACalls Try.prog 30 [t12_4, t47_51] H_35 fun t48_53 H_54 =>
 ((bnd (aLdAgg 2 t3_0 H_54) fun t50_80 =>
 t50_80 = t50_52)) ∧
 ACalls Try.prog 31 [t21_20, t50_52] H_54 fun t51_55 H_56 =>
 (S10_79 R t3_0 t48_53 t51_55 H_56)
def S10_82 (a0 : Value) (R : Value → AHeap → Prop) (t3_0 : Value) (t12_4 : Value) (t21_20 : Value) (vs_22 : List Value) (H_23 : AHeap) (again_24 : List Value → AHeap → Prop) : Prop :=
 bnd (aLenSl a0) fun t24_25 =>
 bnd (aBin .lss .no (nth vs_22 0) t24_25) fun t25_26 =>
 aGuardK t25_26 true (fun K_27 H_28 =>
 K_27 (nth vs_22 0) H_28) (fun t27_29 H_30 =>
 aGuardK t25_26 true (fun K_31 H_32 =>
 bnd (aBin .lss .no t27_29 (.int .i64 30)) fun t28_33 =>
 K_31 t28_33 H_32) (fun t28_34 H_35 =>
 bnd (aPick t25_26 t28_34 (.bool false)) fun t29_36 =>
 aCond t29_36 (
 (S10_50 a0 t12_4 t21_20 vs_22 again_24 H_35)) (
 (S10_81 R t3_0 t12_4 t21_20 H_35))) H_30) H_23
def S10_83 (a0 : Value) (R : Value → AHeap → Prop) (t3_0 : Value) (t12_4 : Value) (H_17 : AHeap) : Prop :=
 bnd (aFill [(.int .i64 0), (.int .i64 0), (.slice none 0 0), (.slice none 0 0)] [(0, 1, (.int .i64 200))]) fun t20_19 =>
 aBox 64 (.agg t20_19.toArray) H_17 fun t21_20 H_21 =>
 aLoop [(.int .i64 0)] H_21 fun vs_22 H_23 again_24 =>
 (S10_82 a0 R t3_0 t12_4 t21_20 vs_22 H_23 again_24)
def S10_84 (a0 : Value) (R : Value → AHeap → Prop) (t3_0 : Value) (t11_2 : Value) (H_3 : AHeap) : Prop :=
 bnd (aExtract t11_2 0) fun t12_4 =>
 bnd (aExtract t11_2 1) fun t13_5 =>
 ACalls Try.prog 14 [] H_3 fun t14_6 H_7 =>
 bnd (aUn .not t14_6) fun t15_8 =>
 aGuardK t15_8 false (fun K_9 H_10 =>
 K_9 t13_5 H_10) (fun t17_11 H_12 =>
 aGuardK t15_8 false (fun K_13 H_14 =>
 bnd (aBin .neq .no t17_11 (.int .i64 0)) fun t18_15 =>
 K_13 t18_15 H_14) (fun t18_16 H_17 =>
 bnd (aPick t15_8 (.bool true) t18_16) fun t19_18 =>
 aCond t19_18 (
 R (.bool false) H_17) (
 (S10_83 a0 R t3_0 t12_4 H_17))) H_12) H_7
def S10 (a0 : Value) (a1 : Value) (H : AHeap) (R : Value → AHeap → Prop) : Prop :=
 aBox 28 a1 H fun t3_0 H_1 =>
 ACalls Try.prog 13 [(.int .i64 200)] H_1 fun t11_2 H_3 =>
 (S10_84 a0 R t3_0 t11_2 H_3)
theorem S10_calls {a0 a1 : Value} {H : AHeap} {R : Value → AHeap → Prop} (h : S10 a0 a1 H R) : ACalls Try.prog 10 [a0, a1] H R :=
  have e : S10 a0 a1 H R = awpFn Try.prog (Try.f10.body.getD .skip) Try.f10.results.toList ann10 [a0, a1] H R := by kernel_rfl
  calls_of_awp (fn := Try.f10) (c := Try.f10.body.getD .skip) (an := ann10) (by kernel_rfl) Try.func10 (by kernel_rfl) (by kernel_rfl) (of_decide_eq_true (by kernel_rfl)) (e ▸ h)

/-- 11: marginalia/marginalialaw06.StoreActs -/
def ann11 : Ann := (.two .leaf (.two .leaf (.two (.two .leaf (.two (.two .leaf .leaf) .leaf)) (.two .leaf (.two (.two .leaf (.one (.loop [5, 8] [4, 5, 8, 45, 46, 47, 48, 49, 50, 51, 52, 53, 54, 55, 56, 57, 58, 59, 60, 61, 62, 63, 64, 65, 66, 67, 68, 69, 70, 71, 72, 73, 74, 75, 76, 77, 78, 79, 80, 81, 82, 83, 84, 85, 86, 87, 88, 89, 90, 91] (.two (.two .leaf (.two .leaf .leaf)) (.two (.one (.two (.two .leaf (.two (.two .leaf .leaf) .leaf)) (.join [5] [5, 66, 67, 68, 69, 70, 71, 72, 73] (.two .leaf (.two .leaf .leaf)) (.two .leaf (.two (.two .leaf .leaf) .leaf))))) .leaf))))) (.two .leaf .leaf))))))
def S11_203 (a1 : Value) (R : Value → AHeap → Prop) (t44_102 : Value) (vs_104 : List Value) (again_106 : List Value → AHeap → Prop) (vs_134 : List Value) (H_135 : AHeap) : Prop :=
 bnd (aBin .eql .ptr (nth vs_134 0) (.pointer none)) fun t75_137 =>
 aGuardK t75_137 false (fun K_138 H_139 =>
 K_138 (nth vs_134 0) H_139) (fun t77_140 H_141 =>
 aGuardK t75_137 false (fun K_142 H_143 =>
 K_142 t44_102 H_143) (fun t78_144 H_145 =>
 aGuardK t75_137 false (fun K_146 H_147 =>
 K_146 a1 H_147) (fun t79_148 H_149 =>
 aGuardK t75_137 false (fun K_150 H_151 =>
 K_150 (nth vs_104 1) H_151) (fun t80_152 H_153 =>
 aGuardK t75_137 false (fun K_154 H_155 =>
 bnd (aIdxAddr 9 t79_148 t80_152) fun t81_156 =>
 K_154 t81_156 H_155) (fun t81_157 H_158 =>
 aGuardK t75_137 false (fun K_159 H_160 =>
 bnd (aLdAgg 9 t81_157 H_160) fun t82_161 =>
 K_159 t82_161 H_160) (fun t82_162 H_163 =>
 aGuardK t75_137 false (fun K_164 H_165 =>
 ACalls Try.prog 29 [t77_140, t78_144, t82_162] H_165 fun t83_166 H_167 =>
 K_164 t83_166 H_167) (fun t83_168 H_169 =>
 aGuardK t75_137 false (fun K_170 H_171 =>
 bnd (aUn .not t83_168) fun t84_172 =>
 K_170 t84_172 H_171) (fun t84_173 H_174 =>
 bnd (aPick t75_137 (.bool true) t84_173) fun t85_175 =>
 aGuardK t85_175 false (fun K_176 H_177 =>
 K_176 (nth vs_134 0) H_177) (fun t87_178 H_179 =>
 aGuardK t85_175 false (fun K_180 H_181 =>
 K_180 t44_102 H_181) (fun t88_182 H_183 =>
 aGuardK t85_175 false (fun K_184 H_185 =>
 ACalls Try.prog 33 [t87_178, t88_182] H_185 fun t89_186 H_187 =>
 K_184 t89_186 H_187) (fun t89_188 H_189 =>
 aGuardK t85_175 false (fun K_190 H_191 =>
 bnd (aUn .not t89_188) fun t90_192 =>
 K_190 t90_192 H_191) (fun t90_193 H_194 =>
 bnd (aPick t85_175 (.bool true) t90_193) fun t91_195 =>
 aCond t91_195 (
 R (.bool false) H_194) (
 bnd (aBin .add .no (nth vs_104 1) (.int .i64 1)) fun t58_196 =>
 again_106 [(nth vs_134 0), t58_196] H_194)) H_189) H_183) H_179) H_174) H_169) H_163) H_158) H_153) H_149) H_145) H_141) H_135
def S11_204 (a1 : Value) (R : Value → AHeap → Prop) (t44_102 : Value) (vs_104 : List Value) (again_106 : List Value → AHeap → Prop) (H_127 : AHeap) : Prop :=
 aJoin (fun vs_134 H_135 =>
 (S11_203 a1 R t44_102 vs_104 again_106 vs_134 H_135)) fun J_136 =>
 bnd (aIdxAddr 9 a1 (nth vs_104 1)) fun t68_197 =>
 bnd (aAdd 0 t68_197) fun t69_198 =>
 bnd (aLdCell t69_198 H_127) fun t70_199 =>
 bnd (aBin .eql .no t70_199 (.int .i64 8)) fun t71_200 =>
 aCond t71_200 (
 ACalls Try.prog 32 [(nth vs_104 0)] H_127 fun t73_201 H_202 =>
 J_136 [t73_201] H_202) (
 J_136 [(nth vs_104 0)] H_127)
def S11_205 (a1 : Value) (R : Value → AHeap → Prop) (t44_102 : Value) (vs_104 : List Value) (again_106 : List Value → AHeap → Prop) (H_127 : AHeap) : Prop :=
 bnd (aIdxAddr 9 a1 (nth vs_104 1)) fun t61_129 =>
 bnd (aAdd 3 t61_129) fun t62_130 =>
 bnd (aLdCell t62_130 H_127) fun t63_131 =>
 bnd (aLenSl t63_131) fun t64_132 =>
 bnd (aBin .gtr .no t64_132 (.int .i64 100)) fun t65_133 =>
 aCond t65_133 (
 R (.bool true) H_127) (
 (S11_204 a1 R t44_102 vs_104 again_106 H_127))
def S11_206 (a1 : Value) (R : Value → AHeap → Prop) (t44_102 : Value) (vs_104 : List Value) (H_105 : AHeap) (again_106 : List Value → AHeap → Prop) : Prop :=
 bnd (aLenSl a1) fun t47_107 =>
 bnd (aBin .lss .no (nth vs_104 1) t47_107) fun t48_108 =>
 aGuardK t48_108 true (fun K_109 H_110 =>
 K_109 (nth vs_104 1) H_110) (fun t50_111 H_112 =>
 aGuardK t48_108 true (fun K_113 H_114 =>
 bnd (aBin .lss .no t50_111 (.int .i64 60)) fun t51_115 =>
 K_113 t51_115 H_114) (fun t51_116 H_117 =>
 bnd (aPick t48_108 t51_116 (.bool false)) fun t52_118 =>
 aGuardK t52_118 true (fun K_119 H_120 =>
 K_119 (nth vs_104 0) H_120) (fun t54_121 H_122 =>
 aGuardK t52_118 true (fun K_123 H_124 =>
 bnd (aBin .neq .ptr t54_121 (.pointer none)) fun t55_125 =>
 K_123 t55_125 H_124) (fun t55_126 H_127 =>
 bnd (aPick t52_118 t55_126 (.bool false)) fun t56_128 =>
 aCond t56_128 (
 (S11_205 a1 R t44_102 vs_104 again_106 H_127)) (
 R (.bool true) H_127)) H_122) H_117) H_112) H_105
def S11_207 (a0 : Value) (a1 : Value) (R : Value → AHeap → Prop) (t12_2 : Value) (H_99 : AHeap) : Prop :=
 bnd (aFill [(.int .i64 0), (.int .i64 0), (.slice none 0 0), (.slice none 0 0)] [(0, 1, a0)]) fun t43_101 =>
 aBox 64 (.agg t43_101.toArray) H_99 fun t44_102 H_103 =>
 aLoop [t12_2, (.int .i64 0)] H_103 fun vs_104 H_105 again_106 =>
 (S11_206 a1 R t44_102 vs_104 H_105 again_106)
def S11_208 (a0 : Value) (a1 : Value) (R : Value → AHeap → Prop) (t12_2 : Value) (t13_3 : Value) (t14_4 : Value) (H_5 : AHeap) : Prop :=
 bnd (aUn .not t14_4) fun t15_6 =>
 aGuardK t15_6 false (fun K_7 H_8 =>
 K_7 t13_3 H_8) (fun t17_9 H_10 =>
 aGuardK t15_6 false (fun K_11 H_12 =>
 bnd (aBin .eql .no t17_9 (.int .i64 0)) fun t18_13 =>
 K_11 t18_13 H_12) (fun t18_14 H_15 =>
 aGuardK t15_6 false (fun K_16 H_17 =>
 K_16 a0 H_17) (fun t19_18 H_19 =>
 aGuardK t15_6 false (fun K_20 H_21 =>
 bnd (aBin .geq .no t19_18 (.int .i64 0)) fun t20_22 =>
 K_20 t20_22 H_21) (fun t20_23 H_24 =>
 aGuardK t15_6 false (fun K_25 H_26 =>
 K_25 t20_23 H_26) (fun t21_27 H_28 =>
 aGuardK t21_27 true (fun K_29 H_30 =>
 K_29 a0 H_30) (fun t22_31 H_32 =>
 aGuardK t21_27 true (fun K_33 H_34 =>
 bnd (aBin .leq .no t22_31 (.int .i64 1048576)) fun t23_35 =>
 K_33 t23_35 H_34) (fun t23_36 H_37 =>
 aGuardK t15_6 false (fun K_38 H_39 =>
 bnd (aPick t21_27 t23_36 (.bool false)) fun t24_40 =>
 K_38 t24_40 H_39) (fun t24_41 H_42 =>
 aGuardK t15_6 false (fun K_43 H_44 =>
 bnd (aBin .neq .bool t18_14 t24_41) fun t25_45 =>
 K_43 t25_45 H_44) (fun t25_46 H_47 =>
 bnd (aPick t15_6 (.bool true) t25_46) fun t26_48 =>
 aGuardK t26_48 false (fun K_49 H_50 =>
 K_49 t12_2 H_50) (fun t28_51 H_52 =>
 aGuardK t26_48 false (fun K_53 H_54 =>
 bnd (aBin .eql .ptr t28_51 (.pointer none)) fun t29_55 =>
 K_53 t29_55 H_54) (fun t29_56 H_57 =>
 aGuardK t26_48 false (fun K_58 H_59 =>
 K_58 t13_3 H_59) (fun t30_60 H_61 =>
 aGuardK t26_48 false (fun K_62 H_63 =>
 bnd (aBin .neq .no t30_60 (.int .i64 0)) fun t31_64 =>
 K_62 t31_64 H_63) (fun t31_65 H_66 =>
 aGuardK t26_48 false (fun K_67 H_68 =>
 bnd (aBin .neq .bool t29_56 t31_65) fun t32_69 =>
 K_67 t32_69 H_68) (fun t32_70 H_71 =>
 bnd (aPick t26_48 (.bool true) t32_70) fun t33_72 =>
 aGuardK t33_72 false (fun K_73 H_74 =>
 K_73 t13_3 H_74) (fun t35_75 H_76 =>
 aGuardK t33_72 false (fun K_77 H_78 =>
 bnd (aBin .neq .no t35_75 (.int .i64 0)) fun t36_79 =>
 K_77 t36_79 H_78) (fun t36_80 H_81 =>
 aGuardK t33_72 false (fun K_82 H_83 =>
 K_82 t36_80 H_83) (fun t37_84 H_85 =>
 aGuardK t37_84 true (fun K_86 H_87 =>
 K_86 t13_3 H_87) (fun t38_88 H_89 =>
 aGuardK t37_84 true (fun K_90 H_91 =>
 bnd (aBin .neq .no t38_88 (.int .i64 1)) fun t39_92 =>
 K_90 t39_92 H_91) (fun t39_93 H_94 =>
 aGuardK t33_72 false (fun K_95 H_96 =>
 bnd (aPick t37_84 t39_93 (.bool false)) fun t40_97 =>
 K_95 t40_97 H_96) (fun t40_98 H_99 =>
 bnd (aPick t33_72 (.bool true) t40_98) fun t41_100 =>
 aCond t41_100 (
 R (.bool false) H_99) (
 (S11_207 a0 a1 R t12_2 H_99))) H_94) H_89) H_85) H_81) H_76) H_71) H_66) H_61) H_57) H_52) H_47) H_42) H_37) H_32) H_28) H_24) H_19) H_15) H_10) H_5
def S11 (a0 : Value) (a1 : Value) (H : AHeap) (R : Value → AHeap → Prop) : Prop :=
 ACalls Try.prog 13 [a0] H fun t11_0 H_1 =>
 bnd (aExtract t11_0 0) fun t12_2 =>
 bnd (aExtract t11_0 1) fun t13_3 =>
 ACalls Try.prog 14 [] H_1 fun t14_4 H_5 =>
 (S11_208 a0 a1 R t12_2 t13_3 t14_4 H_5)
theorem S11_calls {a0 a1 : Value} {H : AHeap} {R : Value → AHeap → Prop} (h : S11 a0 a1 H R) : ACalls Try.prog 11 [a0, a1] H R :=
  have e : S11 a0 a1 H R = awpFn Try.prog (Try.f11.body.getD .skip) Try.f11.results.toList ann11 [a0, a1] H R := by kernel_rfl
  calls_of_awp (fn := Try.f11) (c := Try.f11.body.getD .skip) (an := ann11) (by kernel_rfl) Try.func11 (by kernel_rfl) (by kernel_rfl) (of_decide_eq_true (by kernel_rfl)) (e ▸ h)

/-- 12: marginalia/marginalialaw06.StoreApart -/
def ann12 : Ann := (.two .leaf (.two .leaf (.two (.two .leaf (.two (.two .leaf .leaf) .leaf)) (.two .leaf (.two .leaf (.two .leaf (.two .leaf (.two .leaf (.two .leaf (.two .leaf (.two (.two .leaf (.one (.loop [14] [14, 101, 102, 103, 104, 105, 106, 107, 108, 109, 110, 111, 112, 113, 114] (.two (.two .leaf (.two .leaf .leaf)) (.two (.one .leaf) .leaf))))) (.two .leaf (.two .leaf (.two .leaf (.two .leaf (.two .leaf (.two .leaf (.two (.two .leaf (.one (.loop [22] [4, 22, 141, 142, 143, 144, 145, 146, 147, 148, 149, 150, 151, 152, 153, 154, 155, 156, 157, 158, 159, 160, 161, 162] (.two (.two .leaf (.two .leaf .leaf)) (.two (.one (.two (.two (.draw [(0, []), (1, []), (2, []), (3, []), (4, []), (5, []), (6, []), (7, []), (8, []), (9, []), (10, [])]) (.two (.two .leaf .leaf) .leaf)) .leaf)) .leaf))))) (.two .leaf (.two (.two .leaf (.one (.loop [25] [4, 25, 169, 170, 171, 172, 173, 174, 175, 176, 177, 178, 179, 180, 181, 182, 183, 184, 185, 186] (.two (.two .leaf (.two .leaf .leaf)) (.two (.one (.two (.draw [(0, []), (1, []), (2, []), (3, []), (4, []), (5, []), (6, []), (7, []), (8, []), (9, []), (10, [])]) (.two (.two .leaf .leaf) .leaf))) .leaf))))) (.two .leaf (.two .leaf (.two .leaf (.two .leaf (.two .leaf (.two .leaf (.two .leaf (.two .leaf .leaf))))))))))))))))))))))))))))
def S12_155 (t86_124 : Value) (vs_144 : List Value) (H_145 : AHeap) (again_146 : List Value → AHeap → Prop) : Prop :=
 bnd (aIdxAddr 1 t86_124 (nth vs_144 0)) fun t111_149 =>
 bnd (aLdCell t111_149 H_145) fun t112_150 =>
 bnd (aBin .add .no t112_150 (.int .i64 1)) fun t113_151 =>
 bnd (aIdxAddr 1 t86_124 (nth vs_144 0)) fun t114_152 =>
 bnd (aSt 1 t114_152 t113_151 H_145) fun H_153 =>
 bnd (aBin .add .no (nth vs_144 0) (.int .i64 1)) fun t106_154 =>
 again_146 [t106_154] H_153
def S12_206 (t20_182 : Value) (vs_185 : List Value) (H_186 : AHeap) (again_187 : List Value → AHeap → Prop) : Prop :=
 bnd (aAdd 6 t20_182) fun t159_201 =>
 bnd (aLdCell t159_201 H_186) fun t160_202 =>
 bnd (aIdxAddr 1 t160_202 (nth vs_185 0)) fun t162_203 =>
 bnd (aSt 1 t162_203 (.int .i64 9) H_186) fun H_204 =>
 bnd (aBin .add .no (nth vs_185 0) (.int .i64 1)) fun t147_205 =>
 again_187 [t147_205] H_204
def S12_207 (R : Value → AHeap → Prop) (t3_0 : Value) (t20_182 : Value) (vs_185 : List Value) (H_186 : AHeap) (again_187 : List Value → AHeap → Prop) : Prop :=
 bnd (aAdd 6 t20_182) fun t148_192 =>
 bnd (aLdCell t148_192 H_186) fun t149_193 =>
 bnd (aIdxAddr 1 t149_193 (nth vs_185 0)) fun t151_194 =>
 bnd (aLdCell t151_194 H_186) fun t152_195 =>
 bnd (aAdd 6 t3_0) fun t153_196 =>
 bnd (aLdCell t153_196 H_186) fun t154_197 =>
 bnd (aIdxAddr 1 t154_197 (nth vs_185 0)) fun t156_198 =>
 bnd (aLdCell t156_198 H_186) fun t157_199 =>
 bnd (aBin .neq .no t152_195 t157_199) fun t158_200 =>
 aCond t158_200 (
 R (.bool false) H_186) (
 (S12_206 t20_182 vs_185 H_186 again_187))
def S12_233 (R : Value → AHeap → Prop) (t3_0 : Value) (t23_213 : Value) (vs_216 : List Value) (H_217 : AHeap) (again_218 : List Value → AHeap → Prop) : Prop :=
 bnd (aAdd 6 t23_213) fun t176_223 =>
 bnd (aLdCell t176_223 H_217) fun t177_224 =>
 bnd (aIdxAddr 1 t177_224 (nth vs_216 0)) fun t179_225 =>
 bnd (aLdCell t179_225 H_217) fun t180_226 =>
 bnd (aAdd 6 t3_0) fun t181_227 =>
 bnd (aLdCell t181_227 H_217) fun t182_228 =>
 bnd (aIdxAddr 1 t182_228 (nth vs_216 0)) fun t184_229 =>
 bnd (aLdCell t184_229 H_217) fun t185_230 =>
 bnd (aBin .neq .no t180_226 t185_230) fun t186_231 =>
 aCond t186_231 (
 R (.bool false) H_217) (
 bnd (aBin .add .no (nth vs_216 0) (.int .i64 1)) fun t175_232 =>
 again_218 [t175_232] H_217)
def S12_501 (a0 : Value) (R : Value → AHeap → Prop) (t3_0 : Value) (t8_117 : Value) (t16_169 : Value) (t134_176 : Value) (t140_181 : Value) (t20_182 : Value) (t191_237 : Value) (t196_244 : Value) (t201_251 : Value) (t207_256 : Value) (t211_261 : Value) (H_262 : AHeap) : Prop :=
 bnd (aExtract t211_261 0) fun t212_263 =>
 bnd (aExtract t211_261 1) fun t213_264 =>
 aAlloc [(.int .i64 0), (.int .i64 0)] 28 H_262 fun t35_265 H_266 =>
 bnd (aSt 2 t35_265 t212_263 H_266) fun H_267 =>
 bnd (aAdd 1 t16_169) fun t214_268 =>
 bnd (aLdCell t214_268 H_267) fun t215_269 =>
 bnd (aBin .eql .no t215_269 a0) fun t217_270 =>
 aGuardK t217_270 true (fun K_271 H_272 =>
 K_271 t134_176 H_272) (fun t219_273 H_274 =>
 aGuardK t217_270 true (fun K_275 H_276 =>
 bnd (aBin .eql .no t219_273 (.int .i64 10)) fun t220_277 =>
 K_275 t220_277 H_276) (fun t220_278 H_279 =>
 bnd (aPick t217_270 t220_278 (.bool false)) fun t221_280 =>
 aGuardK t221_280 true (fun K_281 H_282 =>
 K_281 t140_181 H_282) (fun t223_283 H_284 =>
 aGuardK t221_280 true (fun K_285 H_286 =>
 bnd (aBin .eql .no t223_283 (.int .i64 0)) fun t224_287 =>
 K_285 t224_287 H_286) (fun t224_288 H_289 =>
 bnd (aPick t221_280 t224_288 (.bool false)) fun t225_290 =>
 aGuardK t225_290 true (fun K_291 H_292 =>
 bnd (aAdd 6 t20_182) fun t227_293 =>
 K_291 t227_293 H_292) (fun t227_294 H_295 =>
 aGuardK t225_290 true (fun K_296 H_297 =>
 bnd (aLdCell t227_294 H_297) fun t228_298 =>
 K_296 t228_298 H_297) (fun t228_299 H_300 =>
 aGuardK t225_290 true (fun K_301 H_302 =>
 bnd (aLenSl t228_299) fun t229_303 =>
 K_301 t229_303 H_302) (fun t229_304 H_305 =>
 aGuardK t225_290 true (fun K_306 H_307 =>
 bnd (aAdd 6 t3_0) fun t230_308 =>
 K_306 t230_308 H_307) (fun t230_309 H_310 =>
 aGuardK t225_290 true (fun K_311 H_312 =>
 bnd (aLdCell t230_309 H_312) fun t231_313 =>
 K_311 t231_313 H_312) (fun t231_314 H_315 =>
 aGuardK t225_290 true (fun K_316 H_317 =>
 bnd (aLenSl t231_314) fun t232_318 =>
 K_316 t232_318 H_317) (fun t232_319 H_320 =>
 aGuardK t225_290 true (fun K_321 H_322 =>
 bnd (aBin .eql .no t229_304 t232_319) fun t233_323 =>
 K_321 t233_323 H_322) (fun t233_324 H_325 =>
 bnd (aPick t225_290 t233_324 (.bool false)) fun t234_326 =>
 aGuardK t234_326 true (fun K_327 H_328 =>
 K_327 t191_237 H_328) (fun t236_329 H_330 =>
 aGuardK t234_326 true (fun K_331 H_332 =>
 K_331 (.int .i64 1) H_332) (fun t237_333 H_334 =>
 aGuardK t234_326 true (fun K_335 H_336 =>
 bnd (aBin .eql .no t236_329 t237_333) fun t238_337 =>
 K_335 t238_337 H_336) (fun t238_338 H_339 =>
 bnd (aPick t234_326 t238_338 (.bool false)) fun t239_340 =>
 aGuardK t239_340 true (fun K_341 H_342 =>
 K_341 t196_244 H_342) (fun t241_343 H_344 =>
 aGuardK t239_340 true (fun K_345 H_346 =>
 K_345 (.int .i64 1) H_346) (fun t242_347 H_348 =>
 aGuardK t239_340 true (fun K_349 H_350 =>
 bnd (aBin .eql .no t241_343 t242_347) fun t243_351 =>
 K_349 t243_351 H_350) (fun t243_352 H_353 =>
 bnd (aPick t239_340 t243_352 (.bool false)) fun t244_354 =>
 aGuardK t244_354 true (fun K_355 H_356 =>
 K_355 t201_251 H_356) (fun t246_357 H_358 =>
 aGuardK t244_354 true (fun K_359 H_360 =>
 K_359 (.int .i64 1) H_360) (fun t247_361 H_362 =>
 aGuardK t244_354 true (fun K_363 H_364 =>
 bnd (aBin .eql .no t246_357 t247_361) fun t248_365 =>
 K_363 t248_365 H_364) (fun t248_366 H_367 =>
 bnd (aPick t244_354 t248_366 (.bool false)) fun t249_368 =>
 aGuardK t249_368 true (fun K_369 H_370 =>
 K_369 t207_256 H_370) (fun t251_371 H_372 =>
 aGuardK t249_368 true (fun K_373 H_374 =>
 K_373 (.int .i64 1) H_374) (fun t252_375 H_376 =>
 aGuardK t249_368 true (fun K_377 H_378 =>
 bnd (aBin .eql .no t251_371 t252_375) fun t253_379 =>
 K_377 t253_379 H_378) (fun t253_380 H_381 =>
 bnd (aPick t249_368 t253_380 (.bool false)) fun t254_382 =>
 aGuardK t254_382 true (fun K_383 H_384 =>
 K_383 t213_264 H_384) (fun t256_385 H_386 =>
 aGuardK t254_382 true (fun K_387 H_388 =>
 K_387 (.int .i64 1) H_388) (fun t257_389 H_390 =>
 aGuardK t254_382 true (fun K_391 H_392 =>
 bnd (aBin .eql .no t256_385 t257_389) fun t258_393 =>
 K_391 t258_393 H_392) (fun t258_394 H_395 =>
 bnd (aPick t254_382 t258_394 (.bool false)) fun t259_396 =>
 aGuardK t259_396 true (fun K_397 H_398 =>
 K_397 (.pointer none) H_398) (fun t261_399 H_400 =>
 aGuardK t259_396 true (fun K_401 H_402 =>
 bnd (aLdAgg 2 t8_117 H_402) fun t262_403 =>
 K_401 t262_403 H_402) (fun t262_404 H_405 =>
 aGuardK t259_396 true (fun K_406 H_407 =>
 bnd (aLdAgg 2 t8_117 H_407) fun t263_408 =>
 K_406 t263_408 H_407) (fun t263_409 H_410 =>
 aGuardK t259_396 true (fun K_411 H_412 =>
 ACalls Try.prog 19 [t261_399, t262_404, (.int .i64 0), t263_409] H_412 fun t264_413 H_414 =>
 K_411 t264_413 H_414) (fun t264_415 H_416 =>
 aGuardK t259_396 true (fun K_417 H_418 =>
 K_417 (.int .i64 1) H_418) (fun t265_419 H_420 =>
 aGuardK t259_396 true (fun K_421 H_422 =>
 bnd (aBin .eql .no t264_415 t265_419) fun t266_423 =>
 K_421 t266_423 H_422) (fun t266_424 H_425 =>
 bnd (aPick t259_396 t266_424 (.bool false)) fun t267_426 =>
 aGuardK t267_426 true (fun K_427 H_428 =>
 K_427 (.pointer none) H_428) (fun t269_429 H_430 =>
 aGuardK t267_426 true (fun K_431 H_432 =>
 ACalls Try.prog 17 [t269_429] H_432 fun t270_433 H_434 =>
 K_431 t270_433 H_434) (fun t270_435 H_436 =>
 aGuardK t267_426 true (fun K_437 H_438 =>
 bnd (aBin .eql .no t270_435 (.int .i64 0)) fun t271_439 =>
 K_437 t271_439 H_438) (fun t271_440 H_441 =>
 bnd (aPick t267_426 t271_440 (.bool false)) fun t272_442 =>
 aGuardK t272_442 true (fun K_443 H_444 =>
 K_443 (.pointer none) H_444) (fun t274_445 H_446 =>
 aGuardK t272_442 true (fun K_447 H_448 =>
 bnd (aLdAgg 2 t8_117 H_448) fun t275_449 =>
 K_447 t275_449 H_448) (fun t275_450 H_451 =>
 aGuardK t272_442 true (fun K_452 H_453 =>
 ACalls Try.prog 36 [t274_445, t275_450] H_453 fun t276_454 H_455 =>
 K_452 t276_454 H_455) (fun t276_456 H_457 =>
 aGuardK t272_442 true (fun K_458 H_459 =>
 bnd (aBin .eql .no t276_456 (.int .i64 0)) fun t277_460 =>
 K_458 t277_460 H_459) (fun t277_461 H_462 =>
 bnd (aPick t272_442 t277_461 (.bool false)) fun t278_463 =>
 aGuardK t278_463 true (fun K_464 H_465 =>
 K_464 (.pointer none) H_465) (fun t280_466 H_467 =>
 aGuardK t278_463 true (fun K_468 H_469 =>
 bnd (aLdAgg 2 t8_117 H_469) fun t281_470 =>
 K_468 t281_470 H_469) (fun t281_471 H_472 =>
 aGuardK t278_463 true (fun K_473 H_474 =>
 ACalls Try.prog 37 [t280_466, t281_471] H_474 fun t282_475 H_476 =>
 K_473 t282_475 H_476) (fun t282_477 H_478 =>
 aGuardK t278_463 true (fun K_479 H_480 =>
 bnd (aBin .eql .no t282_477 (.int .i64 0)) fun t283_481 =>
 K_479 t283_481 H_480) (fun t283_482 H_483 =>
 bnd (aPick t278_463 t283_482 (.bool false)) fun t284_484 =>
 aGuardK t284_484 true (fun K_485 H_486 =>
 K_485 (.pointer none) H_486) (fun t286_487 H_488 =>
 aGuardK t284_484 true (fun K_489 H_490 =>
 ACalls Try.prog 32 [t286_487] H_490 fun t287_491 H_492 =>
 K_489 t287_491 H_492) (fun t287_493 H_494 =>
 aGuardK t284_484 true (fun K_495 H_496 =>
 bnd (aBin .eql .ptr t287_493 (.pointer none)) fun t288_497 =>
 K_495 t288_497 H_496) (fun t288_498 H_499 =>
 bnd (aPick t284_484 t288_498 (.bool false)) fun t289_500 =>
 R t289_500 H_499) H_494) H_488) H_483) H_478) H_472) H_467) H_462) H_457) H_451) H_446) H_441) H_436) H_430) H_425) H_420) H_416) H_410) H_405) H_400) H_395) H_390) H_386) H_381) H_376) H_372) H_367) H_362) H_358) H_353) H_348) H_344) H_339) H_334) H_330) H_325) H_320) H_315) H_310) H_305) H_300) H_295) H_289) H_284) H_279) H_274) H_267
def S12_502 (a0 : Value) (R : Value → AHeap → Prop) (t3_0 : Value) (t8_117 : Value) (t16_169 : Value) (t134_176 : Value) (t140_181 : Value) (t20_182 : Value) (t191_237 : Value) (t196_244 : Value) (t201_251 : Value) (t205_253 : Value) (H_254 : AHeap) : Prop :=
 bnd (aExtract t205_253 0) fun t206_255 =>
 bnd (aExtract t205_253 1) fun t207_256 =>
 aAlloc [(.int .i64 0), (.int .i64 0)] 28 H_254 fun t33_257 H_258 =>
 bnd (aSt 2 t33_257 t206_255 H_258) fun H_259 =>
 bnd (aFill [(.int .i64 0), (.string ⟨#[]⟩), (.bool false), (.slice none 0 0), (.slice none 0 0), (.int .i64 0), (.slice none 0 0), (.slice none 0 0)] []) fun t210_260 =>
 ACalls Try.prog 34 [(.pointer none), (.agg t210_260.toArray)] H_259 fun t211_261 H_262 =>
 (S12_501 a0 R t3_0 t8_117 t16_169 t134_176 t140_181 t20_182 t191_237 t196_244 t201_251 t207_256 t211_261 H_262)
def S12_503 (a0 : Value) (R : Value → AHeap → Prop) (t3_0 : Value) (t8_117 : Value) (t16_169 : Value) (t134_176 : Value) (t140_181 : Value) (t20_182 : Value) (t191_237 : Value) (t194_241 : Value) (H_242 : AHeap) : Prop :=
 bnd (aExtract t194_241 0) fun t195_243 =>
 bnd (aExtract t194_241 1) fun t196_244 =>
 aAlloc [(.int .i64 0), (.int .i64 0)] 28 H_242 fun t29_245 H_246 =>
 bnd (aSt 2 t29_245 t195_243 H_246) fun H_247 =>
 ACalls Try.prog 16 [(.pointer none), (.slice none 0 0)] H_247 fun t199_248 H_249 =>
 bnd (aExtract t199_248 0) fun t200_250 =>
 bnd (aExtract t199_248 1) fun t201_251 =>
 bnd (aLdAgg 2 t8_117 H_249) fun t204_252 =>
 ACalls Try.prog 18 [(.pointer none), t204_252, (.int .i64 0)] H_249 fun t205_253 H_254 =>
 (S12_502 a0 R t3_0 t8_117 t16_169 t134_176 t140_181 t20_182 t191_237 t196_244 t201_251 t205_253 H_254)
def S12_504 (a0 : Value) (R : Value → AHeap → Prop) (t3_0 : Value) (t8_117 : Value) (t16_169 : Value) (t134_176 : Value) (t140_181 : Value) (t20_182 : Value) (H_217 : AHeap) : Prop :=
 ACalls Try.prog 15 [(.pointer none), (.int .i64 2), (.slice none 0 0)] H_217 fun t189_234 H_235 =>
 bnd (aExtract t189_234 0) fun t190_236 =>
 bnd (aExtract t189_234 1) fun t191_237 =>
 aAlloc [(.int .i64 0), (.int .i64 0)] 28 H_235 fun t27_238 H_239 =>
 bnd (aSt 2 t27_238 t190_236 H_239) fun H_240 =>
 ACalls Try.prog 23 [(.pointer none), (.string ⟨#[97]⟩)] H_240 fun t194_241 H_242 =>
 (S12_503 a0 R t3_0 t8_117 t16_169 t134_176 t140_181 t20_182 t191_237 t194_241 H_242)
def S12_505 (a0 : Value) (R : Value → AHeap → Prop) (t3_0 : Value) (t8_117 : Value) (t16_169 : Value) (t134_176 : Value) (t140_181 : Value) (t20_182 : Value) (t23_213 : Value) (vs_216 : List Value) (H_217 : AHeap) (again_218 : List Value → AHeap → Prop) : Prop :=
 bnd (aAdd 6 t23_213) fun t170_219 =>
 bnd (aLdCell t170_219 H_217) fun t171_220 =>
 bnd (aLenSl t171_220) fun t172_221 =>
 bnd (aBin .lss .no (nth vs_216 0) t172_221) fun t173_222 =>
 aCond t173_222 (
 (S12_233 R t3_0 t23_213 vs_216 H_217 again_218)) (
 (S12_504 a0 R t3_0 t8_117 t16_169 t134_176 t140_181 t20_182 H_217))
def S12_506 (a0 : Value) (R : Value → AHeap → Prop) (t3_0 : Value) (t8_117 : Value) (t16_169 : Value) (t134_176 : Value) (t140_181 : Value) (t20_182 : Value) (t166_209 : Value) (H_210 : AHeap) : Prop :=
 bnd (aExtract t166_209 0) fun t167_211 =>
 bnd (aExtract t166_209 1) fun t168_212 =>
 aAlloc [(.int .i64 0), (.string ⟨#[]⟩), (.bool false), (.slice none 0 0), (.slice none 0 0), (.int .i64 0), (.slice none 0 0), (.slice none 0 0)] 79 H_210 fun t23_213 H_214 =>
 bnd (aSt 8 t23_213 t167_211 H_214) fun H_215 =>
 aLoop [(.int .i64 0)] H_215 fun vs_216 H_217 again_218 =>
 (S12_505 a0 R t3_0 t8_117 t16_169 t134_176 t140_181 t20_182 t23_213 vs_216 H_217 again_218)
def S12_507 (a0 : Value) (R : Value → AHeap → Prop) (t3_0 : Value) (t8_117 : Value) (t12_137 : Value) (t116_156 : Value) (t16_169 : Value) (t134_176 : Value) (t140_181 : Value) (t20_182 : Value) (vs_185 : List Value) (H_186 : AHeap) (again_187 : List Value → AHeap → Prop) : Prop :=
 bnd (aAdd 6 t20_182) fun t142_188 =>
 bnd (aLdCell t142_188 H_186) fun t143_189 =>
 bnd (aLenSl t143_189) fun t144_190 =>
 bnd (aBin .lss .no (nth vs_185 0) t144_190) fun t145_191 =>
 aCond t145_191 (
 (S12_207 R t3_0 t20_182 vs_185 H_186 again_187)) (
 bnd (aLdAgg 2 t12_137 H_186) fun t165_208 =>
 ACalls Try.prog 35 [t116_156, t165_208] H_186 fun t166_209 H_210 =>
 (S12_506 a0 R t3_0 t8_117 t16_169 t134_176 t140_181 t20_182 t166_209 H_210))
def S12_508 (a0 : Value) (R : Value → AHeap → Prop) (t3_0 : Value) (t8_117 : Value) (t12_137 : Value) (t116_156 : Value) (t16_169 : Value) (t134_176 : Value) (t138_178 : Value) (H_179 : AHeap) : Prop :=
 bnd (aExtract t138_178 0) fun t139_180 =>
 bnd (aExtract t138_178 1) fun t140_181 =>
 aAlloc [(.int .i64 0), (.string ⟨#[]⟩), (.bool false), (.slice none 0 0), (.slice none 0 0), (.int .i64 0), (.slice none 0 0), (.slice none 0 0)] 79 H_179 fun t20_182 H_183 =>
 bnd (aSt 8 t20_182 t139_180 H_183) fun H_184 =>
 aLoop [(.int .i64 0)] H_184 fun vs_185 H_186 again_187 =>
 (S12_507 a0 R t3_0 t8_117 t12_137 t116_156 t16_169 t134_176 t140_181 t20_182 vs_185 H_186 again_187)
def S12_509 (a0 : Value) (R : Value → AHeap → Prop) (t3_0 : Value) (t8_117 : Value) (t12_137 : Value) (t116_156 : Value) (t126_165 : Value) (H_166 : AHeap) : Prop :=
 bnd (aExtract t126_165 0) fun t127_167 =>
 bnd (aExtract t126_165 1) fun t128_168 =>
 aAlloc [(.int .i64 0), (.int .i64 0)] 28 H_166 fun t16_169 H_170 =>
 bnd (aSt 2 t16_169 t127_167 H_170) fun H_171 =>
 bnd (aFill [(.int .i64 0), (.int .i64 0)] [(0, 1, (.int .i64 6))]) fun t131_172 =>
 ACalls Try.prog 24 [t116_156, (.agg t131_172.toArray)] H_171 fun t132_173 H_174 =>
 bnd (aExtract t132_173 0) fun t133_175 =>
 bnd (aExtract t132_173 1) fun t134_176 =>
 bnd (aLdAgg 2 t12_137 H_174) fun t137_177 =>
 ACalls Try.prog 35 [t116_156, t137_177] H_174 fun t138_178 H_179 =>
 (S12_508 a0 R t3_0 t8_117 t12_137 t116_156 t16_169 t134_176 t138_178 H_179)
def S12_510 (a0 : Value) (R : Value → AHeap → Prop) (t3_0 : Value) (t40_4 : Value) (t8_117 : Value) (t12_137 : Value) (t116_156 : Value) (H_157 : AHeap) : Prop :=
 bnd (aLdAgg 2 t8_117 H_157) fun t118_158 =>
 bnd (aFill [(.int .i64 0), (.int .i64 0)] []) fun t119_159 =>
 ACalls Try.prog 19 [t40_4, t118_158, (.int .i64 0), (.agg t119_159.toArray)] H_157 fun t120_160 H_161 =>
 ACalls Try.prog 23 [t40_4, (.string ⟨#[110, 101, 119]⟩)] H_161 fun t122_162 H_163 =>
 bnd (aLdAgg 2 t8_117 H_163) fun t125_164 =>
 ACalls Try.prog 18 [t116_156, t125_164, (.int .i64 0)] H_163 fun t126_165 H_166 =>
 (S12_509 a0 R t3_0 t8_117 t12_137 t116_156 t126_165 H_166)
def S12_511 (a0 : Value) (R : Value → AHeap → Prop) (t3_0 : Value) (t40_4 : Value) (t8_117 : Value) (t86_124 : Value) (t12_137 : Value) (vs_144 : List Value) (H_145 : AHeap) (again_146 : List Value → AHeap → Prop) : Prop :=
 bnd (aLenSl t86_124) fun t103_147 =>
 bnd (aBin .lss .no (nth vs_144 0) t103_147) fun t104_148 =>
 aCond t104_148 (
 (S12_155 t86_124 vs_144 H_145 again_146)) (
 ACalls Try.prog 32 [t40_4] H_145 fun t116_156 H_157 =>
 (S12_510 a0 R t3_0 t40_4 t8_117 t12_137 t116_156 H_157))
def S12_512 (a0 : Value) (R : Value → AHeap → Prop) (t3_0 : Value) (t40_4 : Value) (t76_111 : Value) (t8_117 : Value) (t86_124 : Value) (t93_133 : Value) (H_134 : AHeap) : Prop :=
 bnd (aExtract t93_133 0) fun t94_135 =>
 bnd (aExtract t93_133 1) fun t95_136 =>
 aAlloc [(.int .i64 0), (.int .i64 0)] 28 H_134 fun t12_137 H_138 =>
 bnd (aSt 2 t12_137 t94_135 H_138) fun H_139 =>
 bnd (aBin .add .no a0 (.int .i64 1)) fun t98_140 =>
 bnd (aIdxAddr 2 t76_111 (.int .i64 0)) fun t99_141 =>
 bnd (aAdd 1 t99_141) fun t100_142 =>
 bnd (aSt 1 t100_142 t98_140 H_139) fun H_143 =>
 aLoop [(.int .i64 0)] H_143 fun vs_144 H_145 again_146 =>
 (S12_511 a0 R t3_0 t40_4 t8_117 t86_124 t12_137 vs_144 H_145 again_146)
def S12_513 (a0 : Value) (R : Value → AHeap → Prop) (t3_0 : Value) (t40_4 : Value) (t76_111 : Value) (t80_113 : Value) (H_114 : AHeap) : Prop :=
 bnd (aExtract t80_113 0) fun t81_115 =>
 bnd (aExtract t80_113 1) fun t82_116 =>
 aAlloc [(.int .i64 0), (.int .i64 0)] 28 H_114 fun t8_117 H_118 =>
 bnd (aSt 2 t8_117 t81_115 H_118) fun H_119 =>
 aBuildSlice 1 0 3 [(.int .i64 0)] [] H_119 fun t83_120 H_121 =>
 bnd (aAdd 6 t3_0) fun t84_122 =>
 bnd (aLdCell t84_122 H_121) fun t85_123 =>
 aAppend 1 8 3 t83_120 t85_123 H_121 fun t86_124 H_125 =>
 bnd (aLdAgg 8 t3_0 H_125) fun t87_126 =>
 aAlloc [(.int .i64 0), (.string ⟨#[]⟩), (.bool false), (.slice none 0 0), (.slice none 0 0), (.int .i64 0), (.slice none 0 0), (.slice none 0 0)] 79 H_125 fun t11_127 H_128 =>
 bnd (aSt 8 t11_127 t87_126 H_128) fun H_129 =>
 bnd (aAdd 6 t11_127) fun t89_130 =>
 bnd (aSt 1 t89_130 t86_124 H_129) fun H_131 =>
 bnd (aLdAgg 8 t11_127 H_131) fun t92_132 =>
 ACalls Try.prog 34 [t40_4, t92_132] H_131 fun t93_133 H_134 =>
 (S12_512 a0 R t3_0 t40_4 t76_111 t8_117 t86_124 t93_133 H_134)
def S12_514 (a0 : Value) (R : Value → AHeap → Prop) (t3_0 : Value) (t40_4 : Value) (H_106 : AHeap) : Prop :=
 bnd (aFill [(.int .i64 0), (.int .i64 0)] [(0, 1, (.int .i64 4)), (1, 1, a0)]) fun t75_110 =>
 aBuildSlice 2 1 28 [(.int .i64 0), (.int .i64 0)] [(0, 2, (.agg t75_110.toArray))] H_106 fun t76_111 H_112 =>
 ACalls Try.prog 15 [t40_4, (.int .i64 2), t76_111] H_112 fun t80_113 H_114 =>
 (S12_513 a0 R t3_0 t40_4 t76_111 t80_113 H_114)
def S12_515 (a0 : Value) (R : Value → AHeap → Prop) (t3_0 : Value) (t40_4 : Value) (t41_5 : Value) (t42_6 : Value) (H_7 : AHeap) : Prop :=
 bnd (aUn .not t42_6) fun t43_8 =>
 aGuardK t43_8 false (fun K_9 H_10 =>
 K_9 t41_5 H_10) (fun t45_11 H_12 =>
 aGuardK t43_8 false (fun K_13 H_14 =>
 bnd (aBin .neq .no t45_11 (.int .i64 0)) fun t46_15 =>
 K_13 t46_15 H_14) (fun t46_16 H_17 =>
 bnd (aPick t43_8 (.bool true) t46_16) fun t47_18 =>
 aGuardK t47_18 false (fun K_19 H_20 =>
 bnd (aAdd 6 t3_0) fun t49_21 =>
 K_19 t49_21 H_20) (fun t49_22 H_23 =>
 aGuardK t47_18 false (fun K_24 H_25 =>
 bnd (aLdCell t49_22 H_25) fun t50_26 =>
 K_24 t50_26 H_25) (fun t50_27 H_28 =>
 aGuardK t47_18 false (fun K_29 H_30 =>
 bnd (aLenSl t50_27) fun t51_31 =>
 K_29 t51_31 H_30) (fun t51_32 H_33 =>
 aGuardK t47_18 false (fun K_34 H_35 =>
 bnd (aBin .gtr .no t51_32 (.int .i64 20)) fun t52_36 =>
 K_34 t52_36 H_35) (fun t52_37 H_38 =>
 bnd (aPick t47_18 (.bool true) t52_37) fun t53_39 =>
 aGuardK t53_39 false (fun K_40 H_41 =>
 bnd (aAdd 7 t3_0) fun t55_42 =>
 K_40 t55_42 H_41) (fun t55_43 H_44 =>
 aGuardK t53_39 false (fun K_45 H_46 =>
 bnd (aLdCell t55_43 H_46) fun t56_47 =>
 K_45 t56_47 H_46) (fun t56_48 H_49 =>
 aGuardK t53_39 false (fun K_50 H_51 =>
 bnd (aLenSl t56_48) fun t57_52 =>
 K_50 t57_52 H_51) (fun t57_53 H_54 =>
 aGuardK t53_39 false (fun K_55 H_56 =>
 bnd (aBin .gtr .no t57_53 (.int .i64 20)) fun t58_57 =>
 K_55 t58_57 H_56) (fun t58_58 H_59 =>
 bnd (aPick t53_39 (.bool true) t58_58) fun t59_60 =>
 aGuardK t59_60 false (fun K_61 H_62 =>
 bnd (aAdd 2 t3_0) fun t61_63 =>
 K_61 t61_63 H_62) (fun t61_64 H_65 =>
 aGuardK t59_60 false (fun K_66 H_67 =>
 bnd (aAdd 1 t61_64) fun t62_68 =>
 K_66 t62_68 H_67) (fun t62_69 H_70 =>
 aGuardK t59_60 false (fun K_71 H_72 =>
 bnd (aLdCell t62_69 H_72) fun t63_73 =>
 K_71 t63_73 H_72) (fun t63_74 H_75 =>
 aGuardK t59_60 false (fun K_76 H_77 =>
 bnd (aLenSl t63_74) fun t64_78 =>
 K_76 t64_78 H_77) (fun t64_79 H_80 =>
 aGuardK t59_60 false (fun K_81 H_82 =>
 bnd (aBin .gtr .no t64_79 (.int .i64 20)) fun t65_83 =>
 K_81 t65_83 H_82) (fun t65_84 H_85 =>
 bnd (aPick t59_60 (.bool true) t65_84) fun t66_86 =>
 aGuardK t66_86 false (fun K_87 H_88 =>
 bnd (aAdd 4 t3_0) fun t68_89 =>
 K_87 t68_89 H_88) (fun t68_90 H_91 =>
 aGuardK t66_86 false (fun K_92 H_93 =>
 bnd (aLdCell t68_90 H_93) fun t69_94 =>
 K_92 t69_94 H_93) (fun t69_95 H_96 =>
 aGuardK t66_86 false (fun K_97 H_98 =>
 bnd (aLenSl t69_95) fun t70_99 =>
 K_97 t70_99 H_98) (fun t70_100 H_101 =>
 aGuardK t66_86 false (fun K_102 H_103 =>
 bnd (aBin .gtr .no t70_100 (.int .i64 0)) fun t71_104 =>
 K_102 t71_104 H_103) (fun t71_105 H_106 =>
 bnd (aPick t66_86 (.bool true) t71_105) fun t72_107 =>
 aCond t72_107 (
 ACalls Try.prog 14 [] H_106 fun t73_108 H_109 =>
 R t73_108 H_109) (
 (S12_514 a0 R t3_0 t40_4 H_106))) H_101) H_96) H_91) H_85) H_80) H_75) H_70) H_65) H_59) H_54) H_49) H_44) H_38) H_33) H_28) H_23) H_17) H_12) H_7
def S12 (a0 : Value) (a1 : Value) (H : AHeap) (R : Value → AHeap → Prop) : Prop :=
 aBox 79 a1 H fun t3_0 H_1 =>
 ACalls Try.prog 13 [(.int .i64 100)] H_1 fun t39_2 H_3 =>
 bnd (aExtract t39_2 0) fun t40_4 =>
 bnd (aExtract t39_2 1) fun t41_5 =>
 ACalls Try.prog 14 [] H_3 fun t42_6 H_7 =>
 (S12_515 a0 R t3_0 t40_4 t41_5 t42_6 H_7)
theorem S12_calls {a0 a1 : Value} {H : AHeap} {R : Value → AHeap → Prop} (h : S12 a0 a1 H R) : ACalls Try.prog 12 [a0, a1] H R :=
  have e : S12 a0 a1 H R = awpFn Try.prog (Try.f12.body.getD .skip) Try.f12.results.toList ann12 [a0, a1] H R := by kernel_rfl
  calls_of_awp (fn := Try.f12) (c := Try.f12.body.getD .skip) (an := ann12) (by kernel_rfl) Try.func12 (by kernel_rfl) (by kernel_rfl) (of_decide_eq_true (by kernel_rfl)) (e ▸ h)

/-- 25: marginalia/marginalialaw07.built -/
def ann25 : Ann := (.two .leaf (.two .leaf (.two (.two .leaf (.two (.two .leaf .leaf) .leaf)) (.two .leaf (.two (.two .leaf (.one (.loop [7] [7, 18, 19, 20, 21, 22, 23, 24, 25, 26, 27, 28, 29, 30, 31, 32, 33, 34, 35, 36, 37, 38, 39, 40, 41, 42, 43, 44, 45, 46, 47, 48, 49, 50, 51, 52, 53, 54, 55, 56, 57, 58, 59, 60] (.two (.two .leaf (.two .leaf .leaf)) (.join [] [28, 29, 30, 31, 32, 33, 34, 35, 36, 37, 38, 39, 40, 41, 42, 43, 44, 45, 46, 47, 48, 49, 50, 51, 52, 53, 54, 55, 56, 57, 58, 59, 60] (.one (.two .leaf (.two (.two (.draw [(0, []), (1, []), (2, []), (3, []), (4, []), (5, []), (6, []), (7, []), (8, []), (9, []), (10, []), (11, []), (12, [5]), (13, [])]) (.draw [(0, []), (1, []), (2, []), (3, []), (4, []), (5, []), (6, []), (7, []), (8, []), (9, []), (10, []), (11, [])])) .leaf))) .leaf))))) (.two (.two .leaf (.one (.loop [8] [8, 9, 61, 62, 63, 64, 65, 66, 67, 68, 69, 70, 71, 72, 73, 74, 75, 76, 77, 78, 79, 80, 81, 82, 83, 84, 85, 86, 87, 88, 89, 90, 91, 92, 93, 94, 95, 96, 97, 98] (.two (.two .leaf (.two .leaf .leaf)) (.two (.one (.two .leaf (.two (.draw [(0, []), (1, []), (2, []), (3, []), (4, []), (5, []), (6, []), (7, []), (8, []), (9, []), (10, []), (11, []), (12, [])]) (.draw [(0, []), (1, []), (2, []), (3, []), (4, []), (5, []), (6, []), (7, []), (8, []), (9, []), (10, []), (11, []), (12, [])])))) .leaf))))) (.two .leaf .leaf)))))))
def S25_53 (a0 : Value) (t12_2 : Value) (t17_6 : Value) (vs_8 : List Value) (H_21 : AHeap) (J_25 : List Value → AHeap → Prop) : Prop :=
 bnd (aIdxAddr 5 a0 (nth vs_8 0)) fun t38_32 =>
 bnd (aAdd 0 t38_32) fun t39_33 =>
 bnd (aLdCell t39_33 H_21) fun t40_34 =>
 aBuildSlice 2 0 28 [(.int .i64 0), (.int .i64 0)] [] H_21 fun t41_35 H_36 =>
 bnd (aIdxAddr 5 a0 (nth vs_8 0)) fun t44_37 =>
 bnd (aAdd 1 t44_37) fun t45_38 =>
 bnd (aLdCell t45_38 H_36) fun t46_39 =>
 aAppend 2 16 28 t41_35 t46_39 H_36 fun t47_40 H_41 =>
 ((bnd (aLdCell t39_33 H_41) fun t40_52 =>
 t40_52 = t40_34)) ∧
 ACalls Try.prog 15 [t12_2, t40_34, t47_40] H_41 fun t48_42 H_43 =>
 bnd (aIdxAddr 5 a0 (nth vs_8 0)) fun t52_44 =>
 bnd (aAdd 0 t52_44) fun t53_45 =>
 bnd (aLdCell t53_45 H_43) fun t54_46 =>
 bnd (aIdxAddr 5 a0 (nth vs_8 0)) fun t57_47 =>
 bnd (aAdd 1 t57_47) fun t58_48 =>
 bnd (aLdCell t58_48 H_43) fun t59_49 =>
 ACalls Try.prog 49 [t17_6, t54_46, t59_49] H_43 fun t60_50 H_51 =>
 J_25 [] H_51
def S25_54 (a0 : Value) (t12_2 : Value) (t17_6 : Value) (vs_8 : List Value) (again_10 : List Value → AHeap → Prop) (H_21 : AHeap) : Prop :=
 aJoin (fun vs_23 H_24 =>
 bnd (aBin .add .no (nth vs_8 0) (.int .i64 1)) fun t27_26 =>
 again_10 [t27_26] H_24) fun J_25 =>
 bnd (aIdxAddr 5 a0 (nth vs_8 0)) fun t30_27 =>
 bnd (aAdd 1 t30_27) fun t31_28 =>
 bnd (aLdCell t31_28 H_21) fun t32_29 =>
 bnd (aLenSl t32_29) fun t33_30 =>
 bnd (aBin .leq .no t33_30 (.int .i64 30)) fun t34_31 =>
 aCond t34_31 (
 (S25_53 a0 t12_2 t17_6 vs_8 H_21 J_25)) (
 J_25 [] H_21)
def S25_93 (a0 : Value) (t17_6 : Value) (vs_55 : List Value) (again_57 : List Value → AHeap → Prop) (t9_71 : Value) (H_82 : AHeap) : Prop :=
 bnd (aLdAgg 2 t9_71 H_82) fun t87_83 =>
 bnd (aIdxAddr 5 a0 (nth vs_55 0)) fun t90_84 =>
 bnd (aAdd 2 t90_84) fun t91_85 =>
 bnd (aLdCell t91_85 H_82) fun t92_86 =>
 bnd (aIdxAddr 5 a0 (nth vs_55 0)) fun t95_87 =>
 bnd (aAdd 3 t95_87) fun t96_88 =>
 bnd (aLdAgg 2 t96_88 H_82) fun t97_89 =>
 ACalls Try.prog 50 [t17_6, t87_83, t92_86, t97_89] H_82 fun t98_90 H_91 =>
 bnd (aBin .add .no (nth vs_55 0) (.int .i64 1)) fun t70_92 =>
 again_57 [t70_92] H_91
def S25_94 (a0 : Value) (t12_2 : Value) (t17_6 : Value) (vs_55 : List Value) (again_57 : List Value → AHeap → Prop) (H_68 : AHeap) : Prop :=
 bnd (aFill [(.int .i64 0), (.int .i64 0)] [(0, 1, (.int .i64 7)), (1, 1, (nth vs_55 0))]) fun t72_70 =>
 aAlloc [(.int .i64 0), (.int .i64 0)] 28 H_68 fun t9_71 H_72 =>
 bnd (aSt 2 t9_71 (.agg t72_70.toArray) H_72) fun H_73 =>
 bnd (aLdAgg 2 t9_71 H_73) fun t74_74 =>
 bnd (aIdxAddr 5 a0 (nth vs_55 0)) fun t77_75 =>
 bnd (aAdd 2 t77_75) fun t78_76 =>
 bnd (aLdCell t78_76 H_73) fun t79_77 =>
 bnd (aIdxAddr 5 a0 (nth vs_55 0)) fun t82_78 =>
 bnd (aAdd 3 t82_78) fun t83_79 =>
 bnd (aLdAgg 2 t83_79 H_73) fun t84_80 =>
 ACalls Try.prog 19 [t12_2, t74_74, t79_77, t84_80] H_73 fun t85_81 H_82 =>
 (S25_93 a0 t17_6 vs_55 again_57 t9_71 H_82)
def S25_95 (a0 : Value) (R : Value → AHeap → Prop) (t12_2 : Value) (t17_6 : Value) (vs_55 : List Value) (H_56 : AHeap) (again_57 : List Value → AHeap → Prop) : Prop :=
 bnd (aLenSl a0) fun t63_58 =>
 bnd (aBin .lss .no (nth vs_55 0) t63_58) fun t64_59 =>
 aGuardK t64_59 true (fun K_60 H_61 =>
 K_60 (nth vs_55 0) H_61) (fun t66_62 H_63 =>
 aGuardK t64_59 true (fun K_64 H_65 =>
 bnd (aBin .lss .no t66_62 (.int .i64 60)) fun t67_66 =>
 K_64 t67_66 H_65) (fun t67_67 H_68 =>
 bnd (aPick t64_59 t67_67 (.bool false)) fun t68_69 =>
 aCond t68_69 (
 (S25_94 a0 t12_2 t17_6 vs_55 again_57 H_68)) (
 R (.tuple #[t12_2, t17_6]) H_68)) H_63) H_56
def S25_96 (a0 : Value) (R : Value → AHeap → Prop) (t12_2 : Value) (t17_6 : Value) (vs_8 : List Value) (H_9 : AHeap) (again_10 : List Value → AHeap → Prop) : Prop :=
 bnd (aLenSl a0) fun t20_11 =>
 bnd (aBin .lss .no (nth vs_8 0) t20_11) fun t21_12 =>
 aGuardK t21_12 true (fun K_13 H_14 =>
 K_13 (nth vs_8 0) H_14) (fun t23_15 H_16 =>
 aGuardK t21_12 true (fun K_17 H_18 =>
 bnd (aBin .lss .no t23_15 (.int .i64 60)) fun t24_19 =>
 K_17 t24_19 H_18) (fun t24_20 H_21 =>
 bnd (aPick t21_12 t24_20 (.bool false)) fun t25_22 =>
 aCond t25_22 (
 (S25_54 a0 t12_2 t17_6 vs_8 again_10 H_21)) (
 aLoop [(.int .i64 0)] H_21 fun vs_55 H_56 again_57 =>
 (S25_95 a0 R t12_2 t17_6 vs_55 H_56 again_57))) H_16) H_9
def S25_97 (a0 : Value) (R : Value → AHeap → Prop) (H_1 : AHeap) (t12_2 : Value) : Prop :=
 bnd (aFill [(.int .i64 0), (.int .i64 0), (.slice none 0 0), (.slice none 0 0)] [(0, 1, (.int .i64 2000))]) fun t16_5 =>
 aBox 64 (.agg t16_5.toArray) H_1 fun t17_6 H_7 =>
 aLoop [(.int .i64 0)] H_7 fun vs_8 H_9 again_10 =>
 (S25_96 a0 R t12_2 t17_6 vs_8 H_9 again_10)
def S25 (a0 : Value) (H : AHeap) (R : Value → AHeap → Prop) : Prop :=
 ACalls Try.prog 13 [(.int .i64 2000)] H fun t11_0 H_1 =>
 bnd (aExtract t11_0 0) fun t12_2 =>
 bnd (aExtract t11_0 1) fun t13_3 =>
 bnd (aBin .neq .no t13_3 (.int .i64 0)) fun t15_4 =>
 aCond t15_4 (
 R (.tuple #[(.pointer none), (.pointer none)]) H_1) (
 (S25_97 a0 R H_1 t12_2))
theorem S25_calls {a0 : Value} {H : AHeap} {R : Value → AHeap → Prop} (h : S25 a0 H R) : ACalls Try.prog 25 [a0] H R :=
  have e : S25 a0 H R = awpFn Try.prog (Try.f25.body.getD .skip) Try.f25.results.toList ann25 [a0] H R := by kernel_rfl
  calls_of_awp (fn := Try.f25) (c := Try.f25.body.getD .skip) (an := ann25) (by kernel_rfl) Try.func25 (by kernel_rfl) (by kernel_rfl) (of_decide_eq_true (by kernel_rfl)) (e ▸ h)

/-- 26: (*marginalia/marginaliaref06.Store).Equal -/
def ann26 : Ann := (.two .leaf (.two .leaf (.two .leaf .leaf)))
def S26 (a0 : Value) (a1 : Value) (a2 : Value) (a3 : Value) (H : AHeap) (R : Value → AHeap → Prop) : Prop :=
 aBox 28 a1 H fun t5_0 H_1 =>
 aBox 28 a2 H_1 fun t6_2 H_3 =>
 bnd (aLdAgg 2 t5_0 H_3) fun t15_4 =>
 bnd (aLdAgg 2 t6_2 H_3) fun t16_5 =>
 ACalls Try.prog 51 [a0, t15_4, t16_5, a3] H_3 fun t18_6 H_7 =>
 bnd (aExtract t18_6 0) fun t19_8 =>
 bnd (aExtract t18_6 1) fun t20_9 =>
 bnd (aExtract t18_6 2) fun t21_10 =>
 R (.tuple #[t19_8, t20_9]) H_7
theorem S26_calls {a0 a1 a2 a3 : Value} {H : AHeap} {R : Value → AHeap → Prop} (h : S26 a0 a1 a2 a3 H R) : ACalls Try.prog 26 [a0, a1, a2, a3] H R :=
  have e : S26 a0 a1 a2 a3 H R = awpFn Try.prog (Try.f26.body.getD .skip) Try.f26.results.toList ann26 [a0, a1, a2, a3] H R := by kernel_rfl
  calls_of_awp (fn := Try.f26) (c := Try.f26.body.getD .skip) (an := ann26) (by kernel_rfl) Try.func26 (by kernel_rfl) (by kernel_rfl) (of_decide_eq_true (by kernel_rfl)) (e ▸ h)

/-- 27: (*marginalia/marginaliaref06.Store).Eqv -/
def ann27 : Ann := (.two .leaf (.two (.two .leaf (.two (.two .leaf .leaf) .leaf)) (.two (.two .leaf (.two (.two .leaf .leaf) .leaf)) (.two .leaf (.two .leaf (.two (.two .leaf (.two (.two .leaf .leaf) .leaf)) (.two (.two .leaf (.one (.loop [9] [6, 9, 34, 35, 36, 37, 38, 39, 40, 41, 42, 43, 44, 45, 46, 47, 48] (.two (.two .leaf (.two .leaf .leaf)) (.two (.one (.two (.draw [(0, []), (1, []), (2, []), (3, []), (4, []), (5, []), (6, []), (7, []), (8, [])]) (.two (.two .leaf .leaf) .leaf))) .leaf))))) (.two .leaf .leaf))))))))
def S27_52 (R : Value → AHeap → Prop) (t25_33 : Value) (t28_36 : Value) (vs_41 : List Value) (H_42 : AHeap) (again_43 : List Value → AHeap → Prop) : Prop :=
 bnd (aIdxAddr 2 t25_33 (nth vs_41 0)) fun t42_46 =>
 bnd (aLdAgg 2 t42_46 H_42) fun t43_47 =>
 bnd (aIdxAddr 2 t28_36 (nth vs_41 0)) fun t46_48 =>
 bnd (aLdAgg 2 t46_48 H_42) fun t47_49 =>
 bnd (aBin .neq (.cells [.int, .int]) t43_47 t47_49) fun t48_50 =>
 aCond t48_50 (
 R (.bool false) H_42) (
 bnd (aBin .add .no (nth vs_41 0) (.int .i64 1)) fun t39_51 =>
 again_43 [t39_51] H_42)
def S27_53 (R : Value → AHeap → Prop) (t25_33 : Value) (t28_36 : Value) (vs_41 : List Value) (H_42 : AHeap) (again_43 : List Value → AHeap → Prop) : Prop :=
 bnd (aLenSl t25_33) fun t36_44 =>
 bnd (aBin .lss .no (nth vs_41 0) t36_44) fun t37_45 =>
 aCond t37_45 (
 (S27_52 R t25_33 t28_36 vs_41 H_42 again_43)) (
 R (.bool true) H_42)
def S27_54 (a0 : Value) (R : Value → AHeap → Prop) (t4_0 : Value) (t5_2 : Value) (H_30 : AHeap) : Prop :=
 bnd (aLdAgg 2 t4_0 H_30) fun t24_32 =>
 ACalls Try.prog 53 [a0, t24_32] H_30 fun t25_33 H_34 =>
 bnd (aLdAgg 2 t5_2 H_34) fun t27_35 =>
 ACalls Try.prog 53 [a0, t27_35] H_34 fun t28_36 H_37 =>
 bnd (aLenSl t25_33) fun t30_38 =>
 bnd (aLenSl t28_36) fun t32_39 =>
 bnd (aBin .neq .no t30_38 t32_39) fun t33_40 =>
 aCond t33_40 (
 R (.bool false) H_37) (
 aLoop [(.int .i64 0)] H_37 fun vs_41 H_42 again_43 =>
 (S27_53 R t25_33 t28_36 vs_41 H_42 again_43))
def S27_55 (a0 : Value) (R : Value → AHeap → Prop) (t4_0 : Value) (t5_2 : Value) (t15_8 : Value) (H_9 : AHeap) : Prop :=
 bnd (aBin .neq .no t15_8 (.int .i64 5)) fun t16_10 =>
 aGuardK t16_10 false (fun K_11 H_12 =>
 K_11 a0 H_12) (fun t18_13 H_14 =>
 aGuardK t16_10 false (fun K_15 H_16 =>
 bnd (aLdAgg 2 t5_2 H_16) fun t19_17 =>
 K_15 t19_17 H_16) (fun t19_18 H_19 =>
 aGuardK t16_10 false (fun K_20 H_21 =>
 ACalls Try.prog 52 [t18_13, t19_18] H_21 fun t20_22 H_23 =>
 K_20 t20_22 H_23) (fun t20_24 H_25 =>
 aGuardK t16_10 false (fun K_26 H_27 =>
 bnd (aBin .neq .no t20_24 (.int .i64 5)) fun t21_28 =>
 K_26 t21_28 H_27) (fun t21_29 H_30 =>
 bnd (aPick t16_10 (.bool true) t21_29) fun t22_31 =>
 aCond t22_31 (
 R (.bool false) H_30) (
 (S27_54 a0 R t4_0 t5_2 H_30))) H_25) H_19) H_14) H_9
def S27 (a0 : Value) (a1 : Value) (a2 : Value) (H : AHeap) (R : Value → AHeap → Prop) : Prop :=
 aBox 28 a1 H fun t4_0 H_1 =>
 aBox 28 a2 H_1 fun t5_2 H_3 =>
 bnd (aLdAgg 2 t4_0 H_3) fun t10_4 =>
 bnd (aLdAgg 2 t5_2 H_3) fun t11_5 =>
 bnd (aBin .eql (.cells [.int, .int]) t10_4 t11_5) fun t12_6 =>
 aCond t12_6 (
 R (.bool true) H_3) (
 bnd (aLdAgg 2 t4_0 H_3) fun t14_7 =>
 ACalls Try.prog 52 [a0, t14_7] H_3 fun t15_8 H_9 =>
 (S27_55 a0 R t4_0 t5_2 t15_8 H_9))
theorem S27_calls {a0 a1 a2 : Value} {H : AHeap} {R : Value → AHeap → Prop} (h : S27 a0 a1 a2 H R) : ACalls Try.prog 27 [a0, a1, a2] H R :=
  have e : S27 a0 a1 a2 H R = awpFn Try.prog (Try.f27.body.getD .skip) Try.f27.results.toList ann27 [a0, a1, a2] H R := by kernel_rfl
  calls_of_awp (fn := Try.f27) (c := Try.f27.body.getD .skip) (an := ann27) (by kernel_rfl) Try.func27 (by kernel_rfl) (by kernel_rfl) (of_decide_eq_true (by kernel_rfl)) (e ▸ h)

/-- 29: marginalia/marginalialaw06.act -/
def ann29 : Ann := (.two .leaf (.two (.two .leaf (.one (.two .leaf (.two (.two (.draw [(0, []), (1, []), (2, []), (3, []), (4, []), (10, []), (5, [2, 10]), (6, [10]), (7, []), (8, []), (9, []), (11, []), (12, [])]) (.two .leaf (.two .leaf .leaf))) (.two .leaf (.two (.two (.draw [(0, []), (1, []), (2, []), (3, []), (4, []), (5, []), (6, []), (8, []), (9, []), (10, []), (11, []), (12, []), (13, []), (14, []), (7, [10, 12, 14]), (15, []), (16, []), (17, [])]) .leaf) (.two .leaf (.two (.two .leaf (.two .leaf (.two .leaf .leaf))) (.two .leaf (.two (.two .leaf (.two .leaf (.two .leaf .leaf))) (.two .leaf (.two (.two .leaf (.two .leaf (.two .leaf .leaf))) (.two .leaf (.two (.two .leaf (.two .leaf (.two .leaf .leaf))) (.two .leaf (.two (.two .leaf (.two (.two .leaf (.one (.loop [27, 28] [27, 28, 190, 191, 192, 193, 194, 195, 196, 197, 198, 199, 200, 201, 202, 203, 204, 205, 206, 207, 208, 209, 210, 211, 212, 213, 214, 215, 216] (.two (.two .leaf (.two .leaf .leaf)) (.two (.one .leaf) .leaf))))) (.two .leaf (.two .leaf (.two .leaf .leaf))))) .leaf)))))))))))))))) (.two .leaf .leaf)))
def S29_46 (R : Value → AHeap → Prop) (t7_9 : Value) (t46_16 : Value) (t53_22 : Value) (H_23 : AHeap) : Prop :=
 bnd (aExtract t53_22 0) fun t54_24 =>
 bnd (aExtract t53_22 1) fun t55_25 =>
 aAlloc [(.int .i64 0), (.int .i64 0)] 28 H_23 fun t9_26 H_27 =>
 bnd (aSt 2 t9_26 t54_24 H_27) fun H_28 =>
 bnd (aLdAgg 2 t7_9 H_28) fun t56_29 =>
 bnd (aLdAgg 2 t9_26 H_28) fun t57_30 =>
 bnd (aBin .eql (.cells [.int, .int]) t56_29 t57_30) fun t58_31 =>
 aGuardK t58_31 true (fun K_32 H_33 =>
 K_32 t46_16 H_33) (fun t60_34 H_35 =>
 aGuardK t58_31 true (fun K_36 H_37 =>
 K_36 t55_25 H_37) (fun t61_38 H_39 =>
 aGuardK t58_31 true (fun K_40 H_41 =>
 bnd (aBin .eql .no t60_34 t61_38) fun t62_42 =>
 K_40 t62_42 H_41) (fun t62_43 H_44 =>
 bnd (aPick t58_31 t62_43 (.bool false)) fun t63_45 =>
 R t63_45 H_44) H_39) H_35) H_28
def S29_47 (a1 : Value) (R : Value → AHeap → Prop) (t5_0 : Value) (t7_9 : Value) (H_12 : AHeap) (t44_13 : Value) (H_14 : AHeap) : Prop :=
 ((H_14.at_ (blkOf t7_9) = H_12.at_ (blkOf t7_9))) ∧
 bnd (aExtract t44_13 0) fun t45_15 =>
 bnd (aExtract t44_13 1) fun t46_16 =>
 bnd (aSt 2 t7_9 t45_15 H_14) fun H_17 =>
 bnd (aAdd 1 t5_0) fun t49_18 =>
 bnd (aLdCell t49_18 H_17) fun t50_19 =>
 bnd (aAdd 3 t5_0) fun t51_20 =>
 bnd (aLdCell t51_20 H_17) fun t52_21 =>
 ACalls Try.prog 49 [a1, t50_19, t52_21] H_17 fun t53_22 H_23 =>
 (S29_46 R t7_9 t46_16 t53_22 H_23)
def S29_49 (a0 : Value) (a1 : Value) (R : Value → AHeap → Prop) (t5_0 : Value) (H_1 : AHeap) : Prop :=
 bnd (aAdd 1 t5_0) fun t39_5 =>
 bnd (aLdCell t39_5 H_1) fun t40_6 =>
 bnd (aAdd 3 t5_0) fun t41_7 =>
 bnd (aLdCell t41_7 H_1) fun t42_8 =>
 aAlloc [(.int .i64 0), (.int .i64 0)] 28 H_1 fun t7_9 H_10 =>
 ACalls Try.prog 54 [t42_8] H_10 fun t43_11 H_12 =>
 ((bnd (aLdCell t39_5 H_12) fun t40_48 =>
 t40_48 = t40_6) ∧ (H_12.at_ (blkOf t7_9) = H_10.at_ (blkOf t7_9))) ∧
 ACalls Try.prog 15 [a0, t40_6, t43_11] H_12 fun t44_13 H_14 =>
 (S29_47 a1 R t5_0 t7_9 H_12 t44_13 H_14)
def S29_71 (a0 : Value) (a1 : Value) (R : Value → AHeap → Prop) (t5_0 : Value) (H_1 : AHeap) : Prop :=
 bnd (aAdd 4 t5_0) fun t67_51 =>
 bnd (aLdAgg 2 t67_51 H_1) fun t68_52 =>
 bnd (aAdd 2 t5_0) fun t69_53 =>
 bnd (aLdCell t69_53 H_1) fun t70_54 =>
 bnd (aAdd 6 t5_0) fun t71_55 =>
 bnd (aLdAgg 2 t71_55 H_1) fun t72_56 =>
 bnd (aAdd 4 t5_0) fun t75_57 =>
 bnd (aLdAgg 2 t75_57 H_1) fun t76_58 =>
 bnd (aAdd 2 t5_0) fun t77_59 =>
 bnd (aLdCell t77_59 H_1) fun t78_60 =>
 bnd (aAdd 6 t5_0) fun t79_61 =>
 bnd (aLdAgg 2 t79_61 H_1) fun t80_62 =>
 ACalls Try.prog 19 [a0, t68_52, t70_54, t72_56] H_1 fun t73_63 H_64 =>
 ((bnd (aLdAgg 2 t75_57 H_64) fun t76_68 =>
 t76_68 = t76_58) ∧ (bnd (aLdCell t77_59 H_64) fun t78_69 =>
 t78_69 = t78_60) ∧ (bnd (aLdAgg 2 t79_61 H_64) fun t80_70 =>
 t80_70 = t80_62)) ∧
 ACalls Try.prog 50 [a1, t76_58, t78_60, t80_62] H_64 fun t81_65 H_66 =>
 bnd (aBin .eql .no t73_63 t81_65) fun t82_67 =>
 R t82_67 H_66
def S29_112 (R : Value → AHeap → Prop) (t93_80 : Value) (t11_81 : Value) (t100_88 : Value) (H_89 : AHeap) : Prop :=
 bnd (aExtract t100_88 0) fun t101_90 =>
 bnd (aExtract t100_88 1) fun t102_91 =>
 aAlloc [(.int .i64 0), (.int .i64 0)] 28 H_89 fun t13_92 H_93 =>
 bnd (aSt 2 t13_92 t101_90 H_93) fun H_94 =>
 bnd (aLdAgg 2 t11_81 H_94) fun t103_95 =>
 bnd (aLdAgg 2 t13_92 H_94) fun t104_96 =>
 bnd (aBin .eql (.cells [.int, .int]) t103_95 t104_96) fun t105_97 =>
 aGuardK t105_97 true (fun K_98 H_99 =>
 K_98 t93_80 H_99) (fun t107_100 H_101 =>
 aGuardK t105_97 true (fun K_102 H_103 =>
 K_102 t102_91 H_103) (fun t108_104 H_105 =>
 aGuardK t105_97 true (fun K_106 H_107 =>
 bnd (aBin .eql .no t107_100 t108_104) fun t109_108 =>
 K_106 t109_108 H_107) (fun t109_109 H_110 =>
 bnd (aPick t105_97 t109_109 (.bool false)) fun t110_111 =>
 R t110_111 H_110) H_105) H_101) H_94
def S29_113 (a1 : Value) (R : Value → AHeap → Prop) (t5_0 : Value) (t91_77 : Value) (H_78 : AHeap) : Prop :=
 bnd (aExtract t91_77 0) fun t92_79 =>
 bnd (aExtract t91_77 1) fun t93_80 =>
 aAlloc [(.int .i64 0), (.int .i64 0)] 28 H_78 fun t11_81 H_82 =>
 bnd (aSt 2 t11_81 t92_79 H_82) fun H_83 =>
 bnd (aAdd 4 t5_0) fun t96_84 =>
 bnd (aLdAgg 2 t96_84 H_83) fun t97_85 =>
 bnd (aAdd 2 t5_0) fun t98_86 =>
 bnd (aLdCell t98_86 H_83) fun t99_87 =>
 ACalls Try.prog 55 [a1, t97_85, t99_87] H_83 fun t100_88 H_89 =>
 (S29_112 R t93_80 t11_81 t100_88 H_89)
def S29_150 (R : Value → AHeap → Prop) (t119_120 : Value) (t15_121 : Value) (t124_126 : Value) (H_127 : AHeap) : Prop :=
 bnd (aExtract t124_126 0) fun t125_128 =>
 bnd (aExtract t124_126 1) fun t126_129 =>
 aAlloc [(.int .i64 0), (.int .i64 0)] 28 H_127 fun t17_130 H_131 =>
 bnd (aSt 2 t17_130 t125_128 H_131) fun H_132 =>
 bnd (aLdAgg 2 t15_121 H_132) fun t127_133 =>
 bnd (aLdAgg 2 t17_130 H_132) fun t128_134 =>
 bnd (aBin .eql (.cells [.int, .int]) t127_133 t128_134) fun t129_135 =>
 aGuardK t129_135 true (fun K_136 H_137 =>
 K_136 t119_120 H_137) (fun t131_138 H_139 =>
 aGuardK t129_135 true (fun K_140 H_141 =>
 K_140 t126_129 H_141) (fun t132_142 H_143 =>
 aGuardK t129_135 true (fun K_144 H_145 =>
 bnd (aBin .eql .no t131_138 t132_142) fun t133_146 =>
 K_144 t133_146 H_145) (fun t133_147 H_148 =>
 bnd (aPick t129_135 t133_147 (.bool false)) fun t134_149 =>
 R t134_149 H_148) H_143) H_139) H_132
def S29_151 (a0 : Value) (a1 : Value) (R : Value → AHeap → Prop) (t5_0 : Value) (H_1 : AHeap) : Prop :=
 bnd (aAdd 8 t5_0) fun t115_115 =>
 bnd (aLdCell t115_115 H_1) fun t116_116 =>
 ACalls Try.prog 23 [a0, t116_116] H_1 fun t117_117 H_118 =>
 bnd (aExtract t117_117 0) fun t118_119 =>
 bnd (aExtract t117_117 1) fun t119_120 =>
 aAlloc [(.int .i64 0), (.int .i64 0)] 28 H_118 fun t15_121 H_122 =>
 bnd (aSt 2 t15_121 t118_119 H_122) fun H_123 =>
 bnd (aAdd 8 t5_0) fun t122_124 =>
 bnd (aLdCell t122_124 H_123) fun t123_125 =>
 ACalls Try.prog 56 [a1, t123_125] H_123 fun t124_126 H_127 =>
 (S29_150 R t119_120 t15_121 t124_126 H_127)
def S29_180 (R : Value → AHeap → Prop) (t142_157 : Value) (t143_158 : Value) (t148_161 : Value) (H_162 : AHeap) : Prop :=
 bnd (aExtract t148_161 0) fun t149_163 =>
 bnd (aExtract t148_161 1) fun t150_164 =>
 bnd (aBin .eql .no t142_157 t149_163) fun t153_165 =>
 aGuardK t153_165 true (fun K_166 H_167 =>
 K_166 t143_158 H_167) (fun t155_168 H_169 =>
 aGuardK t153_165 true (fun K_170 H_171 =>
 K_170 t150_164 H_171) (fun t156_172 H_173 =>
 aGuardK t153_165 true (fun K_174 H_175 =>
 bnd (aBin .eql .no t155_168 t156_172) fun t157_176 =>
 K_174 t157_176 H_175) (fun t157_177 H_178 =>
 bnd (aPick t153_165 t157_177 (.bool false)) fun t158_179 =>
 R t158_179 H_178) H_173) H_169) H_162
def S29_181 (a0 : Value) (a1 : Value) (R : Value → AHeap → Prop) (t5_0 : Value) (H_1 : AHeap) : Prop :=
 bnd (aAdd 4 t5_0) fun t139_153 =>
 bnd (aLdAgg 2 t139_153 H_1) fun t140_154 =>
 ACalls Try.prog 24 [a0, t140_154] H_1 fun t141_155 H_156 =>
 bnd (aExtract t141_155 0) fun t142_157 =>
 bnd (aExtract t141_155 1) fun t143_158 =>
 bnd (aAdd 4 t5_0) fun t146_159 =>
 bnd (aLdAgg 2 t146_159 H_156) fun t147_160 =>
 ACalls Try.prog 57 [a1, t147_160] H_156 fun t148_161 H_162 =>
 (S29_180 R t142_157 t143_158 t148_161 H_162)
def S29_220 (R : Value → AHeap → Prop) (t168_189 : Value) (t23_190 : Value) (t174_196 : Value) (H_197 : AHeap) : Prop :=
 bnd (aExtract t174_196 0) fun t175_198 =>
 bnd (aExtract t174_196 1) fun t176_199 =>
 aAlloc [(.int .i64 0), (.int .i64 0)] 28 H_197 fun t25_200 H_201 =>
 bnd (aSt 2 t25_200 t175_198 H_201) fun H_202 =>
 bnd (aLdAgg 2 t23_190 H_202) fun t177_203 =>
 bnd (aLdAgg 2 t25_200 H_202) fun t178_204 =>
 bnd (aBin .eql (.cells [.int, .int]) t177_203 t178_204) fun t179_205 =>
 aGuardK t179_205 true (fun K_206 H_207 =>
 K_206 t168_189 H_207) (fun t181_208 H_209 =>
 aGuardK t179_205 true (fun K_210 H_211 =>
 K_210 t176_199 H_211) (fun t182_212 H_213 =>
 aGuardK t179_205 true (fun K_214 H_215 =>
 bnd (aBin .eql .no t181_208 t182_212) fun t183_216 =>
 K_214 t183_216 H_215) (fun t183_217 H_218 =>
 bnd (aPick t179_205 t183_217 (.bool false)) fun t184_219 =>
 R t184_219 H_218) H_213) H_209) H_202
def S29_221 (a1 : Value) (R : Value → AHeap → Prop) (t5_0 : Value) (t166_186 : Value) (H_187 : AHeap) : Prop :=
 bnd (aExtract t166_186 0) fun t167_188 =>
 bnd (aExtract t166_186 1) fun t168_189 =>
 aAlloc [(.int .i64 0), (.int .i64 0)] 28 H_187 fun t23_190 H_191 =>
 bnd (aSt 2 t23_190 t167_188 H_191) fun H_192 =>
 bnd (aAdd 8 t5_0) fun t171_193 =>
 bnd (aLdCell t171_193 H_192) fun t172_194 =>
 bnd (aFill [(.int .i64 0), (.string ⟨#[]⟩), (.bool false), (.slice none 0 0), (.slice none 0 0), (.int .i64 0), (.slice none 0 0), (.slice none 0 0)] [(0, 1, (.int .i64 4)), (1, 1, t172_194)]) fun t173_195 =>
 ACalls Try.prog 58 [a1, (.agg t173_195.toArray)] H_192 fun t174_196 H_197 =>
 (S29_220 R t168_189 t23_190 t174_196 H_197)
def S29_222 (a0 : Value) (a1 : Value) (R : Value → AHeap → Prop) (t5_0 : Value) (H_1 : AHeap) : Prop :=
 bnd (aAdd 8 t5_0) fun t163_183 =>
 bnd (aLdCell t163_183 H_1) fun t164_184 =>
 bnd (aFill [(.int .i64 0), (.string ⟨#[]⟩), (.bool false), (.slice none 0 0), (.slice none 0 0), (.int .i64 0), (.slice none 0 0), (.slice none 0 0)] [(0, 1, (.int .i64 4)), (1, 1, t164_184)]) fun t165_185 =>
 ACalls Try.prog 34 [a0, (.agg t165_185.toArray)] H_1 fun t166_186 H_187 =>
 (S29_221 a1 R t5_0 t166_186 H_187)
def S29_280 (a1 : Value) (vs_228 : List Value) (again_230 : List Value → AHeap → Prop) (H_266 : AHeap) : Prop :=
 bnd (aNilCheck a1) fun t207_268 =>
 bnd (aAdd 2 t207_268) fun t208_269 =>
 bnd (aLdCell t208_269 H_266) fun t209_270 =>
 bnd (aLenSl t209_270) fun t210_271 =>
 bnd (aBin .sub .no t210_271 (.int .i64 1)) fun t211_272 =>
 bnd (aBin .sub .no t211_272 (nth vs_228 1)) fun t213_273 =>
 bnd (aFill [(.int .i64 0), (.int .i64 0)] [(0, 1, (.int .i64 7)), (1, 1, t213_273)]) fun t214_274 =>
 aBuildSlice 2 1 28 [(.int .i64 0), (.int .i64 0)] [(0, 2, (.agg t214_274.toArray))] H_266 fun t215_275 H_276 =>
 aAppend 2 16 28 (nth vs_228 0) t215_275 H_276 fun t216_277 H_278 =>
 bnd (aBin .add .no (nth vs_228 1) (.int .i64 1)) fun t204_279 =>
 again_230 [t216_277, t204_279] H_278
def S29_307 (R : Value → AHeap → Prop) (t223_286 : Value) (t229_290 : Value) (t232_291 : Value) (H_292 : AHeap) : Prop :=
 aGuardK t232_291 true (fun K_293 H_294 =>
 K_293 t223_286 H_294) (fun t234_295 H_296 =>
 aGuardK t232_291 true (fun K_297 H_298 =>
 K_297 t229_290 H_298) (fun t235_299 H_300 =>
 aGuardK t232_291 true (fun K_301 H_302 =>
 bnd (aBin .eql .no t234_295 t235_299) fun t236_303 =>
 K_301 t236_303 H_302) (fun t236_304 H_305 =>
 bnd (aPick t232_291 t236_304 (.bool false)) fun t237_306 =>
 R t237_306 H_305) H_300) H_296) H_292
def S29_308 (a0 : Value) (a1 : Value) (R : Value → AHeap → Prop) (vs_228 : List Value) (t220_281 : Value) (H_282 : AHeap) : Prop :=
 ACalls Try.prog 16 [a0, t220_281] H_282 fun t221_283 H_284 =>
 bnd (aExtract t221_283 0) fun t222_285 =>
 bnd (aExtract t221_283 1) fun t223_286 =>
 ACalls Try.prog 59 [a1, (nth vs_228 0)] H_284 fun t227_287 H_288 =>
 bnd (aExtract t227_287 0) fun t228_289 =>
 bnd (aExtract t227_287 1) fun t229_290 =>
 ACalls Try.prog 60 [t222_285, t228_289] H_288 fun t232_291 H_292 =>
 (S29_307 R t223_286 t229_290 t232_291 H_292)
def S29_309 (a0 : Value) (a1 : Value) (R : Value → AHeap → Prop) (t5_0 : Value) (vs_228 : List Value) (H_229 : AHeap) (again_230 : List Value → AHeap → Prop) : Prop :=
 bnd (aAdd 2 t5_0) fun t191_231 =>
 bnd (aLdCell t191_231 H_229) fun t192_232 =>
 bnd (aBin .lss .no (nth vs_228 1) t192_232) fun t193_233 =>
 aGuardK t193_233 true (fun K_234 H_235 =>
 K_234 (nth vs_228 1) H_235) (fun t195_236 H_237 =>
 aGuardK t193_233 true (fun K_238 H_239 =>
 K_238 a1 H_239) (fun t196_240 H_241 =>
 aGuardK t193_233 true (fun K_242 H_243 =>
 bnd (aNilCheck t196_240) fun t197_244 =>
 K_242 t197_244 H_243) (fun t197_245 H_246 =>
 aGuardK t193_233 true (fun K_247 H_248 =>
 bnd (aAdd 2 t197_245) fun t198_249 =>
 K_247 t198_249 H_248) (fun t198_250 H_251 =>
 aGuardK t193_233 true (fun K_252 H_253 =>
 bnd (aLdCell t198_250 H_253) fun t199_254 =>
 K_252 t199_254 H_253) (fun t199_255 H_256 =>
 aGuardK t193_233 true (fun K_257 H_258 =>
 bnd (aLenSl t199_255) fun t200_259 =>
 K_257 t200_259 H_258) (fun t200_260 H_261 =>
 aGuardK t193_233 true (fun K_262 H_263 =>
 bnd (aBin .lss .no t195_236 t200_260) fun t201_264 =>
 K_262 t201_264 H_263) (fun t201_265 H_266 =>
 bnd (aPick t193_233 t201_265 (.bool false)) fun t202_267 =>
 aCond t202_267 (
 (S29_280 a1 vs_228 again_230 H_266)) (
 ACalls Try.prog 54 [(nth vs_228 0)] H_266 fun t220_281 H_282 =>
 (S29_308 a0 a1 R vs_228 t220_281 H_282))) H_261) H_256) H_251) H_246) H_241) H_237) H_229
def S29_310 (a0 : Value) (a1 : Value) (R : Value → AHeap → Prop) (t5_0 : Value) (H_1 : AHeap) (t34_3 : Value) : Prop :=
 bnd (aBin .eql .no t34_3 (.int .i64 7)) fun t186_223 =>
 aCond t186_223 (
 bnd (aAdd 3 t5_0) fun t187_224 =>
 bnd (aLdCell t187_224 H_1) fun t188_225 =>
 ACalls Try.prog 54 [t188_225] H_1 fun t189_226 H_227 =>
 aLoop [t189_226, (.int .i64 0)] H_227 fun vs_228 H_229 again_230 =>
 (S29_309 a0 a1 R t5_0 vs_228 H_229 again_230)) (
 R (.bool true) H_1)
def S29_311 (a0 : Value) (a1 : Value) (R : Value → AHeap → Prop) (t5_0 : Value) (H_1 : AHeap) (t34_3 : Value) : Prop :=
 bnd (aBin .eql .no t34_3 (.int .i64 4)) fun t112_114 =>
 aCond t112_114 (
 (S29_151 a0 a1 R t5_0 H_1)) (
 bnd (aBin .eql .no t34_3 (.int .i64 5)) fun t136_152 =>
 aCond t136_152 (
 (S29_181 a0 a1 R t5_0 H_1)) (
 bnd (aBin .eql .no t34_3 (.int .i64 6)) fun t160_182 =>
 aCond t160_182 (
 (S29_222 a0 a1 R t5_0 H_1)) (
 (S29_310 a0 a1 R t5_0 H_1 t34_3))))
def S29_312 (a0 : Value) (a1 : Value) (R : Value → AHeap → Prop) (t5_0 : Value) (H_1 : AHeap) (t34_3 : Value) : Prop :=
 bnd (aBin .eql .no t34_3 (.int .i64 3)) fun t84_72 =>
 aCond t84_72 (
 bnd (aAdd 4 t5_0) fun t87_73 =>
 bnd (aLdAgg 2 t87_73 H_1) fun t88_74 =>
 bnd (aAdd 2 t5_0) fun t89_75 =>
 bnd (aLdCell t89_75 H_1) fun t90_76 =>
 ACalls Try.prog 18 [a0, t88_74, t90_76] H_1 fun t91_77 H_78 =>
 (S29_113 a1 R t5_0 t91_77 H_78)) (
 (S29_311 a0 a1 R t5_0 H_1 t34_3))
def S29 (a0 : Value) (a1 : Value) (a2 : Value) (H : AHeap) (R : Value → AHeap → Prop) : Prop :=
 aBox 66 a2 H fun t5_0 H_1 =>
 bnd (aAdd 0 t5_0) fun t33_2 =>
 bnd (aLdCell t33_2 H_1) fun t34_3 =>
 bnd (aBin .eql .no t34_3 (.int .i64 1)) fun t36_4 =>
 aCond t36_4 (
 (S29_49 a0 a1 R t5_0 H_1)) (
 bnd (aBin .eql .no t34_3 (.int .i64 2)) fun t65_50 =>
 aCond t65_50 (
 (S29_71 a0 a1 R t5_0 H_1)) (
 (S29_312 a0 a1 R t5_0 H_1 t34_3)))
theorem S29_calls {a0 a1 a2 : Value} {H : AHeap} {R : Value → AHeap → Prop} (h : S29 a0 a1 a2 H R) : ACalls Try.prog 29 [a0, a1, a2] H R :=
  have e : S29 a0 a1 a2 H R = awpFn Try.prog (Try.f29.body.getD .skip) Try.f29.results.toList ann29 [a0, a1, a2] H R := by kernel_rfl
  calls_of_awp (fn := Try.f29) (c := Try.f29.body.getD .skip) (an := ann29) (by kernel_rfl) Try.func29 (by kernel_rfl) (by kernel_rfl) (of_decide_eq_true (by kernel_rfl)) (e ▸ h)

/-- 31: (*marginalia/marginaliaref06.Store).Sound -/
def ann31 : Ann := (.two .leaf (.two (.two .leaf (.one (.join [7] [7, 8, 9, 10, 11, 12] (.two .leaf (.two .leaf (.two .leaf (.two .leaf (.two .leaf (.two .leaf (.two .leaf (.two .leaf .leaf)))))))) (.two (.two .leaf .leaf) (.two .leaf (.two (.two .leaf .leaf) (.two .leaf (.two (.two .leaf .leaf) (.two .leaf (.two (.two (.draw [(0, []), (1, []), (2, []), (3, []), (4, []), (5, []), (6, []), (7, []), (8, []), (9, []), (10, []), (11, []), (12, []), (13, [])]) .leaf) (.two .leaf (.two (.two (.draw [(0, []), (1, []), (2, []), (3, []), (4, []), (5, []), (6, []), (7, []), (8, []), (9, []), (10, []), (11, []), (12, []), (13, [])]) .leaf) (.two .leaf (.two (.two .leaf .leaf) .leaf)))))))))))))) (.two .leaf .leaf)))
def S31_60 (a0 : Value) (R : Value → AHeap → Prop) (t3_0 : Value) (H_5 : AHeap) : Prop :=
 bnd (aAdd 1 t3_0) fun t25_17 =>
 bnd (aLdCell t25_17 H_5) fun t26_18 =>
 bnd (aBin .geq .no t26_18 (.int .i64 0)) fun t27_19 =>
 aGuardK t27_19 true (fun K_20 H_21 =>
 bnd (aAdd 1 t3_0) fun t29_22 =>
 K_20 t29_22 H_21) (fun t29_23 H_24 =>
 aGuardK t27_19 true (fun K_25 H_26 =>
 bnd (aLdCell t29_23 H_26) fun t30_27 =>
 K_25 t30_27 H_26) (fun t30_28 H_29 =>
 aGuardK t27_19 true (fun K_30 H_31 =>
 K_30 a0 H_31) (fun t31_32 H_33 =>
 aGuardK t27_19 true (fun K_34 H_35 =>
 bnd (aNilCheck t31_32) fun t32_36 =>
 K_34 t32_36 H_35) (fun t32_37 H_38 =>
 aGuardK t27_19 true (fun K_39 H_40 =>
 bnd (aAdd 3 t32_37) fun t33_41 =>
 K_39 t33_41 H_40) (fun t33_42 H_43 =>
 aGuardK t27_19 true (fun K_44 H_45 =>
 bnd (aLdCell t33_42 H_45) fun t34_46 =>
 K_44 t34_46 H_45) (fun t34_47 H_48 =>
 aGuardK t27_19 true (fun K_49 H_50 =>
 bnd (aLenSl t34_47) fun t35_51 =>
 K_49 t35_51 H_50) (fun t35_52 H_53 =>
 aGuardK t27_19 true (fun K_54 H_55 =>
 bnd (aBin .lss .no t30_28 t35_52) fun t36_56 =>
 K_54 t36_56 H_55) (fun t36_57 H_58 =>
 bnd (aPick t27_19 t36_57 (.bool false)) fun t37_59 =>
 R t37_59 H_58) H_53) H_48) H_43) H_38) H_33) H_29) H_24) H_5
def S31_105 (a0 : Value) (R : Value → AHeap → Prop) (t3_0 : Value) (H_5 : AHeap) : Prop :=
 bnd (aAdd 1 t3_0) fun t40_62 =>
 bnd (aLdCell t40_62 H_5) fun t41_63 =>
 bnd (aBin .geq .no t41_63 (.int .i64 0)) fun t42_64 =>
 aGuardK t42_64 true (fun K_65 H_66 =>
 bnd (aAdd 1 t3_0) fun t44_67 =>
 K_65 t44_67 H_66) (fun t44_68 H_69 =>
 aGuardK t42_64 true (fun K_70 H_71 =>
 bnd (aLdCell t44_68 H_71) fun t45_72 =>
 K_70 t45_72 H_71) (fun t45_73 H_74 =>
 aGuardK t42_64 true (fun K_75 H_76 =>
 K_75 a0 H_76) (fun t46_77 H_78 =>
 aGuardK t42_64 true (fun K_79 H_80 =>
 bnd (aNilCheck t46_77) fun t47_81 =>
 K_79 t47_81 H_80) (fun t47_82 H_83 =>
 aGuardK t42_64 true (fun K_84 H_85 =>
 bnd (aAdd 2 t47_82) fun t48_86 =>
 K_84 t48_86 H_85) (fun t48_87 H_88 =>
 aGuardK t42_64 true (fun K_89 H_90 =>
 bnd (aLdCell t48_87 H_90) fun t49_91 =>
 K_89 t49_91 H_90) (fun t49_92 H_93 =>
 aGuardK t42_64 true (fun K_94 H_95 =>
 bnd (aLenSl t49_92) fun t50_96 =>
 K_94 t50_96 H_95) (fun t50_97 H_98 =>
 aGuardK t42_64 true (fun K_99 H_100 =>
 bnd (aBin .lss .no t45_73 t50_97) fun t51_101 =>
 K_99 t51_101 H_100) (fun t51_102 H_103 =>
 bnd (aPick t42_64 t51_102 (.bool false)) fun t52_104 =>
 R t52_104 H_103) H_98) H_93) H_88) H_83) H_78) H_74) H_69) H_5
def S31_126 (R : Value → AHeap → Prop) (t3_0 : Value) (H_5 : AHeap) : Prop :=
 bnd (aAdd 1 t3_0) fun t55_107 =>
 bnd (aLdCell t55_107 H_5) fun t56_108 =>
 bnd (aBin .geq .no t56_108 (.int .i64 0)) fun t57_109 =>
 aGuardK t57_109 true (fun K_110 H_111 =>
 bnd (aAdd 1 t3_0) fun t59_112 =>
 K_110 t59_112 H_111) (fun t59_113 H_114 =>
 aGuardK t57_109 true (fun K_115 H_116 =>
 bnd (aLdCell t59_113 H_116) fun t60_117 =>
 K_115 t60_117 H_116) (fun t60_118 H_119 =>
 aGuardK t57_109 true (fun K_120 H_121 =>
 bnd (aBin .leq .no t60_118 (.int .i64 255)) fun t61_122 =>
 K_120 t61_122 H_121) (fun t61_123 H_124 =>
 bnd (aPick t57_109 t61_123 (.bool false)) fun t62_125 =>
 R t62_125 H_124) H_119) H_114) H_5
def S31_127 (a0 : Value) (R : Value → AHeap → Prop) (t3_0 : Value) (t6_3 : Value) (H_5 : AHeap) : Prop :=
 bnd (aBin .eql .no t6_3 (.int .i64 6)) fun t24_16 =>
 aCond t24_16 (
 (S31_60 a0 R t3_0 H_5)) (
 bnd (aBin .eql .no t6_3 (.int .i64 7)) fun t39_61 =>
 aCond t39_61 (
 (S31_105 a0 R t3_0 H_5)) (
 bnd (aBin .eql .no t6_3 (.int .i64 8)) fun t54_106 =>
 aCond t54_106 (
 (S31_126 R t3_0 H_5)) (
 R (.bool false) H_5)))
def S31_128 (a0 : Value) (R : Value → AHeap → Prop) (t3_0 : Value) (t6_3 : Value) (H_5 : AHeap) : Prop :=
 bnd (aBin .eql .no t6_3 (.int .i64 4)) fun t17_10 =>
 aCond t17_10 (
 R (.bool true) H_5) (
 bnd (aBin .eql .no t6_3 (.int .i64 5)) fun t19_11 =>
 aCond t19_11 (
 bnd (aAdd 1 t3_0) fun t20_12 =>
 bnd (aLdCell t20_12 H_5) fun t21_13 =>
 ACalls Try.prog 63 [t21_13] H_5 fun t22_14 H_15 =>
 R t22_14 H_15) (
 (S31_127 a0 R t3_0 t6_3 H_5)))
def S31_134 (H_1 : AHeap) (t6_3 : Value) (J_6 : List Value → AHeap → Prop) : Prop :=
 bnd (aBin .eql .no t6_3 (.int .i64 2)) fun t10_131 =>
 aCond t10_131 (
 J_6 [t10_131] H_1) (
 bnd (aBin .eql .no t6_3 (.int .i64 3)) fun t11_132 =>
 aCond t11_132 (
 J_6 [t11_132] H_1) (
 bnd (aBin .eql .no t6_3 (.int .i64 9)) fun t12_133 =>
 J_6 [t12_133] H_1))
def S31_135 (a0 : Value) (R : Value → AHeap → Prop) (t3_0 : Value) (t6_3 : Value) (vs_4 : List Value) (H_5 : AHeap) : Prop :=
 aCond (nth vs_4 0) (
 bnd (aAdd 1 t3_0) fun t13_7 =>
 bnd (aLdCell t13_7 H_5) fun t14_8 =>
 bnd (aBin .eql .no t14_8 (.int .i64 0)) fun t15_9 =>
 R t15_9 H_5) (
 (S31_128 a0 R t3_0 t6_3 H_5))
def S31 (a0 : Value) (a1 : Value) (H : AHeap) (R : Value → AHeap → Prop) : Prop :=
 aBox 28 a1 H fun t3_0 H_1 =>
 bnd (aAdd 0 t3_0) fun t5_2 =>
 bnd (aLdCell t5_2 H_1) fun t6_3 =>
 aJoin (fun vs_4 H_5 =>
 (S31_135 a0 R t3_0 t6_3 vs_4 H_5)) fun J_6 =>
 bnd (aBin .eql .no t6_3 (.int .i64 0)) fun t8_129 =>
 aCond t8_129 (
 J_6 [t8_129] H_1) (
 bnd (aBin .eql .no t6_3 (.int .i64 1)) fun t9_130 =>
 aCond t9_130 (
 J_6 [t9_130] H_1) (
 (S31_134 H_1 t6_3 J_6)))
theorem S31_calls {a0 a1 : Value} {H : AHeap} {R : Value → AHeap → Prop} (h : S31 a0 a1 H R) : ACalls Try.prog 31 [a0, a1] H R :=
  have e : S31 a0 a1 H R = awpFn Try.prog (Try.f31.body.getD .skip) Try.f31.results.toList ann31 [a0, a1] H R := by kernel_rfl
  calls_of_awp (fn := Try.f31) (c := Try.f31.body.getD .skip) (an := ann31) (by kernel_rfl) Try.func31 (by kernel_rfl) (by kernel_rfl) (of_decide_eq_true (by kernel_rfl)) (e ▸ h)

/-- 32: (*marginalia/store.Store).Copy -/
def ann32 : Ann := (.two .leaf (.two (.two .leaf (.two (.two .leaf .leaf) .leaf)) (.two (.draw [(0, []), (1, []), (2, []), (3, []), (4, []), (5, []), (6, []), (7, []), (8, []), (9, []), (10, []), (11, []), (13, []), (12, [3, 7, 13]), (14, []), (15, []), (16, [])]) (.two (.two .leaf (.one (.loop [31] [4, 5, 31, 32, 33, 34, 35, 36, 37, 38, 39, 40, 41, 42] (.two .leaf (.two (.two .leaf .leaf) (.two (.one (.two .leaf .leaf)) .leaf)))))) (.two (.two .leaf (.one (.loop [48] [7, 48, 49, 50, 51, 52, 53, 54, 55, 56, 57, 58, 59, 60, 61, 62, 63, 64, 65, 66, 67, 68, 69, 70] (.two .leaf (.two (.two .leaf .leaf) (.two (.one (.two .leaf (.draw [(0, []), (1, []), (2, []), (3, []), (4, []), (5, []), (6, []), (7, []), (8, []), (10, []), (11, []), (9, [4, 6, 11]), (12, [4, 6]), (13, []), (14, []), (15, []), (16, []), (17, []), (18, [])]))) .leaf)))))) (.two .leaf .leaf))))))
def S32_32 (t25_15 : Value) (t29_19 : Value) (vs_21 : List Value) (H_22 : AHeap) (again_23 : List Value → AHeap → Prop) : Prop :=
 bnd (aIdxAddr 1 t29_19 (nth vs_21 0)) fun t34_25 =>
 bnd (aLdCell t34_25 H_22) fun t35_26 =>
 bnd (aNilCheck t25_15) fun t37_27 =>
 bnd (aAdd 4 t37_27) fun t38_28 =>
 bnd (aLdCell t38_28 H_22) fun t39_29 =>
 bnd (aMapUpd t39_29 t35_26 (nth vs_21 0) H_22) fun H_30 =>
 bnd (aBin .add .no (nth vs_21 0) (.int .i64 1)) fun t42_31 =>
 again_23 [t42_31] H_30
def S32_70 (t25_15 : Value) (vs_37 : List Value) (again_39 : List Value → AHeap → Prop) (t55_47 : Value) (t56_48 : Value) (t57_49 : Value) (t58_50 : Value) (t61_55 : Value) (t64_57 : Value) (H_58 : AHeap) : Prop :=
 ((bnd (aLdCell t55_47 H_58) fun t56_68 =>
 t56_68 = t56_48) ∧ (bnd (aLdCell t57_49 H_58) fun t58_69 =>
 t58_69 = t58_50)) ∧
 bnd (aFill [(.int .i64 0), (.slice none 0 0), (.int .i64 0), (.string ⟨#[]⟩), (.bool false), (.slice none 0 0), (.slice none 0 0), (.int .i64 0), (.slice none 0 0), (.slice none 0 0)] [(0, 1, t58_50), (1, 1, t61_55), (2, 8, t64_57)]) fun t65_59 =>
 aBuildSlice 10 1 94 [(.int .i64 0), (.slice none 0 0), (.int .i64 0), (.string ⟨#[]⟩), (.bool false), (.slice none 0 0), (.slice none 0 0), (.int .i64 0), (.slice none 0 0), (.slice none 0 0)] [(0, 10, (.agg t65_59.toArray))] H_58 fun t66_60 H_61 =>
 aAppend 10 168 94 t56_48 t66_60 H_61 fun t67_62 H_63 =>
 bnd (aNilCheck t25_15) fun t68_64 =>
 bnd (aAdd 2 t68_64) fun t69_65 =>
 bnd (aSt 1 t69_65 t67_62 H_63) fun H_66 =>
 bnd (aBin .add .no (nth vs_37 0) (.int .i64 1)) fun t70_67 =>
 again_39 [t70_67] H_66
def S32_74 (t25_15 : Value) (t46_35 : Value) (vs_37 : List Value) (H_38 : AHeap) (again_39 : List Value → AHeap → Prop) : Prop :=
 bnd (aIdxAddr 10 t46_35 (nth vs_37 0)) fun t50_41 =>
 bnd (aLdAgg 10 t50_41 H_38) fun t51_42 =>
 aAlloc [(.int .i64 0), (.slice none 0 0), (.int .i64 0), (.string ⟨#[]⟩), (.bool false), (.slice none 0 0), (.slice none 0 0), (.int .i64 0), (.slice none 0 0), (.slice none 0 0)] 94 H_38 fun t7_43 H_44 =>
 bnd (aSt 10 t7_43 t51_42 H_44) fun H_45 =>
 bnd (aNilCheck t25_15) fun t54_46 =>
 bnd (aAdd 2 t54_46) fun t55_47 =>
 bnd (aLdCell t55_47 H_45) fun t56_48 =>
 bnd (aAdd 0 t7_43) fun t57_49 =>
 bnd (aLdCell t57_49 H_45) fun t58_50 =>
 bnd (aAdd 1 t7_43) fun t59_51 =>
 bnd (aLdCell t59_51 H_45) fun t60_52 =>
 bnd (aAdd 2 t7_43) fun t62_53 =>
 bnd (aLdAgg 8 t62_53 H_45) fun t63_54 =>
 ACalls Try.prog 42 [t60_52] H_45 fun t61_55 H_56 =>
 ((bnd (aLdCell t55_47 H_56) fun t56_71 =>
 t56_71 = t56_48) ∧ (bnd (aLdCell t57_49 H_56) fun t58_72 =>
 t58_72 = t58_50) ∧ (bnd (aLdAgg 8 t62_53 H_56) fun t63_73 =>
 t63_73 = t63_54)) ∧
 ACalls Try.prog 65 [t63_54] H_56 fun t64_57 H_58 =>
 (S32_70 t25_15 vs_37 again_39 t55_47 t56_48 t57_49 t58_50 t61_55 t64_57 H_58)
def S32_75 (R : Value → AHeap → Prop) (t25_15 : Value) (t46_35 : Value) (t47_36 : Value) (vs_37 : List Value) (H_38 : AHeap) (again_39 : List Value → AHeap → Prop) : Prop :=
 bnd (aBin .lss .no (nth vs_37 0) t47_36) fun t49_40 =>
 aCond t49_40 (
 (S32_74 t25_15 t46_35 vs_37 H_38 again_39)) (
 R t25_15 H_38)
def S32_76 (a0 : Value) (R : Value → AHeap → Prop) (t25_15 : Value) (t29_19 : Value) (t30_20 : Value) (vs_21 : List Value) (H_22 : AHeap) (again_23 : List Value → AHeap → Prop) : Prop :=
 bnd (aBin .lss .no (nth vs_21 0) t30_20) fun t32_24 =>
 aCond t32_24 (
 (S32_32 t25_15 t29_19 vs_21 H_22 again_23)) (
 bnd (aNilCheck a0) fun t44_33 =>
 bnd (aAdd 2 t44_33) fun t45_34 =>
 bnd (aLdCell t45_34 H_22) fun t46_35 =>
 bnd (aLenSl t46_35) fun t47_36 =>
 aLoop [(.int .i64 0)] H_22 fun vs_37 H_38 again_39 =>
 (S32_75 R t25_15 t46_35 t47_36 vs_37 H_38 again_39))
def S32_79 (a0 : Value) (R : Value → AHeap → Prop) (t12_2 : Value) (t13_3 : Value) (t16_5 : Value) (t17_6 : Value) (H_10 : AHeap) (m_11 : Value) (t22_12 : Value) (H_13 : AHeap) : Prop :=
 ((bnd (aLdCell t12_2 H_13) fun t13_77 =>
 t13_77 = t13_3) ∧ (bnd (aLdCell t16_5 H_13) fun t17_78 =>
 t17_78 = t17_6) ∧ (H_13.at_ (blkOf m_11) = H_10.at_ (blkOf m_11))) ∧
 bnd (aFill [(.int .i64 0), (.int .i64 0), (.slice none 0 0), (.slice none 0 0), (.map none)] [(0, 1, t13_3), (1, 1, t17_6), (3, 1, t22_12), (4, 1, m_11)]) fun t24_14 =>
 aBox 88 (.agg t24_14.toArray) H_13 fun t25_15 H_16 =>
 bnd (aNilCheck a0) fun t27_17 =>
 bnd (aAdd 3 t27_17) fun t28_18 =>
 bnd (aLdCell t28_18 H_16) fun t29_19 =>
 bnd (aLenSl t29_19) fun t30_20 =>
 aLoop [(.int .i64 0)] H_16 fun vs_21 H_22 again_23 =>
 (S32_76 a0 R t25_15 t29_19 t30_20 vs_21 H_22 again_23)
def S32_80 (a0 : Value) (H : AHeap) (R : Value → AHeap → Prop) : Prop :=
 bnd (aNilCheck a0) fun t11_1 =>
 bnd (aAdd 0 t11_1) fun t12_2 =>
 bnd (aLdCell t12_2 H) fun t13_3 =>
 bnd (aNilCheck a0) fun t15_4 =>
 bnd (aAdd 1 t15_4) fun t16_5 =>
 bnd (aLdCell t16_5 H) fun t17_6 =>
 bnd (aNilCheck a0) fun t19_7 =>
 bnd (aAdd 3 t19_7) fun t20_8 =>
 bnd (aLdCell t20_8 H) fun t21_9 =>
 aMakeMap H fun m_11 H_10 =>
 ACalls Try.prog 64 [t21_9] H_10 fun t22_12 H_13 =>
 (S32_79 a0 R t12_2 t13_3 t16_5 t17_6 H_10 m_11 t22_12 H_13)
def S32 (a0 : Value) (H : AHeap) (R : Value → AHeap → Prop) : Prop :=
 bnd (aBin .eql .ptr a0 (.pointer none)) fun t9_0 =>
 aCond t9_0 (
 R (.pointer none) H) (
 (S32_80 a0 H R))
theorem S32_calls {a0 : Value} {H : AHeap} {R : Value → AHeap → Prop} (h : S32 a0 H R) : ACalls Try.prog 32 [a0] H R :=
  have e : S32 a0 H R = awpFn Try.prog (Try.f32.body.getD .skip) Try.f32.results.toList ann32 [a0] H R := by kernel_rfl
  calls_of_awp (fn := Try.f32) (c := Try.f32.body.getD .skip) (an := ann32) (by kernel_rfl) Try.func32 (by kernel_rfl) (by kernel_rfl) (of_decide_eq_true (by kernel_rfl)) (e ▸ h)

/-- 33: marginalia/marginalialaw06.alike -/
def ann33 : Ann := (.two .leaf (.two (.two .leaf (.two (.two .leaf .leaf) .leaf)) (.two (.two .leaf (.one (.loop [5] [4, 5, 6, 7, 8, 9, 10, 11, 12, 18, 19, 20, 21, 22, 23, 24, 25, 26, 27, 28, 29, 30, 31, 32, 33, 34, 35, 36, 37, 38, 39, 40, 41, 42, 43, 44, 45, 46, 47, 48, 49, 50, 51, 52, 53, 54, 55, 56, 57, 58, 59, 60, 61, 62, 63, 64, 65, 66, 67, 68, 69, 70, 71, 72, 73, 74, 75, 76, 77, 78, 79, 80, 81, 82, 83, 84, 85, 86, 87, 88, 89, 90, 91, 92, 93, 94, 95, 96, 97, 98, 99, 100, 101, 102, 103, 104, 105, 106, 107, 108, 109, 110, 111, 112, 113, 114, 115, 116] (.two (.two .leaf (.two .leaf .leaf)) (.two (.one (.two .leaf (.two .leaf (.two (.two (.draw [(0, []), (1, []), (3, []), (4, []), (2, [4]), (5, []), (6, []), (7, []), (8, []), (9, []), (11, []), (12, []), (10, []), (13, []), (14, []), (15, []), (16, []), (17, []), (19, []), (20, []), (18, [20]), (21, []), (22, []), (23, [])]) (.two (.two .leaf .leaf) .leaf)) (.two (.two .leaf (.one (.loop [8] [4, 8, 9, 10, 56, 57, 58, 59, 60, 61, 62, 63, 64, 65, 66, 67, 68, 69, 70, 71, 72, 73, 74, 75, 76, 77, 78] (.two (.two .leaf (.two .leaf .leaf)) (.two (.one (.two .leaf (.two (.draw [(0, []), (1, []), (2, []), (3, []), (4, []), (5, []), (6, []), (7, []), (8, []), (9, [])]) (.two (.two .leaf .leaf) .leaf)))) .leaf))))) (.two .leaf (.two (.draw [(0, []), (1, []), (2, []), (3, []), (4, []), (5, []), (6, []), (7, []), (8, []), (9, []), (10, []), (11, []), (12, []), (13, []), (14, []), (15, []), (16, []), (17, []), (18, []), (19, []), (20, []), (21, []), (22, []), (23, []), (24, []), (25, []), (26, []), (27, []), (28, []), (29, []), (30, []), (31, [])]) (.two (.two .leaf .leaf) .leaf)))))))) .leaf))))) (.two .leaf .leaf))))
def S33_137 (R : Value → AHeap → Prop) (t31_18 : Value) (vs_93 : List Value) (again_95 : List Value → AHeap → Prop) (t66_99 : Value) (H_100 : AHeap) : Prop :=
 bnd (aExtract t66_99 0) fun t67_101 =>
 bnd (aExtract t66_99 1) fun t68_102 =>
 aAlloc [(.int .i64 0), (.int .i64 0)] 28 H_100 fun t9_103 H_104 =>
 bnd (aSt 2 t9_103 t67_101 H_104) fun H_105 =>
 bnd (aBin .neq .no t68_102 (.int .i64 0)) fun t70_106 =>
 aGuardK t70_106 false (fun K_107 H_108 =>
 bnd (aLdAgg 2 t9_103 H_108) fun t72_109 =>
 K_107 t72_109 H_108) (fun t72_110 H_111 =>
 aGuardK t70_106 false (fun K_112 H_113 =>
 K_112 t31_18 H_113) (fun t73_114 H_115 =>
 aGuardK t70_106 false (fun K_116 H_117 =>
 K_116 (nth vs_93 0) H_117) (fun t74_118 H_119 =>
 aGuardK t70_106 false (fun K_120 H_121 =>
 bnd (aIdxAddr 2 t73_114 t74_118) fun t75_122 =>
 K_120 t75_122 H_121) (fun t75_123 H_124 =>
 aGuardK t70_106 false (fun K_125 H_126 =>
 bnd (aLdAgg 2 t75_123 H_126) fun t76_127 =>
 K_125 t76_127 H_126) (fun t76_128 H_129 =>
 aGuardK t70_106 false (fun K_130 H_131 =>
 bnd (aBin .neq (.cells [.int, .int]) t72_110 t76_128) fun t77_132 =>
 K_130 t77_132 H_131) (fun t77_133 H_134 =>
 bnd (aPick t70_106 (.bool true) t77_133) fun t78_135 =>
 aCond t78_135 (
 R (.bool false) H_134) (
 bnd (aBin .add .no (nth vs_93 0) (.int .i64 1)) fun t61_136 =>
 again_95 [t61_136] H_134)) H_129) H_124) H_119) H_115) H_111) H_105
def S33_267 (a1 : Value) (R : Value → AHeap → Prop) (vs_5 : List Value) (again_7 : List Value → AHeap → Prop) (t6_14 : Value) (t84_142 : Value) (t11_143 : Value) (t87_147 : Value) (H_148 : AHeap) : Prop :=
 bnd (aBin .eql .no t87_147 (.int .i64 10)) fun t88_149 =>
 aGuardK t88_149 true (fun K_150 H_151 =>
 K_150 t84_142 H_151) (fun t90_152 H_153 =>
 aGuardK t88_149 true (fun K_154 H_155 =>
 bnd (aBin .neq .no t90_152 (.int .i64 0)) fun t91_156 =>
 K_154 t91_156 H_155) (fun t91_157 H_158 =>
 aGuardK t88_149 true (fun K_159 H_160 =>
 K_159 t91_157 H_160) (fun t92_161 H_162 =>
 aGuardK t92_161 false (fun K_163 H_164 =>
 bnd (aAdd 1 t11_143) fun t93_165 =>
 K_163 t93_165 H_164) (fun t93_166 H_167 =>
 aGuardK t92_161 false (fun K_168 H_169 =>
 bnd (aLdCell t93_166 H_169) fun t94_170 =>
 K_168 t94_170 H_169) (fun t94_171 H_172 =>
 aGuardK t92_161 false (fun K_173 H_174 =>
 K_173 a1 H_174) (fun t95_175 H_176 =>
 aGuardK t92_161 false (fun K_177 H_178 =>
 bnd (aNilCheck t95_175) fun t96_179 =>
 K_177 t96_179 H_178) (fun t96_180 H_181 =>
 aGuardK t92_161 false (fun K_182 H_183 =>
 bnd (aAdd 2 t96_180) fun t97_184 =>
 K_182 t97_184 H_183) (fun t97_185 H_186 =>
 aGuardK t92_161 false (fun K_187 H_188 =>
 bnd (aLdCell t97_185 H_188) fun t98_189 =>
 K_187 t98_189 H_188) (fun t98_190 H_191 =>
 aGuardK t92_161 false (fun K_192 H_193 =>
 K_192 (nth vs_5 0) H_193) (fun t99_194 H_195 =>
 aGuardK t92_161 false (fun K_196 H_197 =>
 bnd (aIdxAddr 10 t98_190 t99_194) fun t100_198 =>
 K_196 t100_198 H_197) (fun t100_199 H_200 =>
 aGuardK t92_161 false (fun K_201 H_202 =>
 bnd (aAdd 2 t100_199) fun t101_203 =>
 K_201 t101_203 H_202) (fun t101_204 H_205 =>
 aGuardK t92_161 false (fun K_206 H_207 =>
 bnd (aAdd 1 t101_204) fun t102_208 =>
 K_206 t102_208 H_207) (fun t102_209 H_210 =>
 aGuardK t92_161 false (fun K_211 H_212 =>
 bnd (aLdCell t102_209 H_212) fun t103_213 =>
 K_211 t103_213 H_212) (fun t103_214 H_215 =>
 aGuardK t92_161 false (fun K_216 H_217 =>
 bnd (aBin .neq .no t94_171 t103_214) fun t104_218 =>
 K_216 t104_218 H_217) (fun t104_219 H_220 =>
 aGuardK t88_149 true (fun K_221 H_222 =>
 bnd (aPick t92_161 (.bool true) t104_219) fun t105_223 =>
 K_221 t105_223 H_222) (fun t105_224 H_225 =>
 bnd (aPick t88_149 t105_224 (.bool false)) fun t106_226 =>
 aGuardK t106_226 false (fun K_227 H_228 =>
 K_227 a1 H_228) (fun t108_229 H_230 =>
 aGuardK t106_226 false (fun K_231 H_232 =>
 bnd (aLdAgg 2 t6_14 H_232) fun t109_233 =>
 K_231 t109_233 H_232) (fun t109_234 H_235 =>
 aGuardK t106_226 false (fun K_236 H_237 =>
 ACalls Try.prog 52 [t108_229, t109_234] H_237 fun t110_238 H_239 =>
 K_236 t110_238 H_239) (fun t110_240 H_241 =>
 aGuardK t106_226 false (fun K_242 H_243 =>
 bnd (aBin .neq .no t110_240 (.int .i64 10)) fun t111_244 =>
 K_242 t111_244 H_243) (fun t111_245 H_246 =>
 aGuardK t106_226 false (fun K_247 H_248 =>
 K_247 t111_245 H_248) (fun t112_249 H_250 =>
 aGuardK t112_249 true (fun K_251 H_252 =>
 K_251 t84_142 H_252) (fun t113_253 H_254 =>
 aGuardK t112_249 true (fun K_255 H_256 =>
 bnd (aBin .neq .no t113_253 (.int .i64 10)) fun t114_257 =>
 K_255 t114_257 H_256) (fun t114_258 H_259 =>
 aGuardK t106_226 false (fun K_260 H_261 =>
 bnd (aPick t112_249 t114_258 (.bool false)) fun t115_262 =>
 K_260 t115_262 H_261) (fun t115_263 H_264 =>
 bnd (aPick t106_226 (.bool true) t115_263) fun t116_265 =>
 aCond t116_265 (
 R (.bool false) H_264) (
 bnd (aBin .add .no (nth vs_5 0) (.int .i64 1)) fun t26_266 =>
 again_7 [t26_266] H_264)) H_259) H_254) H_250) H_246) H_241) H_235) H_230) H_225) H_220) H_215) H_210) H_205) H_200) H_195) H_191) H_186) H_181) H_176) H_172) H_167) H_162) H_158) H_153) H_148
def S33_268 (a1 : Value) (R : Value → AHeap → Prop) (vs_5 : List Value) (again_7 : List Value → AHeap → Prop) (t6_14 : Value) (t82_139 : Value) (H_140 : AHeap) : Prop :=
 bnd (aExtract t82_139 0) fun t83_141 =>
 bnd (aExtract t82_139 1) fun t84_142 =>
 aAlloc [(.int .i64 0), (.string ⟨#[]⟩), (.bool false), (.slice none 0 0), (.slice none 0 0), (.int .i64 0), (.slice none 0 0), (.slice none 0 0)] 79 H_140 fun t11_143 H_144 =>
 bnd (aSt 8 t11_143 t83_141 H_144) fun H_145 =>
 bnd (aLdAgg 2 t6_14 H_145) fun t86_146 =>
 ACalls Try.prog 52 [a1, t86_146] H_145 fun t87_147 H_148 =>
 (S33_267 a1 R vs_5 again_7 t6_14 t84_142 t11_143 t87_147 H_148)
def S33_269 (a0 : Value) (a1 : Value) (R : Value → AHeap → Prop) (vs_5 : List Value) (again_7 : List Value → AHeap → Prop) (t6_14 : Value) (t31_18 : Value) (vs_93 : List Value) (H_94 : AHeap) (again_95 : List Value → AHeap → Prop) : Prop :=
 bnd (aLenSl t31_18) fun t58_96 =>
 bnd (aBin .lss .no (nth vs_93 0) t58_96) fun t59_97 =>
 aCond t59_97 (
 bnd (aLdAgg 2 t6_14 H_94) fun t64_98 =>
 ACalls Try.prog 18 [a0, t64_98, (nth vs_93 0)] H_94 fun t66_99 H_100 =>
 (S33_137 R t31_18 vs_93 again_95 t66_99 H_100)) (
 bnd (aLdAgg 2 t6_14 H_94) fun t81_138 =>
 ACalls Try.prog 35 [a0, t81_138] H_94 fun t82_139 H_140 =>
 (S33_268 a1 R vs_5 again_7 t6_14 t82_139 H_140))
def S33_273 (a0 : Value) (a1 : Value) (R : Value → AHeap → Prop) (vs_5 : List Value) (again_7 : List Value → AHeap → Prop) (t6_14 : Value) (t31_18 : Value) (t34_22 : Value) (t37_24 : Value) (H_25 : AHeap) : Prop :=
 bnd (aBin .neq .no t34_22 t37_24) fun t38_26 =>
 aGuardK t38_26 false (fun K_27 H_28 =>
 K_27 a0 H_28) (fun t40_29 H_30 =>
 aGuardK t38_26 false (fun K_31 H_32 =>
 bnd (aLdAgg 2 t6_14 H_32) fun t41_33 =>
 K_31 t41_33 H_32) (fun t41_34 H_35 =>
 aGuardK t38_26 false (fun K_36 H_37 =>
 K_36 t31_18 H_37) (fun t43_38 H_39 =>
 aGuardK t38_26 false (fun K_40 H_41 =>
 bnd (aLenSl t43_38) fun t44_42 =>
 K_40 t44_42 H_41) (fun t44_43 H_44 =>
 aGuardK t38_26 false (fun K_45 H_46 =>
 ACalls Try.prog 37 [t40_29, t41_34] H_46 fun t42_47 H_48 =>
 K_45 t42_47 H_48) (fun t42_49 H_50 =>
 aGuardK t38_26 false (fun K_51 H_52 =>
 bnd (aBin .neq .no t42_49 t44_43) fun t45_53 =>
 K_51 t45_53 H_52) (fun t45_54 H_55 =>
 bnd (aPick t38_26 (.bool true) t45_54) fun t46_56 =>
 aGuardK t46_56 false (fun K_57 H_58 =>
 K_57 a0 H_58) (fun t48_59 H_60 =>
 aGuardK t46_56 false (fun K_61 H_62 =>
 bnd (aLdAgg 2 t6_14 H_62) fun t49_63 =>
 K_61 t49_63 H_62) (fun t49_64 H_65 =>
 aGuardK t46_56 false (fun K_66 H_67 =>
 K_66 a1 H_67) (fun t51_68 H_69 =>
 aGuardK t46_56 false (fun K_70 H_71 =>
 bnd (aLdAgg 2 t6_14 H_71) fun t52_72 =>
 K_70 t52_72 H_71) (fun t52_73 H_74 =>
 aGuardK t46_56 false (fun K_75 H_76 =>
 ACalls Try.prog 30 [t48_59, t49_64] H_76 fun t50_77 H_78 =>
 K_75 t50_77 H_78) (fun t50_79 H_80 =>
 ((aGuardK t46_56 false (fun K_270 H_271 =>
 bnd (aLdAgg 2 t6_14 H_271) fun t52_272 =>
 K_270 t52_272 H_271) (fun v _ => v = t52_73) H_80)) ∧
 aGuardK t46_56 false (fun K_81 H_82 =>
 ACalls Try.prog 31 [t51_68, t52_73] H_82 fun t53_83 H_84 =>
 K_81 t53_83 H_84) (fun t53_85 H_86 =>
 aGuardK t46_56 false (fun K_87 H_88 =>
 bnd (aBin .neq .bool t50_79 t53_85) fun t54_89 =>
 K_87 t54_89 H_88) (fun t54_90 H_91 =>
 bnd (aPick t46_56 (.bool true) t54_90) fun t55_92 =>
 aCond t55_92 (
 R (.bool false) H_91) (
 aLoop [(.int .i64 0)] H_91 fun vs_93 H_94 again_95 =>
 (S33_269 a0 a1 R vs_5 again_7 t6_14 t31_18 vs_93 H_94 again_95))) H_86) H_80) H_74) H_69) H_65) H_60) H_55) H_50) H_44) H_39) H_35) H_30) H_25
def S33_275 (a0 : Value) (a1 : Value) (R : Value → AHeap → Prop) (vs_5 : List Value) (H_6 : AHeap) (again_7 : List Value → AHeap → Prop) : Prop :=
 bnd (aFill [(.int .i64 0), (.int .i64 0)] [(0, 1, (.int .i64 7)), (1, 1, (nth vs_5 0))]) fun t28_13 =>
 aAlloc [(.int .i64 0), (.int .i64 0)] 28 H_6 fun t6_14 H_15 =>
 bnd (aSt 2 t6_14 (.agg t28_13.toArray) H_15) fun H_16 =>
 bnd (aLdAgg 2 t6_14 H_16) fun t30_17 =>
 ACalls Try.prog 53 [a1, t30_17] H_16 fun t31_18 H_19 =>
 bnd (aLdAgg 2 t6_14 H_19) fun t33_20 =>
 bnd (aLdAgg 2 t6_14 H_19) fun t36_21 =>
 ACalls Try.prog 36 [a0, t33_20] H_19 fun t34_22 H_23 =>
 ((bnd (aLdAgg 2 t6_14 H_23) fun t36_274 =>
 t36_274 = t36_21)) ∧
 ACalls Try.prog 52 [a1, t36_21] H_23 fun t37_24 H_25 =>
 (S33_273 a0 a1 R vs_5 again_7 t6_14 t31_18 t34_22 t37_24 H_25)
def S33_276 (a0 : Value) (a1 : Value) (R : Value → AHeap → Prop) (vs_5 : List Value) (H_6 : AHeap) (again_7 : List Value → AHeap → Prop) : Prop :=
 bnd (aNilCheck a1) fun t20_8 =>
 bnd (aAdd 2 t20_8) fun t21_9 =>
 bnd (aLdCell t21_9 H_6) fun t22_10 =>
 bnd (aLenSl t22_10) fun t23_11 =>
 bnd (aBin .leq .no (nth vs_5 0) t23_11) fun t24_12 =>
 aCond t24_12 (
 (S33_275 a0 a1 R vs_5 H_6 again_7)) (
 R (.bool true) H_6)
def S33 (a0 : Value) (a1 : Value) (H : AHeap) (R : Value → AHeap → Prop) : Prop :=
 ACalls Try.prog 17 [a0] H fun t14_0 H_1 =>
 ACalls Try.prog 66 [a1] H_1 fun t16_2 H_3 =>
 bnd (aBin .neq .no t14_0 t16_2) fun t17_4 =>
 aCond t17_4 (
 R (.bool false) H_3) (
 aLoop [(.int .i64 0)] H_3 fun vs_5 H_6 again_7 =>
 (S33_276 a0 a1 R vs_5 H_6 again_7))
theorem S33_calls {a0 a1 : Value} {H : AHeap} {R : Value → AHeap → Prop} (h : S33 a0 a1 H R) : ACalls Try.prog 33 [a0, a1] H R :=
  have e : S33 a0 a1 H R = awpFn Try.prog (Try.f33.body.getD .skip) Try.f33.results.toList ann33 [a0, a1] H R := by kernel_rfl
  calls_of_awp (fn := Try.f33) (c := Try.f33.body.getD .skip) (an := ann33) (by kernel_rfl) Try.func33 (by kernel_rfl) (by kernel_rfl) (of_decide_eq_true (by kernel_rfl)) (e ▸ h)

/-- 34: (*marginalia/store.Store).Wrap -/
def ann34 : Ann := (.two .leaf (.two (.two .leaf (.two (.two .leaf .leaf) .leaf)) (.two .leaf .leaf)))
def S34_18 (a0 : Value) (R : Value → AHeap → Prop) (t4_2 : Value) (t11_9 : Value) (H_10 : AHeap) : Prop :=
 bnd (aFill [(.int .i64 0), (.slice none 0 0), (.int .i64 0), (.string ⟨#[]⟩), (.bool false), (.slice none 0 0), (.slice none 0 0), (.int .i64 0), (.slice none 0 0), (.slice none 0 0)] [(0, 1, (.int .i64 10)), (2, 8, t11_9)]) fun t12_11 =>
 ACalls Try.prog 41 [a0, (.agg t12_11.toArray)] H_10 fun t13_12 H_13 =>
 bnd (aExtract t13_12 0) fun t14_14 =>
 bnd (aExtract t13_12 1) fun t15_15 =>
 bnd (aSt 2 t4_2 t14_14 H_13) fun H_16 =>
 bnd (aLdAgg 2 t4_2 H_16) fun r_17 =>
 R (.tuple #[r_17, t15_15]) H_16
def S34 (a0 : Value) (a1 : Value) (H : AHeap) (R : Value → AHeap → Prop) : Prop :=
 aBox 79 a1 H fun t3_0 H_1 =>
 aAlloc [(.int .i64 0), (.int .i64 0)] 28 H_1 fun t4_2 H_3 =>
 bnd (aBin .eql .ptr a0 (.pointer none)) fun t7_4 =>
 aCond t7_4 (
 bnd (aFill [(.int .i64 0), (.int .i64 0)] []) fun t8_5 =>
 bnd (aSt 2 t4_2 (.agg t8_5.toArray) H_3) fun H_6 =>
 bnd (aLdAgg 2 t4_2 H_6) fun r_7 =>
 R (.tuple #[r_7, (.int .i64 1)]) H_6) (
 bnd (aLdAgg 8 t3_0 H_3) fun t10_8 =>
 ACalls Try.prog 65 [t10_8] H_3 fun t11_9 H_10 =>
 (S34_18 a0 R t4_2 t11_9 H_10))
theorem S34_calls {a0 a1 : Value} {H : AHeap} {R : Value → AHeap → Prop} (h : S34 a0 a1 H R) : ACalls Try.prog 34 [a0, a1] H R :=
  have e : S34 a0 a1 H R = awpFn Try.prog (Try.f34.body.getD .skip) Try.f34.results.toList ann34 [a0, a1] H R := by kernel_rfl
  calls_of_awp (fn := Try.f34) (c := Try.f34.body.getD .skip) (an := ann34) (by kernel_rfl) Try.func34 (by kernel_rfl) (by kernel_rfl) (of_decide_eq_true (by kernel_rfl)) (e ▸ h)

/-- 35: (*marginalia/store.Store).Unwrap -/
def ann35 : Ann := (.two .leaf (.two (.two .leaf (.two (.two .leaf .leaf) .leaf)) (.two .leaf (.two (.two .leaf (.two (.two .leaf .leaf) .leaf)) (.two .leaf .leaf)))))
def S35_8 (R : Value → AHeap → Prop) (t4_2 : Value) (H_3 : AHeap) : Prop :=
 bnd (aFill [(.int .i64 0), (.string ⟨#[]⟩), (.bool false), (.slice none 0 0), (.slice none 0 0), (.int .i64 0), (.slice none 0 0), (.slice none 0 0)] []) fun t9_5 =>
 bnd (aSt 8 t4_2 (.agg t9_5.toArray) H_3) fun H_6 =>
 bnd (aLdAgg 8 t4_2 H_6) fun r_7 =>
 R (.tuple #[r_7, (.int .i64 1)]) H_6
def S35_41 (R : Value → AHeap → Prop) (t4_2 : Value) (H_36 : AHeap) : Prop :=
 bnd (aFill [(.int .i64 0), (.string ⟨#[]⟩), (.bool false), (.slice none 0 0), (.slice none 0 0), (.int .i64 0), (.slice none 0 0), (.slice none 0 0)] []) fun t22_38 =>
 bnd (aSt 8 t4_2 (.agg t22_38.toArray) H_36) fun H_39 =>
 bnd (aLdAgg 8 t4_2 H_39) fun r_40 =>
 R (.tuple #[r_40, (.int .i64 10)]) H_39
def S35_49 (R : Value → AHeap → Prop) (t4_2 : Value) (t12_10 : Value) (H_36 : AHeap) : Prop :=
 bnd (aNilCheck t12_10) fun t24_42 =>
 bnd (aAdd 2 t24_42) fun t25_43 =>
 bnd (aLdAgg 8 t25_43 H_36) fun t26_44 =>
 ACalls Try.prog 65 [t26_44] H_36 fun t27_45 H_46 =>
 bnd (aSt 8 t4_2 t27_45 H_46) fun H_47 =>
 bnd (aLdAgg 8 t4_2 H_47) fun r_48 =>
 R (.tuple #[r_48, (.int .i64 0)]) H_47
def S35_50 (R : Value → AHeap → Prop) (t4_2 : Value) (t12_10 : Value) (H_11 : AHeap) : Prop :=
 bnd (aBin .eql .ptr t12_10 (.pointer none)) fun t14_12 =>
 aGuardK t14_12 false (fun K_13 H_14 =>
 K_13 t12_10 H_14) (fun t16_15 H_16 =>
 aGuardK t14_12 false (fun K_17 H_18 =>
 bnd (aNilCheck t16_15) fun t17_19 =>
 K_17 t17_19 H_18) (fun t17_20 H_21 =>
 aGuardK t14_12 false (fun K_22 H_23 =>
 bnd (aAdd 0 t17_20) fun t18_24 =>
 K_22 t18_24 H_23) (fun t18_25 H_26 =>
 aGuardK t14_12 false (fun K_27 H_28 =>
 bnd (aLdCell t18_25 H_28) fun t19_29 =>
 K_27 t19_29 H_28) (fun t19_30 H_31 =>
 aGuardK t14_12 false (fun K_32 H_33 =>
 bnd (aBin .neq .no t19_30 (.int .i64 10)) fun t20_34 =>
 K_32 t20_34 H_33) (fun t20_35 H_36 =>
 bnd (aPick t14_12 (.bool true) t20_35) fun t21_37 =>
 aCond t21_37 (
 (S35_41 R t4_2 H_36)) (
 (S35_49 R t4_2 t12_10 H_36))) H_31) H_26) H_21) H_16) H_11
def S35 (a0 : Value) (a1 : Value) (H : AHeap) (R : Value → AHeap → Prop) : Prop :=
 aBox 28 a1 H fun t3_0 H_1 =>
 aAlloc [(.int .i64 0), (.string ⟨#[]⟩), (.bool false), (.slice none 0 0), (.slice none 0 0), (.int .i64 0), (.slice none 0 0), (.slice none 0 0)] 79 H_1 fun t4_2 H_3 =>
 bnd (aBin .eql .ptr a0 (.pointer none)) fun t8_4 =>
 aCond t8_4 (
 (S35_8 R t4_2 H_3)) (
 bnd (aLdAgg 2 t3_0 H_3) fun t11_9 =>
 ACalls Try.prog 62 [a0, t11_9] H_3 fun t12_10 H_11 =>
 (S35_50 R t4_2 t12_10 H_11))
theorem S35_calls {a0 a1 : Value} {H : AHeap} {R : Value → AHeap → Prop} (h : S35 a0 a1 H R) : ACalls Try.prog 35 [a0, a1] H R :=
  have e : S35 a0 a1 H R = awpFn Try.prog (Try.f35.body.getD .skip) Try.f35.results.toList ann35 [a0, a1] H R := by kernel_rfl
  calls_of_awp (fn := Try.f35) (c := Try.f35.body.getD .skip) (an := ann35) (by kernel_rfl) Try.func35 (by kernel_rfl) (by kernel_rfl) (of_decide_eq_true (by kernel_rfl)) (e ▸ h)

/-- 49: (*marginalia/marginaliaref06.Store).Make -/
def ann49 : Ann := (.two .leaf (.two (.two .leaf (.two (.two .leaf .leaf) .leaf)) (.two (.two .leaf (.one (.loop [8] [7, 8, 34, 35, 36, 37, 38, 39, 40, 41, 42, 43, 44, 45, 46, 47] (.two (.two .leaf (.two .leaf .leaf)) (.two (.one (.two .leaf (.two (.two .leaf .leaf) .leaf))) .leaf))))) (.two .leaf .leaf))))
def S49_96 (a0 : Value) (a2 : Value) (R : Value → AHeap → Prop) (t6_0 : Value) (vs_82 : List Value) (H_83 : AHeap) (again_84 : List Value → AHeap → Prop) : Prop :=
 bnd (aIdxAddr 2 a2 (nth vs_82 0)) fun t43_87 =>
 bnd (aLdAgg 2 t43_87 H_83) fun t44_88 =>
 ACalls Try.prog 31 [a0, t44_88] H_83 fun t45_89 H_90 =>
 bnd (aUn .not t45_89) fun t46_91 =>
 aCond t46_91 (
 bnd (aFill [(.int .i64 0), (.int .i64 0)] []) fun t47_92 =>
 bnd (aSt 2 t6_0 (.agg t47_92.toArray) H_90) fun H_93 =>
 bnd (aLdAgg 2 t6_0 H_93) fun r_94 =>
 R (.tuple #[r_94, (.int .i64 2)]) H_93) (
 bnd (aBin .add .no (nth vs_82 0) (.int .i64 1)) fun t39_95 =>
 again_84 [t39_95] H_90)
def S49_108 (a0 : Value) (a1 : Value) (a2 : Value) (R : Value → AHeap → Prop) (t6_0 : Value) (H_83 : AHeap) : Prop :=
 aBuildSlice 2 0 28 [(.int .i64 0), (.int .i64 0)] [] H_83 fun t50_97 H_98 =>
 aAppend 2 16 28 t50_97 a2 H_98 fun t52_99 H_100 =>
 bnd (aFill [(.int .i64 0), (.slice none 0 0), (.int .i64 0), (.string ⟨#[]⟩), (.bool false), (.slice none 0 0), (.slice none 0 0), (.int .i64 0), (.slice none 0 0), (.slice none 0 0)] [(0, 1, a1), (1, 1, t52_99)]) fun t53_101 =>
 ACalls Try.prog 69 [a0, (.agg t53_101.toArray)] H_100 fun t54_102 H_103 =>
 bnd (aExtract t54_102 0) fun t55_104 =>
 bnd (aExtract t54_102 1) fun t56_105 =>
 bnd (aSt 2 t6_0 t55_104 H_103) fun H_106 =>
 bnd (aLdAgg 2 t6_0 H_106) fun r_107 =>
 R (.tuple #[r_107, t56_105]) H_106
def S49_109 (a0 : Value) (a1 : Value) (a2 : Value) (R : Value → AHeap → Prop) (t6_0 : Value) (vs_82 : List Value) (H_83 : AHeap) (again_84 : List Value → AHeap → Prop) : Prop :=
 bnd (aLenSl a2) fun t36_85 =>
 bnd (aBin .lss .no (nth vs_82 0) t36_85) fun t37_86 =>
 aCond t37_86 (
 (S49_96 a0 a2 R t6_0 vs_82 H_83 again_84)) (
 (S49_108 a0 a1 a2 R t6_0 H_83))
def S49 (a0 : Value) (a1 : Value) (a2 : Value) (H : AHeap) (R : Value → AHeap → Prop) : Prop :=
 aAlloc [(.int .i64 0), (.int .i64 0)] 28 H fun t6_0 H_1 =>
 bnd (aBin .lss .no a1 (.int .i64 1)) fun t10_2 =>
 aGuardK t10_2 false (fun K_3 H_4 =>
 K_3 a1 H_4) (fun t12_5 H_6 =>
 aGuardK t10_2 false (fun K_7 H_8 =>
 bnd (aBin .gtr .no t12_5 (.int .i64 9)) fun t13_9 =>
 K_7 t13_9 H_8) (fun t13_10 H_11 =>
 bnd (aPick t10_2 (.bool true) t13_10) fun t14_12 =>
 aGuardK t14_12 false (fun K_13 H_14 =>
 K_13 a1 H_14) (fun t16_15 H_16 =>
 aGuardK t14_12 false (fun K_17 H_18 =>
 bnd (aBin .eql .no t16_15 (.int .i64 1)) fun t17_19 =>
 K_17 t17_19 H_18) (fun t17_20 H_21 =>
 aGuardK t14_12 false (fun K_22 H_23 =>
 K_22 t17_20 H_23) (fun t18_24 H_25 =>
 aGuardK t18_24 true (fun K_26 H_27 =>
 K_26 a2 H_27) (fun t19_28 H_29 =>
 aGuardK t18_24 true (fun K_30 H_31 =>
 bnd (aLenSl t19_28) fun t20_32 =>
 K_30 t20_32 H_31) (fun t20_33 H_34 =>
 aGuardK t18_24 true (fun K_35 H_36 =>
 bnd (aBin .neq .no t20_33 (.int .i64 2)) fun t21_37 =>
 K_35 t21_37 H_36) (fun t21_38 H_39 =>
 aGuardK t14_12 false (fun K_40 H_41 =>
 bnd (aPick t18_24 t21_38 (.bool false)) fun t22_42 =>
 K_40 t22_42 H_41) (fun t22_43 H_44 =>
 bnd (aPick t14_12 (.bool true) t22_43) fun t23_45 =>
 aGuardK t23_45 false (fun K_46 H_47 =>
 K_46 a1 H_47) (fun t25_48 H_49 =>
 aGuardK t23_45 false (fun K_50 H_51 =>
 bnd (aBin .eql .no t25_48 (.int .i64 3)) fun t26_52 =>
 K_50 t26_52 H_51) (fun t26_53 H_54 =>
 aGuardK t23_45 false (fun K_55 H_56 =>
 K_55 t26_53 H_56) (fun t27_57 H_58 =>
 aGuardK t27_57 true (fun K_59 H_60 =>
 K_59 a2 H_60) (fun t28_61 H_62 =>
 aGuardK t27_57 true (fun K_63 H_64 =>
 bnd (aLenSl t28_61) fun t29_65 =>
 K_63 t29_65 H_64) (fun t29_66 H_67 =>
 aGuardK t27_57 true (fun K_68 H_69 =>
 bnd (aBin .neq .no t29_66 (.int .i64 1)) fun t30_70 =>
 K_68 t30_70 H_69) (fun t30_71 H_72 =>
 aGuardK t23_45 false (fun K_73 H_74 =>
 bnd (aPick t27_57 t30_71 (.bool false)) fun t31_75 =>
 K_73 t31_75 H_74) (fun t31_76 H_77 =>
 bnd (aPick t23_45 (.bool true) t31_76) fun t32_78 =>
 aCond t32_78 (
 bnd (aFill [(.int .i64 0), (.int .i64 0)] []) fun t33_79 =>
 bnd (aSt 2 t6_0 (.agg t33_79.toArray) H_77) fun H_80 =>
 bnd (aLdAgg 2 t6_0 H_80) fun r_81 =>
 R (.tuple #[r_81, (.int .i64 1)]) H_80) (
 aLoop [(.int .i64 0)] H_77 fun vs_82 H_83 again_84 =>
 (S49_109 a0 a1 a2 R t6_0 vs_82 H_83 again_84))) H_72) H_67) H_62) H_58) H_54) H_49) H_44) H_39) H_34) H_29) H_25) H_21) H_16) H_11) H_6) H_1
theorem S49_calls {a0 a1 a2 : Value} {H : AHeap} {R : Value → AHeap → Prop} (h : S49 a0 a1 a2 H R) : ACalls Try.prog 49 [a0, a1, a2] H R :=
  have e : S49 a0 a1 a2 H R = awpFn Try.prog (Try.f49.body.getD .skip) Try.f49.results.toList ann49 [a0, a1, a2] H R := by kernel_rfl
  calls_of_awp (fn := Try.f49) (c := Try.f49.body.getD .skip) (an := ann49) (by kernel_rfl) Try.func49 (by kernel_rfl) (by kernel_rfl) (of_decide_eq_true (by kernel_rfl)) (e ▸ h)

/-- 50: (*marginalia/marginaliaref06.Store).Set -/
def ann50 : Ann := (.two .leaf (.two .leaf (.two (.two .leaf (.two (.two .leaf .leaf) .leaf)) (.two (.two .leaf (.two (.two .leaf .leaf) .leaf)) (.two (.draw [(0, []), (1, []), (2, []), (3, []), (4, []), (5, []), (6, []), (7, []), (8, []), (9, []), (10, []), (11, []), (12, [])]) (.two .leaf .leaf))))))
def S50_28 (a0 : Value) (a2 : Value) (R : Value → AHeap → Prop) (t5_0 : Value) (t7_2 : Value) (H_15 : AHeap) : Prop :=
 bnd (aNilCheck a0) fun t26_17 =>
 bnd (aAdd 2 t26_17) fun t27_18 =>
 bnd (aLdCell t27_18 H_15) fun t28_19 =>
 bnd (aAdd 1 t5_0) fun t29_20 =>
 bnd (aLdCell t29_20 H_15) fun t30_21 =>
 bnd (aIdxAddr 10 t28_19 t30_21) fun t31_22 =>
 bnd (aAdd 1 t31_22) fun t32_23 =>
 bnd (aLdCell t32_23 H_15) fun t33_24 =>
 bnd (aLdAgg 2 t7_2 H_15) fun t35_25 =>
 bnd (aIdxAddr 2 t33_24 a2) fun t36_26 =>
 bnd (aSt 2 t36_26 t35_25 H_15) fun H_27 =>
 R (.int .i64 0) H_27
def S50_29 (a0 : Value) (a2 : Value) (R : Value → AHeap → Prop) (t5_0 : Value) (t7_2 : Value) (t15_5 : Value) (H_6 : AHeap) : Prop :=
 bnd (aExtract t15_5 0) fun t16_7 =>
 bnd (aExtract t15_5 1) fun t17_8 =>
 aAlloc [(.int .i64 0), (.int .i64 0)] 28 H_6 fun t9_9 H_10 =>
 bnd (aSt 2 t9_9 t16_7 H_10) fun H_11 =>
 bnd (aBin .neq .no t17_8 (.int .i64 0)) fun t19_12 =>
 aCond t19_12 (
 R t17_8 H_11) (
 bnd (aLdAgg 2 t7_2 H_11) fun t22_13 =>
 ACalls Try.prog 31 [a0, t22_13] H_11 fun t23_14 H_15 =>
 bnd (aUn .not t23_14) fun t24_16 =>
 aCond t24_16 (
 R (.int .i64 2) H_15) (
 (S50_28 a0 a2 R t5_0 t7_2 H_15)))
def S50 (a0 : Value) (a1 : Value) (a2 : Value) (a3 : Value) (H : AHeap) (R : Value → AHeap → Prop) : Prop :=
 aBox 28 a1 H fun t5_0 H_1 =>
 aBox 28 a3 H_1 fun t7_2 H_3 =>
 bnd (aLdAgg 2 t5_0 H_3) fun t13_4 =>
 ACalls Try.prog 55 [a0, t13_4, a2] H_3 fun t15_5 H_6 =>
 (S50_29 a0 a2 R t5_0 t7_2 t15_5 H_6)
theorem S50_calls {a0 a1 a2 a3 : Value} {H : AHeap} {R : Value → AHeap → Prop} (h : S50 a0 a1 a2 a3 H R) : ACalls Try.prog 50 [a0, a1, a2, a3] H R :=
  have e : S50 a0 a1 a2 a3 H R = awpFn Try.prog (Try.f50.body.getD .skip) Try.f50.results.toList ann50 [a0, a1, a2, a3] H R := by kernel_rfl
  calls_of_awp (fn := Try.f50) (c := Try.f50.body.getD .skip) (an := ann50) (by kernel_rfl) Try.func50 (by kernel_rfl) (by kernel_rfl) (of_decide_eq_true (by kernel_rfl)) (e ▸ h)

/-- 51: (*marginalia/marginaliaref06.Store).Look -/
def ann51 : Ann := (.two .leaf (.two .leaf (.two .leaf (.two (.one (.loop [3, 11, 12, 13] [3, 8, 9, 10, 11, 12, 13, 14, 15, 16, 17, 18, 19, 20, 27, 28, 29, 30, 31, 32, 33, 34, 35, 36, 37, 38, 39, 40, 41, 42, 43, 44, 45, 46, 47, 48, 49, 50, 51, 52, 53, 54, 55, 56, 57, 58, 59, 60, 61, 62, 63, 64, 65, 66, 67, 68, 69, 70, 71, 72, 73, 74, 75, 76, 77, 78, 79, 80, 81, 82, 83, 84, 85, 86, 87, 88, 89, 90, 91, 92, 93, 94, 95, 96, 97, 98, 99, 100, 101, 102, 103, 104, 105, 106, 107, 108, 109, 110, 111, 112, 113, 114, 115, 116, 117, 118, 119, 120, 121, 122, 123, 124, 125, 126, 127, 128, 129, 130, 131, 132] (.two (.two .leaf (.two .leaf .leaf)) (.one (.two .leaf (.two .leaf (.two (.two .leaf (.two (.two .leaf .leaf) .leaf)) (.two (.two .leaf (.two (.two .leaf .leaf) .leaf)) (.two .leaf (.two .leaf (.two (.draw [(0, []), (1, []), (2, []), (3, []), (4, []), (5, []), (6, []), (7, []), (8, []), (9, []), (10, []), (11, []), (12, []), (13, []), (14, [7, 9, 11]), (15, [])]) (.two .leaf (.join [11] [11, 73, 74, 75, 76, 77, 78, 79, 80, 81, 82, 83, 84] (.two (.draw [(0, []), (1, []), (2, []), (3, []), (4, []), (5, []), (6, []), (7, []), (8, [])]) (.two .leaf .leaf)) (.two (.two .leaf (.two .leaf .leaf)) (.two .leaf (.two (.two .leaf (.two (.two .leaf .leaf) .leaf)) (.two .leaf (.two .leaf (.two (.two .leaf (.two (.two .leaf .leaf) .leaf)) (.two .leaf (.two .leaf .leaf))))))))))))))))))))) (.two .leaf .leaf)))))
def S51_111 (vs_13 : List Value) (again_15 : List Value → AHeap → Prop) (t50_33 : Value) (t52_34 : Value) (vs_60 : List Value) (t109_95 : Value) (t112_98 : Value) (H_99 : AHeap) : Prop :=
 bnd (aFill [(.slice none 0 0), (.slice none 0 0), (.int .i64 0)] [(0, 1, t109_95), (1, 1, t112_98), (2, 1, (.int .i64 0))]) fun t123_103 =>
 aBuildSlice 3 1 127 [(.slice none 0 0), (.slice none 0 0), (.int .i64 0)] [(0, 3, (.agg t123_103.toArray))] H_99 fun t124_104 H_105 =>
 aAppend 3 56 127 (nth vs_60 0) t124_104 H_105 fun t125_106 H_107 =>
 bnd (aLenSl t109_95) fun t128_108 =>
 bnd (aBin .add .no t52_34 t128_108) fun t129_109 =>
 bnd (aMax (nth vs_13 3) t129_109) fun t132_110 =>
 again_15 [t50_33, t125_106, t129_109, t132_110] H_107
def S51_112 (a0 : Value) (R : Value → AHeap → Prop) (vs_13 : List Value) (again_15 : List Value → AHeap → Prop) (t50_33 : Value) (t52_34 : Value) (t16_47 : Value) (t17_49 : Value) (vs_60 : List Value) (H_92 : AHeap) : Prop :=
 bnd (aLdAgg 2 t16_47 H_92) fun t108_94 =>
 ACalls Try.prog 53 [a0, t108_94] H_92 fun t109_95 H_96 =>
 bnd (aLdAgg 2 t17_49 H_96) fun t111_97 =>
 ACalls Try.prog 53 [a0, t111_97] H_96 fun t112_98 H_99 =>
 bnd (aLenSl t109_95) fun t114_100 =>
 bnd (aLenSl t112_98) fun t116_101 =>
 bnd (aBin .neq .no t114_100 t116_101) fun t117_102 =>
 aCond t117_102 (
 R (.tuple #[(.bool false), t50_33, (nth vs_13 3)]) H_99) (
 (S51_111 vs_13 again_15 t50_33 t52_34 vs_60 t109_95 t112_98 H_99))
def S51_113 (a0 : Value) (R : Value → AHeap → Prop) (vs_13 : List Value) (again_15 : List Value → AHeap → Prop) (t50_33 : Value) (t52_34 : Value) (t16_47 : Value) (t17_49 : Value) (vs_60 : List Value) (t91_68 : Value) (t95_71 : Value) (H_72 : AHeap) : Prop :=
 bnd (aBin .neq .no t91_68 t95_71) fun t96_73 =>
 aGuardK t96_73 false (fun K_74 H_75 =>
 K_74 t91_68 H_75) (fun t98_76 H_77 =>
 aGuardK t96_73 false (fun K_78 H_79 =>
 bnd (aBin .lss .no t98_76 (.int .i64 1)) fun t99_80 =>
 K_78 t99_80 H_79) (fun t99_81 H_82 =>
 bnd (aPick t96_73 (.bool true) t99_81) fun t100_83 =>
 aGuardK t100_83 false (fun K_84 H_85 =>
 K_84 t91_68 H_85) (fun t102_86 H_87 =>
 aGuardK t100_83 false (fun K_88 H_89 =>
 bnd (aBin .gtr .no t102_86 (.int .i64 4)) fun t103_90 =>
 K_88 t103_90 H_89) (fun t103_91 H_92 =>
 bnd (aPick t100_83 (.bool true) t103_91) fun t104_93 =>
 aCond t104_93 (
 R (.tuple #[(.bool false), t50_33, (nth vs_13 3)]) H_92) (
 (S51_112 a0 R vs_13 again_15 t50_33 t52_34 t16_47 t17_49 vs_60 H_92))) H_87) H_82) H_77) H_72
def S51_114 (a0 : Value) (R : Value → AHeap → Prop) (vs_13 : List Value) (again_15 : List Value → AHeap → Prop) (t50_33 : Value) (t52_34 : Value) (t16_47 : Value) (t17_49 : Value) (vs_60 : List Value) (H_66 : AHeap) : Prop :=
 bnd (aLdAgg 2 t16_47 H_66) fun t90_67 =>
 ACalls Try.prog 52 [a0, t90_67] H_66 fun t91_68 H_69 =>
 bnd (aLdAgg 2 t17_49 H_69) fun t94_70 =>
 ACalls Try.prog 52 [a0, t94_70] H_69 fun t95_71 H_72 =>
 (S51_113 a0 R vs_13 again_15 t50_33 t52_34 t16_47 t17_49 vs_60 t91_68 t95_71 H_72)
def S51_123 (a0 : Value) (R : Value → AHeap → Prop) (vs_13 : List Value) (again_15 : List Value → AHeap → Prop) (t50_33 : Value) (t52_34 : Value) (t16_47 : Value) (t17_49 : Value) (vs_60 : List Value) (H_61 : AHeap) : Prop :=
 bnd (aLdAgg 2 t16_47 H_61) fun t86_63 =>
 bnd (aLdAgg 2 t17_49 H_61) fun t87_64 =>
 ACalls Try.prog 27 [a0, t86_63, t87_64] H_61 fun t88_65 H_66 =>
 aCond t88_65 (
 again_15 [t50_33, (nth vs_60 0), t52_34, (nth vs_13 3)] H_66) (
 (S51_114 a0 R vs_13 again_15 t50_33 t52_34 t16_47 t17_49 vs_60 H_66))
def S51_127 (a0 : Value) (R : Value → AHeap → Prop) (vs_13 : List Value) (again_15 : List Value → AHeap → Prop) (t32_19 : Value) (t15_22 : Value) (H_24 : AHeap) : Prop :=
 bnd (aBin .sub .no (nth vs_13 0) (.int .i64 1)) fun t50_33 =>
 bnd (aBin .sub .no (nth vs_13 2) (.int .i64 1)) fun t52_34 =>
 bnd (aAdd 0 t15_22) fun t53_35 =>
 bnd (aLdCell t53_35 H_24) fun t54_36 =>
 bnd (aAdd 2 t15_22) fun t55_37 =>
 bnd (aLdCell t55_37 H_24) fun t56_38 =>
 bnd (aIdxAddr 2 t54_36 t56_38) fun t57_39 =>
 bnd (aLdAgg 2 t57_39 H_24) fun t58_40 =>
 bnd (aAdd 1 t15_22) fun t59_41 =>
 bnd (aLdCell t59_41 H_24) fun t60_42 =>
 bnd (aAdd 2 t15_22) fun t61_43 =>
 bnd (aLdCell t61_43 H_24) fun t62_44 =>
 bnd (aIdxAddr 2 t60_42 t62_44) fun t63_45 =>
 bnd (aLdAgg 2 t63_45 H_24) fun t64_46 =>
 aAlloc [(.int .i64 0), (.int .i64 0)] 28 H_24 fun t16_47 H_48 =>
 aAlloc [(.int .i64 0), (.int .i64 0)] 28 H_48 fun t17_49 H_50 =>
 bnd (aSt 2 t16_47 t58_40 H_50) fun H_51 =>
 ((bnd (aLdCell t59_41 H_51) fun t60_124 =>
 t60_124 = t60_42) ∧ (bnd (aLdCell t61_43 H_51) fun t62_125 =>
 t62_125 = t62_44) ∧ (bnd (aLdAgg 2 t63_45 H_51) fun t64_126 =>
 t64_126 = t64_46)) ∧
 bnd (aSt 2 t17_49 t64_46 H_51) fun H_52 =>
 bnd (aIdxAddr 3 (nth vs_13 1) t32_19) fun t67_53 =>
 bnd (aAdd 2 t67_53) fun t68_54 =>
 bnd (aLdCell t68_54 H_52) fun t69_55 =>
 bnd (aBin .add .no t69_55 (.int .i64 1)) fun t70_56 =>
 bnd (aIdxAddr 3 (nth vs_13 1) t32_19) fun t71_57 =>
 bnd (aAdd 2 t71_57) fun t72_58 =>
 bnd (aSt 1 t72_58 t70_56 H_52) fun H_59 =>
 aJoin (fun vs_60 H_61 =>
 (S51_123 a0 R vs_13 again_15 t50_33 t52_34 t16_47 t17_49 vs_60 H_61)) fun J_62 =>
 bnd (aIdxAddr 3 (nth vs_13 1) t32_19) fun t75_115 =>
 bnd (aAdd 2 t75_115) fun t76_116 =>
 bnd (aLdCell t76_116 H_59) fun t77_117 =>
 bnd (aAdd 0 t15_22) fun t78_118 =>
 bnd (aLdCell t78_118 H_59) fun t79_119 =>
 bnd (aLenSl t79_119) fun t80_120 =>
 bnd (aBin .eql .no t77_117 t80_120) fun t81_121 =>
 aCond t81_121 (
 bnd (aSliceSl 3 (nth vs_13 1) none (some t32_19)) fun t84_122 =>
 J_62 [t84_122] H_59) (
 J_62 [(nth vs_13 1)] H_59)
def S51_128 (a0 : Value) (R : Value → AHeap → Prop) (vs_13 : List Value) (H_14 : AHeap) (again_15 : List Value → AHeap → Prop) : Prop :=
 bnd (aLenSl (nth vs_13 1)) fun t31_18 =>
 bnd (aBin .sub .no t31_18 (.int .i64 1)) fun t32_19 =>
 bnd (aIdxAddr 3 (nth vs_13 1) t32_19) fun t35_20 =>
 bnd (aLdAgg 3 t35_20 H_14) fun t36_21 =>
 aAlloc [(.slice none 0 0), (.slice none 0 0), (.int .i64 0)] 127 H_14 fun t15_22 H_23 =>
 bnd (aSt 3 t15_22 t36_21 H_23) fun H_24 =>
 bnd (aAdd 2 t15_22) fun t37_25 =>
 bnd (aLdCell t37_25 H_24) fun t38_26 =>
 bnd (aAdd 0 t15_22) fun t39_27 =>
 bnd (aLdCell t39_27 H_24) fun t40_28 =>
 bnd (aLenSl t40_28) fun t41_29 =>
 bnd (aBin .eql .no t38_26 t41_29) fun t42_30 =>
 aCond t42_30 (
 bnd (aSliceSl 3 (nth vs_13 1) none (some t32_19)) fun t45_31 =>
 again_15 [(nth vs_13 0), t45_31, (nth vs_13 2), (nth vs_13 3)] H_24) (
 bnd (aBin .leq .no (nth vs_13 0) (.int .i64 0)) fun t47_32 =>
 aCond t47_32 (
 R (.tuple #[(.bool false), (.int .i64 (-1)), (nth vs_13 3)]) H_24) (
 (S51_127 a0 R vs_13 again_15 t32_19 t15_22 H_24)))
def S51_129 (a0 : Value) (R : Value → AHeap → Prop) (vs_13 : List Value) (H_14 : AHeap) (again_15 : List Value → AHeap → Prop) : Prop :=
 bnd (aLenSl (nth vs_13 1)) fun t28_16 =>
 bnd (aBin .gtr .no t28_16 (.int .i64 0)) fun t29_17 =>
 aCond t29_17 (
 (S51_128 a0 R vs_13 H_14 again_15)) (
 R (.tuple #[(.bool true), (nth vs_13 0), (nth vs_13 3)]) H_14)
def S51 (a0 : Value) (a1 : Value) (a2 : Value) (a3 : Value) (H : AHeap) (R : Value → AHeap → Prop) : Prop :=
 aBox 28 a1 H fun t5_0 H_1 =>
 aBox 28 a2 H_1 fun t6_2 H_3 =>
 bnd (aLdAgg 2 t5_0 H_3) fun t21_4 =>
 aBuildSlice 2 1 28 [(.int .i64 0), (.int .i64 0)] [(0, 2, t21_4)] H_3 fun t22_5 H_6 =>
 bnd (aLdAgg 2 t6_2 H_6) fun t23_7 =>
 aBuildSlice 2 1 28 [(.int .i64 0), (.int .i64 0)] [(0, 2, t23_7)] H_6 fun t24_8 H_9 =>
 bnd (aFill [(.slice none 0 0), (.slice none 0 0), (.int .i64 0)] [(0, 1, t22_5), (1, 1, t24_8), (2, 1, (.int .i64 0))]) fun t25_10 =>
 aBuildSlice 3 1 127 [(.slice none 0 0), (.slice none 0 0), (.int .i64 0)] [(0, 3, (.agg t25_10.toArray))] H_9 fun t26_11 H_12 =>
 aLoop [a3, t26_11, (.int .i64 1), (.int .i64 1)] H_12 fun vs_13 H_14 again_15 =>
 (S51_129 a0 R vs_13 H_14 again_15)
theorem S51_calls {a0 a1 a2 a3 : Value} {H : AHeap} {R : Value → AHeap → Prop} (h : S51 a0 a1 a2 a3 H R) : ACalls Try.prog 51 [a0, a1, a2, a3] H R :=
  have e : S51 a0 a1 a2 a3 H R = awpFn Try.prog (Try.f51.body.getD .skip) Try.f51.results.toList ann51 [a0, a1, a2, a3] H R := by kernel_rfl
  calls_of_awp (fn := Try.f51) (c := Try.f51.body.getD .skip) (an := ann51) (by kernel_rfl) Try.func51 (by kernel_rfl) (by kernel_rfl) (of_decide_eq_true (by kernel_rfl)) (e ▸ h)

/-- 52: (*marginalia/marginaliaref06.Store).Kind -/
def ann52 : Ann := (.two .leaf (.two (.two .leaf (.two (.two .leaf .leaf) .leaf)) (.two (.draw [(0, []), (1, []), (2, []), (3, []), (4, []), (5, []), (6, []), (7, []), (8, []), (9, [])]) .leaf)))
def S52_34 (a0 : Value) (R : Value → AHeap → Prop) (t3_0 : Value) (H_24 : AHeap) : Prop :=
 bnd (aNilCheck a0) fun t15_26 =>
 bnd (aAdd 2 t15_26) fun t16_27 =>
 bnd (aLdCell t16_27 H_24) fun t17_28 =>
 bnd (aAdd 1 t3_0) fun t18_29 =>
 bnd (aLdCell t18_29 H_24) fun t19_30 =>
 bnd (aIdxAddr 10 t17_28 t19_30) fun t20_31 =>
 bnd (aAdd 0 t20_31) fun t21_32 =>
 bnd (aLdCell t21_32 H_24) fun t22_33 =>
 R t22_33 H_24
def S52 (a0 : Value) (a1 : Value) (H : AHeap) (R : Value → AHeap → Prop) : Prop :=
 aBox 28 a1 H fun t3_0 H_1 =>
 bnd (aAdd 0 t3_0) fun t5_2 =>
 bnd (aLdCell t5_2 H_1) fun t6_3 =>
 bnd (aBin .neq .no t6_3 (.int .i64 7)) fun t7_4 =>
 aGuardK t7_4 false (fun K_5 H_6 =>
 K_5 a0 H_6) (fun t9_7 H_8 =>
 aGuardK t7_4 false (fun K_9 H_10 =>
 bnd (aLdAgg 2 t3_0 H_10) fun t10_11 =>
 K_9 t10_11 H_10) (fun t10_12 H_13 =>
 aGuardK t7_4 false (fun K_14 H_15 =>
 ACalls Try.prog 31 [t9_7, t10_12] H_15 fun t11_16 H_17 =>
 K_14 t11_16 H_17) (fun t11_18 H_19 =>
 aGuardK t7_4 false (fun K_20 H_21 =>
 bnd (aUn .not t11_18) fun t12_22 =>
 K_20 t12_22 H_21) (fun t12_23 H_24 =>
 bnd (aPick t7_4 (.bool true) t12_23) fun t13_25 =>
 aCond t13_25 (
 R (.int .i64 0) H_24) (
 (S52_34 a0 R t3_0 H_24))) H_19) H_13) H_8) H_1
theorem S52_calls {a0 a1 : Value} {H : AHeap} {R : Value → AHeap → Prop} (h : S52 a0 a1 H R) : ACalls Try.prog 52 [a0, a1] H R :=
  have e : S52 a0 a1 H R = awpFn Try.prog (Try.f52.body.getD .skip) Try.f52.results.toList ann52 [a0, a1] H R := by kernel_rfl
  calls_of_awp (fn := Try.f52) (c := Try.f52.body.getD .skip) (an := ann52) (by kernel_rfl) Try.func52 (by kernel_rfl) (by kernel_rfl) (of_decide_eq_true (by kernel_rfl)) (e ▸ h)

/-- 53: (*marginalia/marginaliaref06.Store).Slots -/
def ann53 : Ann := (.two .leaf (.two (.two .leaf (.two (.two .leaf .leaf) .leaf)) (.two (.draw [(0, []), (1, []), (2, []), (3, []), (4, []), (5, []), (6, []), (7, []), (8, []), (9, [])]) .leaf)))
def S53_34 (a0 : Value) (R : Value → AHeap → Prop) (t3_0 : Value) (H_24 : AHeap) : Prop :=
 bnd (aNilCheck a0) fun t15_26 =>
 bnd (aAdd 2 t15_26) fun t16_27 =>
 bnd (aLdCell t16_27 H_24) fun t17_28 =>
 bnd (aAdd 1 t3_0) fun t18_29 =>
 bnd (aLdCell t18_29 H_24) fun t19_30 =>
 bnd (aIdxAddr 10 t17_28 t19_30) fun t20_31 =>
 bnd (aAdd 1 t20_31) fun t21_32 =>
 bnd (aLdCell t21_32 H_24) fun t22_33 =>
 R t22_33 H_24
def S53 (a0 : Value) (a1 : Value) (H : AHeap) (R : Value → AHeap → Prop) : Prop :=
 aBox 28 a1 H fun t3_0 H_1 =>
 bnd (aAdd 0 t3_0) fun t5_2 =>
 bnd (aLdCell t5_2 H_1) fun t6_3 =>
 bnd (aBin .neq .no t6_3 (.int .i64 7)) fun t7_4 =>
 aGuardK t7_4 false (fun K_5 H_6 =>
 K_5 a0 H_6) (fun t9_7 H_8 =>
 aGuardK t7_4 false (fun K_9 H_10 =>
 bnd (aLdAgg 2 t3_0 H_10) fun t10_11 =>
 K_9 t10_11 H_10) (fun t10_12 H_13 =>
 aGuardK t7_4 false (fun K_14 H_15 =>
 ACalls Try.prog 31 [t9_7, t10_12] H_15 fun t11_16 H_17 =>
 K_14 t11_16 H_17) (fun t11_18 H_19 =>
 aGuardK t7_4 false (fun K_20 H_21 =>
 bnd (aUn .not t11_18) fun t12_22 =>
 K_20 t12_22 H_21) (fun t12_23 H_24 =>
 bnd (aPick t7_4 (.bool true) t12_23) fun t13_25 =>
 aCond t13_25 (
 R (.slice none 0 0) H_24) (
 (S53_34 a0 R t3_0 H_24))) H_19) H_13) H_8) H_1
theorem S53_calls {a0 a1 : Value} {H : AHeap} {R : Value → AHeap → Prop} (h : S53 a0 a1 H R) : ACalls Try.prog 53 [a0, a1] H R :=
  have e : S53 a0 a1 H R = awpFn Try.prog (Try.f53.body.getD .skip) Try.f53.results.toList ann53 [a0, a1] H R := by kernel_rfl
  calls_of_awp (fn := Try.f53) (c := Try.f53.body.getD .skip) (an := ann53) (by kernel_rfl) Try.func53 (by kernel_rfl) (by kernel_rfl) (of_decide_eq_true (by kernel_rfl)) (e ▸ h)

/-- 54: marginalia/marginalialaw06.own -/
def ann54 : Ann := (.two .leaf (.two .leaf .leaf))
def S54 (a0 : Value) (H : AHeap) (R : Value → AHeap → Prop) : Prop :=
 aBuildSlice 2 0 28 [(.int .i64 0), (.int .i64 0)] [] H fun t3_0 H_1 =>
 aAppend 2 16 28 t3_0 a0 H_1 fun t5_2 H_3 =>
 R t5_2 H_3
theorem S54_calls {a0 : Value} {H : AHeap} {R : Value → AHeap → Prop} (h : S54 a0 H R) : ACalls Try.prog 54 [a0] H R :=
  have e : S54 a0 H R = awpFn Try.prog (Try.f54.body.getD .skip) Try.f54.results.toList ann54 [a0] H R := by kernel_rfl
  calls_of_awp (fn := Try.f54) (c := Try.f54.body.getD .skip) (an := ann54) (by kernel_rfl) Try.func54 (by kernel_rfl) (by kernel_rfl) (of_decide_eq_true (by kernel_rfl)) (e ▸ h)

/-- 55: (*marginalia/marginaliaref06.Store).Get -/
def ann55 : Ann := (.two .leaf (.two (.two .leaf (.two (.two .leaf .leaf) .leaf)) (.two .leaf (.two (.two .leaf (.two (.two .leaf .leaf) .leaf)) (.two .leaf .leaf)))))
def S55_41 (a2 : Value) (R : Value → AHeap → Prop) (t6_2 : Value) (t16_12 : Value) (H_13 : AHeap) : Prop :=
 bnd (aBin .lss .no a2 (.int .i64 0)) fun t18_14 =>
 aGuardK t18_14 false (fun K_15 H_16 =>
 K_15 a2 H_16) (fun t20_17 H_18 =>
 aGuardK t18_14 false (fun K_19 H_20 =>
 K_19 t16_12 H_20) (fun t21_21 H_22 =>
 aGuardK t18_14 false (fun K_23 H_24 =>
 bnd (aLenSl t21_21) fun t22_25 =>
 K_23 t22_25 H_24) (fun t22_26 H_27 =>
 aGuardK t18_14 false (fun K_28 H_29 =>
 bnd (aBin .geq .no t20_17 t22_26) fun t23_30 =>
 K_28 t23_30 H_29) (fun t23_31 H_32 =>
 bnd (aPick t18_14 (.bool true) t23_31) fun t24_33 =>
 aCond t24_33 (
 bnd (aFill [(.int .i64 0), (.int .i64 0)] []) fun t25_34 =>
 bnd (aSt 2 t6_2 (.agg t25_34.toArray) H_32) fun H_35 =>
 bnd (aLdAgg 2 t6_2 H_35) fun r_36 =>
 R (.tuple #[r_36, (.int .i64 12)]) H_35) (
 bnd (aIdxAddr 2 t16_12 a2) fun t28_37 =>
 bnd (aLdAgg 2 t28_37 H_32) fun t29_38 =>
 bnd (aSt 2 t6_2 t29_38 H_32) fun H_39 =>
 bnd (aLdAgg 2 t6_2 H_39) fun r_40 =>
 R (.tuple #[r_40, (.int .i64 0)]) H_39)) H_27) H_22) H_18) H_13
def S55 (a0 : Value) (a1 : Value) (a2 : Value) (H : AHeap) (R : Value → AHeap → Prop) : Prop :=
 aBox 28 a1 H fun t4_0 H_1 =>
 aAlloc [(.int .i64 0), (.int .i64 0)] 28 H_1 fun t6_2 H_3 =>
 bnd (aLdAgg 2 t4_0 H_3) fun t10_4 =>
 ACalls Try.prog 52 [a0, t10_4] H_3 fun t11_5 H_6 =>
 bnd (aBin .eql .no t11_5 (.int .i64 0)) fun t12_7 =>
 aCond t12_7 (
 bnd (aFill [(.int .i64 0), (.int .i64 0)] []) fun t13_8 =>
 bnd (aSt 2 t6_2 (.agg t13_8.toArray) H_6) fun H_9 =>
 bnd (aLdAgg 2 t6_2 H_9) fun r_10 =>
 R (.tuple #[r_10, (.int .i64 10)]) H_9) (
 bnd (aLdAgg 2 t4_0 H_6) fun t15_11 =>
 ACalls Try.prog 53 [a0, t15_11] H_6 fun t16_12 H_13 =>
 (S55_41 a2 R t6_2 t16_12 H_13))
theorem S55_calls {a0 a1 a2 : Value} {H : AHeap} {R : Value → AHeap → Prop} (h : S55 a0 a1 a2 H R) : ACalls Try.prog 55 [a0, a1, a2] H R :=
  have e : S55 a0 a1 a2 H R = awpFn Try.prog (Try.f55.body.getD .skip) Try.f55.results.toList ann55 [a0, a1, a2] H R := by kernel_rfl
  calls_of_awp (fn := Try.f55) (c := Try.f55.body.getD .skip) (an := ann55) (by kernel_rfl) Try.func55 (by kernel_rfl) (by kernel_rfl) (of_decide_eq_true (by kernel_rfl)) (e ▸ h)

/-- 56: (*marginalia/marginaliaref06.Store).Symbol -/
def ann56 : Ann := (.two .leaf (.two (.two .leaf (.two (.two .leaf .leaf) .leaf)) (.two (.two .leaf (.one (.loop [6] [5, 6, 16, 17, 18, 19, 20, 21, 22, 23, 24, 25, 26, 27, 28, 29, 30, 31, 32, 33, 34, 35] (.two (.two .leaf (.two .leaf .leaf)) (.two (.one (.two .leaf (.two (.two .leaf .leaf) .leaf))) .leaf))))) (.two .leaf (.two .leaf .leaf)))))
def S56_40 (a0 : Value) (a1 : Value) (R : Value → AHeap → Prop) (t4_0 : Value) (vs_22 : List Value) (H_23 : AHeap) (again_24 : List Value → AHeap → Prop) : Prop :=
 bnd (aNilCheck a0) fun t26_30 =>
 bnd (aAdd 3 t26_30) fun t27_31 =>
 bnd (aLdCell t27_31 H_23) fun t28_32 =>
 bnd (aIdxAddr 1 t28_32 (nth vs_22 0)) fun t30_33 =>
 bnd (aLdCell t30_33 H_23) fun t31_34 =>
 bnd (aBin .eql .no t31_34 a1) fun t33_35 =>
 aCond t33_35 (
 bnd (aFill [(.int .i64 0), (.int .i64 0)] [(0, 1, (.int .i64 6)), (1, 1, (nth vs_22 0))]) fun t35_36 =>
 bnd (aSt 2 t4_0 (.agg t35_36.toArray) H_23) fun H_37 =>
 bnd (aLdAgg 2 t4_0 H_37) fun r_38 =>
 R (.tuple #[r_38, (.int .i64 0)]) H_37) (
 bnd (aBin .add .no (nth vs_22 0) (.int .i64 1)) fun t24_39 =>
 again_24 [t24_39] H_23)
def S56_59 (a0 : Value) (a1 : Value) (R : Value → AHeap → Prop) (t4_0 : Value) (H_23 : AHeap) : Prop :=
 bnd (aNilCheck a0) fun t38_41 =>
 bnd (aAdd 3 t38_41) fun t39_42 =>
 bnd (aLdCell t39_42 H_23) fun t40_43 =>
 aBuildSlice 1 1 9 [(.string ⟨#[]⟩)] [(0, 1, a1)] H_23 fun t42_44 H_45 =>
 aAppend 1 16 9 t40_43 t42_44 H_45 fun t43_46 H_47 =>
 bnd (aNilCheck a0) fun t44_48 =>
 bnd (aAdd 3 t44_48) fun t45_49 =>
 bnd (aSt 1 t45_49 t43_46 H_47) fun H_50 =>
 bnd (aNilCheck a0) fun t47_51 =>
 bnd (aAdd 3 t47_51) fun t48_52 =>
 bnd (aLdCell t48_52 H_50) fun t49_53 =>
 bnd (aLenSl t49_53) fun t50_54 =>
 bnd (aBin .sub .no t50_54 (.int .i64 1)) fun t51_55 =>
 bnd (aFill [(.int .i64 0), (.int .i64 0)] [(0, 1, (.int .i64 6)), (1, 1, t51_55)]) fun t52_56 =>
 bnd (aSt 2 t4_0 (.agg t52_56.toArray) H_50) fun H_57 =>
 bnd (aLdAgg 2 t4_0 H_57) fun r_58 =>
 R (.tuple #[r_58, (.int .i64 0)]) H_57
def S56_60 (a0 : Value) (a1 : Value) (R : Value → AHeap → Prop) (t4_0 : Value) (vs_22 : List Value) (H_23 : AHeap) (again_24 : List Value → AHeap → Prop) : Prop :=
 bnd (aNilCheck a0) fun t18_25 =>
 bnd (aAdd 3 t18_25) fun t19_26 =>
 bnd (aLdCell t19_26 H_23) fun t20_27 =>
 bnd (aLenSl t20_27) fun t21_28 =>
 bnd (aBin .lss .no (nth vs_22 0) t21_28) fun t22_29 =>
 aCond t22_29 (
 (S56_40 a0 a1 R t4_0 vs_22 H_23 again_24)) (
 (S56_59 a0 a1 R t4_0 H_23))
def S56 (a0 : Value) (a1 : Value) (H : AHeap) (R : Value → AHeap → Prop) : Prop :=
 aAlloc [(.int .i64 0), (.int .i64 0)] 28 H fun t4_0 H_1 =>
 bnd (aLenStr a1) fun t8_2 =>
 bnd (aBin .lss .no t8_2 (.int .i64 1)) fun t9_3 =>
 aGuardK t9_3 false (fun K_4 H_5 =>
 K_4 a1 H_5) (fun t11_6 H_7 =>
 aGuardK t9_3 false (fun K_8 H_9 =>
 bnd (aLenStr t11_6) fun t12_10 =>
 K_8 t12_10 H_9) (fun t12_11 H_12 =>
 aGuardK t9_3 false (fun K_13 H_14 =>
 bnd (aBin .gtr .no t12_11 (.int .i64 64)) fun t13_15 =>
 K_13 t13_15 H_14) (fun t13_16 H_17 =>
 bnd (aPick t9_3 (.bool true) t13_16) fun t14_18 =>
 aCond t14_18 (
 bnd (aFill [(.int .i64 0), (.int .i64 0)] []) fun t15_19 =>
 bnd (aSt 2 t4_0 (.agg t15_19.toArray) H_17) fun H_20 =>
 bnd (aLdAgg 2 t4_0 H_20) fun r_21 =>
 R (.tuple #[r_21, (.int .i64 1)]) H_20) (
 aLoop [(.int .i64 0)] H_17 fun vs_22 H_23 again_24 =>
 (S56_60 a0 a1 R t4_0 vs_22 H_23 again_24))) H_12) H_7) H_1
theorem S56_calls {a0 a1 : Value} {H : AHeap} {R : Value → AHeap → Prop} (h : S56 a0 a1 H R) : ACalls Try.prog 56 [a0, a1] H R :=
  have e : S56 a0 a1 H R = awpFn Try.prog (Try.f56.body.getD .skip) Try.f56.results.toList ann56 [a0, a1] H R := by kernel_rfl
  calls_of_awp (fn := Try.f56) (c := Try.f56.body.getD .skip) (an := ann56) (by kernel_rfl) Try.func56 (by kernel_rfl) (by kernel_rfl) (of_decide_eq_true (by kernel_rfl)) (e ▸ h)

/-- 57: (*marginalia/marginaliaref06.Store).Name -/
def ann57 : Ann := (.two .leaf (.two (.two .leaf (.two (.two .leaf .leaf) .leaf)) (.two (.draw [(0, []), (1, []), (2, []), (3, []), (4, []), (5, []), (6, []), (7, []), (8, []), (9, [])]) .leaf)))
def S57_33 (a0 : Value) (R : Value → AHeap → Prop) (t3_0 : Value) (H_24 : AHeap) : Prop :=
 bnd (aNilCheck a0) fun t16_26 =>
 bnd (aAdd 3 t16_26) fun t17_27 =>
 bnd (aLdCell t17_27 H_24) fun t18_28 =>
 bnd (aAdd 1 t3_0) fun t19_29 =>
 bnd (aLdCell t19_29 H_24) fun t20_30 =>
 bnd (aIdxAddr 1 t18_28 t20_30) fun t21_31 =>
 bnd (aLdCell t21_31 H_24) fun t22_32 =>
 R (.tuple #[t22_32, (.int .i64 0)]) H_24
def S57 (a0 : Value) (a1 : Value) (H : AHeap) (R : Value → AHeap → Prop) : Prop :=
 aBox 28 a1 H fun t3_0 H_1 =>
 bnd (aAdd 0 t3_0) fun t6_2 =>
 bnd (aLdCell t6_2 H_1) fun t7_3 =>
 bnd (aBin .neq .no t7_3 (.int .i64 6)) fun t8_4 =>
 aGuardK t8_4 false (fun K_5 H_6 =>
 K_5 a0 H_6) (fun t10_7 H_8 =>
 aGuardK t8_4 false (fun K_9 H_10 =>
 bnd (aLdAgg 2 t3_0 H_10) fun t11_11 =>
 K_9 t11_11 H_10) (fun t11_12 H_13 =>
 aGuardK t8_4 false (fun K_14 H_15 =>
 ACalls Try.prog 31 [t10_7, t11_12] H_15 fun t12_16 H_17 =>
 K_14 t12_16 H_17) (fun t12_18 H_19 =>
 aGuardK t8_4 false (fun K_20 H_21 =>
 bnd (aUn .not t12_18) fun t13_22 =>
 K_20 t13_22 H_21) (fun t13_23 H_24 =>
 bnd (aPick t8_4 (.bool true) t13_23) fun t14_25 =>
 aCond t14_25 (
 R (.tuple #[(.string ⟨#[]⟩), (.int .i64 10)]) H_24) (
 (S57_33 a0 R t3_0 H_24))) H_19) H_13) H_8) H_1
theorem S57_calls {a0 a1 : Value} {H : AHeap} {R : Value → AHeap → Prop} (h : S57 a0 a1 H R) : ACalls Try.prog 57 [a0, a1] H R :=
  have e : S57 a0 a1 H R = awpFn Try.prog (Try.f57.body.getD .skip) Try.f57.results.toList ann57 [a0, a1] H R := by kernel_rfl
  calls_of_awp (fn := Try.f57) (c := Try.f57.body.getD .skip) (an := ann57) (by kernel_rfl) Try.func57 (by kernel_rfl) (by kernel_rfl) (of_decide_eq_true (by kernel_rfl)) (e ▸ h)

/-- 58: (*marginalia/marginaliaref06.Store).Wrap -/
def ann58 : Ann := (.two .leaf (.two .leaf .leaf))
def S58 (a0 : Value) (a1 : Value) (H : AHeap) (R : Value → AHeap → Prop) : Prop :=
 aBox 79 a1 H fun t3_0 H_1 =>
 aAlloc [(.int .i64 0), (.int .i64 0)] 28 H_1 fun t4_2 H_3 =>
 bnd (aLdAgg 8 t3_0 H_3) fun t7_4 =>
 bnd (aFill [(.int .i64 0), (.slice none 0 0), (.int .i64 0), (.string ⟨#[]⟩), (.bool false), (.slice none 0 0), (.slice none 0 0), (.int .i64 0), (.slice none 0 0), (.slice none 0 0)] [(0, 1, (.int .i64 10)), (2, 8, t7_4)]) fun t8_5 =>
 ACalls Try.prog 69 [a0, (.agg t8_5.toArray)] H_3 fun t9_6 H_7 =>
 bnd (aExtract t9_6 0) fun t10_8 =>
 bnd (aExtract t9_6 1) fun t11_9 =>
 bnd (aSt 2 t4_2 t10_8 H_7) fun H_10 =>
 bnd (aLdAgg 2 t4_2 H_10) fun r_11 =>
 R (.tuple #[r_11, t11_9]) H_10
theorem S58_calls {a0 a1 : Value} {H : AHeap} {R : Value → AHeap → Prop} (h : S58 a0 a1 H R) : ACalls Try.prog 58 [a0, a1] H R :=
  have e : S58 a0 a1 H R = awpFn Try.prog (Try.f58.body.getD .skip) Try.f58.results.toList ann58 [a0, a1] H R := by kernel_rfl
  calls_of_awp (fn := Try.f58) (c := Try.f58.body.getD .skip) (an := ann58) (by kernel_rfl) Try.func58 (by kernel_rfl) (by kernel_rfl) (of_decide_eq_true (by kernel_rfl)) (e ▸ h)

/-- 59: (*marginalia/marginaliaref06.Store).Collect -/
def ann59 : Ann := (.two .leaf (.two (.two .leaf (.one (.loop [6] [4, 5, 6, 20, 21, 22, 23, 24, 25, 26, 27, 28, 29, 30, 31, 32] (.two (.two .leaf (.two .leaf .leaf)) (.two (.one (.two .leaf (.two (.two .leaf .leaf) .leaf))) .leaf))))) (.two .leaf (.two (.two .leaf (.one (.loop [8] [8, 39, 40, 41, 42, 43, 44, 45, 46, 47, 48, 49, 50, 51, 52, 53, 54, 55, 56, 57] (.two (.two .leaf (.two .leaf .leaf)) (.join [] [45, 46, 47, 48, 49, 50, 51, 52, 53, 54, 55, 56, 57] (.one (.two .leaf (.two .leaf .leaf))) .leaf))))) (.two (.two .leaf (.one (.loop [9] [9, 10, 11, 12, 58, 59, 60, 61, 62, 63, 64, 65, 66, 67, 68, 69, 70, 71, 72, 73, 74, 75, 76, 77, 78, 79, 80, 81, 82, 83, 84, 85, 86, 87, 88, 89, 90, 91, 92, 93, 94, 95, 96, 97, 98, 99, 100, 101, 102, 103, 104, 105, 106, 107, 108, 109, 110, 111] (.two (.two .leaf (.two .leaf .leaf)) (.one (.two .leaf (.two .leaf (.one (.loop [9, 10] [9, 10, 11, 12, 59, 60, 61, 62, 63, 64, 65, 66, 67, 68, 69, 70, 71, 72, 73, 74, 75, 76, 77, 78, 79, 80, 81, 82, 83, 84, 85, 86, 87, 88, 89, 90, 91, 92, 93, 94, 95, 96, 97, 98, 99, 100, 101, 102, 103, 104, 105, 106, 107, 108, 109, 110, 111] (.two (.two .leaf (.two .leaf .leaf)) (.join [9] [9, 11, 12, 68, 69, 70, 71, 72, 73, 74, 75, 76, 77, 78, 79, 80, 81, 82, 83, 84, 85, 86, 87, 88, 89, 90, 91, 92, 93, 94, 95, 96, 97, 98, 99, 100, 101, 102, 103, 104, 105, 106, 107, 108, 109, 110, 111] (.one (.two (.two .leaf (.two .leaf .leaf)) (.two .leaf (.one (.loop [9, 11] [9, 11, 12, 73, 74, 75, 76, 77, 78, 79, 80, 81, 82, 83, 84, 85, 86, 87, 88, 89, 90, 91, 92, 93, 94, 95, 96, 97, 98, 99, 100, 101, 102, 103, 104, 105, 106, 107, 108, 109, 110, 111] (.two (.two .leaf (.two .leaf .leaf)) (.join [9] [9, 12, 86, 87, 88, 89, 90, 91, 92, 93, 94, 95, 96, 97, 98, 99, 100, 101, 102, 103, 104, 105, 106, 107, 108, 109, 110, 111] (.one (.two .leaf (.two .leaf (.two (.two .leaf .leaf) .leaf)))) .leaf))))))) .leaf))))))))))) (.two .leaf (.two .leaf (.two (.two .leaf (.one (.loop [14, 15] [14, 15, 118, 119, 120, 121, 122, 123, 124, 125, 126, 127, 128, 129, 130, 131, 132, 133, 134, 135, 136, 137, 138, 139, 140, 141, 142, 143, 144, 145] (.two (.two .leaf (.two .leaf .leaf)) (.join [14] [14, 127, 128, 129, 130, 131, 132, 133, 134, 135, 136, 137, 138, 139, 140, 141, 142, 143, 144, 145] (.one (.two .leaf (.two (.two .leaf .leaf) .leaf))) .leaf))))) (.two (.two .leaf (.one (.loop [16] [16, 17, 146, 147, 148, 149, 150, 151, 152, 153, 154, 155, 156, 157, 158, 159, 160, 161, 162, 163, 164, 165, 166, 167, 168, 169, 170, 171, 172, 173, 174, 175, 176, 177, 178, 179, 180, 181, 182, 183, 184, 185, 186, 187, 188, 189, 190, 191] (.two (.two .leaf (.two .leaf .leaf)) (.two (.one (.two .leaf (.one (.loop [17] [17, 152, 153, 154, 155, 156, 157, 158, 159, 160, 161, 162, 163, 164, 165, 166, 167, 168, 169, 170, 171, 172, 173, 174, 175, 176, 177, 178, 179, 180, 181, 182, 183, 184, 185, 186, 187, 188, 189, 190, 191] (.two (.two .leaf (.two .leaf .leaf)) (.join [] [162, 163, 164, 165, 166, 167, 168, 169, 170, 171, 172, 173, 174, 175, 176, 177, 178, 179, 180, 181, 182, 183, 184, 185, 186, 187, 188, 189, 190, 191] (.one (.two .leaf (.two (.draw [(0, []), (1, []), (2, []), (3, []), (4, []), (5, []), (6, []), (7, []), (8, []), (9, []), (10, []), (11, []), (12, []), (13, []), (14, []), (15, []), (16, []), (17, []), (18, []), (19, []), (20, [])]) .leaf))) .leaf)))))) .leaf))))) (.two .leaf (.two .leaf (.two .leaf (.two (.two .leaf (.one (.loop [19] [19, 204, 205, 206, 207, 208, 209, 210, 211, 212, 213, 214, 215, 216, 217, 218, 219, 220, 221, 222, 223, 224, 225, 226, 227] (.two (.two .leaf (.two .leaf .leaf)) (.join [] [210, 211, 212, 213, 214, 215, 216, 217, 218, 219, 220, 221, 222, 223, 224, 225, 226, 227] (.one (.two .leaf (.two .leaf .leaf))) .leaf))))) (.two .leaf .leaf))))))))))))))
def S59_11 (a0 : Value) (a1 : Value) (R : Value → AHeap → Prop) (vs_0 : List Value) (H_1 : AHeap) (again_2 : List Value → AHeap → Prop) : Prop :=
 bnd (aIdxAddr 2 a1 (nth vs_0 0)) fun t29_5 =>
 bnd (aLdAgg 2 t29_5 H_1) fun t30_6 =>
 ACalls Try.prog 31 [a0, t30_6] H_1 fun t31_7 H_8 =>
 bnd (aUn .not t31_7) fun t32_9 =>
 aCond t32_9 (
 R (.tuple #[(.slice none 0 0), (.int .i64 2)]) H_8) (
 bnd (aBin .add .no (nth vs_0 0) (.int .i64 1)) fun t25_10 =>
 again_2 [t25_10] H_8)
def S59_36 (a1 : Value) (t38_16 : Value) (vs_18 : List Value) (H_19 : AHeap) (again_20 : List Value → AHeap → Prop) : Prop :=
 aJoin (fun vs_23 H_24 =>
 bnd (aBin .add .no (nth vs_18 0) (.int .i64 1)) fun t44_26 =>
 again_20 [t44_26] H_24) fun J_25 =>
 bnd (aIdxAddr 2 a1 (nth vs_18 0)) fun t47_27 =>
 bnd (aAdd 0 t47_27) fun t48_28 =>
 bnd (aLdCell t48_28 H_19) fun t49_29 =>
 bnd (aBin .eql .no t49_29 (.int .i64 7)) fun t50_30 =>
 aCond t50_30 (
 bnd (aIdxAddr 2 a1 (nth vs_18 0)) fun t54_31 =>
 bnd (aAdd 1 t54_31) fun t55_32 =>
 bnd (aLdCell t55_32 H_19) fun t56_33 =>
 bnd (aIdxAddr 1 t38_16 t56_33) fun t57_34 =>
 bnd (aSt 1 t57_34 (.bool true) H_19) fun H_35 =>
 J_25 [] H_35) (
 J_25 [] H_19)
def S59_118 (a0 : Value) (t38_16 : Value) (vs_40 : List Value) (vs_55 : List Value) (H_56 : AHeap) (again_57 : List Value → AHeap → Prop) : Prop :=
 aJoin (fun vs_66 H_67 =>
 bnd (aBin .add .no (nth vs_55 1) (.int .i64 1)) fun t85_69 =>
 again_57 [(nth vs_66 0), t85_69] H_67) fun J_68 =>
 bnd (aNilCheck a0) fun t87_70 =>
 bnd (aAdd 2 t87_70) fun t88_71 =>
 bnd (aLdCell t88_71 H_56) fun t89_72 =>
 bnd (aIdxAddr 10 t89_72 (nth vs_40 1)) fun t91_73 =>
 bnd (aAdd 1 t91_73) fun t92_74 =>
 bnd (aLdCell t92_74 H_56) fun t93_75 =>
 bnd (aIdxAddr 2 t93_75 (nth vs_55 1)) fun t95_76 =>
 bnd (aLdAgg 2 t95_76 H_56) fun t96_77 =>
 aAlloc [(.int .i64 0), (.int .i64 0)] 28 H_56 fun t12_78 H_79 =>
 bnd (aSt 2 t12_78 t96_77 H_79) fun H_80 =>
 bnd (aAdd 0 t12_78) fun t97_81 =>
 bnd (aLdCell t97_81 H_80) fun t98_82 =>
 bnd (aBin .eql .no t98_82 (.int .i64 7)) fun t99_83 =>
 aGuardK t99_83 true (fun K_84 H_85 =>
 K_84 t38_16 H_85) (fun t101_86 H_87 =>
 aGuardK t99_83 true (fun K_88 H_89 =>
 bnd (aAdd 1 t12_78) fun t102_90 =>
 K_88 t102_90 H_89) (fun t102_91 H_92 =>
 aGuardK t99_83 true (fun K_93 H_94 =>
 bnd (aLdCell t102_91 H_94) fun t103_95 =>
 K_93 t103_95 H_94) (fun t103_96 H_97 =>
 aGuardK t99_83 true (fun K_98 H_99 =>
 bnd (aIdxAddr 1 t101_86 t103_96) fun t104_100 =>
 K_98 t104_100 H_99) (fun t104_101 H_102 =>
 aGuardK t99_83 true (fun K_103 H_104 =>
 bnd (aLdCell t104_101 H_104) fun t105_105 =>
 K_103 t105_105 H_104) (fun t105_106 H_107 =>
 aGuardK t99_83 true (fun K_108 H_109 =>
 bnd (aUn .not t105_106) fun t106_110 =>
 K_108 t106_110 H_109) (fun t106_111 H_112 =>
 bnd (aPick t99_83 t106_111 (.bool false)) fun t107_113 =>
 aCond t107_113 (
 bnd (aAdd 1 t12_78) fun t109_114 =>
 bnd (aLdCell t109_114 H_112) fun t110_115 =>
 bnd (aIdxAddr 1 t38_16 t110_115) fun t111_116 =>
 bnd (aSt 1 t111_116 (.bool true) H_112) fun H_117 =>
 J_68 [(.bool true)] H_117) (
 J_68 [(nth vs_55 0)] H_112)) H_107) H_102) H_97) H_92) H_87) H_80
def S59_119 (a0 : Value) (t38_16 : Value) (vs_40 : List Value) (J_50 : List Value → AHeap → Prop) (vs_55 : List Value) (H_56 : AHeap) (again_57 : List Value → AHeap → Prop) : Prop :=
 bnd (aNilCheck a0) fun t75_58 =>
 bnd (aAdd 2 t75_58) fun t76_59 =>
 bnd (aLdCell t76_59 H_56) fun t77_60 =>
 bnd (aIdxAddr 10 t77_60 (nth vs_40 1)) fun t79_61 =>
 bnd (aAdd 1 t79_61) fun t80_62 =>
 bnd (aLdCell t80_62 H_56) fun t81_63 =>
 bnd (aLenSl t81_63) fun t82_64 =>
 bnd (aBin .lss .no (nth vs_55 1) t82_64) fun t83_65 =>
 aCond t83_65 (
 (S59_118 a0 t38_16 vs_40 vs_55 H_56 again_57)) (
 J_50 [(nth vs_55 0)] H_56)
def S59_120 (a0 : Value) (t38_16 : Value) (vs_40 : List Value) (H_41 : AHeap) (again_42 : List Value → AHeap → Prop) : Prop :=
 aJoin (fun vs_48 H_49 =>
 bnd (aBin .add .no (nth vs_40 1) (.int .i64 1)) fun t67_51 =>
 again_42 [(nth vs_48 0), t67_51] H_49) fun J_50 =>
 bnd (aIdxAddr 1 t38_16 (nth vs_40 1)) fun t70_52 =>
 bnd (aLdCell t70_52 H_41) fun t71_53 =>
 bnd (aUn .not t71_53) fun t72_54 =>
 aCond t72_54 (
 J_50 [(nth vs_40 0)] H_41) (
 aLoop [(nth vs_40 0), (.int .i64 0)] H_41 fun vs_55 H_56 again_57 =>
 (S59_119 a0 t38_16 vs_40 J_50 vs_55 H_56 again_57))
def S59_121 (a0 : Value) (t38_16 : Value) (again_39 : List Value → AHeap → Prop) (vs_40 : List Value) (H_41 : AHeap) (again_42 : List Value → AHeap → Prop) : Prop :=
 bnd (aNilCheck a0) fun t61_43 =>
 bnd (aAdd 2 t61_43) fun t62_44 =>
 bnd (aLdCell t62_44 H_41) fun t63_45 =>
 bnd (aLenSl t63_45) fun t64_46 =>
 bnd (aBin .lss .no (nth vs_40 1) t64_46) fun t65_47 =>
 aCond t65_47 (
 (S59_120 a0 t38_16 vs_40 H_41 again_42)) (
 again_39 [(nth vs_40 0)] H_41)
def S59_154 (a0 : Value) (t117_126 : Value) (vs_128 : List Value) (H_129 : AHeap) (J_138 : List Value → AHeap → Prop) : Prop :=
 bnd (aLenSl (nth vs_128 0)) fun t134_142 =>
 bnd (aIdxAddr 1 t117_126 (nth vs_128 1)) fun t135_143 =>
 bnd (aSt 1 t135_143 t134_142 H_129) fun H_144 =>
 bnd (aNilCheck a0) fun t138_145 =>
 bnd (aAdd 2 t138_145) fun t139_146 =>
 bnd (aLdCell t139_146 H_144) fun t140_147 =>
 bnd (aIdxAddr 10 t140_147 (nth vs_128 1)) fun t142_148 =>
 bnd (aLdAgg 10 t142_148 H_144) fun t143_149 =>
 aBuildSlice 10 1 121 [(.int .i64 0), (.slice none 0 0), (.int .i64 0), (.string ⟨#[]⟩), (.bool false), (.slice none 0 0), (.slice none 0 0), (.int .i64 0), (.slice none 0 0), (.slice none 0 0)] [(0, 10, t143_149)] H_144 fun t144_150 H_151 =>
 aAppend 10 168 121 (nth vs_128 0) t144_150 H_151 fun t145_152 H_153 =>
 J_138 [t145_152] H_153
def S59_155 (a0 : Value) (t38_16 : Value) (t117_126 : Value) (vs_128 : List Value) (H_129 : AHeap) (again_130 : List Value → AHeap → Prop) : Prop :=
 aJoin (fun vs_136 H_137 =>
 bnd (aBin .add .no (nth vs_128 1) (.int .i64 1)) fun t126_139 =>
 again_130 [(nth vs_136 0), t126_139] H_137) fun J_138 =>
 bnd (aIdxAddr 1 t38_16 (nth vs_128 1)) fun t129_140 =>
 bnd (aLdCell t129_140 H_129) fun t130_141 =>
 aCond t130_141 (
 (S59_154 a0 t117_126 vs_128 H_129 J_138)) (
 J_138 [(nth vs_128 0)] H_129)
def S59_194 (t117_126 : Value) (vs_128 : List Value) (vs_156 : List Value) (vs_161 : List Value) (H_162 : AHeap) (J_171 : List Value → AHeap → Prop) : Prop :=
 bnd (aIdxAddr 10 (nth vs_128 0) (nth vs_156 0)) fun t174_180 =>
 bnd (aAdd 1 t174_180) fun t175_181 =>
 bnd (aLdCell t175_181 H_162) fun t176_182 =>
 bnd (aIdxAddr 10 (nth vs_128 0) (nth vs_156 0)) fun t181_183 =>
 bnd (aAdd 1 t181_183) fun t182_184 =>
 bnd (aLdCell t182_184 H_162) fun t183_185 =>
 bnd (aIdxAddr 2 t183_185 (nth vs_161 0)) fun t185_186 =>
 bnd (aAdd 1 t185_186) fun t186_187 =>
 bnd (aLdCell t186_187 H_162) fun t187_188 =>
 bnd (aIdxAddr 1 t117_126 t187_188) fun t188_189 =>
 bnd (aLdCell t188_189 H_162) fun t189_190 =>
 bnd (aIdxAddr 2 t176_182 (nth vs_161 0)) fun t190_191 =>
 bnd (aAdd 1 t190_191) fun t191_192 =>
 bnd (aSt 1 t191_192 t189_190 H_162) fun H_193 =>
 J_171 [] H_193
def S59_195 (t117_126 : Value) (vs_128 : List Value) (vs_156 : List Value) (vs_161 : List Value) (H_162 : AHeap) (again_163 : List Value → AHeap → Prop) : Prop :=
 aJoin (fun vs_169 H_170 =>
 bnd (aBin .add .no (nth vs_161 0) (.int .i64 1)) fun t161_172 =>
 again_163 [t161_172] H_170) fun J_171 =>
 bnd (aIdxAddr 10 (nth vs_128 0) (nth vs_156 0)) fun t164_173 =>
 bnd (aAdd 1 t164_173) fun t165_174 =>
 bnd (aLdCell t165_174 H_162) fun t166_175 =>
 bnd (aIdxAddr 2 t166_175 (nth vs_161 0)) fun t168_176 =>
 bnd (aAdd 0 t168_176) fun t169_177 =>
 bnd (aLdCell t169_177 H_162) fun t170_178 =>
 bnd (aBin .eql .no t170_178 (.int .i64 7)) fun t171_179 =>
 aCond t171_179 (
 (S59_194 t117_126 vs_128 vs_156 vs_161 H_162 J_171)) (
 J_171 [] H_162)
def S59_197 (t117_126 : Value) (vs_128 : List Value) (vs_156 : List Value) (again_158 : List Value → AHeap → Prop) (vs_161 : List Value) (H_162 : AHeap) (again_163 : List Value → AHeap → Prop) : Prop :=
 bnd (aIdxAddr 10 (nth vs_128 0) (nth vs_156 0)) fun t155_164 =>
 bnd (aAdd 1 t155_164) fun t156_165 =>
 bnd (aLdCell t156_165 H_162) fun t157_166 =>
 bnd (aLenSl t157_166) fun t158_167 =>
 bnd (aBin .lss .no (nth vs_161 0) t158_167) fun t159_168 =>
 aCond t159_168 (
 (S59_195 t117_126 vs_128 vs_156 vs_161 H_162 again_163)) (
 bnd (aBin .add .no (nth vs_156 0) (.int .i64 1)) fun t151_196 =>
 again_158 [t151_196] H_162)
def S59_231 (t117_126 : Value) (t203_208 : Value) (vs_210 : List Value) (H_211 : AHeap) (J_217 : List Value → AHeap → Prop) : Prop :=
 bnd (aIdxAddr 2 t203_208 (nth vs_210 0)) fun t221_223 =>
 bnd (aAdd 1 t221_223) fun t222_224 =>
 bnd (aLdCell t222_224 H_211) fun t223_225 =>
 bnd (aIdxAddr 1 t117_126 t223_225) fun t224_226 =>
 bnd (aLdCell t224_226 H_211) fun t225_227 =>
 bnd (aIdxAddr 2 t203_208 (nth vs_210 0)) fun t226_228 =>
 bnd (aAdd 1 t226_228) fun t227_229 =>
 bnd (aSt 1 t227_229 t225_227 H_211) fun H_230 =>
 J_217 [] H_230
def S59_232 (t117_126 : Value) (t203_208 : Value) (vs_210 : List Value) (H_211 : AHeap) (again_212 : List Value → AHeap → Prop) : Prop :=
 aJoin (fun vs_215 H_216 =>
 bnd (aBin .add .no (nth vs_210 0) (.int .i64 1)) fun t209_218 =>
 again_212 [t209_218] H_216) fun J_217 =>
 bnd (aIdxAddr 2 t203_208 (nth vs_210 0)) fun t212_219 =>
 bnd (aAdd 0 t212_219) fun t213_220 =>
 bnd (aLdCell t213_220 H_211) fun t214_221 =>
 bnd (aBin .eql .no t214_221 (.int .i64 7)) fun t215_222 =>
 aCond t215_222 (
 (S59_231 t117_126 t203_208 vs_210 H_211 J_217)) (
 J_217 [] H_211)
def S59_233 (R : Value → AHeap → Prop) (t117_126 : Value) (t203_208 : Value) (vs_210 : List Value) (H_211 : AHeap) (again_212 : List Value → AHeap → Prop) : Prop :=
 bnd (aLenSl t203_208) fun t206_213 =>
 bnd (aBin .lss .no (nth vs_210 0) t206_213) fun t207_214 =>
 aCond t207_214 (
 (S59_232 t117_126 t203_208 vs_210 H_211 again_212)) (
 R (.tuple #[t203_208, (.int .i64 0)]) H_211)
def S59_234 (a0 : Value) (a1 : Value) (R : Value → AHeap → Prop) (t117_126 : Value) (vs_128 : List Value) (H_157 : AHeap) : Prop :=
 bnd (aNilCheck a0) fun t194_198 =>
 bnd (aAdd 2 t194_198) fun t195_199 =>
 bnd (aSt 1 t195_199 (nth vs_128 0) H_157) fun H_200 =>
 ACalls Try.prog 70 [a0] H_200 fun t198_201 H_202 =>
 bnd (aNilCheck a0) fun t199_203 =>
 bnd (aAdd 1 t199_203) fun t200_204 =>
 bnd (aSt 1 t200_204 t198_201 H_202) fun H_205 =>
 aBuildSlice 2 0 28 [(.int .i64 0), (.int .i64 0)] [] H_205 fun t201_206 H_207 =>
 aAppend 2 16 28 t201_206 a1 H_207 fun t203_208 H_209 =>
 aLoop [(.int .i64 0)] H_209 fun vs_210 H_211 again_212 =>
 (S59_233 R t117_126 t203_208 vs_210 H_211 again_212)
def S59_235 (a0 : Value) (a1 : Value) (R : Value → AHeap → Prop) (t117_126 : Value) (vs_128 : List Value) (vs_156 : List Value) (H_157 : AHeap) (again_158 : List Value → AHeap → Prop) : Prop :=
 bnd (aLenSl (nth vs_128 0)) fun t148_159 =>
 bnd (aBin .lss .no (nth vs_156 0) t148_159) fun t149_160 =>
 aCond t149_160 (
 aLoop [(.int .i64 0)] H_157 fun vs_161 H_162 again_163 =>
 (S59_197 t117_126 vs_128 vs_156 again_158 vs_161 H_162 again_163)) (
 (S59_234 a0 a1 R t117_126 vs_128 H_157))
def S59_236 (a0 : Value) (a1 : Value) (R : Value → AHeap → Prop) (t38_16 : Value) (t117_126 : Value) (vs_128 : List Value) (H_129 : AHeap) (again_130 : List Value → AHeap → Prop) : Prop :=
 bnd (aNilCheck a0) fun t120_131 =>
 bnd (aAdd 2 t120_131) fun t121_132 =>
 bnd (aLdCell t121_132 H_129) fun t122_133 =>
 bnd (aLenSl t122_133) fun t123_134 =>
 bnd (aBin .lss .no (nth vs_128 1) t123_134) fun t124_135 =>
 aCond t124_135 (
 (S59_155 a0 t38_16 t117_126 vs_128 H_129 again_130)) (
 aLoop [(.int .i64 0)] H_129 fun vs_156 H_157 again_158 =>
 (S59_235 a0 a1 R t117_126 vs_128 vs_156 H_157 again_158))
def S59_237 (a0 : Value) (a1 : Value) (R : Value → AHeap → Prop) (t38_16 : Value) (H_38 : AHeap) : Prop :=
 bnd (aNilCheck a0) fun t113_122 =>
 bnd (aAdd 2 t113_122) fun t114_123 =>
 bnd (aLdCell t114_123 H_38) fun t115_124 =>
 bnd (aLenSl t115_124) fun t116_125 =>
 aMakeSlice 8 3 [(.int .i64 0)] t116_125 t116_125 H_38 fun t117_126 H_127 =>
 aLoop [(.slice none 0 0), (.int .i64 0)] H_127 fun vs_128 H_129 again_130 =>
 (S59_236 a0 a1 R t38_16 t117_126 vs_128 H_129 again_130)
def S59_238 (a0 : Value) (a1 : Value) (R : Value → AHeap → Prop) (t38_16 : Value) (vs_37 : List Value) (H_38 : AHeap) (again_39 : List Value → AHeap → Prop) : Prop :=
 aCond (nth vs_37 0) (
 aLoop [(.bool false), (.int .i64 0)] H_38 fun vs_40 H_41 again_42 =>
 (S59_121 a0 t38_16 again_39 vs_40 H_41 again_42)) (
 (S59_237 a0 a1 R t38_16 H_38))
def S59_239 (a0 : Value) (a1 : Value) (R : Value → AHeap → Prop) (t38_16 : Value) (vs_18 : List Value) (H_19 : AHeap) (again_20 : List Value → AHeap → Prop) : Prop :=
 bnd (aLenSl a1) fun t41_21 =>
 bnd (aBin .lss .no (nth vs_18 0) t41_21) fun t42_22 =>
 aCond t42_22 (
 (S59_36 a1 t38_16 vs_18 H_19 again_20)) (
 aLoop [(.bool true)] H_19 fun vs_37 H_38 again_39 =>
 (S59_238 a0 a1 R t38_16 vs_37 H_38 again_39))
def S59_240 (a0 : Value) (a1 : Value) (R : Value → AHeap → Prop) (H_1 : AHeap) : Prop :=
 bnd (aNilCheck a0) fun t34_12 =>
 bnd (aAdd 2 t34_12) fun t35_13 =>
 bnd (aLdCell t35_13 H_1) fun t36_14 =>
 bnd (aLenSl t36_14) fun t37_15 =>
 aMakeSlice 1 4 [(.bool false)] t37_15 t37_15 H_1 fun t38_16 H_17 =>
 aLoop [(.int .i64 0)] H_17 fun vs_18 H_19 again_20 =>
 (S59_239 a0 a1 R t38_16 vs_18 H_19 again_20)
def S59_241 (a0 : Value) (a1 : Value) (R : Value → AHeap → Prop) (vs_0 : List Value) (H_1 : AHeap) (again_2 : List Value → AHeap → Prop) : Prop :=
 bnd (aLenSl a1) fun t22_3 =>
 bnd (aBin .lss .no (nth vs_0 0) t22_3) fun t23_4 =>
 aCond t23_4 (
 (S59_11 a0 a1 R vs_0 H_1 again_2)) (
 (S59_240 a0 a1 R H_1))
def S59 (a0 : Value) (a1 : Value) (H : AHeap) (R : Value → AHeap → Prop) : Prop :=
 aLoop [(.int .i64 0)] H fun vs_0 H_1 again_2 =>
 (S59_241 a0 a1 R vs_0 H_1 again_2)
theorem S59_calls {a0 a1 : Value} {H : AHeap} {R : Value → AHeap → Prop} (h : S59 a0 a1 H R) : ACalls Try.prog 59 [a0, a1] H R :=
  have e : S59 a0 a1 H R = awpFn Try.prog (Try.f59.body.getD .skip) Try.f59.results.toList ann59 [a0, a1] H R := by kernel_rfl
  calls_of_awp (fn := Try.f59) (c := Try.f59.body.getD .skip) (an := ann59) (by kernel_rfl) Try.func59 (by kernel_rfl) (by kernel_rfl) (of_decide_eq_true (by kernel_rfl)) (e ▸ h)

/-- 60: marginalia/marginalialaw06.same -/
def ann60 : Ann := (.two .leaf (.two (.two .leaf (.two (.two .leaf .leaf) .leaf)) (.two (.two .leaf (.one (.loop [5] [4, 5, 11, 12, 13, 14, 15, 16, 17, 18, 19, 20, 21, 22, 23, 24, 25] (.two (.two .leaf (.two .leaf .leaf)) (.two (.one (.two (.draw [(0, []), (1, []), (2, []), (3, []), (4, []), (5, []), (6, []), (7, []), (8, [])]) (.two (.two .leaf .leaf) .leaf))) .leaf))))) (.two .leaf .leaf))))
def S60_14 (a0 : Value) (a1 : Value) (R : Value → AHeap → Prop) (vs_3 : List Value) (H_4 : AHeap) (again_5 : List Value → AHeap → Prop) : Prop :=
 bnd (aIdxAddr 2 a0 (nth vs_3 0)) fun t19_8 =>
 bnd (aLdAgg 2 t19_8 H_4) fun t20_9 =>
 bnd (aIdxAddr 2 a1 (nth vs_3 0)) fun t23_10 =>
 bnd (aLdAgg 2 t23_10 H_4) fun t24_11 =>
 bnd (aBin .neq (.cells [.int, .int]) t20_9 t24_11) fun t25_12 =>
 aCond t25_12 (
 R (.bool false) H_4) (
 bnd (aBin .add .no (nth vs_3 0) (.int .i64 1)) fun t16_13 =>
 again_5 [t16_13] H_4)
def S60_15 (a0 : Value) (a1 : Value) (R : Value → AHeap → Prop) (vs_3 : List Value) (H_4 : AHeap) (again_5 : List Value → AHeap → Prop) : Prop :=
 bnd (aLenSl a0) fun t13_6 =>
 bnd (aBin .lss .no (nth vs_3 0) t13_6) fun t14_7 =>
 aCond t14_7 (
 (S60_14 a0 a1 R vs_3 H_4 again_5)) (
 R (.bool true) H_4)
def S60 (a0 : Value) (a1 : Value) (H : AHeap) (R : Value → AHeap → Prop) : Prop :=
 bnd (aLenSl a0) fun t7_0 =>
 bnd (aLenSl a1) fun t9_1 =>
 bnd (aBin .neq .no t7_0 t9_1) fun t10_2 =>
 aCond t10_2 (
 R (.bool false) H) (
 aLoop [(.int .i64 0)] H fun vs_3 H_4 again_5 =>
 (S60_15 a0 a1 R vs_3 H_4 again_5))
theorem S60_calls {a0 a1 : Value} {H : AHeap} {R : Value → AHeap → Prop} (h : S60 a0 a1 H R) : ACalls Try.prog 60 [a0, a1] H R :=
  have e : S60 a0 a1 H R = awpFn Try.prog (Try.f60.body.getD .skip) Try.f60.results.toList ann60 [a0, a1] H R := by kernel_rfl
  calls_of_awp (fn := Try.f60) (c := Try.f60.body.getD .skip) (an := ann60) (by kernel_rfl) Try.func60 (by kernel_rfl) (by kernel_rfl) (of_decide_eq_true (by kernel_rfl)) (e ▸ h)

/-- 63: marginalia/marginaliaref02.Scalar -/
def ann63 : Ann := (.two .leaf (.two .leaf .leaf))
def S63 (a0 : Value) (H : AHeap) (R : Value → AHeap → Prop) : Prop :=
 bnd (aBin .geq .no a0 (.int .i64 0)) fun t4_0 =>
 aGuardK t4_0 true (fun K_1 H_2 =>
 K_1 a0 H_2) (fun t6_3 H_4 =>
 aGuardK t4_0 true (fun K_5 H_6 =>
 bnd (aBin .leq .no t6_3 (.int .i64 1114111)) fun t7_7 =>
 K_5 t7_7 H_6) (fun t7_8 H_9 =>
 bnd (aPick t4_0 t7_8 (.bool false)) fun t8_10 =>
 aGuardK t8_10 true (fun K_11 H_12 =>
 K_11 a0 H_12) (fun t10_13 H_14 =>
 aGuardK t8_10 true (fun K_15 H_16 =>
 bnd (aBin .geq .no t10_13 (.int .i64 55296)) fun t11_17 =>
 K_15 t11_17 H_16) (fun t11_18 H_19 =>
 aGuardK t8_10 true (fun K_20 H_21 =>
 K_20 t11_18 H_21) (fun t12_22 H_23 =>
 aGuardK t12_22 true (fun K_24 H_25 =>
 K_24 a0 H_25) (fun t13_26 H_27 =>
 aGuardK t12_22 true (fun K_28 H_29 =>
 bnd (aBin .leq .no t13_26 (.int .i64 57343)) fun t14_30 =>
 K_28 t14_30 H_29) (fun t14_31 H_32 =>
 aGuardK t8_10 true (fun K_33 H_34 =>
 bnd (aPick t12_22 t14_31 (.bool false)) fun t15_35 =>
 K_33 t15_35 H_34) (fun t15_36 H_37 =>
 aGuardK t8_10 true (fun K_38 H_39 =>
 bnd (aUn .not t15_36) fun t16_40 =>
 K_38 t16_40 H_39) (fun t16_41 H_42 =>
 bnd (aPick t8_10 t16_41 (.bool false)) fun t17_43 =>
 R t17_43 H_42) H_37) H_32) H_27) H_23) H_19) H_14) H_9) H_4) H
theorem S63_calls {a0 : Value} {H : AHeap} {R : Value → AHeap → Prop} (h : S63 a0 H R) : ACalls Try.prog 63 [a0] H R :=
  have e : S63 a0 H R = awpFn Try.prog (Try.f63.body.getD .skip) Try.f63.results.toList ann63 [a0] H R := by kernel_rfl
  calls_of_awp (fn := Try.f63) (c := Try.f63.body.getD .skip) (an := ann63) (by kernel_rfl) Try.func63 (by kernel_rfl) (by kernel_rfl) (of_decide_eq_true (by kernel_rfl)) (e ▸ h)

/-- 64: slices.Clone[[]string,string] -/
def ann64 : Ann := (.two .leaf (.two (.two .leaf (.two (.two .leaf .leaf) .leaf)) (.two .leaf .leaf)))
def S64 (a0 : Value) (H : AHeap) (R : Value → AHeap → Prop) : Prop :=
 aSlEq .eql a0 (.slice none 0 0) H fun t4_0 H_1 =>
 aCond t4_0 (
 R (.slice none 0 0) H_1) (
 aBuildSlice 1 0 9 [(.string ⟨#[]⟩)] [] H_1 fun t5_2 H_3 =>
 aAppend 1 16 9 t5_2 a0 H_3 fun t7_4 H_5 =>
 R t7_4 H_5)
theorem S64_calls {a0 : Value} {H : AHeap} {R : Value → AHeap → Prop} (h : S64 a0 H R) : ACalls Try.prog 64 [a0] H R :=
  have e : S64 a0 H R = awpFn Try.prog (Try.f64.body.getD .skip) Try.f64.results.toList ann64 [a0] H R := by kernel_rfl
  calls_of_awp (fn := Try.f64) (c := Try.f64.body.getD .skip) (an := ann64) (by kernel_rfl) Try.func64 (by kernel_rfl) (by kernel_rfl) (of_decide_eq_true (by kernel_rfl)) (e ▸ h)

/-- 65: marginalia/store.clone -/
def ann65 : Ann := (.two .leaf (.two (.draw [(0, []), (1, []), (2, []), (4, []), (5, []), (7, []), (8, []), (3, [5, 8]), (10, []), (11, []), (6, [8]), (9, []), (12, []), (13, []), (14, []), (15, []), (16, [])]) (.two .leaf (.two (.two .leaf (.one (.loop [25] [3, 25, 26, 27, 28, 29, 30, 31, 32, 33, 34, 35, 36, 37, 38] (.two .leaf (.two (.two .leaf .leaf) (.two (.one (.two .leaf (.draw [(0, []), (1, []), (2, []), (3, []), (4, []), (5, []), (6, []), (7, []), (8, [1]), (9, []), (10, [])]))) .leaf)))))) (.two .leaf .leaf)))))
def S65_49 (t1_0 : Value) (vs_33 : List Value) (H_34 : AHeap) (again_35 : List Value → AHeap → Prop) : Prop :=
 bnd (aAdd 4 t1_0) fun t28_37 =>
 bnd (aLdCell t28_37 H_34) fun t29_38 =>
 bnd (aAdd 4 t1_0) fun t31_39 =>
 bnd (aLdCell t31_39 H_34) fun t32_40 =>
 bnd (aIdxAddr 8 t32_40 (nth vs_33 0)) fun t34_41 =>
 bnd (aLdAgg 8 t34_41 H_34) fun t35_42 =>
 ACalls Try.prog 65 [t35_42] H_34 fun t36_43 H_44 =>
 ((bnd (aLdCell t28_37 H_44) fun t29_48 =>
 t29_48 = t29_38)) ∧
 bnd (aIdxAddr 8 t29_38 (nth vs_33 0)) fun t37_45 =>
 bnd (aSt 8 t37_45 t36_43 H_44) fun H_46 =>
 bnd (aBin .add .no (nth vs_33 0) (.int .i64 1)) fun t38_47 =>
 again_35 [t38_47] H_46
def S65_53 (R : Value → AHeap → Prop) (t1_0 : Value) (t2_2 : Value) (t24_32 : Value) (vs_33 : List Value) (H_34 : AHeap) (again_35 : List Value → AHeap → Prop) : Prop :=
 bnd (aBin .lss .no (nth vs_33 0) t24_32) fun t26_36 =>
 aCond t26_36 (
 (S65_49 t1_0 vs_33 H_34 again_35)) (
 bnd (aLdAgg 8 t1_0 H_34) fun t39_50 =>
 bnd (aSt 8 t2_2 t39_50 H_34) fun H_51 =>
 bnd (aLdAgg 8 t2_2 H_51) fun r_52 =>
 R r_52 H_51)
def S65_54 (R : Value → AHeap → Prop) (t1_0 : Value) (t2_2 : Value) (t7_11 : Value) (t15_14 : Value) (t10_15 : Value) (t13_17 : Value) (H_18 : AHeap) : Prop :=
 bnd (aSt 1 t15_14 t7_11 H_18) fun H_19 =>
 bnd (aAdd 6 t1_0) fun t16_20 =>
 bnd (aSt 1 t16_20 t10_15 H_19) fun H_21 =>
 bnd (aAdd 7 t1_0) fun t17_22 =>
 bnd (aSt 1 t17_22 t13_17 H_21) fun H_23 =>
 bnd (aAdd 4 t1_0) fun t18_24 =>
 bnd (aLdCell t18_24 H_23) fun t19_25 =>
 ACalls Try.prog 74 [t19_25] H_23 fun t20_26 H_27 =>
 bnd (aAdd 4 t1_0) fun t21_28 =>
 bnd (aSt 1 t21_28 t20_26 H_27) fun H_29 =>
 bnd (aAdd 4 t1_0) fun t22_30 =>
 bnd (aLdCell t22_30 H_29) fun t23_31 =>
 bnd (aLenSl t23_31) fun t24_32 =>
 aLoop [(.int .i64 0)] H_29 fun vs_33 H_34 again_35 =>
 (S65_53 R t1_0 t2_2 t24_32 vs_33 H_34 again_35)
def S65 (a0 : Value) (H : AHeap) (R : Value → AHeap → Prop) : Prop :=
 aBox 79 a0 H fun t1_0 H_1 =>
 aAlloc [(.int .i64 0), (.string ⟨#[]⟩), (.bool false), (.slice none 0 0), (.slice none 0 0), (.int .i64 0), (.slice none 0 0), (.slice none 0 0)] 79 H_1 fun t2_2 H_3 =>
 bnd (aAdd 2 t1_0) fun t4_4 =>
 bnd (aAdd 1 t4_4) fun t5_5 =>
 bnd (aLdCell t5_5 H_3) fun t6_6 =>
 bnd (aAdd 6 t1_0) fun t8_7 =>
 bnd (aLdCell t8_7 H_3) fun t9_8 =>
 bnd (aAdd 7 t1_0) fun t11_9 =>
 bnd (aLdCell t11_9 H_3) fun t12_10 =>
 ACalls Try.prog 72 [t6_6] H_3 fun t7_11 H_12 =>
 ((bnd (aLdCell t8_7 H_12) fun t9_56 =>
 t9_56 = t9_8) ∧ (bnd (aLdCell t11_9 H_12) fun t12_57 =>
 t12_57 = t12_10)) ∧
 bnd (aAdd 2 t1_0) fun t14_13 =>
 bnd (aAdd 1 t14_13) fun t15_14 =>
 ACalls Try.prog 73 [t9_8] H_12 fun t10_15 H_16 =>
 ((bnd (aLdCell t11_9 H_16) fun t12_55 =>
 t12_55 = t12_10)) ∧
 ACalls Try.prog 73 [t12_10] H_16 fun t13_17 H_18 =>
 (S65_54 R t1_0 t2_2 t7_11 t15_14 t10_15 t13_17 H_18)
theorem S65_calls {a0 : Value} {H : AHeap} {R : Value → AHeap → Prop} (h : S65 a0 H R) : ACalls Try.prog 65 [a0] H R :=
  have e : S65 a0 H R = awpFn Try.prog (Try.f65.body.getD .skip) Try.f65.results.toList ann65 [a0] H R := by kernel_rfl
  calls_of_awp (fn := Try.f65) (c := Try.f65.body.getD .skip) (an := ann65) (by kernel_rfl) Try.func65 (by kernel_rfl) (by kernel_rfl) (of_decide_eq_true (by kernel_rfl)) (e ▸ h)

/-- 66: (*marginalia/marginaliaref06.Store).Used -/
def ann66 : Ann := (.two .leaf (.two .leaf .leaf))
def S66 (a0 : Value) (H : AHeap) (R : Value → AHeap → Prop) : Prop :=
 bnd (aNilCheck a0) fun t4_0 =>
 bnd (aAdd 1 t4_0) fun t5_1 =>
 bnd (aLdCell t5_1 H) fun t6_2 =>
 R t6_2 H
theorem S66_calls {a0 : Value} {H : AHeap} {R : Value → AHeap → Prop} (h : S66 a0 H R) : ACalls Try.prog 66 [a0] H R :=
  have e : S66 a0 H R = awpFn Try.prog (Try.f66.body.getD .skip) Try.f66.results.toList ann66 [a0] H R := by kernel_rfl
  calls_of_awp (fn := Try.f66) (c := Try.f66.body.getD .skip) (an := ann66) (by kernel_rfl) Try.func66 (by kernel_rfl) (by kernel_rfl) (of_decide_eq_true (by kernel_rfl)) (e ▸ h)

/-- 69: (*marginalia/marginaliaref06.Store).put -/
def ann69 : Ann := (.two .leaf (.two .leaf (.two (.two (.draw [(0, []), (1, []), (2, []), (3, []), (4, []), (5, []), (6, []), (7, []), (8, []), (9, []), (10, [])]) (.two (.two .leaf .leaf) .leaf)) (.two .leaf (.two (.draw [(0, []), (1, []), (2, []), (3, []), (4, []), (5, []), (6, []), (7, []), (8, []), (9, []), (10, [])]) (.two .leaf .leaf))))))
def S69_44 (a0 : Value) (R : Value → AHeap → Prop) (t3_0 : Value) (t4_2 : Value) (t8_5 : Value) (H_6 : AHeap) : Prop :=
 bnd (aNilCheck a0) fun t23_18 =>
 bnd (aAdd 1 t23_18) fun t24_19 =>
 bnd (aLdCell t24_19 H_6) fun t25_20 =>
 bnd (aBin .add .no t25_20 t8_5) fun t27_21 =>
 bnd (aNilCheck a0) fun t28_22 =>
 bnd (aAdd 1 t28_22) fun t29_23 =>
 bnd (aSt 1 t29_23 t27_21 H_6) fun H_24 =>
 bnd (aNilCheck a0) fun t32_25 =>
 bnd (aAdd 2 t32_25) fun t33_26 =>
 bnd (aLdCell t33_26 H_24) fun t34_27 =>
 bnd (aLdAgg 10 t3_0 H_24) fun t35_28 =>
 aBuildSlice 10 1 121 [(.int .i64 0), (.slice none 0 0), (.int .i64 0), (.string ⟨#[]⟩), (.bool false), (.slice none 0 0), (.slice none 0 0), (.int .i64 0), (.slice none 0 0), (.slice none 0 0)] [(0, 10, t35_28)] H_24 fun t36_29 H_30 =>
 aAppend 10 168 121 t34_27 t36_29 H_30 fun t37_31 H_32 =>
 bnd (aNilCheck a0) fun t38_33 =>
 bnd (aAdd 2 t38_33) fun t39_34 =>
 bnd (aSt 1 t39_34 t37_31 H_32) fun H_35 =>
 bnd (aNilCheck a0) fun t41_36 =>
 bnd (aAdd 2 t41_36) fun t42_37 =>
 bnd (aLdCell t42_37 H_35) fun t43_38 =>
 bnd (aLenSl t43_38) fun t44_39 =>
 bnd (aBin .sub .no t44_39 (.int .i64 1)) fun t45_40 =>
 bnd (aFill [(.int .i64 0), (.int .i64 0)] [(0, 1, (.int .i64 7)), (1, 1, t45_40)]) fun t46_41 =>
 bnd (aSt 2 t4_2 (.agg t46_41.toArray) H_35) fun H_42 =>
 bnd (aLdAgg 2 t4_2 H_42) fun r_43 =>
 R (.tuple #[r_43, (.int .i64 0)]) H_42
def S69_45 (a0 : Value) (R : Value → AHeap → Prop) (t3_0 : Value) (t4_2 : Value) (t8_5 : Value) (H_6 : AHeap) : Prop :=
 bnd (aNilCheck a0) fun t10_7 =>
 bnd (aAdd 1 t10_7) fun t11_8 =>
 bnd (aLdCell t11_8 H_6) fun t12_9 =>
 bnd (aBin .add .no t12_9 t8_5) fun t14_10 =>
 bnd (aNilCheck a0) fun t16_11 =>
 bnd (aAdd 0 t16_11) fun t17_12 =>
 bnd (aLdCell t17_12 H_6) fun t18_13 =>
 bnd (aBin .gtr .no t14_10 t18_13) fun t19_14 =>
 aCond t19_14 (
 bnd (aFill [(.int .i64 0), (.int .i64 0)] []) fun t20_15 =>
 bnd (aSt 2 t4_2 (.agg t20_15.toArray) H_6) fun H_16 =>
 bnd (aLdAgg 2 t4_2 H_16) fun r_17 =>
 R (.tuple #[r_17, (.int .i64 16)]) H_16) (
 (S69_44 a0 R t3_0 t4_2 t8_5 H_6))
def S69 (a0 : Value) (a1 : Value) (H : AHeap) (R : Value → AHeap → Prop) : Prop :=
 aBox 121 a1 H fun t3_0 H_1 =>
 aAlloc [(.int .i64 0), (.int .i64 0)] 28 H_1 fun t4_2 H_3 =>
 bnd (aLdAgg 10 t3_0 H_3) fun t7_4 =>
 ACalls Try.prog 75 [t7_4] H_3 fun t8_5 H_6 =>
 (S69_45 a0 R t3_0 t4_2 t8_5 H_6)
theorem S69_calls {a0 a1 : Value} {H : AHeap} {R : Value → AHeap → Prop} (h : S69 a0 a1 H R) : ACalls Try.prog 69 [a0, a1] H R :=
  have e : S69 a0 a1 H R = awpFn Try.prog (Try.f69.body.getD .skip) Try.f69.results.toList ann69 [a0, a1] H R := by kernel_rfl
  calls_of_awp (fn := Try.f69) (c := Try.f69.body.getD .skip) (an := ann69) (by kernel_rfl) Try.func69 (by kernel_rfl) (by kernel_rfl) (of_decide_eq_true (by kernel_rfl)) (e ▸ h)

/-- 70: (*marginalia/marginaliaref06.Store).count -/
def ann70 : Ann := (.two .leaf (.two .leaf (.two (.two .leaf (.one (.loop [3, 4] [3, 4, 5, 6, 7, 8, 9, 10, 11, 12, 13, 14, 15, 16, 17, 18, 19, 20, 21, 22, 23] (.two (.two .leaf (.two .leaf .leaf)) (.two (.one .leaf) .leaf))))) (.two .leaf .leaf))))
def S70_17 (a0 : Value) (vs_0 : List Value) (H_1 : AHeap) (again_2 : List Value → AHeap → Prop) : Prop :=
 bnd (aNilCheck a0) fun t16_8 =>
 bnd (aAdd 2 t16_8) fun t17_9 =>
 bnd (aLdCell t17_9 H_1) fun t18_10 =>
 bnd (aIdxAddr 10 t18_10 (nth vs_0 1)) fun t20_11 =>
 bnd (aLdAgg 10 t20_11 H_1) fun t21_12 =>
 ACalls Try.prog 75 [t21_12] H_1 fun t22_13 H_14 =>
 bnd (aBin .add .no (nth vs_0 0) t22_13) fun t23_15 =>
 bnd (aBin .add .no (nth vs_0 1) (.int .i64 1)) fun t13_16 =>
 again_2 [t23_15, t13_16] H_14
def S70_18 (a0 : Value) (R : Value → AHeap → Prop) (vs_0 : List Value) (H_1 : AHeap) (again_2 : List Value → AHeap → Prop) : Prop :=
 bnd (aNilCheck a0) fun t7_3 =>
 bnd (aAdd 2 t7_3) fun t8_4 =>
 bnd (aLdCell t8_4 H_1) fun t9_5 =>
 bnd (aLenSl t9_5) fun t10_6 =>
 bnd (aBin .lss .no (nth vs_0 1) t10_6) fun t11_7 =>
 aCond t11_7 (
 (S70_17 a0 vs_0 H_1 again_2)) (
 R (nth vs_0 0) H_1)
def S70 (a0 : Value) (H : AHeap) (R : Value → AHeap → Prop) : Prop :=
 aLoop [(.int .i64 0), (.int .i64 0)] H fun vs_0 H_1 again_2 =>
 (S70_18 a0 R vs_0 H_1 again_2)
theorem S70_calls {a0 : Value} {H : AHeap} {R : Value → AHeap → Prop} (h : S70 a0 H R) : ACalls Try.prog 70 [a0] H R :=
  have e : S70 a0 H R = awpFn Try.prog (Try.f70.body.getD .skip) Try.f70.results.toList ann70 [a0] H R := by kernel_rfl
  calls_of_awp (fn := Try.f70) (c := Try.f70.body.getD .skip) (an := ann70) (by kernel_rfl) Try.func70 (by kernel_rfl) (by kernel_rfl) (of_decide_eq_true (by kernel_rfl)) (e ▸ h)

/-- 72: slices.Clone[[]uint32,uint32] -/
def ann72 : Ann := (.two .leaf (.two (.two .leaf (.two (.two .leaf .leaf) .leaf)) (.two .leaf .leaf)))
def S72 (a0 : Value) (H : AHeap) (R : Value → AHeap → Prop) : Prop :=
 aSlEq .eql a0 (.slice none 0 0) H fun t4_0 H_1 =>
 aCond t4_0 (
 R (.slice none 0 0) H_1) (
 aBuildSlice 1 0 131 [(.int .u32 0)] [] H_1 fun t5_2 H_3 =>
 aAppend 1 4 131 t5_2 a0 H_3 fun t7_4 H_5 =>
 R t7_4 H_5)
theorem S72_calls {a0 : Value} {H : AHeap} {R : Value → AHeap → Prop} (h : S72 a0 H R) : ACalls Try.prog 72 [a0] H R :=
  have e : S72 a0 H R = awpFn Try.prog (Try.f72.body.getD .skip) Try.f72.results.toList ann72 [a0] H R := by kernel_rfl
  calls_of_awp (fn := Try.f72) (c := Try.f72.body.getD .skip) (an := ann72) (by kernel_rfl) Try.func72 (by kernel_rfl) (by kernel_rfl) (of_decide_eq_true (by kernel_rfl)) (e ▸ h)

/-- 73: slices.Clone[[]int,int] -/
def ann73 : Ann := (.two .leaf (.two (.two .leaf (.two (.two .leaf .leaf) .leaf)) (.two .leaf .leaf)))
def S73 (a0 : Value) (H : AHeap) (R : Value → AHeap → Prop) : Prop :=
 aSlEq .eql a0 (.slice none 0 0) H fun t4_0 H_1 =>
 aCond t4_0 (
 R (.slice none 0 0) H_1) (
 aBuildSlice 1 0 3 [(.int .i64 0)] [] H_1 fun t5_2 H_3 =>
 aAppend 1 8 3 t5_2 a0 H_3 fun t7_4 H_5 =>
 R t7_4 H_5)
theorem S73_calls {a0 : Value} {H : AHeap} {R : Value → AHeap → Prop} (h : S73 a0 H R) : ACalls Try.prog 73 [a0] H R :=
  have e : S73 a0 H R = awpFn Try.prog (Try.f73.body.getD .skip) Try.f73.results.toList ann73 [a0] H R := by kernel_rfl
  calls_of_awp (fn := Try.f73) (c := Try.f73.body.getD .skip) (an := ann73) (by kernel_rfl) Try.func73 (by kernel_rfl) (by kernel_rfl) (of_decide_eq_true (by kernel_rfl)) (e ▸ h)

/-- 74: slices.Clone[[]marginalia/api.Stx,marginalia/api.Stx] -/
def ann74 : Ann := (.two .leaf (.two (.two .leaf (.two (.two .leaf .leaf) .leaf)) (.two .leaf .leaf)))
def S74 (a0 : Value) (H : AHeap) (R : Value → AHeap → Prop) : Prop :=
 aSlEq .eql a0 (.slice none 0 0) H fun t4_0 H_1 =>
 aCond t4_0 (
 R (.slice none 0 0) H_1) (
 aBuildSlice 8 0 79 [(.int .i64 0), (.string ⟨#[]⟩), (.bool false), (.slice none 0 0), (.slice none 0 0), (.int .i64 0), (.slice none 0 0), (.slice none 0 0)] [] H_1 fun t5_2 H_3 =>
 aAppend 8 136 79 t5_2 a0 H_3 fun t7_4 H_5 =>
 R t7_4 H_5)
theorem S74_calls {a0 : Value} {H : AHeap} {R : Value → AHeap → Prop} (h : S74 a0 H R) : ACalls Try.prog 74 [a0] H R :=
  have e : S74 a0 H R = awpFn Try.prog (Try.f74.body.getD .skip) Try.f74.results.toList ann74 [a0] H R := by kernel_rfl
  calls_of_awp (fn := Try.f74) (c := Try.f74.body.getD .skip) (an := ann74) (by kernel_rfl) Try.func74 (by kernel_rfl) (by kernel_rfl) (of_decide_eq_true (by kernel_rfl)) (e ▸ h)

/-- 75: marginalia/marginaliaref06.cells -/
def ann75 : Ann := (.two .leaf (.two (.two .leaf (.two (.two .leaf .leaf) .leaf)) (.two .leaf .leaf)))
def S75 (a0 : Value) (H : AHeap) (R : Value → AHeap → Prop) : Prop :=
 aBox 121 a0 H fun t1_0 H_1 =>
 bnd (aAdd 0 t1_0) fun t3_2 =>
 bnd (aLdCell t3_2 H_1) fun t4_3 =>
 bnd (aBin .eql .no t4_3 (.int .i64 10)) fun t5_4 =>
 aCond t5_4 (
 bnd (aAdd 2 t1_0) fun t6_5 =>
 bnd (aLdAgg 8 t6_5 H_1) fun t7_6 =>
 ACalls Try.prog 76 [t7_6] H_1 fun t8_7 H_8 =>
 bnd (aBin .add .no (.int .i64 1) t8_7) fun t9_9 =>
 R t9_9 H_8) (
 bnd (aAdd 1 t1_0) fun t10_10 =>
 bnd (aLdCell t10_10 H_1) fun t11_11 =>
 bnd (aLenSl t11_11) fun t12_12 =>
 bnd (aBin .add .no (.int .i64 1) t12_12) fun t13_13 =>
 R t13_13 H_1)
theorem S75_calls {a0 : Value} {H : AHeap} {R : Value → AHeap → Prop} (h : S75 a0 H R) : ACalls Try.prog 75 [a0] H R :=
  have e : S75 a0 H R = awpFn Try.prog (Try.f75.body.getD .skip) Try.f75.results.toList ann75 [a0] H R := by kernel_rfl
  calls_of_awp (fn := Try.f75) (c := Try.f75.body.getD .skip) (an := ann75) (by kernel_rfl) Try.func75 (by kernel_rfl) (by kernel_rfl) (of_decide_eq_true (by kernel_rfl)) (e ▸ h)

/-- 76: marginalia/marginaliaref06.pieces -/
def ann76 : Ann := (.two .leaf (.two .leaf (.two (.two .leaf (.one (.loop [3, 4] [3, 4, 18, 19, 20, 21, 22, 23, 24, 25, 26, 27, 28, 29, 30, 31, 32] (.two (.two .leaf (.two .leaf .leaf)) (.two (.one .leaf) .leaf))))) (.two .leaf .leaf))))
def S76_30 (t1_0 : Value) (vs_15 : List Value) (H_16 : AHeap) (again_17 : List Value → AHeap → Prop) : Prop :=
 bnd (aAdd 4 t1_0) fun t26_22 =>
 bnd (aLdCell t26_22 H_16) fun t27_23 =>
 bnd (aIdxAddr 8 t27_23 (nth vs_15 1)) fun t29_24 =>
 bnd (aLdAgg 8 t29_24 H_16) fun t30_25 =>
 ACalls Try.prog 76 [t30_25] H_16 fun t31_26 H_27 =>
 bnd (aBin .add .no (nth vs_15 0) t31_26) fun t32_28 =>
 bnd (aBin .add .no (nth vs_15 1) (.int .i64 1)) fun t24_29 =>
 again_17 [t32_28, t24_29] H_27
def S76_31 (R : Value → AHeap → Prop) (t1_0 : Value) (vs_15 : List Value) (H_16 : AHeap) (again_17 : List Value → AHeap → Prop) : Prop :=
 bnd (aAdd 4 t1_0) fun t19_18 =>
 bnd (aLdCell t19_18 H_16) fun t20_19 =>
 bnd (aLenSl t20_19) fun t21_20 =>
 bnd (aBin .lss .no (nth vs_15 1) t21_20) fun t22_21 =>
 aCond t22_21 (
 (S76_30 t1_0 vs_15 H_16 again_17)) (
 R (nth vs_15 0) H_16)
def S76 (a0 : Value) (H : AHeap) (R : Value → AHeap → Prop) : Prop :=
 aBox 79 a0 H fun t1_0 H_1 =>
 bnd (aAdd 6 t1_0) fun t5_2 =>
 bnd (aLdCell t5_2 H_1) fun t6_3 =>
 bnd (aLenSl t6_3) fun t7_4 =>
 bnd (aBin .add .no (.int .i64 1) t7_4) fun t8_5 =>
 bnd (aAdd 7 t1_0) fun t9_6 =>
 bnd (aLdCell t9_6 H_1) fun t10_7 =>
 bnd (aLenSl t10_7) fun t11_8 =>
 bnd (aBin .add .no t8_5 t11_8) fun t12_9 =>
 bnd (aAdd 2 t1_0) fun t13_10 =>
 bnd (aAdd 1 t13_10) fun t14_11 =>
 bnd (aLdCell t14_11 H_1) fun t15_12 =>
 bnd (aLenSl t15_12) fun t16_13 =>
 bnd (aBin .add .no t12_9 t16_13) fun t17_14 =>
 aLoop [t17_14, (.int .i64 0)] H_1 fun vs_15 H_16 again_17 =>
 (S76_31 R t1_0 vs_15 H_16 again_17)
theorem S76_calls {a0 : Value} {H : AHeap} {R : Value → AHeap → Prop} (h : S76 a0 H R) : ACalls Try.prog 76 [a0] H R :=
  have e : S76 a0 H R = awpFn Try.prog (Try.f76.body.getD .skip) Try.f76.results.toList ann76 [a0] H R := by kernel_rfl
  calls_of_awp (fn := Try.f76) (c := Try.f76.body.getD .skip) (an := ann76) (by kernel_rfl) Try.func76 (by kernel_rfl) (by kernel_rfl) (of_decide_eq_true (by kernel_rfl)) (e ▸ h)

end Go.Proofs.Ytngldjajfpbmbaa.A
