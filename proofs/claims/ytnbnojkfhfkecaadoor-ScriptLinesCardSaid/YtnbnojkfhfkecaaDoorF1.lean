/- Contracts of functions that the statement reaches; each theorem carries its own conditions, the last theorem of the claim has none. -/
import Derived.Test.YtnbnojkfhfkecaaDoorAbsY
import Derived.Test.YtnbnojkfhfkecaaDoorProg
import Derived.KernelRfl
/- The texts that functions' bodies come to (printed by gen.lean, a tool of our own). -/
set_option linter.unusedVariables false
set_option maxRecDepth 100000
namespace Go.Proofs.YtnbnojkfhfkecaaDoor.A
open Go Go.Abs

/-- 3: marginalia/marginalialaw22.ScriptMany -/
def ann3 : Ann := (.two .leaf (.two .leaf (.two .leaf (.two (.two .leaf (.two (.two .leaf (.two (.two .leaf (.one (.loop [10] [10, 32, 33, 34, 35, 36, 37, 38, 39, 40, 41] (.two (.two .leaf (.two .leaf .leaf)) (.two (.one .leaf) .leaf))))) (.two .leaf (.two .leaf (.two (.two .leaf (.two (.two .leaf .leaf) .leaf)) (.two .leaf .leaf)))))) .leaf)) (.two (.two .leaf (.one (.loop [8, 17] [8, 17, 85, 86, 87, 88, 89, 90, 91] (.two (.two .leaf (.two .leaf .leaf)) (.two (.one .leaf) .leaf))))) (.two .leaf (.two (.two .leaf (.two (.two .leaf .leaf) .leaf)) (.two .leaf .leaf))))))))
def S3_70 (R : Value → AHeap → Prop) (t48_22 : Value) (t58_31 : Value) (t59_32 : Value) (t63_38 : Value) (H_39 : AHeap) : Prop :=
 aGuardK t63_38 true (fun K_40 H_41 =>
 K_40 t48_22 H_41) (fun t65_42 H_43 =>
 aGuardK t63_38 true (fun K_44 H_45 =>
 bnd (aBin .eql .no t65_42 (.int .i64 6)) fun t66_46 =>
 K_44 t66_46 H_45) (fun t66_47 H_48 =>
 bnd (aPick t63_38 t66_47 (.bool false)) fun t67_49 =>
 aGuardK t67_49 true (fun K_50 H_51 =>
 K_50 t59_32 H_51) (fun t69_52 H_53 =>
 aGuardK t67_49 true (fun K_54 H_55 =>
 bnd (aBin .eql .no t69_52 (.int .i64 6)) fun t70_56 =>
 K_54 t70_56 H_55) (fun t70_57 H_58 =>
 bnd (aPick t67_49 t70_57 (.bool false)) fun t71_59 =>
 aGuardK t71_59 true (fun K_60 H_61 =>
 K_60 t58_31 H_61) (fun t73_62 H_63 =>
 aGuardK t71_59 true (fun K_64 H_65 =>
 bnd (aBin .eql .no t73_62 (.int .i64 2)) fun t74_66 =>
 K_64 t74_66 H_65) (fun t74_67 H_68 =>
 bnd (aPick t71_59 t74_67 (.bool false)) fun t75_69 =>
 R t75_69 H_68) H_63) H_58) H_53) H_48) H_43) H_39
def S3_93 (R : Value → AHeap → Prop) (t48_22 : Value) (t59_32 : Value) (t76_71 : Value) (H_72 : AHeap) : Prop :=
 aGuardK t76_71 true (fun K_73 H_74 =>
 K_73 t48_22 H_74) (fun t78_75 H_76 =>
 aGuardK t76_71 true (fun K_77 H_78 =>
 bnd (aBin .eql .no t78_75 (.int .i64 0)) fun t79_79 =>
 K_77 t79_79 H_78) (fun t79_80 H_81 =>
 bnd (aPick t76_71 t79_80 (.bool false)) fun t80_82 =>
 aGuardK t80_82 true (fun K_83 H_84 =>
 K_83 t59_32 H_84) (fun t82_85 H_86 =>
 aGuardK t80_82 true (fun K_87 H_88 =>
 bnd (aBin .eql .no t82_85 (.int .i64 0)) fun t83_89 =>
 K_87 t83_89 H_88) (fun t83_90 H_91 =>
 bnd (aPick t80_82 t83_90 (.bool false)) fun t84_92 =>
 R t84_92 H_91) H_86) H_81) H_76) H_72
def S3_94 (R : Value → AHeap → Prop) (t31_6 : Value) (t48_22 : Value) (t55_27 : Value) (H_28 : AHeap) : Prop :=
 bnd (aExtract t55_27 0) fun t56_29 =>
 bnd (aExtract t55_27 1) fun t57_30 =>
 bnd (aExtract t55_27 2) fun t58_31 =>
 bnd (aExtract t55_27 3) fun t59_32 =>
 aAlloc [(.int .i64 0), (.int .i64 0), (.int .i64 0)] 27 H_28 fun t13_33 H_34 =>
 bnd (aSt 3 t13_33 t56_29 H_34) fun H_35 =>
 bnd (aLenSl t31_6) fun t61_36 =>
 bnd (aBin .gtr .no t61_36 (.int .i64 65536)) fun t62_37 =>
 aCond t62_37 (
 ACalls Tryd.prog 11 [] H_35 fun t63_38 H_39 =>
 (S3_70 R t48_22 t58_31 t59_32 t63_38 H_39)) (
 ACalls Tryd.prog 11 [] H_35 fun t76_71 H_72 =>
 (S3_93 R t48_22 t59_32 t76_71 H_72))
def S3_95 (R : Value → AHeap → Prop) (t31_6 : Value) (H_9 : AHeap) : Prop :=
 bnd (aFill [(.int .i64 0), (.int .i64 0), (.int .i64 0)] []) fun t43_16 =>
 aBuildSlice 1 1 22 [(.slice none 0 0)] [(0, 1, t31_6)] H_9 fun t45_17 H_18 =>
 ACalls Tryd.prog 8 [(.agg t43_16.toArray), t45_17] H_18 fun t46_19 H_20 =>
 bnd (aExtract t46_19 0) fun t47_21 =>
 bnd (aExtract t46_19 1) fun t48_22 =>
 ACalls Tryd.prog 10 [t31_6] H_20 fun t52_23 H_24 =>
 bnd (aBin .add .no (.string ⟨#[49, 32, 50, 32, 51, 10]⟩) t52_23) fun t53_25 =>
 bnd (aBin .add .no t53_25 (.string ⟨#[10]⟩)) fun t54_26 =>
 ACalls Tryd.prog 9 [t54_26] H_24 fun t55_27 H_28 =>
 (S3_94 R t31_6 t48_22 t55_27 H_28)
def S3_96 (a2 : Value) (R : Value → AHeap → Prop) (t31_6 : Value) (vs_8 : List Value) (H_9 : AHeap) (again_10 : List Value → AHeap → Prop) : Prop :=
 bnd (aLenSl t31_6) fun t34_11 =>
 bnd (aBin .lss .no (nth vs_8 0) t34_11) fun t35_12 =>
 aCond t35_12 (
 bnd (aIdxAddr 1 t31_6 (nth vs_8 0)) fun t41_13 =>
 bnd (aSt 1 t41_13 a2 H_9) fun H_14 =>
 bnd (aBin .add .no (nth vs_8 0) (.int .i64 1)) fun t37_15 =>
 again_10 [t37_15] H_14) (
 (S3_95 R t31_6 H_9))
def S3_97 (a0 : Value) (a2 : Value) (H : AHeap) (R : Value → AHeap → Prop) : Prop :=
 bnd (aBin .rem .no a0 (.int .u8 12)) fun t28_3 =>
 bnd (aConvInt .i64 t28_3) fun t29_4 =>
 bnd (aBin .add .no (.int .i64 65530) t29_4) fun t30_5 =>
 aMakeSlice 1 5 [(.int .u8 0)] t30_5 t30_5 H fun t31_6 H_7 =>
 aLoop [(.int .i64 0)] H_7 fun vs_8 H_9 again_10 =>
 (S3_96 a2 R t31_6 vs_8 H_9 again_10)
def S3_151 (R : Value → AHeap → Prop) (t96_107 : Value) (t97_108 : Value) (t98_109 : Value) (t101_114 : Value) (H_115 : AHeap) : Prop :=
 aGuardK t101_114 true (fun K_116 H_117 =>
 K_116 t98_109 H_117) (fun t103_118 H_119 =>
 aGuardK t101_114 true (fun K_120 H_121 =>
 bnd (aBin .eql .no t103_118 (.int .i64 6)) fun t104_122 =>
 K_120 t104_122 H_121) (fun t104_123 H_124 =>
 bnd (aPick t101_114 t104_123 (.bool false)) fun t105_125 =>
 aGuardK t105_125 true (fun K_126 H_127 =>
 K_126 t97_108 H_127) (fun t107_128 H_129 =>
 aGuardK t105_125 true (fun K_130 H_131 =>
 bnd (aBin .eql .no t107_128 (.int .i64 258)) fun t108_132 =>
 K_130 t108_132 H_131) (fun t108_133 H_134 =>
 bnd (aPick t105_125 t108_133 (.bool false)) fun t109_135 =>
 aGuardK t109_135 true (fun K_136 H_137 =>
 K_136 t96_107 H_137) (fun t111_138 H_139 =>
 aGuardK t109_135 true (fun K_140 H_141 =>
 bnd (aLenSl t111_138) fun t112_142 =>
 K_140 t112_142 H_141) (fun t112_143 H_144 =>
 aGuardK t109_135 true (fun K_145 H_146 =>
 bnd (aBin .eql .no t112_143 (.int .i64 0)) fun t113_147 =>
 K_145 t113_147 H_146) (fun t113_148 H_149 =>
 bnd (aPick t109_135 t113_148 (.bool false)) fun t114_150 =>
 R t114_150 H_149) H_144) H_139) H_134) H_129) H_124) H_119) H_115
def S3_183 (R : Value → AHeap → Prop) (t25_2 : Value) (t96_107 : Value) (t98_109 : Value) (t115_152 : Value) (H_153 : AHeap) : Prop :=
 aGuardK t115_152 true (fun K_154 H_155 =>
 K_154 t98_109 H_155) (fun t117_156 H_157 =>
 aGuardK t115_152 true (fun K_158 H_159 =>
 bnd (aBin .eql .no t117_156 (.int .i64 0)) fun t118_160 =>
 K_158 t118_160 H_159) (fun t118_161 H_162 =>
 bnd (aPick t115_152 t118_161 (.bool false)) fun t119_163 =>
 aGuardK t119_163 true (fun K_164 H_165 =>
 K_164 t96_107 H_165) (fun t121_166 H_167 =>
 aGuardK t119_163 true (fun K_168 H_169 =>
 bnd (aLenSl t121_166) fun t122_170 =>
 K_168 t122_170 H_169) (fun t122_171 H_172 =>
 aGuardK t119_163 true (fun K_173 H_174 =>
 K_173 t25_2 H_174) (fun t123_175 H_176 =>
 aGuardK t119_163 true (fun K_177 H_178 =>
 bnd (aBin .eql .no t122_171 t123_175) fun t124_179 =>
 K_177 t124_179 H_178) (fun t124_180 H_181 =>
 bnd (aPick t119_163 t124_180 (.bool false)) fun t125_182 =>
 R t125_182 H_181) H_176) H_172) H_167) H_162) H_157) H_153
def S3_184 (R : Value → AHeap → Prop) (t25_2 : Value) (t94_104 : Value) (H_105 : AHeap) : Prop :=
 bnd (aExtract t94_104 0) fun t95_106 =>
 bnd (aExtract t94_104 1) fun t96_107 =>
 bnd (aExtract t94_104 2) fun t97_108 =>
 bnd (aExtract t94_104 3) fun t98_109 =>
 aAlloc [(.int .i64 0), (.int .i64 0), (.int .i64 0)] 27 H_105 fun t18_110 H_111 =>
 bnd (aSt 3 t18_110 t95_106 H_111) fun H_112 =>
 bnd (aBin .gtr .no t25_2 (.int .i64 256)) fun t100_113 =>
 aCond t100_113 (
 ACalls Tryd.prog 11 [] H_112 fun t101_114 H_115 =>
 (S3_151 R t96_107 t97_108 t98_109 t101_114 H_115)) (
 ACalls Tryd.prog 11 [] H_112 fun t115_152 H_153 =>
 (S3_183 R t25_2 t96_107 t98_109 t115_152 H_153))
def S3_185 (R : Value → AHeap → Prop) (t25_2 : Value) (vs_98 : List Value) (H_99 : AHeap) (again_100 : List Value → AHeap → Prop) : Prop :=
 bnd (aBin .lss .no (nth vs_98 1) t25_2) fun t87_101 =>
 aCond t87_101 (
 bnd (aBin .add .no (nth vs_98 0) (.string ⟨#[120, 10]⟩)) fun t91_102 =>
 bnd (aBin .add .no (nth vs_98 1) (.int .i64 1)) fun t89_103 =>
 again_100 [t91_102, t89_103] H_99) (
 ACalls Tryd.prog 9 [(nth vs_98 0)] H_99 fun t94_104 H_105 =>
 (S3_184 R t25_2 t94_104 H_105))
def S3 (a0 : Value) (a1 : Value) (a2 : Value) (H : AHeap) (R : Value → AHeap → Prop) : Prop :=
 bnd (aBin .rem .no a0 (.int .u8 12)) fun t23_0 =>
 bnd (aConvInt .i64 t23_0) fun t24_1 =>
 bnd (aBin .add .no (.int .i64 250) t24_1) fun t25_2 =>
 aCond a1 (
 (S3_97 a0 a2 H R)) (
 aLoop [(.string ⟨#[49, 32, 50, 32, 51, 10]⟩), (.int .i64 0)] H fun vs_98 H_99 again_100 =>
 (S3_185 R t25_2 vs_98 H_99 again_100))
theorem S3_calls {a0 a1 a2 : Value} {H : AHeap} {R : Value → AHeap → Prop} (h : S3 a0 a1 a2 H R) : ACalls Tryd.prog 3 [a0, a1, a2] H R :=
  have e : S3 a0 a1 a2 H R = awpFn Tryd.prog (Tryd.f3.body.getD .skip) Tryd.f3.results.toList ann3 [a0, a1, a2] H R := by kernel_rfl
  calls_of_awp (fn := Tryd.f3) (c := Tryd.f3.body.getD .skip) (an := ann3) (by kernel_rfl) Tryd.func3 (by kernel_rfl) (by kernel_rfl) (of_decide_eq_true (by kernel_rfl)) (e ▸ h)

/-- 4: marginalia/marginalialaw22.ScriptLines -/
def ann4 : Ann := (.two .leaf (.two (.two .leaf (.two (.two .leaf .leaf) .leaf)) (.two .leaf (.two .leaf (.two (.draw [(0, []), (2, []), (1, [2]), (3, []), (4, []), (5, [])]) (.two (.two .leaf (.one (.loop [11, 12, 13] [11, 12, 13, 51, 52, 53, 54, 55, 56, 57, 58, 59, 60, 61, 62, 63, 64, 65, 66, 67, 68, 69, 70, 71, 72, 73, 74, 75, 76, 77, 78, 79, 80, 81, 82, 83, 84, 85] (.two (.two .leaf (.two .leaf .leaf)) (.join [11, 12] [11, 12, 57, 58, 59, 60, 61, 62, 63, 64, 65, 66, 67, 68, 69, 70, 71, 72, 73, 74, 75, 76, 77, 78, 79, 80, 81, 82, 83, 84, 85] (.one (.join [11, 12] [11, 12, 57, 58, 59, 60, 61, 62, 63, 64, 65] (.two .leaf (.two (.two .leaf .leaf) .leaf)) (.two .leaf (.two (.two .leaf .leaf) .leaf)))) .leaf))))) (.two .leaf (.two .leaf (.two .leaf .leaf)))))))))
def S4_80 (a1 : Value) (vs_54 : List Value) (J_61 : List Value → AHeap → Prop) (vs_63 : List Value) (H_64 : AHeap) : Prop :=
 bnd (aIdxAddr 1 a1 (nth vs_54 2)) fun t73_68 =>
 bnd (aLdCell t73_68 H_64) fun t74_69 =>
 ACalls Tryd.prog 10 [t74_69] H_64 fun t75_70 H_71 =>
 bnd (aBin .add .no (nth vs_63 0) t75_70) fun t76_72 =>
 bnd (aBin .add .no t76_72 (.string ⟨#[10]⟩)) fun t77_73 =>
 bnd (aIdxAddr 1 a1 (nth vs_54 2)) fun t81_74 =>
 bnd (aLdCell t81_74 H_71) fun t82_75 =>
 ACalls Tryd.prog 10 [t82_75] H_71 fun t83_76 H_77 =>
 bnd (aBin .add .no (nth vs_63 1) t83_76) fun t84_78 =>
 bnd (aBin .add .no t84_78 (.string ⟨#[10]⟩)) fun t85_79 =>
 J_61 [t77_73, t85_79] H_77
def S4_85 (a1 : Value) (vs_54 : List Value) (J_61 : List Value → AHeap → Prop) (vs_63 : List Value) (H_64 : AHeap) : Prop :=
 bnd (aLenSl a1) fun t68_66 =>
 bnd (aBin .lss .no (nth vs_54 2) t68_66) fun t69_67 =>
 aCond t69_67 (
 (S4_80 a1 vs_54 J_61 vs_63 H_64)) (
 J_61 [(nth vs_63 0), (nth vs_63 1)] H_64)
def S4_86 (a1 : Value) (t40_41 : Value) (t46_47 : Value) (vs_54 : List Value) (H_55 : AHeap) (again_56 : List Value → AHeap → Prop) : Prop :=
 aJoin (fun vs_59 H_60 =>
 bnd (aBin .add .no (nth vs_54 2) (.int .i64 1)) fun t56_62 =>
 again_56 [(nth vs_59 0), (nth vs_59 1), t56_62] H_60) fun J_61 =>
 aJoin (fun vs_63 H_64 =>
 (S4_85 a1 vs_54 J_61 vs_63 H_64)) fun J_65 =>
 bnd (aBin .eql .no (nth vs_54 2) t40_41) fun t59_81 =>
 aCond t59_81 (
 bnd (aBin .add .no (nth vs_54 0) t46_47) fun t62_82 =>
 bnd (aBin .add .no t62_82 (.string ⟨#[10]⟩)) fun t63_83 =>
 bnd (aBin .add .no (nth vs_54 1) (.string ⟨#[120, 53, 97, 10]⟩)) fun t65_84 =>
 J_65 [t63_83, t65_84] H_55) (
 J_65 [(nth vs_54 0), (nth vs_54 1)] H_55)
def S4_234 (a1 : Value) (R : Value → AHeap → Prop) (t4_0 : Value) (t40_41 : Value) (t90_90 : Value) (t91_91 : Value) (t92_92 : Value) (t95_96 : Value) (H_97 : AHeap) : Prop :=
 bnd (aExtract t95_96 0) fun t96_98 =>
 bnd (aExtract t95_96 1) fun t97_99 =>
 bnd (aExtract t95_96 2) fun t98_100 =>
 bnd (aExtract t95_96 3) fun t99_101 =>
 aAlloc [(.int .i64 0), (.int .i64 0), (.int .i64 0)] 27 H_97 fun t18_102 H_103 =>
 bnd (aSt 3 t18_102 t96_98 H_103) fun H_104 =>
 bnd (aBin .eql .no t92_92 (.int .i64 3)) fun t101_105 =>
 aGuardK t101_105 true (fun K_106 H_107 =>
 K_106 t91_91 H_107) (fun t103_108 H_109 =>
 aGuardK t101_105 true (fun K_110 H_111 =>
 K_110 t40_41 H_111) (fun t104_112 H_113 =>
 aGuardK t101_105 true (fun K_114 H_115 =>
 bnd (aBin .add .no t104_112 (.int .i64 2)) fun t105_116 =>
 K_114 t105_116 H_115) (fun t105_117 H_118 =>
 aGuardK t101_105 true (fun K_119 H_120 =>
 bnd (aBin .eql .no t103_108 t105_117) fun t106_121 =>
 K_119 t106_121 H_120) (fun t106_122 H_123 =>
 bnd (aPick t101_105 t106_122 (.bool false)) fun t107_124 =>
 aGuardK t107_124 true (fun K_125 H_126 =>
 K_125 t90_90 H_126) (fun t109_127 H_128 =>
 aGuardK t107_124 true (fun K_129 H_130 =>
 bnd (aLenSl t109_127) fun t110_131 =>
 K_129 t110_131 H_130) (fun t110_132 H_133 =>
 aGuardK t107_124 true (fun K_134 H_135 =>
 bnd (aBin .eql .no t110_132 (.int .i64 0)) fun t111_136 =>
 K_134 t111_136 H_135) (fun t111_137 H_138 =>
 bnd (aPick t107_124 t111_137 (.bool false)) fun t112_139 =>
 aGuardK t112_139 true (fun K_140 H_141 =>
 K_140 t99_101 H_141) (fun t114_142 H_143 =>
 aGuardK t112_139 true (fun K_144 H_145 =>
 bnd (aBin .eql .no t114_142 (.int .i64 0)) fun t115_146 =>
 K_144 t115_146 H_145) (fun t115_147 H_148 =>
 bnd (aPick t112_139 t115_147 (.bool false)) fun t116_149 =>
 aGuardK t116_149 true (fun K_150 H_151 =>
 K_150 t98_100 H_151) (fun t118_152 H_153 =>
 aGuardK t116_149 true (fun K_154 H_155 =>
 bnd (aBin .eql .no t118_152 (.int .i64 0)) fun t119_156 =>
 K_154 t119_156 H_155) (fun t119_157 H_158 =>
 bnd (aPick t116_149 t119_157 (.bool false)) fun t120_159 =>
 aGuardK t120_159 true (fun K_160 H_161 =>
 bnd (aLdAgg 3 t18_102 H_161) fun t122_162 =>
 K_160 t122_162 H_161) (fun t122_163 H_164 =>
 aGuardK t120_159 true (fun K_165 H_166 =>
 bnd (aLdAgg 3 t4_0 H_166) fun t123_167 =>
 K_165 t123_167 H_166) (fun t123_168 H_169 =>
 aGuardK t120_159 true (fun K_170 H_171 =>
 bnd (aBin .eql (.cells [.int, .int, .int]) t122_163 t123_168) fun t124_172 =>
 K_170 t124_172 H_171) (fun t124_173 H_174 =>
 bnd (aPick t120_159 t124_173 (.bool false)) fun t125_175 =>
 aGuardK t125_175 true (fun K_176 H_177 =>
 K_176 t97_99 H_177) (fun t127_178 H_179 =>
 aGuardK t125_175 true (fun K_180 H_181 =>
 bnd (aLenSl t127_178) fun t128_182 =>
 K_180 t128_182 H_181) (fun t128_183 H_184 =>
 aGuardK t125_175 true (fun K_185 H_186 =>
 K_185 a1 H_186) (fun t129_187 H_188 =>
 aGuardK t125_175 true (fun K_189 H_190 =>
 bnd (aLenSl t129_187) fun t130_191 =>
 K_189 t130_191 H_190) (fun t130_192 H_193 =>
 aGuardK t125_175 true (fun K_194 H_195 =>
 bnd (aBin .add .no t130_192 (.int .i64 1)) fun t131_196 =>
 K_194 t131_196 H_195) (fun t131_197 H_198 =>
 aGuardK t125_175 true (fun K_199 H_200 =>
 bnd (aBin .eql .no t128_183 t131_197) fun t132_201 =>
 K_199 t132_201 H_200) (fun t132_202 H_203 =>
 bnd (aPick t125_175 t132_202 (.bool false)) fun t133_204 =>
 aGuardK t133_204 true (fun K_205 H_206 =>
 K_205 t97_99 H_206) (fun t135_207 H_208 =>
 aGuardK t133_204 true (fun K_209 H_210 =>
 K_209 t40_41 H_210) (fun t136_211 H_212 =>
 aGuardK t133_204 true (fun K_213 H_214 =>
 bnd (aIdxAddr 1 t135_207 t136_211) fun t137_215 =>
 K_213 t137_215 H_214) (fun t137_216 H_217 =>
 aGuardK t133_204 true (fun K_218 H_219 =>
 bnd (aLdCell t137_216 H_219) fun t138_220 =>
 K_218 t138_220 H_219) (fun t138_221 H_222 =>
 aGuardK t133_204 true (fun K_223 H_224 =>
 bnd (aBytesStr t138_221 H_224) fun t139_225 =>
 K_223 t139_225 H_224) (fun t139_226 H_227 =>
 aGuardK t133_204 true (fun K_228 H_229 =>
 bnd (aBin .eql .no t139_226 (.string ⟨#[90]⟩)) fun t140_230 =>
 K_228 t140_230 H_229) (fun t140_231 H_232 =>
 bnd (aPick t133_204 t140_231 (.bool false)) fun t141_233 =>
 R t141_233 H_232) H_227) H_222) H_217) H_212) H_208) H_203) H_198) H_193) H_188) H_184) H_179) H_174) H_169) H_164) H_158) H_153) H_148) H_143) H_138) H_133) H_128) H_123) H_118) H_113) H_109) H_104
def S4_235 (a1 : Value) (R : Value → AHeap → Prop) (t4_0 : Value) (t40_41 : Value) (vs_54 : List Value) (H_55 : AHeap) : Prop :=
 ACalls Tryd.prog 9 [(nth vs_54 0)] H_55 fun t88_87 H_88 =>
 bnd (aExtract t88_87 0) fun t89_89 =>
 bnd (aExtract t88_87 1) fun t90_90 =>
 bnd (aExtract t88_87 2) fun t91_91 =>
 bnd (aExtract t88_87 3) fun t92_92 =>
 aAlloc [(.int .i64 0), (.int .i64 0), (.int .i64 0)] 27 H_88 fun t14_93 H_94 =>
 bnd (aSt 3 t14_93 t89_89 H_94) fun H_95 =>
 ACalls Tryd.prog 9 [(nth vs_54 1)] H_95 fun t95_96 H_97 =>
 (S4_234 a1 R t4_0 t40_41 t90_90 t91_91 t92_92 t95_96 H_97)
def S4_236 (a1 : Value) (R : Value → AHeap → Prop) (t4_0 : Value) (t40_41 : Value) (t46_47 : Value) (vs_54 : List Value) (H_55 : AHeap) (again_56 : List Value → AHeap → Prop) : Prop :=
 bnd (aLenSl a1) fun t53_57 =>
 bnd (aBin .leq .no (nth vs_54 2) t53_57) fun t54_58 =>
 aCond t54_58 (
 (S4_86 a1 t40_41 t46_47 vs_54 H_55 again_56)) (
 (S4_235 a1 R t4_0 t40_41 vs_54 H_55))
def S4_238 (a1 : Value) (a2 : Value) (a3 : Value) (R : Value → AHeap → Prop) (t4_0 : Value) (H_34 : AHeap) : Prop :=
 bnd (aConvInt .i64 a2) fun t36_38 =>
 bnd (aLenSl a1) fun t38_39 =>
 bnd (aBin .add .no t38_39 (.int .i64 1)) fun t39_40 =>
 bnd (aBin .rem .no t36_38 t39_40) fun t40_41 =>
 aBuildSlice 1 6 9 [(.string ⟨#[]⟩)] [(0, 1, (.string ⟨#[120, 49]⟩)), (1, 1, (.string ⟨#[52, 49]⟩)), (2, 1, (.string ⟨#[120, 52, 71]⟩)), (3, 1, (.string ⟨#[32, 120]⟩)), (4, 1, (.string ⟨#[120, 52, 49, 32]⟩)), (5, 1, (.string ⟨#[88]⟩))] H_34 fun t41_42 H_43 =>
 bnd (aConvInt .i64 a3) fun t43_44 =>
 bnd (aBin .rem .no t43_44 (.int .i64 6)) fun t44_45 =>
 bnd (aIdxAddr 1 t41_42 t44_45) fun t45_46 =>
 bnd (aLdCell t45_46 H_43) fun t46_47 =>
 bnd (aLdAgg 3 t4_0 H_43) fun t47_48 =>
 bnd (aLdAgg 3 t4_0 H_43) fun t49_49 =>
 ACalls Tryd.prog 13 [t47_48] H_43 fun t48_50 H_51 =>
 ((bnd (aLdAgg 3 t4_0 H_51) fun t49_237 =>
 t49_237 = t49_49)) ∧
 ACalls Tryd.prog 13 [t49_49] H_51 fun t50_52 H_53 =>
 aLoop [t48_50, t50_52, (.int .i64 0)] H_53 fun vs_54 H_55 again_56 =>
 (S4_236 a1 R t4_0 t40_41 t46_47 vs_54 H_55 again_56)
def S4_239 (a1 : Value) (a2 : Value) (a3 : Value) (R : Value → AHeap → Prop) (t4_0 : Value) (t22_2 : Value) (H_3 : AHeap) : Prop :=
 bnd (aUn .not t22_2) fun t23_4 =>
 aGuardK t23_4 false (fun K_5 H_6 =>
 K_5 a1 H_6) (fun t25_7 H_8 =>
 aGuardK t23_4 false (fun K_9 H_10 =>
 ACalls Tryd.prog 12 [t25_7] H_10 fun t26_11 H_12 =>
 K_9 t26_11 H_12) (fun t26_13 H_14 =>
 aGuardK t23_4 false (fun K_15 H_16 =>
 bnd (aUn .not t26_13) fun t27_17 =>
 K_15 t27_17 H_16) (fun t27_18 H_19 =>
 bnd (aPick t23_4 (.bool true) t27_18) fun t28_20 =>
 aGuardK t28_20 false (fun K_21 H_22 =>
 K_21 a1 H_22) (fun t30_23 H_24 =>
 aGuardK t28_20 false (fun K_25 H_26 =>
 bnd (aLenSl t30_23) fun t31_27 =>
 K_25 t31_27 H_26) (fun t31_28 H_29 =>
 aGuardK t28_20 false (fun K_30 H_31 =>
 bnd (aBin .gtr .no t31_28 (.int .i64 200)) fun t32_32 =>
 K_30 t32_32 H_31) (fun t32_33 H_34 =>
 bnd (aPick t28_20 (.bool true) t32_33) fun t33_35 =>
 aCond t33_35 (
 ACalls Tryd.prog 11 [] H_34 fun t34_36 H_37 =>
 R t34_36 H_37) (
 (S4_238 a1 a2 a3 R t4_0 H_34))) H_29) H_24) H_19) H_14) H_8) H_3
def S4 (a0 : Value) (a1 : Value) (a2 : Value) (a3 : Value) (H : AHeap) (R : Value → AHeap → Prop) : Prop :=
 aBox 27 a0 H fun t4_0 H_1 =>
 ACalls Tryd.prog 11 [] H_1 fun t22_2 H_3 =>
 (S4_239 a1 a2 a3 R t4_0 t22_2 H_3)
theorem S4_calls {a0 a1 a2 a3 : Value} {H : AHeap} {R : Value → AHeap → Prop} (h : S4 a0 a1 a2 a3 H R) : ACalls Tryd.prog 4 [a0, a1, a2, a3] H R :=
  have e : S4 a0 a1 a2 a3 H R = awpFn Tryd.prog (Tryd.f4.body.getD .skip) Tryd.f4.results.toList ann4 [a0, a1, a2, a3] H R := by kernel_rfl
  calls_of_awp (fn := Tryd.f4) (c := Tryd.f4.body.getD .skip) (an := ann4) (by kernel_rfl) Tryd.func4 (by kernel_rfl) (by kernel_rfl) (of_decide_eq_true (by kernel_rfl)) (e ▸ h)

end Go.Proofs.YtnbnojkfhfkecaaDoor.A
