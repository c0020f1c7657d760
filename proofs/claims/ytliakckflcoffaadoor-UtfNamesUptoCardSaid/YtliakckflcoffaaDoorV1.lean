/- The texts that functions' bodies come to (printed by gen.lean, a tool of our own). -/
import Derived.Test.YtliakckflcoffaaDoorAbsY
import Derived.Test.YtliakckflcoffaaDoorProg
import Derived.KernelRfl
set_option linter.unusedVariables false
set_option maxRecDepth 100000
namespace Go.Proofs.YtliakckflcoffaaDoor.A
open Go Go.Abs

/-- 8: marginalia/marginalialaw02.UtfNames -/
def ann8 : Ann := (.two .leaf (.two .leaf (.two .leaf (.two .leaf (.two .leaf (.two (.two .leaf (.two (.two .leaf .leaf) .leaf)) (.two (.two .leaf (.two (.two .leaf .leaf) .leaf)) (.two .leaf (.two .leaf .leaf)))))))))
def S8_94 (a0 : Value) (R : Value → AHeap → Prop) (t61_76 : Value) (H_77 : AHeap) : Prop :=
 bnd (aExtract t61_76 0) fun t62_78 =>
 bnd (aExtract t61_76 1) fun t63_79 =>
 aGuardK t63_79 true (fun K_80 H_81 =>
 K_80 t62_78 H_81) (fun t66_82 H_83 =>
 aGuardK t63_79 true (fun K_84 H_85 =>
 K_84 a0 H_85) (fun t67_86 H_87 =>
 aGuardK t63_79 true (fun K_88 H_89 =>
 bnd (aBin .eql .no t66_82 t67_86) fun t68_90 =>
 K_88 t68_90 H_89) (fun t68_91 H_92 =>
 bnd (aPick t63_79 t68_91 (.bool false)) fun t69_93 =>
 R t69_93 H_92) H_87) H_83) H_77
def S8_95 (a0 : Value) (R : Value → AHeap → Prop) (t18_2 : Value) (t19_3 : Value) (t23_6 : Value) (t24_7 : Value) (t28_10 : Value) (t29_11 : Value) (t33_14 : Value) (t34_15 : Value) (t35_16 : Value) (H_17 : AHeap) : Prop :=
 bnd (aUn .not t35_16) fun t36_18 =>
 aGuardK t36_18 false (fun K_19 H_20 =>
 K_19 t18_2 H_20) (fun t38_21 H_22 =>
 aGuardK t36_18 false (fun K_23 H_24 =>
 K_23 t23_6 H_24) (fun t39_25 H_26 =>
 aGuardK t36_18 false (fun K_27 H_28 =>
 bnd (aBin .neq .no t38_21 t39_25) fun t40_29 =>
 K_27 t40_29 H_28) (fun t40_30 H_31 =>
 bnd (aPick t36_18 (.bool true) t40_30) fun t41_32 =>
 aGuardK t41_32 false (fun K_33 H_34 =>
 K_33 t19_3 H_34) (fun t43_35 H_36 =>
 aGuardK t41_32 false (fun K_37 H_38 =>
 K_37 t24_7 H_38) (fun t44_39 H_40 =>
 aGuardK t41_32 false (fun K_41 H_42 =>
 bnd (aBin .neq .no t43_35 t44_39) fun t45_43 =>
 K_41 t45_43 H_42) (fun t45_44 H_45 =>
 bnd (aPick t41_32 (.bool true) t45_44) fun t46_46 =>
 aGuardK t46_46 false (fun K_47 H_48 =>
 K_47 t28_10 H_48) (fun t48_49 H_50 =>
 aGuardK t46_46 false (fun K_51 H_52 =>
 K_51 t33_14 H_52) (fun t49_53 H_54 =>
 aGuardK t46_46 false (fun K_55 H_56 =>
 bnd (aBin .neq .no t48_49 t49_53) fun t50_57 =>
 K_55 t50_57 H_56) (fun t50_58 H_59 =>
 bnd (aPick t46_46 (.bool true) t50_58) fun t51_60 =>
 aGuardK t51_60 false (fun K_61 H_62 =>
 K_61 t29_11 H_62) (fun t53_63 H_64 =>
 aGuardK t51_60 false (fun K_65 H_66 =>
 K_65 t34_15 H_66) (fun t54_67 H_68 =>
 aGuardK t51_60 false (fun K_69 H_70 =>
 bnd (aBin .neq .bool t53_63 t54_67) fun t55_71 =>
 K_69 t55_71 H_70) (fun t55_72 H_73 =>
 bnd (aPick t51_60 (.bool true) t55_72) fun t56_74 =>
 aCond t56_74 (
 R (.bool false) H_73) (
 bnd (aBin .neq .no t19_3 (.int .i64 0)) fun t58_75 =>
 aCond t58_75 (
 R (.bool true) H_73) (
 ACalls Tryd.prog 24 [t18_2] H_73 fun t61_76 H_77 =>
 (S8_94 a0 R t61_76 H_77)))) H_68) H_64) H_59) H_54) H_50) H_45) H_40) H_36) H_31) H_26) H_22) H_17
def S8_96 (a0 : Value) (a1 : Value) (R : Value → AHeap → Prop) (t18_2 : Value) (t19_3 : Value) (t22_4 : Value) (H_5 : AHeap) : Prop :=
 bnd (aExtract t22_4 0) fun t23_6 =>
 bnd (aExtract t22_4 1) fun t24_7 =>
 ACalls Tryd.prog 24 [a1] H_5 fun t27_8 H_9 =>
 bnd (aExtract t27_8 0) fun t28_10 =>
 bnd (aExtract t27_8 1) fun t29_11 =>
 ACalls Tryd.prog 25 [a1] H_9 fun t32_12 H_13 =>
 bnd (aExtract t32_12 0) fun t33_14 =>
 bnd (aExtract t32_12 1) fun t34_15 =>
 ACalls Tryd.prog 11 [] H_13 fun t35_16 H_17 =>
 (S8_95 a0 R t18_2 t19_3 t23_6 t24_7 t28_10 t29_11 t33_14 t34_15 t35_16 H_17)
def S8 (a0 : Value) (a1 : Value) (H : AHeap) (R : Value → AHeap → Prop) : Prop :=
 ACalls Tryd.prog 22 [a0] H fun t17_0 H_1 =>
 bnd (aExtract t17_0 0) fun t18_2 =>
 bnd (aExtract t17_0 1) fun t19_3 =>
 ACalls Tryd.prog 23 [a0] H_1 fun t22_4 H_5 =>
 (S8_96 a0 a1 R t18_2 t19_3 t22_4 H_5)
theorem S8_calls {a0 a1 : Value} {H : AHeap} {R : Value → AHeap → Prop} (h : S8 a0 a1 H R) : ACalls Tryd.prog 8 [a0, a1] H R :=
  have e : S8 a0 a1 H R = awpFn Tryd.prog (Tryd.f8.body.getD .skip) Tryd.f8.results.toList ann8 [a0, a1] H R := by kernel_rfl
  calls_of_awp (fn := Tryd.f8) (c := Tryd.f8.body.getD .skip) (an := ann8) (by kernel_rfl) Tryd.func8 (by kernel_rfl) (by kernel_rfl) (of_decide_eq_true (by kernel_rfl)) (e ▸ h)

/-- 22: marginalia/utf.Name -/
def ann22 : Ann := (.two .leaf (.two (.two .leaf (.two (.two .leaf .leaf) .leaf)) (.two (.two .leaf (.one (.loop [10] [2, 3, 5, 10, 11, 12, 13, 14, 15, 16, 17, 18, 19] (.two .leaf (.two (.two .leaf .leaf) (.two (.one (.two .leaf (.two .leaf (.two (.two .leaf .leaf) .leaf)))) .leaf)))))) (.two (.two .leaf (.two (.two .leaf .leaf) .leaf)) (.two .leaf .leaf)))))
def S22_18 (a0 : Value) (R : Value → AHeap → Prop) (t9_3 : Value) (vs_4 : List Value) (H_5 : AHeap) (again_6 : List Value → AHeap → Prop) : Prop :=
 bnd (aIdxArr 6 true 2 t9_3 (nth vs_4 0)) fun t12_8 =>
 aAlloc [(.int .i64 0), (.string ⟨#[]⟩)] 53 H_5 fun t5_9 H_10 =>
 bnd (aSt 2 t5_9 t12_8 H_10) fun H_11 =>
 bnd (aAdd 0 t5_9) fun t13_12 =>
 bnd (aLdCell t13_12 H_11) fun t14_13 =>
 bnd (aBin .eql .no t14_13 a0) fun t16_14 =>
 aCond t16_14 (
 bnd (aAdd 1 t5_9) fun t17_15 =>
 bnd (aLdCell t17_15 H_11) fun t18_16 =>
 R (.tuple #[t18_16, (.int .i64 0)]) H_11) (
 bnd (aBin .add .no (nth vs_4 0) (.int .i64 1)) fun t19_17 =>
 again_6 [t19_17] H_11)
def S22_25 (a0 : Value) (R : Value → AHeap → Prop) (H_5 : AHeap) : Prop :=
 bnd (aBin .lss .no a0 (.int .i64 32)) fun t21_19 =>
 aCond t21_19 (
 ACalls Tryd.prog 32 [a0, (.int .i64 16)] H_5 fun t23_20 H_21 =>
 bnd (aBin .add .no (.string ⟨#[120]⟩) t23_20) fun t24_22 =>
 R (.tuple #[t24_22, (.int .i64 0)]) H_21) (
 bnd (aConvInt .i32 a0) fun t26_23 =>
 bnd (aRuneStr t26_23) fun t27_24 =>
 R (.tuple #[t27_24, (.int .i64 0)]) H_5)
def S22_26 (a0 : Value) (R : Value → AHeap → Prop) (t9_3 : Value) (vs_4 : List Value) (H_5 : AHeap) (again_6 : List Value → AHeap → Prop) : Prop :=
 bnd (aBin .lss .no (nth vs_4 0) (.int .i64 6)) fun t11_7 =>
 aCond t11_7 (
 (S22_18 a0 R t9_3 vs_4 H_5 again_6)) (
 (S22_25 a0 R H_5))
def S22 (a0 : Value) (H : AHeap) (R : Value → AHeap → Prop) : Prop :=
 ACalls Tryd.prog 14 [a0] H fun t7_0 H_1 =>
 bnd (aUn .not t7_0) fun t8_2 =>
 aCond t8_2 (
 R (.tuple #[(.string ⟨#[]⟩), (.int .i64 1)]) H_1) (
 bnd (aLdAgg 12 (.pointer (some ⟨0, 0, none⟩)) H_1) fun t9_3 =>
 aLoop [(.int .i64 0)] H_1 fun vs_4 H_5 again_6 =>
 (S22_26 a0 R t9_3 vs_4 H_5 again_6))
theorem S22_calls {a0 : Value} {H : AHeap} {R : Value → AHeap → Prop} (h : S22 a0 H R) : ACalls Tryd.prog 22 [a0] H R :=
  have e : S22 a0 H R = awpFn Tryd.prog (Tryd.f22.body.getD .skip) Tryd.f22.results.toList ann22 [a0] H R := by kernel_rfl
  calls_of_awp (fn := Tryd.f22) (c := Tryd.f22.body.getD .skip) (an := ann22) (by kernel_rfl) Tryd.func22 (by kernel_rfl) (by kernel_rfl) (of_decide_eq_true (by kernel_rfl)) (e ▸ h)

/-- 23: marginalia/marginaliaref02.Name -/
def ann23 : Ann := (.two .leaf (.two (.two .leaf (.two (.two .leaf .leaf) .leaf)) (.two (.two .leaf (.one (.two .leaf (.two (.two .leaf .leaf) (.two .leaf (.two (.two .leaf .leaf) (.two .leaf (.two (.two .leaf .leaf) (.two .leaf (.two (.two .leaf .leaf) (.two .leaf (.two (.two .leaf .leaf) (.two .leaf (.two (.two .leaf .leaf) .leaf)))))))))))))) (.two (.two .leaf (.two (.two .leaf .leaf) .leaf)) (.two .leaf .leaf)))))
def S23_16 (a0 : Value) (R : Value → AHeap → Prop) (H_1 : AHeap) : Prop :=
 bnd (aBin .lss .no a0 (.int .i64 32)) fun t21_9 =>
 aCond t21_9 (
 ACalls Tryd.prog 33 [a0] H_1 fun t23_10 H_11 =>
 bnd (aBin .add .no (.string ⟨#[120]⟩) t23_10) fun t24_12 =>
 R (.tuple #[t24_12, (.int .i64 0)]) H_11) (
 ACalls Tryd.prog 31 [a0] H_1 fun t26_13 H_14 =>
 bnd (aBytesStr t26_13 H_14) fun t27_15 =>
 R (.tuple #[t27_15, (.int .i64 0)]) H_14)
def S23_17 (a0 : Value) (R : Value → AHeap → Prop) (H_1 : AHeap) : Prop :=
 bnd (aBin .eql .no a0 (.int .i64 0)) fun t17_7 =>
 aCond t17_7 (
 R (.tuple #[(.string ⟨#[110, 117, 108, 108]⟩), (.int .i64 0)]) H_1) (
 bnd (aBin .eql .no a0 (.int .i64 127)) fun t19_8 =>
 aCond t19_8 (
 R (.tuple #[(.string ⟨#[100, 101, 108, 101, 116, 101]⟩), (.int .i64 0)]) H_1) (
 (S23_16 a0 R H_1)))
def S23_18 (a0 : Value) (R : Value → AHeap → Prop) (H_1 : AHeap) : Prop :=
 bnd (aBin .eql .no a0 (.int .i64 9)) fun t13_5 =>
 aCond t13_5 (
 R (.tuple #[(.string ⟨#[116, 97, 98]⟩), (.int .i64 0)]) H_1) (
 bnd (aBin .eql .no a0 (.int .i64 13)) fun t15_6 =>
 aCond t15_6 (
 R (.tuple #[(.string ⟨#[114, 101, 116, 117, 114, 110]⟩), (.int .i64 0)]) H_1) (
 (S23_17 a0 R H_1)))
def S23_19 (a0 : Value) (R : Value → AHeap → Prop) (H_1 : AHeap) : Prop :=
 bnd (aBin .eql .no a0 (.int .i64 32)) fun t9_3 =>
 aCond t9_3 (
 R (.tuple #[(.string ⟨#[115, 112, 97, 99, 101]⟩), (.int .i64 0)]) H_1) (
 bnd (aBin .eql .no a0 (.int .i64 10)) fun t11_4 =>
 aCond t11_4 (
 R (.tuple #[(.string ⟨#[110, 101, 119, 108, 105, 110, 101]⟩), (.int .i64 0)]) H_1) (
 (S23_18 a0 R H_1)))
def S23 (a0 : Value) (H : AHeap) (R : Value → AHeap → Prop) : Prop :=
 ACalls Tryd.prog 15 [a0] H fun t5_0 H_1 =>
 bnd (aUn .not t5_0) fun t6_2 =>
 aCond t6_2 (
 R (.tuple #[(.string ⟨#[]⟩), (.int .i64 1)]) H_1) (
 (S23_19 a0 R H_1))
theorem S23_calls {a0 : Value} {H : AHeap} {R : Value → AHeap → Prop} (h : S23 a0 H R) : ACalls Tryd.prog 23 [a0] H R :=
  have e : S23 a0 H R = awpFn Tryd.prog (Tryd.f23.body.getD .skip) Tryd.f23.results.toList ann23 [a0] H R := by kernel_rfl
  calls_of_awp (fn := Tryd.f23) (c := Tryd.f23.body.getD .skip) (an := ann23) (by kernel_rfl) Tryd.func23 (by kernel_rfl) (by kernel_rfl) (of_decide_eq_true (by kernel_rfl)) (e ▸ h)

/-- 24: marginalia/utf.Named -/
def ann24 : Ann := (.two .leaf (.two (.two .leaf (.one (.loop [13] [2, 3, 5, 13, 14, 15, 16, 17, 18, 19, 20, 21, 22] (.two .leaf (.two (.two .leaf .leaf) (.two (.one (.two .leaf (.two .leaf (.two (.two .leaf .leaf) .leaf)))) .leaf)))))) (.two (.two .leaf (.two .leaf (.two (.two .leaf .leaf) .leaf))) (.two .leaf (.two (.two .leaf (.two (.two .leaf .leaf) .leaf)) (.two .leaf (.two (.two .leaf (.two (.two .leaf .leaf) .leaf)) (.two .leaf .leaf))))))))
def S24_15 (a0 : Value) (R : Value → AHeap → Prop) (t12_0 : Value) (vs_1 : List Value) (H_2 : AHeap) (again_3 : List Value → AHeap → Prop) : Prop :=
 bnd (aIdxArr 6 true 2 t12_0 (nth vs_1 0)) fun t15_5 =>
 aAlloc [(.int .i64 0), (.string ⟨#[]⟩)] 53 H_2 fun t5_6 H_7 =>
 bnd (aSt 2 t5_6 t15_5 H_7) fun H_8 =>
 bnd (aAdd 1 t5_6) fun t16_9 =>
 bnd (aLdCell t16_9 H_8) fun t17_10 =>
 bnd (aBin .eql .no t17_10 a0) fun t19_11 =>
 aCond t19_11 (
 bnd (aAdd 0 t5_6) fun t20_12 =>
 bnd (aLdCell t20_12 H_8) fun t21_13 =>
 R (.tuple #[t21_13, (.bool true)]) H_8) (
 bnd (aBin .add .no (nth vs_1 0) (.int .i64 1)) fun t22_14 =>
 again_3 [t22_14] H_8)
def S24_124 (R : Value → AHeap → Prop) (t65_97 : Value) (H_98 : AHeap) : Prop :=
 bnd (aExtract t65_97 0) fun t66_99 =>
 bnd (aExtract t65_97 1) fun t67_100 =>
 bnd (aIfaceNil .neq t67_100) fun t69_101 =>
 aGuardK t69_101 false (fun K_102 H_103 =>
 K_102 t66_99 H_103) (fun t71_104 H_105 =>
 aGuardK t69_101 false (fun K_106 H_107 =>
 bnd (aConvInt .i64 t71_104) fun t72_108 =>
 K_106 t72_108 H_107) (fun t72_109 H_110 =>
 aGuardK t69_101 false (fun K_111 H_112 =>
 ACalls Tryd.prog 14 [t72_109] H_112 fun t73_113 H_114 =>
 K_111 t73_113 H_114) (fun t73_115 H_116 =>
 aGuardK t69_101 false (fun K_117 H_118 =>
 bnd (aUn .not t73_115) fun t74_119 =>
 K_117 t74_119 H_118) (fun t74_120 H_121 =>
 bnd (aPick t69_101 (.bool true) t74_120) fun t75_122 =>
 aCond t75_122 (
 R (.tuple #[(.int .i64 0), (.bool false)]) H_121) (
 bnd (aConvInt .i64 t66_99) fun t77_123 =>
 R (.tuple #[t77_123, (.bool true)]) H_121)) H_116) H_110) H_105) H_98
def S24_125 (R : Value → AHeap → Prop) (t48_61 : Value) (H_62 : AHeap) : Prop :=
 bnd (aExtract t48_61 0) fun t49_63 =>
 bnd (aExtract t48_61 1) fun t50_64 =>
 bnd (aUn .not t50_64) fun t52_65 =>
 aGuardK t52_65 false (fun K_66 H_67 =>
 K_66 t49_63 H_67) (fun t54_68 H_69 =>
 aGuardK t52_65 false (fun K_70 H_71 =>
 bnd (aLenStr t54_68) fun t55_72 =>
 K_70 t55_72 H_71) (fun t55_73 H_74 =>
 aGuardK t52_65 false (fun K_75 H_76 =>
 bnd (aBin .gtr .no t55_73 (.int .i64 6)) fun t56_77 =>
 K_75 t56_77 H_76) (fun t56_78 H_79 =>
 bnd (aPick t52_65 (.bool true) t56_78) fun t57_80 =>
 aGuardK t57_80 false (fun K_81 H_82 =>
 K_81 t49_63 H_82) (fun t59_83 H_84 =>
 aGuardK t57_80 false (fun K_85 H_86 =>
 ACalls Tryd.prog 36 [t59_83, (.string ⟨#[48, 49, 50, 51, 52, 53, 54, 55, 56, 57, 97, 98, 99, 100, 101, 102, 65, 66, 67, 68, 69, 70]⟩)] H_86 fun t60_87 H_88 =>
 K_85 t60_87 H_88) (fun t60_89 H_90 =>
 aGuardK t57_80 false (fun K_91 H_92 =>
 bnd (aBin .neq .no t60_89 (.string ⟨#[]⟩)) fun t61_93 =>
 K_91 t61_93 H_92) (fun t61_94 H_95 =>
 bnd (aPick t57_80 (.bool true) t61_94) fun t62_96 =>
 aCond t62_96 (
 R (.tuple #[(.int .i64 0), (.bool false)]) H_95) (
 ACalls Tryd.prog 37 [t49_63, (.int .i64 16), (.int .i64 32)] H_95 fun t65_97 H_98 =>
 (S24_124 R t65_97 H_98))) H_90) H_84) H_79) H_74) H_69) H_62
def S24_126 (a0 : Value) (R : Value → AHeap → Prop) (t25_16 : Value) (H_17 : AHeap) : Prop :=
 bnd (aExtract t25_16 0) fun t26_18 =>
 bnd (aExtract t25_16 1) fun t27_19 =>
 bnd (aLenStr a0) fun t30_20 =>
 bnd (aBin .eql .no t27_19 t30_20) fun t31_21 =>
 aGuardK t31_21 true (fun K_22 H_23 =>
 K_22 t27_19 H_23) (fun t33_24 H_25 =>
 aGuardK t31_21 true (fun K_26 H_27 =>
 bnd (aBin .gtr .no t33_24 (.int .i64 0)) fun t34_28 =>
 K_26 t34_28 H_27) (fun t34_29 H_30 =>
 bnd (aPick t31_21 t34_29 (.bool false)) fun t35_31 =>
 aGuardK t35_31 true (fun K_32 H_33 =>
 K_32 t26_18 H_33) (fun t37_34 H_35 =>
 aGuardK t35_31 true (fun K_36 H_37 =>
 bnd (aBin .neq .no t37_34 (.int .i32 65533)) fun t38_38 =>
 K_36 t38_38 H_37) (fun t38_39 H_40 =>
 aGuardK t35_31 true (fun K_41 H_42 =>
 K_41 t38_39 H_42) (fun t39_43 H_44 =>
 aGuardK t39_43 false (fun K_45 H_46 =>
 K_45 t27_19 H_46) (fun t40_47 H_48 =>
 aGuardK t39_43 false (fun K_49 H_50 =>
 bnd (aBin .gtr .no t40_47 (.int .i64 1)) fun t41_51 =>
 K_49 t41_51 H_50) (fun t41_52 H_53 =>
 aGuardK t35_31 true (fun K_54 H_55 =>
 bnd (aPick t39_43 (.bool true) t41_52) fun t42_56 =>
 K_54 t42_56 H_55) (fun t42_57 H_58 =>
 bnd (aPick t35_31 t42_57 (.bool false)) fun t43_59 =>
 aCond t43_59 (
 bnd (aConvInt .i64 t26_18) fun t45_60 =>
 R (.tuple #[t45_60, (.bool true)]) H_58) (
 ACalls Tryd.prog 35 [a0, (.string ⟨#[120]⟩)] H_58 fun t48_61 H_62 =>
 (S24_125 R t48_61 H_62))) H_53) H_48) H_44) H_40) H_35) H_30) H_25) H_17
def S24_127 (a0 : Value) (R : Value → AHeap → Prop) (t12_0 : Value) (vs_1 : List Value) (H_2 : AHeap) (again_3 : List Value → AHeap → Prop) : Prop :=
 bnd (aBin .lss .no (nth vs_1 0) (.int .i64 6)) fun t14_4 =>
 aCond t14_4 (
 (S24_15 a0 R t12_0 vs_1 H_2 again_3)) (
 ACalls Tryd.prog 34 [a0] H_2 fun t25_16 H_17 =>
 (S24_126 a0 R t25_16 H_17))
def S24 (a0 : Value) (H : AHeap) (R : Value → AHeap → Prop) : Prop :=
 bnd (aLdAgg 12 (.pointer (some ⟨0, 0, none⟩)) H) fun t12_0 =>
 aLoop [(.int .i64 0)] H fun vs_1 H_2 again_3 =>
 (S24_127 a0 R t12_0 vs_1 H_2 again_3)
theorem S24_calls {a0 : Value} {H : AHeap} {R : Value → AHeap → Prop} (h : S24 a0 H R) : ACalls Tryd.prog 24 [a0] H R :=
  have e : S24 a0 H R = awpFn Tryd.prog (Tryd.f24.body.getD .skip) Tryd.f24.results.toList ann24 [a0] H R := by kernel_rfl
  calls_of_awp (fn := Tryd.f24) (c := Tryd.f24.body.getD .skip) (an := ann24) (by kernel_rfl) Tryd.func24 (by kernel_rfl) (by kernel_rfl) (of_decide_eq_true (by kernel_rfl)) (e ▸ h)

/-- 25: marginalia/marginaliaref02.Named -/
def ann25 : Ann := (.two .leaf (.two (.two .leaf (.one (.two .leaf (.two (.two .leaf .leaf) (.two .leaf (.two (.two .leaf .leaf) (.two .leaf (.two (.two .leaf .leaf) (.two .leaf (.two (.two .leaf .leaf) (.two .leaf (.two (.two .leaf .leaf) (.two .leaf (.two (.two .leaf .leaf) .leaf)))))))))))))) (.two .leaf (.two (.two .leaf (.two (.two .leaf .leaf) .leaf)) (.join [] [2, 3, 6, 36, 37, 38, 39, 40, 41, 42, 43, 44, 45, 46, 47, 48, 49] (.two .leaf (.two (.two .leaf (.two .leaf (.two (.two .leaf .leaf) .leaf))) .leaf)) (.two .leaf .leaf))))))
def S25_54 (a0 : Value) (R : Value → AHeap → Prop) (H_26 : AHeap) : Prop :=
 aJoin (fun vs_30 H_31 =>
 R (.tuple #[(.int .i64 0), (.bool false)]) H_31) fun J_32 =>
 bnd (aLenStr a0) fun t37_33 =>
 bnd (aBin .geq .no t37_33 (.int .i64 2)) fun t38_34 =>
 aGuardK t38_34 true (fun K_35 H_36 =>
 K_35 a0 H_36) (fun t40_37 H_38 =>
 aGuardK t38_34 true (fun K_39 H_40 =>
 bnd (aIdxStr t40_37 (.int .i64 0)) fun t41_41 =>
 K_39 t41_41 H_40) (fun t41_42 H_43 =>
 aGuardK t38_34 true (fun K_44 H_45 =>
 bnd (aBin .eql .no t41_42 (.int .u8 120)) fun t42_46 =>
 K_44 t42_46 H_45) (fun t42_47 H_48 =>
 bnd (aPick t38_34 t42_47 (.bool false)) fun t43_49 =>
 aCond t43_49 (
 bnd (aSliceStr a0 (some (.int .i64 1)) none) fun t45_50 =>
 ACalls Tryd.prog 38 [t45_50] H_48 fun t46_51 H_52 =>
 bnd (aBin .geq .no t46_51 (.int .i64 0)) fun t48_53 =>
 aCond t48_53 (
 R (.tuple #[t46_51, (.bool true)]) H_52) (
 J_32 [] H_52)) (
 J_32 [] H_48)) H_43) H_38) H_26
def S25_55 (a0 : Value) (R : Value → AHeap → Prop) (t23_8 : Value) (H_9 : AHeap) : Prop :=
 bnd (aExtract t23_8 0) fun t24_10 =>
 bnd (aExtract t23_8 1) fun t25_11 =>
 bnd (aBin .lss .no t25_11 (.int .i64 0)) fun t27_12 =>
 aGuardK t27_12 true (fun K_13 H_14 =>
 K_13 t24_10 H_14) (fun t29_15 H_16 =>
 aGuardK t27_12 true (fun K_17 H_18 =>
 bnd (aLenSl t29_15) fun t30_19 =>
 K_17 t30_19 H_18) (fun t30_20 H_21 =>
 aGuardK t27_12 true (fun K_22 H_23 =>
 bnd (aBin .eql .no t30_20 (.int .i64 1)) fun t31_24 =>
 K_22 t31_24 H_23) (fun t31_25 H_26 =>
 bnd (aPick t27_12 t31_25 (.bool false)) fun t32_27 =>
 aCond t32_27 (
 bnd (aIdxAddr 1 t24_10 (.int .i64 0)) fun t34_28 =>
 bnd (aLdCell t34_28 H_26) fun t35_29 =>
 R (.tuple #[t35_29, (.bool true)]) H_26) (
 (S25_54 a0 R H_26))) H_21) H_16) H_9
def S25_56 (a0 : Value) (H : AHeap) (R : Value → AHeap → Prop) : Prop :=
 bnd (aBin .eql .no a0 (.string ⟨#[100, 101, 108, 101, 116, 101]⟩)) fun t19_5 =>
 aCond t19_5 (
 R (.tuple #[(.int .i64 127), (.bool true)]) H) (
 aStrBytes 5 a0 H fun t22_6 H_7 =>
 ACalls Tryd.prog 13 [t22_6] H_7 fun t23_8 H_9 =>
 (S25_55 a0 R t23_8 H_9))
def S25_57 (a0 : Value) (H : AHeap) (R : Value → AHeap → Prop) : Prop :=
 bnd (aBin .eql .no a0 (.string ⟨#[114, 101, 116, 117, 114, 110]⟩)) fun t15_3 =>
 aCond t15_3 (
 R (.tuple #[(.int .i64 13), (.bool true)]) H) (
 bnd (aBin .eql .no a0 (.string ⟨#[110, 117, 108, 108]⟩)) fun t17_4 =>
 aCond t17_4 (
 R (.tuple #[(.int .i64 0), (.bool true)]) H) (
 (S25_56 a0 H R)))
def S25_58 (a0 : Value) (H : AHeap) (R : Value → AHeap → Prop) : Prop :=
 bnd (aBin .eql .no a0 (.string ⟨#[110, 101, 119, 108, 105, 110, 101]⟩)) fun t11_1 =>
 aCond t11_1 (
 R (.tuple #[(.int .i64 10), (.bool true)]) H) (
 bnd (aBin .eql .no a0 (.string ⟨#[116, 97, 98]⟩)) fun t13_2 =>
 aCond t13_2 (
 R (.tuple #[(.int .i64 9), (.bool true)]) H) (
 (S25_57 a0 H R)))
def S25 (a0 : Value) (H : AHeap) (R : Value → AHeap → Prop) : Prop :=
 bnd (aBin .eql .no a0 (.string ⟨#[115, 112, 97, 99, 101]⟩)) fun t9_0 =>
 aCond t9_0 (
 R (.tuple #[(.int .i64 32), (.bool true)]) H) (
 (S25_58 a0 H R))
theorem S25_calls {a0 : Value} {H : AHeap} {R : Value → AHeap → Prop} (h : S25 a0 H R) : ACalls Tryd.prog 25 [a0] H R :=
  have e : S25 a0 H R = awpFn Tryd.prog (Tryd.f25.body.getD .skip) Tryd.f25.results.toList ann25 [a0] H R := by kernel_rfl
  calls_of_awp (fn := Tryd.f25) (c := Tryd.f25.body.getD .skip) (an := ann25) (by kernel_rfl) Tryd.func25 (by kernel_rfl) (by kernel_rfl) (of_decide_eq_true (by kernel_rfl)) (e ▸ h)

/-- 32: strconv.FormatInt -/
def ann32 : Ann := (.two .leaf (.two .leaf .leaf))
def S32 (a0 : Value) (a1 : Value) (H : AHeap) (R : Value → AHeap → Prop) : Prop :=
 ACalls Tryd.prog 42 [a0, a1] H fun t7_0 H_1 =>
 R t7_0 H_1
theorem S32_calls {a0 a1 : Value} {H : AHeap} {R : Value → AHeap → Prop} (h : S32 a0 a1 H R) : ACalls Tryd.prog 32 [a0, a1] H R :=
  have e : S32 a0 a1 H R = awpFn Tryd.prog (Tryd.f32.body.getD .skip) Tryd.f32.results.toList ann32 [a0, a1] H R := by kernel_rfl
  calls_of_awp (fn := Tryd.f32) (c := Tryd.f32.body.getD .skip) (an := ann32) (by kernel_rfl) Tryd.func32 (by kernel_rfl) (by kernel_rfl) (of_decide_eq_true (by kernel_rfl)) (e ▸ h)

/-- 33: marginalia/marginaliaref02.hexText -/
def ann33 : Ann := (.two .leaf (.two .leaf (.two (.two .leaf (.two (.two .leaf .leaf) .leaf)) (.two (.draw [(0, []), (1, []), (3, []), (4, []), (5, []), (6, []), (7, []), (8, []), (9, []), (2, []), (10, []), (11, [])]) .leaf))))
def S33_11 (a0 : Value) (H : AHeap) (R : Value → AHeap → Prop) : Prop :=
 bnd (aBin .quo .no a0 (.int .i64 16)) fun t12_3 =>
 bnd (aBin .rem .no a0 (.int .i64 16)) fun t16_4 =>
 bnd (aBin .rem .no a0 (.int .i64 16)) fun t18_5 =>
 bnd (aBin .add .no t18_5 (.int .i64 1)) fun t19_6 =>
 bnd (aSliceStr (.string ⟨#[48, 49, 50, 51, 52, 53, 54, 55, 56, 57, 97, 98, 99, 100, 101, 102]⟩) (some t16_4) (some t19_6)) fun t20_7 =>
 ACalls Tryd.prog 33 [t12_3] H fun t13_8 H_9 =>
 bnd (aBin .add .no t13_8 t20_7) fun t21_10 =>
 R t21_10 H_9
def S33 (a0 : Value) (H : AHeap) (R : Value → AHeap → Prop) : Prop :=
 bnd (aBin .lss .no a0 (.int .i64 16)) fun t5_0 =>
 aCond t5_0 (
 bnd (aBin .add .no a0 (.int .i64 1)) fun t9_1 =>
 bnd (aSliceStr (.string ⟨#[48, 49, 50, 51, 52, 53, 54, 55, 56, 57, 97, 98, 99, 100, 101, 102]⟩) (some a0) (some t9_1)) fun t10_2 =>
 R t10_2 H) (
 (S33_11 a0 H R))
theorem S33_calls {a0 : Value} {H : AHeap} {R : Value → AHeap → Prop} (h : S33 a0 H R) : ACalls Tryd.prog 33 [a0] H R :=
  have e : S33 a0 H R = awpFn Tryd.prog (Tryd.f33.body.getD .skip) Tryd.f33.results.toList ann33 [a0] H R := by kernel_rfl
  calls_of_awp (fn := Tryd.f33) (c := Tryd.f33.body.getD .skip) (an := ann33) (by kernel_rfl) Tryd.func33 (by kernel_rfl) (by kernel_rfl) (of_decide_eq_true (by kernel_rfl)) (e ▸ h)

/-- 35: strings.CutPrefix -/
def ann35 : Ann := (.two .leaf (.two .leaf .leaf))
def S35 (a0 : Value) (a1 : Value) (H : AHeap) (R : Value → AHeap → Prop) : Prop :=
 ACalls Tryd.prog 44 [a0, a1] H fun t8_0 H_1 =>
 bnd (aExtract t8_0 0) fun t9_2 =>
 bnd (aExtract t8_0 1) fun t10_3 =>
 R (.tuple #[t9_2, t10_3]) H_1
theorem S35_calls {a0 a1 : Value} {H : AHeap} {R : Value → AHeap → Prop} (h : S35 a0 a1 H R) : ACalls Tryd.prog 35 [a0, a1] H R :=
  have e : S35 a0 a1 H R = awpFn Tryd.prog (Tryd.f35.body.getD .skip) Tryd.f35.results.toList ann35 [a0, a1] H R := by kernel_rfl
  calls_of_awp (fn := Tryd.f35) (c := Tryd.f35.body.getD .skip) (an := ann35) (by kernel_rfl) Tryd.func35 (by kernel_rfl) (by kernel_rfl) (of_decide_eq_true (by kernel_rfl)) (e ▸ h)

/-- 36: strings.Trim -/
def ann36 : Ann := (.two .leaf (.two (.two .leaf (.two (.two .leaf .leaf) .leaf)) (.two (.two .leaf (.two (.two (.draw [(0, []), (1, []), (2, []), (4, []), (5, []), (3, []), (6, []), (7, [])]) .leaf) .leaf)) (.two (.two .leaf (.two .leaf (.two (.two .leaf .leaf) .leaf))) (.two .leaf .leaf)))))
def S36_49 (a0 : Value) (a1 : Value) (R : Value → AHeap → Prop) (t31_34 : Value) (H_35 : AHeap) : Prop :=
 bnd (aExtract t31_34 0) fun t32_36 =>
 bnd (aExtract t31_34 1) fun t33_37 =>
 aAlloc [(.bool false), (.bool false), (.bool false), (.bool false), (.bool false), (.bool false), (.bool false), (.bool false), (.bool false), (.bool false), (.bool false), (.bool false), (.bool false), (.bool false), (.bool false), (.bool false), (.bool false), (.bool false), (.bool false), (.bool false), (.bool false), (.bool false), (.bool false), (.bool false), (.bool false), (.bool false), (.bool false), (.bool false), (.bool false), (.bool false), (.bool false), (.bool false), (.bool false), (.bool false), (.bool false), (.bool false), (.bool false), (.bool false), (.bool false), (.bool false), (.bool false), (.bool false), (.bool false), (.bool false), (.bool false), (.bool false), (.bool false), (.bool false), (.bool false), (.bool false), (.bool false), (.bool false), (.bool false), (.bool false), (.bool false), (.bool false), (.bool false), (.bool false), (.bool false), (.bool false), (.bool false), (.bool false), (.bool false), (.bool false), (.bool false), (.bool false), (.bool false), (.bool false), (.bool false), (.bool false), (.bool false), (.bool false), (.bool false), (.bool false), (.bool false), (.bool false), (.bool false), (.bool false), (.bool false), (.bool false), (.bool false), (.bool false), (.bool false), (.bool false), (.bool false), (.bool false), (.bool false), (.bool false), (.bool false), (.bool false), (.bool false), (.bool false), (.bool false), (.bool false), (.bool false), (.bool false), (.bool false), (.bool false), (.bool false), (.bool false), (.bool false), (.bool false), (.bool false), (.bool false), (.bool false), (.bool false), (.bool false), (.bool false), (.bool false), (.bool false), (.bool false), (.bool false), (.bool false), (.bool false), (.bool false), (.bool false), (.bool false), (.bool false), (.bool false), (.bool false), (.bool false), (.bool false), (.bool false), (.bool false), (.bool false), (.bool false), (.bool false), (.bool false), (.bool false), (.bool false), (.bool false), (.bool false), (.bool false), (.bool false), (.bool false), (.bool false), (.bool false), (.bool false), (.bool false), (.bool false), (.bool false), (.bool false), (.bool false), (.bool false), (.bool false), (.bool false), (.bool false), (.bool false), (.bool false), (.bool false), (.bool false), (.bool false), (.bool false), (.bool false), (.bool false), (.bool false), (.bool false), (.bool false), (.bool false), (.bool false), (.bool false), (.bool false), (.bool false), (.bool false), (.bool false), (.bool false), (.bool false), (.bool false), (.bool false), (.bool false), (.bool false), (.bool false), (.bool false), (.bool false), (.bool false), (.bool false), (.bool false), (.bool false), (.bool false), (.bool false), (.bool false), (.bool false), (.bool false), (.bool false), (.bool false), (.bool false), (.bool false), (.bool false), (.bool false), (.bool false), (.bool false), (.bool false), (.bool false), (.bool false), (.bool false), (.bool false), (.bool false), (.bool false), (.bool false), (.bool false), (.bool false), (.bool false), (.bool false), (.bool false), (.bool false), (.bool false), (.bool false), (.bool false), (.bool false), (.bool false), (.bool false), (.bool false), (.bool false), (.bool false), (.bool false), (.bool false), (.bool false), (.bool false), (.bool false), (.bool false), (.bool false), (.bool false), (.bool false), (.bool false), (.bool false), (.bool false), (.bool false), (.bool false), (.bool false), (.bool false), (.bool false), (.bool false), (.bool false), (.bool false), (.bool false), (.bool false), (.bool false), (.bool false), (.bool false), (.bool false), (.bool false), (.bool false), (.bool false), (.bool false), (.bool false), (.bool false), (.bool false), (.bool false), (.bool false), (.bool false), (.bool false), (.bool false), (.bool false), (.bool false), (.bool false), (.bool false)] 70 H_35 fun t5_38 H_39 =>
 bnd (aSt 256 t5_38 t32_36 H_39) fun H_40 =>
 aCond t33_37 (
 ACalls Tryd.prog 49 [a0, t5_38] H_40 fun t36_41 H_42 =>
 ACalls Tryd.prog 48 [t36_41, t5_38] H_42 fun t37_43 H_44 =>
 R t37_43 H_44) (
 ACalls Tryd.prog 51 [a0, a1] H_40 fun t40_45 H_46 =>
 ACalls Tryd.prog 50 [t40_45, a1] H_46 fun t42_47 H_48 =>
 R t42_47 H_48)
def S36_50 (a0 : Value) (a1 : Value) (R : Value → AHeap → Prop) (H_9 : AHeap) : Prop :=
 bnd (aLenStr a1) fun t15_11 =>
 bnd (aBin .eql .no t15_11 (.int .i64 1)) fun t16_12 =>
 aGuardK t16_12 true (fun K_13 H_14 =>
 K_13 a1 H_14) (fun t18_15 H_16 =>
 aGuardK t16_12 true (fun K_17 H_18 =>
 bnd (aIdxStr t18_15 (.int .i64 0)) fun t19_19 =>
 K_17 t19_19 H_18) (fun t19_20 H_21 =>
 aGuardK t16_12 true (fun K_22 H_23 =>
 bnd (aBin .lss .no t19_20 (.int .u8 128)) fun t20_24 =>
 K_22 t20_24 H_23) (fun t20_25 H_26 =>
 bnd (aPick t16_12 t20_25 (.bool false)) fun t21_27 =>
 aCond t21_27 (
 bnd (aIdxStr a1 (.int .i64 0)) fun t24_28 =>
 bnd (aIdxStr a1 (.int .i64 0)) fun t27_29 =>
 ACalls Tryd.prog 46 [a0, t24_28] H_26 fun t25_30 H_31 =>
 ACalls Tryd.prog 45 [t25_30, t27_29] H_31 fun t28_32 H_33 =>
 R t28_32 H_33) (
 ACalls Tryd.prog 47 [a1] H_26 fun t31_34 H_35 =>
 (S36_49 a0 a1 R t31_34 H_35))) H_21) H_16) H_9
def S36 (a0 : Value) (a1 : Value) (H : AHeap) (R : Value → AHeap → Prop) : Prop :=
 bnd (aBin .eql .no a0 (.string ⟨#[]⟩)) fun t8_0 =>
 aGuardK t8_0 false (fun K_1 H_2 =>
 K_1 a1 H_2) (fun t10_3 H_4 =>
 aGuardK t8_0 false (fun K_5 H_6 =>
 bnd (aBin .eql .no t10_3 (.string ⟨#[]⟩)) fun t11_7 =>
 K_5 t11_7 H_6) (fun t11_8 H_9 =>
 bnd (aPick t8_0 (.bool true) t11_8) fun t12_10 =>
 aCond t12_10 (
 R a0 H_9) (
 (S36_50 a0 a1 R H_9))) H_4) H
theorem S36_calls {a0 a1 : Value} {H : AHeap} {R : Value → AHeap → Prop} (h : S36 a0 a1 H R) : ACalls Tryd.prog 36 [a0, a1] H R :=
  have e : S36 a0 a1 H R = awpFn Tryd.prog (Tryd.f36.body.getD .skip) Tryd.f36.results.toList ann36 [a0, a1] H R := by kernel_rfl
  calls_of_awp (fn := Tryd.f36) (c := Tryd.f36.body.getD .skip) (an := ann36) (by kernel_rfl) Tryd.func36 (by kernel_rfl) (by kernel_rfl) (of_decide_eq_true (by kernel_rfl)) (e ▸ h)

/-- 37: strconv.ParseUint -/
def ann37 : Ann := (.two .leaf (.two .leaf (.two (.two .leaf (.two (.two .leaf .leaf) .leaf)) (.two .leaf .leaf))))
def S37 (a0 : Value) (a1 : Value) (a2 : Value) (H : AHeap) (R : Value → AHeap → Prop) : Prop :=
 ACalls Tryd.prog 52 [a0, a1, a2] H fun t14_0 H_1 =>
 bnd (aExtract t14_0 0) fun t15_2 =>
 bnd (aExtract t14_0 1) fun t16_3 =>
 bnd (aIfaceNil .neq t16_3) fun t18_4 =>
 aCond t18_4 (
 ACalls Tryd.prog 53 [(.string ⟨#[80, 97, 114, 115, 101, 85, 105, 110, 116]⟩), a0, a1, a2, t16_3] H_1 fun t24_5 H_6 =>
 R (.tuple #[t15_2, t24_5]) H_6) (
 R (.tuple #[t15_2, .nilIface]) H_1)
theorem S37_calls {a0 a1 a2 : Value} {H : AHeap} {R : Value → AHeap → Prop} (h : S37 a0 a1 a2 H R) : ACalls Tryd.prog 37 [a0, a1, a2] H R :=
  have e : S37 a0 a1 a2 H R = awpFn Tryd.prog (Tryd.f37.body.getD .skip) Tryd.f37.results.toList ann37 [a0, a1, a2] H R := by kernel_rfl
  calls_of_awp (fn := Tryd.f37) (c := Tryd.f37.body.getD .skip) (an := ann37) (by kernel_rfl) Tryd.func37 (by kernel_rfl) (by kernel_rfl) (of_decide_eq_true (by kernel_rfl)) (e ▸ h)

/-- 38: marginalia/marginaliaref02.Hex -/
def ann38 : Ann := (.two .leaf (.two (.two .leaf (.two (.two .leaf .leaf) .leaf)) (.two .leaf (.two (.two .leaf (.one (.loop [3, 4] [2, 3, 4, 5, 14, 15, 16, 17, 18, 19, 20, 21, 22, 23, 24, 25, 26, 27, 28, 29, 30, 31, 32, 33, 34, 35, 36, 37, 38, 39, 40, 41, 42, 43, 44, 45, 46, 47, 48, 49, 50, 51, 52, 53, 54, 55, 56, 57, 58, 59, 60, 61] (.two (.two .leaf (.two .leaf .leaf)) (.join [3] [2, 3, 5, 20, 21, 22, 23, 24, 25, 26, 27, 28, 29, 30, 31, 32, 33, 34, 35, 36, 37, 38, 39, 40, 41, 42, 43, 44, 45, 46, 47, 48, 49, 50, 51, 52, 53, 54, 55, 56, 57, 58, 59, 60, 61] (.one (.two .leaf (.one (.two .leaf (.two .leaf (.two .leaf (.two .leaf (.two .leaf (.two .leaf (.two .leaf .leaf)))))))))) .leaf))))) (.two (.two .leaf (.two (.two .leaf .leaf) .leaf)) (.two .leaf .leaf))))))
def S38_72 (R : Value → AHeap → Prop) (vs_17 : List Value) (J_24 : List Value → AHeap → Prop) (t23_27 : Value) (H_51 : AHeap) : Prop :=
 bnd (aBin .geq .no t23_27 (.int .i64 65)) fun t51_57 =>
 aGuardK t51_57 true (fun K_58 H_59 =>
 K_58 t23_27 H_59) (fun t53_60 H_61 =>
 aGuardK t51_57 true (fun K_62 H_63 =>
 bnd (aBin .leq .no t53_60 (.int .i64 70)) fun t54_64 =>
 K_62 t54_64 H_63) (fun t54_65 H_66 =>
 bnd (aPick t51_57 t54_65 (.bool false)) fun t55_67 =>
 aCond t55_67 (
 bnd (aBin .mul .no (nth vs_17 0) (.int .i64 16)) fun t57_68 =>
 bnd (aBin .add .no t57_68 t23_27) fun t59_69 =>
 bnd (aBin .sub .no t59_69 (.int .i64 65)) fun t60_70 =>
 bnd (aBin .add .no t60_70 (.int .i64 10)) fun t61_71 =>
 J_24 [t61_71] H_66) (
 R (.int .i64 (-1)) H_66)) H_61) H_51
def S38_73 (R : Value → AHeap → Prop) (vs_17 : List Value) (J_24 : List Value → AHeap → Prop) (t23_27 : Value) (H_37 : AHeap) : Prop :=
 bnd (aBin .geq .no t23_27 (.int .i64 97)) fun t38_42 =>
 aGuardK t38_42 true (fun K_43 H_44 =>
 K_43 t23_27 H_44) (fun t40_45 H_46 =>
 aGuardK t38_42 true (fun K_47 H_48 =>
 bnd (aBin .leq .no t40_45 (.int .i64 102)) fun t41_49 =>
 K_47 t41_49 H_48) (fun t41_50 H_51 =>
 bnd (aPick t38_42 t41_50 (.bool false)) fun t42_52 =>
 aCond t42_52 (
 bnd (aBin .mul .no (nth vs_17 0) (.int .i64 16)) fun t44_53 =>
 bnd (aBin .add .no t44_53 t23_27) fun t46_54 =>
 bnd (aBin .sub .no t46_54 (.int .i64 97)) fun t47_55 =>
 bnd (aBin .add .no t47_55 (.int .i64 10)) fun t48_56 =>
 J_24 [t48_56] H_51) (
 (S38_72 R vs_17 J_24 t23_27 H_51))) H_46) H_37
def S38_74 (a0 : Value) (R : Value → AHeap → Prop) (vs_17 : List Value) (H_18 : AHeap) (again_19 : List Value → AHeap → Prop) : Prop :=
 aJoin (fun vs_22 H_23 =>
 bnd (aBin .add .no (nth vs_17 1) (.int .i64 1)) fun t19_25 =>
 again_19 [(nth vs_22 0), t19_25] H_23) fun J_24 =>
 bnd (aIdxStr a0 (nth vs_17 1)) fun t22_26 =>
 bnd (aConvInt .i64 t22_26) fun t23_27 =>
 bnd (aBin .geq .no t23_27 (.int .i64 48)) fun t26_28 =>
 aGuardK t26_28 true (fun K_29 H_30 =>
 K_29 t23_27 H_30) (fun t28_31 H_32 =>
 aGuardK t26_28 true (fun K_33 H_34 =>
 bnd (aBin .leq .no t28_31 (.int .i64 57)) fun t29_35 =>
 K_33 t29_35 H_34) (fun t29_36 H_37 =>
 bnd (aPick t26_28 t29_36 (.bool false)) fun t30_38 =>
 aCond t30_38 (
 bnd (aBin .mul .no (nth vs_17 0) (.int .i64 16)) fun t32_39 =>
 bnd (aBin .add .no t32_39 t23_27) fun t34_40 =>
 bnd (aBin .sub .no t34_40 (.int .i64 48)) fun t35_41 =>
 J_24 [t35_41] H_37) (
 (S38_73 R vs_17 J_24 t23_27 H_37))) H_32) H_18
def S38_78 (a0 : Value) (R : Value → AHeap → Prop) (vs_17 : List Value) (H_18 : AHeap) (again_19 : List Value → AHeap → Prop) : Prop :=
 bnd (aLenStr a0) fun t16_20 =>
 bnd (aBin .lss .no (nth vs_17 1) t16_20) fun t17_21 =>
 aCond t17_21 (
 (S38_74 a0 R vs_17 H_18 again_19)) (
 ACalls Tryd.prog 15 [(nth vs_17 0)] H_18 fun t63_75 H_76 =>
 bnd (aUn .not t63_75) fun t64_77 =>
 aCond t64_77 (
 R (.int .i64 (-1)) H_76) (
 R (nth vs_17 0) H_76))
def S38 (a0 : Value) (H : AHeap) (R : Value → AHeap → Prop) : Prop :=
 bnd (aLenStr a0) fun t7_0 =>
 bnd (aBin .lss .no t7_0 (.int .i64 1)) fun t8_1 =>
 aGuardK t8_1 false (fun K_2 H_3 =>
 K_2 a0 H_3) (fun t10_4 H_5 =>
 aGuardK t8_1 false (fun K_6 H_7 =>
 bnd (aLenStr t10_4) fun t11_8 =>
 K_6 t11_8 H_7) (fun t11_9 H_10 =>
 aGuardK t8_1 false (fun K_11 H_12 =>
 bnd (aBin .gtr .no t11_9 (.int .i64 6)) fun t12_13 =>
 K_11 t12_13 H_12) (fun t12_14 H_15 =>
 bnd (aPick t8_1 (.bool true) t12_14) fun t13_16 =>
 aCond t13_16 (
 R (.int .i64 (-1)) H_15) (
 aLoop [(.int .i64 0), (.int .i64 0)] H_15 fun vs_17 H_18 again_19 =>
 (S38_78 a0 R vs_17 H_18 again_19))) H_10) H_5) H
theorem S38_calls {a0 : Value} {H : AHeap} {R : Value → AHeap → Prop} (h : S38 a0 H R) : ACalls Tryd.prog 38 [a0] H R :=
  have e : S38 a0 H R = awpFn Tryd.prog (Tryd.f38.body.getD .skip) Tryd.f38.results.toList ann38 [a0] H R := by kernel_rfl
  calls_of_awp (fn := Tryd.f38) (c := Tryd.f38.body.getD .skip) (an := ann38) (by kernel_rfl) Tryd.func38 (by kernel_rfl) (by kernel_rfl) (of_decide_eq_true (by kernel_rfl)) (e ▸ h)

/-- 42: internal/strconv.FormatInt -/
def ann42 : Ann := (.two .leaf (.two (.two .leaf (.two (.two (.two .leaf (.two (.two .leaf .leaf) .leaf)) (.two .leaf (.two .leaf (.join [6] [6, 22, 23, 24, 25] (.two .leaf (.two .leaf .leaf)) (.two .leaf (.two .leaf (.two (.two .leaf (.two (.two .leaf (.two .leaf .leaf)) .leaf)) (.two .leaf .leaf)))))))) .leaf)) (.two .leaf (.two .leaf .leaf))))
def S42_32 (R : Value → AHeap → Prop) (t5_14 : Value) (t27_20 : Value) (H_25 : AHeap) : Prop :=
 bnd (aIdxAddrArr 24 1 t5_14 (.int .i64 0)) fun t35_27 =>
 bnd (aSt 1 t35_27 (.int .u8 45) H_25) fun H_28 =>
 bnd (aBin .add .no (.int .i64 1) t27_20) fun t37_29 =>
 bnd (aSliceArr 24 1 t5_14 none (some t37_29)) fun t38_30 =>
 bnd (aBytesStr t38_30 H_28) fun t39_31 =>
 R t39_31 H_28
def S42_36 (a0 : Value) (R : Value → AHeap → Prop) (t5_14 : Value) (vs_17 : List Value) (t27_20 : Value) (H_21 : AHeap) : Prop :=
 bnd (aBin .add .no (.int .i64 1) t27_20) fun t29_22 =>
 bnd (aSliceArr 24 1 t5_14 (some (.int .i64 1)) (some t29_22)) fun t30_23 =>
 ACalls Tryd.prog 57 [t30_23, (nth vs_17 0)] H_21 fun t32_24 H_25 =>
 bnd (aBin .lss .no a0 (.int .i64 0)) fun t34_26 =>
 aCond t34_26 (
 (S42_32 R t5_14 t27_20 H_25)) (
 bnd (aBin .add .no (.int .i64 1) t27_20) fun t41_33 =>
 bnd (aSliceArr 24 1 t5_14 (some (.int .i64 1)) (some t41_33)) fun t42_34 =>
 bnd (aBytesStr t42_34 H_25) fun t43_35 =>
 R t43_35 H_25)
def S42_39 (a0 : Value) (R : Value → AHeap → Prop) (H_10 : AHeap) : Prop :=
 aAlloc [(.int .u8 0), (.int .u8 0), (.int .u8 0), (.int .u8 0), (.int .u8 0), (.int .u8 0), (.int .u8 0), (.int .u8 0), (.int .u8 0), (.int .u8 0), (.int .u8 0), (.int .u8 0), (.int .u8 0), (.int .u8 0), (.int .u8 0), (.int .u8 0), (.int .u8 0), (.int .u8 0), (.int .u8 0), (.int .u8 0), (.int .u8 0), (.int .u8 0), (.int .u8 0), (.int .u8 0)] 81 H_10 fun t5_14 H_15 =>
 bnd (aConvInt .u64 a0) fun t21_16 =>
 aJoin (fun vs_17 H_18 =>
 ACalls Tryd.prog 56 [(nth vs_17 0)] H_18 fun t27_20 H_21 =>
 (S42_36 a0 R t5_14 vs_17 t27_20 H_21)) fun J_19 =>
 bnd (aBin .lss .no a0 (.int .i64 0)) fun t23_37 =>
 aCond t23_37 (
 bnd (aUn .neg t21_16) fun t25_38 =>
 J_19 [t25_38] H_15) (
 J_19 [t21_16] H_15)
def S42_40 (a0 : Value) (H : AHeap) (R : Value → AHeap → Prop) : Prop :=
 bnd (aBin .leq .no (.int .i64 0) a0) fun t13_1 =>
 aGuardK t13_1 true (fun K_2 H_3 =>
 K_2 a0 H_3) (fun t15_4 H_5 =>
 aGuardK t13_1 true (fun K_6 H_7 =>
 bnd (aBin .lss .no t15_4 (.int .i64 100)) fun t16_8 =>
 K_6 t16_8 H_7) (fun t16_9 H_10 =>
 bnd (aPick t13_1 t16_9 (.bool false)) fun t17_11 =>
 aCond t17_11 (
 ACalls Tryd.prog 55 [a0] H_10 fun t19_12 H_13 =>
 R t19_12 H_13) (
 (S42_39 a0 R H_10))) H_5) H
def S42_47 (a0 : Value) (a1 : Value) (H : AHeap) (R : Value → AHeap → Prop) : Prop :=
 bnd (aConvInt .u64 a0) fun t46_41 =>
 bnd (aBin .lss .no a0 (.int .i64 0)) fun t49_42 =>
 ACalls Tryd.prog 58 [(.slice none 0 0), t46_41, a1, t49_42, (.bool false)] H fun t50_43 H_44 =>
 bnd (aExtract t50_43 0) fun t51_45 =>
 bnd (aExtract t50_43 1) fun t52_46 =>
 R t52_46 H_44
def S42 (a0 : Value) (a1 : Value) (H : AHeap) (R : Value → AHeap → Prop) : Prop :=
 bnd (aBin .eql .no a1 (.int .i64 10)) fun t11_0 =>
 aCond t11_0 (
 (S42_40 a0 H R)) (
 (S42_47 a0 a1 H R))
theorem S42_calls {a0 a1 : Value} {H : AHeap} {R : Value → AHeap → Prop} (h : S42 a0 a1 H R) : ACalls Tryd.prog 42 [a0, a1] H R :=
  have e : S42 a0 a1 H R = awpFn Tryd.prog (Tryd.f42.body.getD .skip) Tryd.f42.results.toList ann42 [a0, a1] H R := by kernel_rfl
  calls_of_awp (fn := Tryd.f42) (c := Tryd.f42.body.getD .skip) (an := ann42) (by kernel_rfl) Tryd.func42 (by kernel_rfl) (by kernel_rfl) (of_decide_eq_true (by kernel_rfl)) (e ▸ h)

/-- 44: internal/stringslite.CutPrefix -/
def ann44 : Ann := (.two .leaf (.two (.two .leaf (.two (.two .leaf .leaf) .leaf)) (.two .leaf .leaf)))
def S44 (a0 : Value) (a1 : Value) (H : AHeap) (R : Value → AHeap → Prop) : Prop :=
 ACalls Tryd.prog 59 [a0, a1] H fun t8_0 H_1 =>
 bnd (aUn .not t8_0) fun t9_2 =>
 aCond t9_2 (
 R (.tuple #[a0, (.bool false)]) H_1) (
 bnd (aLenStr a1) fun t13_3 =>
 bnd (aSliceStr a0 (some t13_3) none) fun t14_4 =>
 R (.tuple #[t14_4, (.bool true)]) H_1)
theorem S44_calls {a0 a1 : Value} {H : AHeap} {R : Value → AHeap → Prop} (h : S44 a0 a1 H R) : ACalls Tryd.prog 44 [a0, a1] H R :=
  have e : S44 a0 a1 H R = awpFn Tryd.prog (Tryd.f44.body.getD .skip) Tryd.f44.results.toList ann44 [a0, a1] H R := by kernel_rfl
  calls_of_awp (fn := Tryd.f44) (c := Tryd.f44.body.getD .skip) (an := ann44) (by kernel_rfl) Tryd.func44 (by kernel_rfl) (by kernel_rfl) (of_decide_eq_true (by kernel_rfl)) (e ▸ h)

/-- 47: strings.makeASCIISet -/
def ann47 : Ann := (.two .leaf (.two (.two .leaf (.one (.loop [4] [3, 4, 5, 6, 7, 8, 9, 10, 11, 12, 13, 14, 15, 16, 17, 18, 19] (.two (.two .leaf (.two .leaf .leaf)) (.two (.one (.two .leaf (.two (.two .leaf (.two (.two .leaf .leaf) .leaf)) .leaf))) .leaf))))) (.two .leaf .leaf)))
def S47_15 (a0 : Value) (R : Value → AHeap → Prop) (t2_0 : Value) (vs_2 : List Value) (H_3 : AHeap) (again_4 : List Value → AHeap → Prop) : Prop :=
 bnd (aIdxStr a0 (nth vs_2 0)) fun t14_7 =>
 bnd (aBin .geq .no t14_7 (.int .u8 128)) fun t16_8 =>
 aCond t16_8 (
 bnd (aLdAgg 256 t2_0 H_3) fun t17_9 =>
 bnd (aSt 256 t2_0 t17_9 H_3) fun H_10 =>
 bnd (aLdAgg 256 t2_0 H_10) fun r_11 =>
 R (.tuple #[r_11, (.bool false)]) H_10) (
 bnd (aIdxAddrArr 256 1 t2_0 t14_7) fun t19_12 =>
 bnd (aSt 1 t19_12 (.bool true) H_3) fun H_13 =>
 bnd (aBin .add .no (nth vs_2 0) (.int .i64 1)) fun t11_14 =>
 again_4 [t11_14] H_13)
def S47_19 (a0 : Value) (R : Value → AHeap → Prop) (t2_0 : Value) (vs_2 : List Value) (H_3 : AHeap) (again_4 : List Value → AHeap → Prop) : Prop :=
 bnd (aLenStr a0) fun t8_5 =>
 bnd (aBin .lss .no (nth vs_2 0) t8_5) fun t9_6 =>
 aCond t9_6 (
 (S47_15 a0 R t2_0 vs_2 H_3 again_4)) (
 bnd (aLdAgg 256 t2_0 H_3) fun t20_16 =>
 bnd (aSt 256 t2_0 t20_16 H_3) fun H_17 =>
 bnd (aLdAgg 256 t2_0 H_17) fun r_18 =>
 R (.tuple #[r_18, (.bool true)]) H_17)
def S47 (a0 : Value) (H : AHeap) (R : Value → AHeap → Prop) : Prop :=
 aAlloc [(.bool false), (.bool false), (.bool false), (.bool false), (.bool false), (.bool false), (.bool false), (.bool false), (.bool false), (.bool false), (.bool false), (.bool false), (.bool false), (.bool false), (.bool false), (.bool false), (.bool false), (.bool false), (.bool false), (.bool false), (.bool false), (.bool false), (.bool false), (.bool false), (.bool false), (.bool false), (.bool false), (.bool false), (.bool false), (.bool false), (.bool false), (.bool false), (.bool false), (.bool false), (.bool false), (.bool false), (.bool false), (.bool false), (.bool false), (.bool false), (.bool false), (.bool false), (.bool false), (.bool false), (.bool false), (.bool false), (.bool false), (.bool false), (.bool false), (.bool false), (.bool false), (.bool false), (.bool false), (.bool false), (.bool false), (.bool false), (.bool false), (.bool false), (.bool false), (.bool false), (.bool false), (.bool false), (.bool false), (.bool false), (.bool false), (.bool false), (.bool false), (.bool false), (.bool false), (.bool false), (.bool false), (.bool false), (.bool false), (.bool false), (.bool false), (.bool false), (.bool false), (.bool false), (.bool false), (.bool false), (.bool false), (.bool false), (.bool false), (.bool false), (.bool false), (.bool false), (.bool false), (.bool false), (.bool false), (.bool false), (.bool false), (.bool false), (.bool false), (.bool false), (.bool false), (.bool false), (.bool false), (.bool false), (.bool false), (.bool false), (.bool false), (.bool false), (.bool false), (.bool false), (.bool false), (.bool false), (.bool false), (.bool false), (.bool false), (.bool false), (.bool false), (.bool false), (.bool false), (.bool false), (.bool false), (.bool false), (.bool false), (.bool false), (.bool false), (.bool false), (.bool false), (.bool false), (.bool false), (.bool false), (.bool false), (.bool false), (.bool false), (.bool false), (.bool false), (.bool false), (.bool false), (.bool false), (.bool false), (.bool false), (.bool false), (.bool false), (.bool false), (.bool false), (.bool false), (.bool false), (.bool false), (.bool false), (.bool false), (.bool false), (.bool false), (.bool false), (.bool false), (.bool false), (.bool false), (.bool false), (.bool false), (.bool false), (.bool false), (.bool false), (.bool false), (.bool false), (.bool false), (.bool false), (.bool false), (.bool false), (.bool false), (.bool false), (.bool false), (.bool false), (.bool false), (.bool false), (.bool false), (.bool false), (.bool false), (.bool false), (.bool false), (.bool false), (.bool false), (.bool false), (.bool false), (.bool false), (.bool false), (.bool false), (.bool false), (.bool false), (.bool false), (.bool false), (.bool false), (.bool false), (.bool false), (.bool false), (.bool false), (.bool false), (.bool false), (.bool false), (.bool false), (.bool false), (.bool false), (.bool false), (.bool false), (.bool false), (.bool false), (.bool false), (.bool false), (.bool false), (.bool false), (.bool false), (.bool false), (.bool false), (.bool false), (.bool false), (.bool false), (.bool false), (.bool false), (.bool false), (.bool false), (.bool false), (.bool false), (.bool false), (.bool false), (.bool false), (.bool false), (.bool false), (.bool false), (.bool false), (.bool false), (.bool false), (.bool false), (.bool false), (.bool false), (.bool false), (.bool false), (.bool false), (.bool false), (.bool false), (.bool false), (.bool false), (.bool false), (.bool false), (.bool false), (.bool false), (.bool false), (.bool false), (.bool false), (.bool false), (.bool false), (.bool false), (.bool false), (.bool false), (.bool false), (.bool false), (.bool false), (.bool false), (.bool false), (.bool false), (.bool false), (.bool false), (.bool false), (.bool false), (.bool false), (.bool false)] 70 H fun t2_0 H_1 =>
 aLoop [(.int .i64 0)] H_1 fun vs_2 H_3 again_4 =>
 (S47_19 a0 R t2_0 vs_2 H_3 again_4)
theorem S47_calls {a0 : Value} {H : AHeap} {R : Value → AHeap → Prop} (h : S47 a0 H R) : ACalls Tryd.prog 47 [a0] H R :=
  have e : S47 a0 H R = awpFn Tryd.prog (Tryd.f47.body.getD .skip) Tryd.f47.results.toList ann47 [a0] H R := by kernel_rfl
  calls_of_awp (fn := Tryd.f47) (c := Tryd.f47.body.getD .skip) (an := ann47) (by kernel_rfl) Tryd.func47 (by kernel_rfl) (by kernel_rfl) (of_decide_eq_true (by kernel_rfl)) (e ▸ h)

/-- 48: strings.trimLeftASCII -/
def ann48 : Ann := (.two .leaf (.join [0] [0, 5, 6, 7, 8, 9, 10, 11, 12, 13, 14] (.one (.loop [0] [0, 5, 6, 7, 8, 9, 10, 11, 12, 13, 14] (.two (.two .leaf (.two .leaf .leaf)) (.one (.two (.two .leaf (.two .leaf .leaf)) .leaf))))) (.two .leaf .leaf)))
def S48_13 (a1 : Value) (J_2 : List Value → AHeap → Prop) (vs_3 : List Value) (H_4 : AHeap) (again_5 : List Value → AHeap → Prop) : Prop :=
 bnd (aIdxStr (nth vs_3 0) (.int .i64 0)) fun t10_8 =>
 ACalls Tryd.prog 60 [a1, t10_8] H_4 fun t11_9 H_10 =>
 bnd (aUn .not t11_9) fun t12_11 =>
 aCond t12_11 (
 J_2 [(nth vs_3 0)] H_10) (
 bnd (aSliceStr (nth vs_3 0) (some (.int .i64 1)) none) fun t14_12 =>
 again_5 [t14_12] H_10)
def S48_14 (a1 : Value) (J_2 : List Value → AHeap → Prop) (vs_3 : List Value) (H_4 : AHeap) (again_5 : List Value → AHeap → Prop) : Prop :=
 bnd (aLenStr (nth vs_3 0)) fun t6_6 =>
 bnd (aBin .gtr .no t6_6 (.int .i64 0)) fun t7_7 =>
 aCond t7_7 (
 (S48_13 a1 J_2 vs_3 H_4 again_5)) (
 J_2 [(nth vs_3 0)] H_4)
def S48 (a0 : Value) (a1 : Value) (H : AHeap) (R : Value → AHeap → Prop) : Prop :=
 aJoin (fun vs_0 H_1 =>
 R (nth vs_0 0) H_1) fun J_2 =>
 aLoop [a0] H fun vs_3 H_4 again_5 =>
 (S48_14 a1 J_2 vs_3 H_4 again_5)
theorem S48_calls {a0 a1 : Value} {H : AHeap} {R : Value → AHeap → Prop} (h : S48 a0 a1 H R) : ACalls Tryd.prog 48 [a0, a1] H R :=
  have e : S48 a0 a1 H R = awpFn Tryd.prog (Tryd.f48.body.getD .skip) Tryd.f48.results.toList ann48 [a0, a1] H R := by kernel_rfl
  calls_of_awp (fn := Tryd.f48) (c := Tryd.f48.body.getD .skip) (an := ann48) (by kernel_rfl) Tryd.func48 (by kernel_rfl) (by kernel_rfl) (of_decide_eq_true (by kernel_rfl)) (e ▸ h)

/-- 49: strings.trimRightASCII -/
def ann49 : Ann := (.two .leaf (.join [0] [0, 5, 6, 7, 8, 9, 10, 11, 12, 13, 14, 15, 16, 17, 18, 19, 20] (.one (.loop [0] [0, 5, 6, 7, 8, 9, 10, 11, 12, 13, 14, 15, 16, 17, 18, 19, 20] (.two (.two .leaf (.two .leaf .leaf)) (.one (.two (.two .leaf (.two .leaf .leaf)) .leaf))))) (.two .leaf .leaf)))
def S49_17 (a1 : Value) (J_2 : List Value → AHeap → Prop) (vs_3 : List Value) (H_4 : AHeap) (again_5 : List Value → AHeap → Prop) : Prop :=
 bnd (aLenStr (nth vs_3 0)) fun t11_8 =>
 bnd (aBin .sub .no t11_8 (.int .i64 1)) fun t12_9 =>
 bnd (aIdxStr (nth vs_3 0) t12_9) fun t13_10 =>
 ACalls Tryd.prog 60 [a1, t13_10] H_4 fun t14_11 H_12 =>
 bnd (aUn .not t14_11) fun t15_13 =>
 aCond t15_13 (
 J_2 [(nth vs_3 0)] H_12) (
 bnd (aLenStr (nth vs_3 0)) fun t18_14 =>
 bnd (aBin .sub .no t18_14 (.int .i64 1)) fun t19_15 =>
 bnd (aSliceStr (nth vs_3 0) none (some t19_15)) fun t20_16 =>
 again_5 [t20_16] H_12)
def S49_18 (a1 : Value) (J_2 : List Value → AHeap → Prop) (vs_3 : List Value) (H_4 : AHeap) (again_5 : List Value → AHeap → Prop) : Prop :=
 bnd (aLenStr (nth vs_3 0)) fun t6_6 =>
 bnd (aBin .gtr .no t6_6 (.int .i64 0)) fun t7_7 =>
 aCond t7_7 (
 (S49_17 a1 J_2 vs_3 H_4 again_5)) (
 J_2 [(nth vs_3 0)] H_4)
def S49 (a0 : Value) (a1 : Value) (H : AHeap) (R : Value → AHeap → Prop) : Prop :=
 aJoin (fun vs_0 H_1 =>
 R (nth vs_0 0) H_1) fun J_2 =>
 aLoop [a0] H fun vs_3 H_4 again_5 =>
 (S49_18 a1 J_2 vs_3 H_4 again_5)
theorem S49_calls {a0 a1 : Value} {H : AHeap} {R : Value → AHeap → Prop} (h : S49 a0 a1 H R) : ACalls Tryd.prog 49 [a0, a1] H R :=
  have e : S49 a0 a1 H R = awpFn Tryd.prog (Tryd.f49.body.getD .skip) Tryd.f49.results.toList ann49 [a0, a1] H R := by kernel_rfl
  calls_of_awp (fn := Tryd.f49) (c := Tryd.f49.body.getD .skip) (an := ann49) (by kernel_rfl) Tryd.func49 (by kernel_rfl) (by kernel_rfl) (of_decide_eq_true (by kernel_rfl)) (e ▸ h)

/-- 52: internal/strconv.ParseUint -/
def ann52 : Ann := (.two .leaf (.two (.two .leaf (.two (.two .leaf .leaf) .leaf)) (.two .leaf (.two .leaf (.join [0, 1] [0, 1, 6, 7, 24, 25, 26, 27, 28, 29, 30, 31, 32, 33, 34, 35, 36, 37, 38, 39, 40, 41, 42, 43, 44, 45, 46, 47, 48, 49, 50, 51, 52, 53, 54, 55, 56, 57, 58, 59, 60, 61, 62, 63, 64, 65, 66, 67, 68, 69, 70, 71, 72, 73, 74, 75] (.one (.two .leaf (.two .leaf (.two .leaf (.two (.two .leaf (.two .leaf (.two (.one (.two .leaf (.two (.two .leaf .leaf) (.two .leaf (.two (.two .leaf .leaf) (.two .leaf (.two (.two .leaf .leaf) (.two .leaf .leaf)))))))) .leaf))) (.two .leaf .leaf)))))) (.join [2] [2, 6, 7, 76, 77, 78, 79, 80, 81, 82, 83, 84] (.two .leaf (.two .leaf (.two .leaf (.two (.two .leaf .leaf) .leaf)))) (.two .leaf (.join [10] [10, 85, 86, 87, 88, 89, 90, 91, 92, 93] (.two .leaf (.one (.two .leaf (.two .leaf (.two .leaf (.two .leaf .leaf)))))) (.two .leaf (.two .leaf (.two .leaf (.two (.two .leaf (.one (.loop [12, 13, 101] [6, 7, 12, 13, 15, 16, 17, 101, 102, 103, 104, 105, 106, 107, 108, 109, 110, 111, 112, 113, 114, 115, 116, 117, 118, 119, 120, 121, 122, 123, 124, 125, 126, 127, 128, 129, 130, 131, 132, 133, 134, 135, 136, 137, 138, 139, 140, 141, 142, 143, 144, 145, 146, 147, 148, 149, 150, 151, 152, 153, 154, 155, 156, 157, 158, 159, 160, 161, 162, 163] (.two .leaf (.two (.two .leaf .leaf) (.join [12, 13] [6, 7, 12, 13, 15, 16, 17, 103, 104, 105, 106, 107, 108, 109, 110, 111, 112, 113, 114, 115, 116, 117, 118, 119, 120, 121, 122, 123, 124, 125, 126, 127, 128, 129, 130, 131, 132, 133, 134, 135, 136, 137, 138, 139, 140, 141, 142, 143, 144, 145, 146, 147, 148, 149, 150, 151, 152, 153, 154, 155, 156, 157, 158, 159, 160, 161, 162] (.one (.two .leaf (.two .leaf (.join [12, 16] [6, 7, 12, 16, 105, 106, 107, 108, 109, 110, 111, 112, 113, 114, 115, 116, 117, 118, 119, 120, 121, 122, 123, 124, 125, 126, 127, 128, 129, 130, 131, 132, 133] (.one (.two .leaf (.two (.two .leaf .leaf) (.two .leaf (.two .leaf (.two .leaf (.two .leaf (.two .leaf .leaf)))))))) (.two (.two .leaf (.two (.two .leaf .leaf) .leaf)) (.two (.two .leaf (.two (.two .leaf .leaf) .leaf)) (.two .leaf (.two .leaf (.two (.two .leaf (.two (.two .leaf .leaf) .leaf)) .leaf))))))))) .leaf)))))) (.two (.two .leaf (.two (.two .leaf .leaf) .leaf)) (.two .leaf .leaf))))))))))))))
def S52_52 (vs_2 : List Value) (t97_13 : Value) (vs_17 : List Value) (J_23 : List Value → AHeap → Prop) (vs_27 : List Value) (H_28 : AHeap) : Prop :=
 bnd (aConvInt .u64 (nth vs_2 1)) fun t146_33 =>
 bnd (aBin .mul .no (nth vs_17 1) t146_33) fun t147_34 =>
 bnd (aConvInt .u64 (nth vs_27 1)) fun t150_35 =>
 bnd (aBin .add .no t147_34 t150_35) fun t151_36 =>
 bnd (aBin .lss .no t151_36 t147_34) fun t154_37 =>
 aGuardK t154_37 false (fun K_38 H_39 =>
 K_38 t151_36 H_39) (fun t156_40 H_41 =>
 aGuardK t154_37 false (fun K_42 H_43 =>
 K_42 t97_13 H_43) (fun t157_44 H_45 =>
 aGuardK t154_37 false (fun K_46 H_47 =>
 bnd (aBin .gtr .no t156_40 t157_44) fun t158_48 =>
 K_46 t158_48 H_47) (fun t158_49 H_50 =>
 bnd (aPick t154_37 (.bool true) t158_49) fun t159_51 =>
 aCond t159_51 (
 False) (
 J_23 [(nth vs_27 0), t151_36] H_50)) H_45) H_41) H_28
def S52_94 (vs_17 : List Value) (t104_26 : Value) (J_29 : List Value → AHeap → Prop) (t123_71 : Value) (H_72 : AHeap) : Prop :=
 bnd (aBin .leq .no (.int .u8 97) t123_71) fun t124_73 =>
 aGuardK t124_73 true (fun K_74 H_75 =>
 K_74 t104_26 H_75) (fun t126_76 H_77 =>
 aGuardK t124_73 true (fun K_78 H_79 =>
 ACalls Tryd.prog 63 [t126_76] H_79 fun t127_80 H_81 =>
 K_78 t127_80 H_81) (fun t127_82 H_83 =>
 aGuardK t124_73 true (fun K_84 H_85 =>
 bnd (aBin .leq .no t127_82 (.int .u8 122)) fun t128_86 =>
 K_84 t128_86 H_85) (fun t128_87 H_88 =>
 bnd (aPick t124_73 t128_87 (.bool false)) fun t129_89 =>
 aCond t129_89 (
 ACalls Tryd.prog 63 [t104_26] H_88 fun t131_90 H_91 =>
 bnd (aBin .sub .no t131_90 (.int .u8 97)) fun t132_92 =>
 bnd (aBin .add .no t132_92 (.int .u8 10)) fun t133_93 =>
 J_29 [(nth vs_17 0), t133_93] H_91) (
 False)) H_83) H_77) H_72
def S52_95 (vs_17 : List Value) (t104_26 : Value) (J_29 : List Value → AHeap → Prop) (H_57 : AHeap) : Prop :=
 bnd (aBin .leq .no (.int .u8 48) t104_26) fun t114_59 =>
 aGuardK t114_59 true (fun K_60 H_61 =>
 K_60 t104_26 H_61) (fun t116_62 H_63 =>
 aGuardK t114_59 true (fun K_64 H_65 =>
 bnd (aBin .leq .no t116_62 (.int .u8 57)) fun t117_66 =>
 K_64 t117_66 H_65) (fun t117_67 H_68 =>
 bnd (aPick t114_59 t117_67 (.bool false)) fun t118_69 =>
 aCond t118_69 (
 bnd (aBin .sub .no t104_26 (.int .u8 48)) fun t120_70 =>
 J_29 [(nth vs_17 0), t120_70] H_68) (
 ACalls Tryd.prog 63 [t104_26] H_68 fun t123_71 H_72 =>
 (S52_94 vs_17 t104_26 J_29 t123_71 H_72))) H_63) H_57
def S52_96 (vs_2 : List Value) (vs_8 : List Value) (t97_13 : Value) (vs_17 : List Value) (J_23 : List Value → AHeap → Prop) (vs_27 : List Value) (H_28 : AHeap) : Prop :=
 bnd (aConvInt .u8 (nth vs_2 1)) fun t136_30 =>
 bnd (aBin .geq .no (nth vs_27 1) t136_30) fun t137_31 =>
 aCond t137_31 (
 False) (
 bnd (aBin .geq .no (nth vs_17 1) (nth vs_8 0)) fun t141_32 =>
 aCond t141_32 (
 False) (
 (S52_52 vs_2 t97_13 vs_17 J_23 vs_27 H_28)))
def S52_97 (t22_1 : Value) (vs_2 : List Value) (vs_8 : List Value) (t97_13 : Value) (t99_14 : Value) (vs_17 : List Value) (H_18 : AHeap) (again_19 : List Value → AHeap → Prop) : Prop :=
 aJoin (fun vs_21 H_22 =>
 bnd (aBin .add .no (nth vs_17 2) (.int .i64 1)) fun t163_24 =>
 again_19 [(nth vs_21 0), (nth vs_21 1), t163_24] H_22) fun J_23 =>
 bnd (aIdxAddr 1 t99_14 (nth vs_17 2)) fun t103_25 =>
 bnd (aLdCell t103_25 H_18) fun t104_26 =>
 aJoin (fun vs_27 H_28 =>
 (S52_96 vs_2 vs_8 t97_13 vs_17 J_23 vs_27 H_28)) fun J_29 =>
 bnd (aBin .eql .no t104_26 (.int .u8 95)) fun t108_53 =>
 aGuardK t108_53 true (fun K_54 H_55 =>
 K_54 t22_1 H_55) (fun t110_56 H_57 =>
 bnd (aPick t108_53 t110_56 (.bool false)) fun t111_58 =>
 aCond t111_58 (
 J_23 [(.bool true), (nth vs_17 1)] H_57) (
 (S52_95 vs_17 t104_26 J_29 H_57))) H_18
def S52_114 (a0 : Value) (R : Value → AHeap → Prop) (vs_17 : List Value) (H_18 : AHeap) : Prop :=
 aGuardK (nth vs_17 0) true (fun K_98 H_99 =>
 K_98 a0 H_99) (fun t166_100 H_101 =>
 aGuardK (nth vs_17 0) true (fun K_102 H_103 =>
 ACalls Tryd.prog 64 [t166_100] H_103 fun t167_104 H_105 =>
 K_102 t167_104 H_105) (fun t167_106 H_107 =>
 aGuardK (nth vs_17 0) true (fun K_108 H_109 =>
 bnd (aUn .not t167_106) fun t168_110 =>
 K_108 t168_110 H_109) (fun t168_111 H_112 =>
 bnd (aPick (nth vs_17 0) t168_111 (.bool false)) fun t169_113 =>
 aCond t169_113 (
 False) (
 R (.tuple #[(nth vs_17 1), .nilIface]) H_112)) H_107) H_101) H_18
def S52_115 (a0 : Value) (R : Value → AHeap → Prop) (t22_1 : Value) (vs_2 : List Value) (vs_8 : List Value) (t97_13 : Value) (t99_14 : Value) (t100_16 : Value) (vs_17 : List Value) (H_18 : AHeap) (again_19 : List Value → AHeap → Prop) : Prop :=
 bnd (aBin .lss .no (nth vs_17 2) t100_16) fun t102_20 =>
 aCond t102_20 (
 (S52_97 t22_1 vs_2 vs_8 t97_13 t99_14 vs_17 H_18 again_19)) (
 (S52_114 a0 R vs_17 H_18))
def S52_121 (vs_2 : List Value) (H_6 : AHeap) (J_10 : List Value → AHeap → Prop) : Prop :=
 bnd (aBin .eql .no (nth vs_2 1) (.int .i64 16)) fun t93_117 =>
 aCond t93_117 (
 J_10 [(.int .u64 1152921504606846976)] H_6) (
 bnd (aConvInt .u64 (nth vs_2 1)) fun t87_118 =>
 bnd (aBin .quo .no (.int .u64 18446744073709551615) t87_118) fun t88_119 =>
 bnd (aBin .add .no t88_119 (.int .u64 1)) fun t89_120 =>
 J_10 [t89_120] H_6)
def S52_122 (a0 : Value) (R : Value → AHeap → Prop) (t22_1 : Value) (vs_2 : List Value) (vs_5 : List Value) (vs_8 : List Value) (H_9 : AHeap) : Prop :=
 bnd (aConvInt .u64 (nth vs_5 0)) fun t95_11 =>
 bnd (aBin .shl .no (.int .u64 1) t95_11) fun t96_12 =>
 bnd (aBin .sub .no t96_12 (.int .u64 1)) fun t97_13 =>
 aStrBytes 5 (nth vs_2 0) H_9 fun t99_14 H_15 =>
 bnd (aLenSl t99_14) fun t100_16 =>
 aLoop [(.bool false), (.int .u64 0), (.int .i64 0)] H_15 fun vs_17 H_18 again_19 =>
 (S52_115 a0 R t22_1 vs_2 vs_8 t97_13 t99_14 t100_16 vs_17 H_18 again_19)
def S52_135 (a2 : Value) (H_3 : AHeap) (J_7 : List Value → AHeap → Prop) : Prop :=
 bnd (aBin .lss .no a2 (.int .i64 0)) fun t79_124 =>
 aGuardK t79_124 false (fun K_125 H_126 =>
 K_125 a2 H_126) (fun t81_127 H_128 =>
 aGuardK t79_124 false (fun K_129 H_130 =>
 bnd (aBin .gtr .no t81_127 (.int .i64 64)) fun t82_131 =>
 K_129 t82_131 H_130) (fun t82_132 H_133 =>
 bnd (aPick t79_124 (.bool true) t82_132) fun t83_134 =>
 aCond t83_134 (
 False) (
 J_7 [a2] H_133)) H_128) H_3
def S52_136 (a0 : Value) (R : Value → AHeap → Prop) (t22_1 : Value) (vs_2 : List Value) (vs_5 : List Value) (H_6 : AHeap) : Prop :=
 aJoin (fun vs_8 H_9 =>
 (S52_122 a0 R t22_1 vs_2 vs_5 vs_8 H_9)) fun J_10 =>
 bnd (aBin .eql .no (nth vs_2 1) (.int .i64 10)) fun t91_116 =>
 aCond t91_116 (
 J_10 [(.int .u64 1844674407370955162)] H_6) (
 (S52_121 vs_2 H_6 J_10))
def S52_224 (a0 : Value) (J_4 : List Value → AHeap → Prop) (H_196 : AHeap) : Prop :=
 bnd (aLenStr a0) fun t66_199 =>
 bnd (aBin .geq .no t66_199 (.int .i64 3)) fun t67_200 =>
 aGuardK t67_200 true (fun K_201 H_202 =>
 K_201 a0 H_202) (fun t69_203 H_204 =>
 aGuardK t67_200 true (fun K_205 H_206 =>
 bnd (aIdxStr t69_203 (.int .i64 1)) fun t70_207 =>
 K_205 t70_207 H_206) (fun t70_208 H_209 =>
 aGuardK t67_200 true (fun K_210 H_211 =>
 ACalls Tryd.prog 63 [t70_208] H_211 fun t71_212 H_213 =>
 K_210 t71_212 H_213) (fun t71_214 H_215 =>
 aGuardK t67_200 true (fun K_216 H_217 =>
 bnd (aBin .eql .no t71_214 (.int .u8 120)) fun t72_218 =>
 K_216 t72_218 H_217) (fun t72_219 H_220 =>
 bnd (aPick t67_200 t72_219 (.bool false)) fun t73_221 =>
 aCond t73_221 (
 bnd (aSliceStr a0 (some (.int .i64 2)) none) fun t75_222 =>
 J_4 [t75_222, (.int .i64 16)] H_220) (
 bnd (aSliceStr a0 (some (.int .i64 1)) none) fun t39_223 =>
 J_4 [t39_223, (.int .i64 8)] H_220)) H_215) H_209) H_204) H_196
def S52_225 (a0 : Value) (J_4 : List Value → AHeap → Prop) (H_172 : AHeap) : Prop :=
 bnd (aLenStr a0) fun t54_175 =>
 bnd (aBin .geq .no t54_175 (.int .i64 3)) fun t55_176 =>
 aGuardK t55_176 true (fun K_177 H_178 =>
 K_177 a0 H_178) (fun t57_179 H_180 =>
 aGuardK t55_176 true (fun K_181 H_182 =>
 bnd (aIdxStr t57_179 (.int .i64 1)) fun t58_183 =>
 K_181 t58_183 H_182) (fun t58_184 H_185 =>
 aGuardK t55_176 true (fun K_186 H_187 =>
 ACalls Tryd.prog 63 [t58_184] H_187 fun t59_188 H_189 =>
 K_186 t59_188 H_189) (fun t59_190 H_191 =>
 aGuardK t55_176 true (fun K_192 H_193 =>
 bnd (aBin .eql .no t59_190 (.int .u8 111)) fun t60_194 =>
 K_192 t60_194 H_193) (fun t60_195 H_196 =>
 bnd (aPick t55_176 t60_195 (.bool false)) fun t61_197 =>
 aCond t61_197 (
 bnd (aSliceStr a0 (some (.int .i64 2)) none) fun t63_198 =>
 J_4 [t63_198, (.int .i64 8)] H_196) (
 (S52_224 a0 J_4 H_196))) H_191) H_185) H_180) H_172
def S52_226 (a0 : Value) (J_4 : List Value → AHeap → Prop) (H_146 : AHeap) : Prop :=
 bnd (aLenStr a0) fun t42_151 =>
 bnd (aBin .geq .no t42_151 (.int .i64 3)) fun t43_152 =>
 aGuardK t43_152 true (fun K_153 H_154 =>
 K_153 a0 H_154) (fun t45_155 H_156 =>
 aGuardK t43_152 true (fun K_157 H_158 =>
 bnd (aIdxStr t45_155 (.int .i64 1)) fun t46_159 =>
 K_157 t46_159 H_158) (fun t46_160 H_161 =>
 aGuardK t43_152 true (fun K_162 H_163 =>
 ACalls Tryd.prog 63 [t46_160] H_163 fun t47_164 H_165 =>
 K_162 t47_164 H_165) (fun t47_166 H_167 =>
 aGuardK t43_152 true (fun K_168 H_169 =>
 bnd (aBin .eql .no t47_166 (.int .u8 98)) fun t48_170 =>
 K_168 t48_170 H_169) (fun t48_171 H_172 =>
 bnd (aPick t43_152 t48_171 (.bool false)) fun t49_173 =>
 aCond t49_173 (
 bnd (aSliceStr a0 (some (.int .i64 2)) none) fun t51_174 =>
 J_4 [t51_174, (.int .i64 2)] H_172) (
 (S52_225 a0 J_4 H_172))) H_167) H_161) H_156) H_146
def S52_227 (a0 : Value) (a1 : Value) (J_4 : List Value → AHeap → Prop) (H_146 : AHeap) : Prop :=
 bnd (aBin .eql .no a1 (.int .i64 0)) fun t34_148 =>
 aCond t34_148 (
 bnd (aIdxStr a0 (.int .i64 0)) fun t36_149 =>
 bnd (aBin .eql .no t36_149 (.int .u8 48)) fun t37_150 =>
 aCond t37_150 (
 (S52_226 a0 J_4 H_146)) (
 J_4 [a0, (.int .i64 10)] H_146)) (
 False)
def S52_228 (a0 : Value) (a2 : Value) (R : Value → AHeap → Prop) (t22_1 : Value) (vs_2 : List Value) (H_3 : AHeap) : Prop :=
 aJoin (fun vs_5 H_6 =>
 (S52_136 a0 R t22_1 vs_2 vs_5 H_6)) fun J_7 =>
 bnd (aBin .eql .no a2 (.int .i64 0)) fun t77_123 =>
 aCond t77_123 (
 J_7 [(.int .i64 64)] H_3) (
 (S52_135 a2 H_3 J_7))
def S52_229 (a0 : Value) (a1 : Value) (a2 : Value) (H : AHeap) (R : Value → AHeap → Prop) : Prop :=
 bnd (aBin .eql .no a1 (.int .i64 0)) fun t22_1 =>
 aJoin (fun vs_2 H_3 =>
 (S52_228 a0 a2 R t22_1 vs_2 H_3)) fun J_4 =>
 bnd (aBin .leq .no (.int .i64 2) a1) fun t27_137 =>
 aGuardK t27_137 true (fun K_138 H_139 =>
 K_138 a1 H_139) (fun t29_140 H_141 =>
 aGuardK t27_137 true (fun K_142 H_143 =>
 bnd (aBin .leq .no t29_140 (.int .i64 36)) fun t30_144 =>
 K_142 t30_144 H_143) (fun t30_145 H_146 =>
 bnd (aPick t27_137 t30_145 (.bool false)) fun t31_147 =>
 aCond t31_147 (
 J_4 [a0, a1] H_146) (
 (S52_227 a0 a1 J_4 H_146))) H_141) H
def S52 (a0 : Value) (a1 : Value) (a2 : Value) (H : AHeap) (R : Value → AHeap → Prop) : Prop :=
 bnd (aBin .eql .no a0 (.string ⟨#[]⟩)) fun t19_0 =>
 aCond t19_0 (
 False) (
 (S52_229 a0 a1 a2 H R))
theorem S52_calls {a0 a1 a2 : Value} {H : AHeap} {R : Value → AHeap → Prop} (h : S52 a0 a1 a2 H R) : ACalls Tryd.prog 52 [a0, a1, a2] H R :=
  have e : S52 a0 a1 a2 H R = awpFn Tryd.prog (Tryd.f52.body.getD .skip) Tryd.f52.results.toList ann52 [a0, a1, a2] H R := by kernel_rfl
  calls_of_awp (fn := Tryd.f52) (c := Tryd.f52.body.getD .skip) (an := ann52) (by kernel_rfl) Tryd.func52 (by kernel_rfl) (by kernel_rfl) (of_decide_eq_true (by kernel_rfl)) (e ▸ h)

/-- 58: internal/strconv.formatBits -/
def ann58 : Ann := (.two .leaf (.join [] [19, 20, 21, 22, 23, 24, 25, 26, 27, 28, 29] (.two .leaf (.two .leaf .leaf)) (.two .leaf (.two .leaf (.join [1] [1, 30, 31, 32] (.two .leaf (.two .leaf .leaf)) (.join [13] [1, 13, 14, 15, 16, 17, 18, 33, 34, 35, 36, 37, 38, 39, 40, 41, 42, 43, 44, 45, 46, 47, 48, 49, 50, 51, 52, 53, 54, 55, 56, 57, 58, 59, 60, 61, 62, 63, 64, 65, 66, 67, 68, 69, 70, 71, 72, 73, 74, 75, 76, 77, 78, 79, 80, 81, 82, 83, 84, 85, 86, 87, 88] (.two .leaf (.two (.two .leaf (.two .leaf (.two .leaf (.two (.one (.loop [1, 13] [1, 13, 44, 45, 46, 47, 48, 49, 50, 51, 52, 53, 54, 55, 56, 57] (.two (.two .leaf (.two .leaf .leaf)) (.one (.two .leaf (.two .leaf .leaf)))))) (.two .leaf .leaf))))) (.two .leaf (.two (.one (.loop [1, 13] [1, 13, 18, 66, 67, 68, 69, 70, 71, 72, 73, 74, 75, 76, 77, 78, 79, 80, 81, 82] (.two (.two .leaf (.two .leaf .leaf)) (.one (.two .leaf (.two .leaf (.two .leaf .leaf))))))) (.two .leaf .leaf))))) (.join [13] [13, 89, 90, 91, 92, 93] (.two .leaf (.two (.two .leaf .leaf) .leaf)) (.two (.two .leaf (.two (.two .leaf .leaf) .leaf)) (.two .leaf .leaf)))))))))
def S58_22 (a0 : Value) (a4 : Value) (R : Value → AHeap → Prop) (t12_3 : Value) (vs_11 : List Value) (H_12 : AHeap) : Prop :=
 aCond a4 (
 bnd (aSliceArr 65 1 t12_3 (some (nth vs_11 0)) none) fun t97_14 =>
 aAppend 1 1 5 a0 t97_14 H_12 fun t98_15 H_16 =>
 R (.tuple #[t98_15, (.string ⟨#[]⟩)]) H_16) (
 bnd (aSliceArr 65 1 t12_3 (some (nth vs_11 0)) none) fun t100_17 =>
 bnd (aBytesStr t100_17 H_12) fun t101_18 =>
 R (.tuple #[(.slice none 0 0), t101_18]) H_12)
def S58_42 (t12_3 : Value) (t38_28 : Value) (t43_31 : Value) (vs_32 : List Value) (H_33 : AHeap) (again_34 : List Value → AHeap → Prop) : Prop :=
 bnd (aBin .sub .no (nth vs_32 1) (.int .i64 1)) fun t48_36 =>
 bnd (aBin .and .no (nth vs_32 0) t43_31) fun t52_37 =>
 bnd (aIdxStr (.string ⟨#[48, 49, 50, 51, 52, 53, 54, 55, 56, 57, 97, 98, 99, 100, 101, 102, 103, 104, 105, 106, 107, 108, 109, 110, 111, 112, 113, 114, 115, 116, 117, 118, 119, 120, 121, 122]⟩) t52_37) fun t53_38 =>
 bnd (aIdxAddrArr 65 1 t12_3 t48_36) fun t54_39 =>
 bnd (aSt 1 t54_39 t53_38 H_33) fun H_40 =>
 bnd (aBin .shr .no (nth vs_32 0) t38_28) fun t57_41 =>
 again_34 [t57_41, t48_36] H_40
def S58_47 (t12_3 : Value) (J_10 : List Value → AHeap → Prop) (vs_32 : List Value) (H_33 : AHeap) : Prop :=
 bnd (aBin .sub .no (nth vs_32 1) (.int .i64 1)) fun t59_43 =>
 bnd (aIdxStr (.string ⟨#[48, 49, 50, 51, 52, 53, 54, 55, 56, 57, 97, 98, 99, 100, 101, 102, 103, 104, 105, 106, 107, 108, 109, 110, 111, 112, 113, 114, 115, 116, 117, 118, 119, 120, 121, 122]⟩) (nth vs_32 0)) fun t62_44 =>
 bnd (aIdxAddrArr 65 1 t12_3 t59_43) fun t63_45 =>
 bnd (aSt 1 t63_45 t62_44 H_33) fun H_46 =>
 J_10 [t59_43] H_46
def S58_48 (t12_3 : Value) (J_10 : List Value → AHeap → Prop) (t38_28 : Value) (t40_29 : Value) (t43_31 : Value) (vs_32 : List Value) (H_33 : AHeap) (again_34 : List Value → AHeap → Prop) : Prop :=
 bnd (aBin .geq .no (nth vs_32 0) t40_29) fun t46_35 =>
 aCond t46_35 (
 (S58_42 t12_3 t38_28 t43_31 vs_32 H_33 again_34)) (
 (S58_47 t12_3 J_10 vs_32 H_33))
def S58_49 (a2 : Value) (t12_3 : Value) (vs_5 : List Value) (J_10 : List Value → AHeap → Prop) (H_24 : AHeap) : Prop :=
 bnd (aConvInt .u64 a2) fun t36_25 =>
 ACalls Tryd.prog 73 [t36_25] H_24 fun t37_26 H_27 =>
 bnd (aConvInt .u64 t37_26) fun t38_28 =>
 bnd (aConvInt .u64 a2) fun t40_29 =>
 bnd (aConvInt .u64 a2) fun t42_30 =>
 bnd (aBin .sub .no t42_30 (.int .u64 1)) fun t43_31 =>
 aLoop [(nth vs_5 0), (.int .i64 65)] H_27 fun vs_32 H_33 again_34 =>
 (S58_48 t12_3 J_10 t38_28 t40_29 t43_31 vs_32 H_33 again_34)
def S58_62 (t12_3 : Value) (t65_50 : Value) (vs_51 : List Value) (H_52 : AHeap) (again_53 : List Value → AHeap → Prop) : Prop :=
 bnd (aBin .sub .no (nth vs_51 1) (.int .i64 1)) fun t70_55 =>
 bnd (aBin .quo .no (nth vs_51 0) t65_50) fun t73_56 =>
 bnd (aBin .mul .no t73_56 t65_50) fun t78_57 =>
 bnd (aBin .sub .no (nth vs_51 0) t78_57) fun t79_58 =>
 bnd (aIdxStr (.string ⟨#[48, 49, 50, 51, 52, 53, 54, 55, 56, 57, 97, 98, 99, 100, 101, 102, 103, 104, 105, 106, 107, 108, 109, 110, 111, 112, 113, 114, 115, 116, 117, 118, 119, 120, 121, 122]⟩) t79_58) fun t80_59 =>
 bnd (aIdxAddrArr 65 1 t12_3 t70_55) fun t81_60 =>
 bnd (aSt 1 t81_60 t80_59 H_52) fun H_61 =>
 again_53 [t73_56, t70_55] H_61
def S58_67 (t12_3 : Value) (J_10 : List Value → AHeap → Prop) (vs_51 : List Value) (H_52 : AHeap) : Prop :=
 bnd (aBin .sub .no (nth vs_51 1) (.int .i64 1)) fun t84_63 =>
 bnd (aIdxStr (.string ⟨#[48, 49, 50, 51, 52, 53, 54, 55, 56, 57, 97, 98, 99, 100, 101, 102, 103, 104, 105, 106, 107, 108, 109, 110, 111, 112, 113, 114, 115, 116, 117, 118, 119, 120, 121, 122]⟩) (nth vs_51 0)) fun t87_64 =>
 bnd (aIdxAddrArr 65 1 t12_3 t84_63) fun t88_65 =>
 bnd (aSt 1 t88_65 t87_64 H_52) fun H_66 =>
 J_10 [t84_63] H_66
def S58_68 (t12_3 : Value) (J_10 : List Value → AHeap → Prop) (t65_50 : Value) (vs_51 : List Value) (H_52 : AHeap) (again_53 : List Value → AHeap → Prop) : Prop :=
 bnd (aBin .geq .no (nth vs_51 0) t65_50) fun t68_54 =>
 aCond t68_54 (
 (S58_62 t12_3 t65_50 vs_51 H_52 again_53)) (
 (S58_67 t12_3 J_10 vs_51 H_52))
def S58_69 (a0 : Value) (a3 : Value) (a4 : Value) (R : Value → AHeap → Prop) (t12_3 : Value) (vs_8 : List Value) (H_9 : AHeap) : Prop :=
 aJoin (fun vs_11 H_12 =>
 (S58_22 a0 a4 R t12_3 vs_11 H_12)) fun J_13 =>
 aCond a3 (
 bnd (aBin .sub .no (nth vs_8 0) (.int .i64 1)) fun t91_19 =>
 bnd (aIdxAddrArr 65 1 t12_3 t91_19) fun t93_20 =>
 bnd (aSt 1 t93_20 (.int .u8 45) H_9) fun H_21 =>
 J_13 [t91_19] H_21) (
 J_13 [(nth vs_8 0)] H_9)
def S58_71 (a0 : Value) (a2 : Value) (a3 : Value) (a4 : Value) (R : Value → AHeap → Prop) (t12_3 : Value) (vs_5 : List Value) (H_6 : AHeap) : Prop :=
 aJoin (fun vs_8 H_9 =>
 (S58_69 a0 a3 a4 R t12_3 vs_8 H_9)) fun J_10 =>
 ACalls Tryd.prog 72 [a2] H_6 fun t34_23 H_24 =>
 aCond t34_23 (
 (S58_49 a2 t12_3 vs_5 J_10 H_24)) (
 bnd (aConvInt .u64 a2) fun t65_50 =>
 aLoop [(nth vs_5 0), (.int .i64 65)] H_24 fun vs_51 H_52 again_53 =>
 (S58_68 t12_3 J_10 t65_50 vs_51 H_52 again_53))
def S58_93 (a0 : Value) (a1 : Value) (a2 : Value) (a3 : Value) (a4 : Value) (R : Value → AHeap → Prop) (H_1 : AHeap) : Prop :=
 aAlloc [(.int .u8 0), (.int .u8 0), (.int .u8 0), (.int .u8 0), (.int .u8 0), (.int .u8 0), (.int .u8 0), (.int .u8 0), (.int .u8 0), (.int .u8 0), (.int .u8 0), (.int .u8 0), (.int .u8 0), (.int .u8 0), (.int .u8 0), (.int .u8 0), (.int .u8 0), (.int .u8 0), (.int .u8 0), (.int .u8 0), (.int .u8 0), (.int .u8 0), (.int .u8 0), (.int .u8 0), (.int .u8 0), (.int .u8 0), (.int .u8 0), (.int .u8 0), (.int .u8 0), (.int .u8 0), (.int .u8 0), (.int .u8 0), (.int .u8 0), (.int .u8 0), (.int .u8 0), (.int .u8 0), (.int .u8 0), (.int .u8 0), (.int .u8 0), (.int .u8 0), (.int .u8 0), (.int .u8 0), (.int .u8 0), (.int .u8 0), (.int .u8 0), (.int .u8 0), (.int .u8 0), (.int .u8 0), (.int .u8 0), (.int .u8 0), (.int .u8 0), (.int .u8 0), (.int .u8 0), (.int .u8 0), (.int .u8 0), (.int .u8 0), (.int .u8 0), (.int .u8 0), (.int .u8 0), (.int .u8 0), (.int .u8 0), (.int .u8 0), (.int .u8 0), (.int .u8 0), (.int .u8 0)] 98 H_1 fun t12_3 H_4 =>
 aJoin (fun vs_5 H_6 =>
 (S58_71 a0 a2 a3 a4 R t12_3 vs_5 H_6)) fun J_7 =>
 aCond a3 (
 bnd (aUn .neg a1) fun t32_70 =>
 J_7 [t32_70] H_4) (
 J_7 [a1] H_4)
def S58 (a0 : Value) (a1 : Value) (a2 : Value) (a3 : Value) (a4 : Value) (H : AHeap) (R : Value → AHeap → Prop) : Prop :=
 aJoin (fun vs_0 H_1 =>
 (S58_93 a0 a1 a2 a3 a4 R H_1)) fun J_2 =>
 bnd (aBin .lss .no a2 (.int .i64 2)) fun t20_72 =>
 aGuardK t20_72 false (fun K_73 H_74 =>
 K_73 a2 H_74) (fun t22_75 H_76 =>
 aGuardK t20_72 false (fun K_77 H_78 =>
 bnd (aBin .eql .no t22_75 (.int .i64 10)) fun t23_79 =>
 K_77 t23_79 H_78) (fun t23_80 H_81 =>
 bnd (aPick t20_72 (.bool true) t23_80) fun t24_82 =>
 aGuardK t24_82 false (fun K_83 H_84 =>
 K_83 a2 H_84) (fun t26_85 H_86 =>
 aGuardK t24_82 false (fun K_87 H_88 =>
 bnd (aBin .gtr .no t26_85 (.int .i64 36)) fun t27_89 =>
 K_87 t27_89 H_88) (fun t27_90 H_91 =>
 bnd (aPick t24_82 (.bool true) t27_90) fun t28_92 =>
 aCond t28_92 (
 False) (
 J_2 [] H_91)) H_86) H_81) H_76) H
theorem S58_calls {a0 a1 a2 a3 a4 : Value} {H : AHeap} {R : Value → AHeap → Prop} (h : S58 a0 a1 a2 a3 a4 H R) : ACalls Tryd.prog 58 [a0, a1, a2, a3, a4] H R :=
  have e : S58 a0 a1 a2 a3 a4 H R = awpFn Tryd.prog (Tryd.f58.body.getD .skip) Tryd.f58.results.toList ann58 [a0, a1, a2, a3, a4] H R := by kernel_rfl
  calls_of_awp (fn := Tryd.f58) (c := Tryd.f58.body.getD .skip) (an := ann58) (by kernel_rfl) Tryd.func58 (by kernel_rfl) (by kernel_rfl) (of_decide_eq_true (by kernel_rfl)) (e ▸ h)

/-- 59: internal/stringslite.HasPrefix -/
def ann59 : Ann := (.two .leaf (.two .leaf .leaf))
def S59 (a0 : Value) (a1 : Value) (H : AHeap) (R : Value → AHeap → Prop) : Prop :=
 bnd (aLenStr a0) fun t6_0 =>
 bnd (aLenStr a1) fun t8_1 =>
 bnd (aBin .geq .no t6_0 t8_1) fun t9_2 =>
 aGuardK t9_2 true (fun K_3 H_4 =>
 K_3 a0 H_4) (fun t11_5 H_6 =>
 aGuardK t9_2 true (fun K_7 H_8 =>
 K_7 a1 H_8) (fun t12_9 H_10 =>
 aGuardK t9_2 true (fun K_11 H_12 =>
 bnd (aLenStr t12_9) fun t13_13 =>
 K_11 t13_13 H_12) (fun t13_14 H_15 =>
 aGuardK t9_2 true (fun K_16 H_17 =>
 bnd (aSliceStr t11_5 none (some t13_14)) fun t14_18 =>
 K_16 t14_18 H_17) (fun t14_19 H_20 =>
 aGuardK t9_2 true (fun K_21 H_22 =>
 K_21 a1 H_22) (fun t15_23 H_24 =>
 aGuardK t9_2 true (fun K_25 H_26 =>
 bnd (aBin .eql .no t14_19 t15_23) fun t16_27 =>
 K_25 t16_27 H_26) (fun t16_28 H_29 =>
 bnd (aPick t9_2 t16_28 (.bool false)) fun t17_30 =>
 R t17_30 H_29) H_24) H_20) H_15) H_10) H_6) H
theorem S59_calls {a0 a1 : Value} {H : AHeap} {R : Value → AHeap → Prop} (h : S59 a0 a1 H R) : ACalls Tryd.prog 59 [a0, a1] H R :=
  have e : S59 a0 a1 H R = awpFn Tryd.prog (Tryd.f59.body.getD .skip) Tryd.f59.results.toList ann59 [a0, a1] H R := by kernel_rfl
  calls_of_awp (fn := Tryd.f59) (c := Tryd.f59.body.getD .skip) (an := ann59) (by kernel_rfl) Tryd.func59 (by kernel_rfl) (by kernel_rfl) (of_decide_eq_true (by kernel_rfl)) (e ▸ h)

/-- 60: (*strings.asciiSet).contains -/
def ann60 : Ann := (.two .leaf (.two .leaf .leaf))
def S60 (a0 : Value) (a1 : Value) (H : AHeap) (R : Value → AHeap → Prop) : Prop :=
 bnd (aNilCheck a0) fun t7_0 =>
 bnd (aIdxAddrArr 256 1 t7_0 a1) fun t8_1 =>
 bnd (aLdCell t8_1 H) fun t9_2 =>
 R t9_2 H
theorem S60_calls {a0 a1 : Value} {H : AHeap} {R : Value → AHeap → Prop} (h : S60 a0 a1 H R) : ACalls Tryd.prog 60 [a0, a1] H R :=
  have e : S60 a0 a1 H R = awpFn Tryd.prog (Tryd.f60.body.getD .skip) Tryd.f60.results.toList ann60 [a0, a1] H R := by kernel_rfl
  calls_of_awp (fn := Tryd.f60) (c := Tryd.f60.body.getD .skip) (an := ann60) (by kernel_rfl) Tryd.func60 (by kernel_rfl) (by kernel_rfl) (of_decide_eq_true (by kernel_rfl)) (e ▸ h)

/-- 63: internal/strconv.lower -/
def ann63 : Ann := (.two .leaf (.two .leaf .leaf))
def S63 (a0 : Value) (H : AHeap) (R : Value → AHeap → Prop) : Prop :=
 bnd (aBin .or .no a0 (.int .u8 32)) fun t4_0 =>
 R t4_0 H
theorem S63_calls {a0 : Value} {H : AHeap} {R : Value → AHeap → Prop} (h : S63 a0 H R) : ACalls Tryd.prog 63 [a0] H R :=
  have e : S63 a0 H R = awpFn Tryd.prog (Tryd.f63.body.getD .skip) Tryd.f63.results.toList ann63 [a0] H R := by kernel_rfl
  calls_of_awp (fn := Tryd.f63) (c := Tryd.f63.body.getD .skip) (an := ann63) (by kernel_rfl) Tryd.func63 (by kernel_rfl) (by kernel_rfl) (of_decide_eq_true (by kernel_rfl)) (e ▸ h)

/-- 72: internal/strconv.isPowerOfTwo -/
def ann72 : Ann := (.two .leaf (.two .leaf .leaf))
def S72 (a0 : Value) (H : AHeap) (R : Value → AHeap → Prop) : Prop :=
 bnd (aBin .sub .no a0 (.int .i64 1)) fun t5_0 =>
 bnd (aBin .and .no a0 t5_0) fun t6_1 =>
 bnd (aBin .eql .no t6_1 (.int .i64 0)) fun t7_2 =>
 R t7_2 H
theorem S72_calls {a0 : Value} {H : AHeap} {R : Value → AHeap → Prop} (h : S72 a0 H R) : ACalls Tryd.prog 72 [a0] H R :=
  have e : S72 a0 H R = awpFn Tryd.prog (Tryd.f72.body.getD .skip) Tryd.f72.results.toList ann72 [a0] H R := by kernel_rfl
  calls_of_awp (fn := Tryd.f72) (c := Tryd.f72.body.getD .skip) (an := ann72) (by kernel_rfl) Tryd.func72 (by kernel_rfl) (by kernel_rfl) (of_decide_eq_true (by kernel_rfl)) (e ▸ h)

/-- 73: math/bits.TrailingZeros -/
def ann73 : Ann := (.two .leaf (.two (.two (.two .leaf .leaf) .leaf) (.two .leaf .leaf)))
def S73 (a0 : Value) (H : AHeap) (R : Value → AHeap → Prop) : Prop :=
 aCond (.bool false) (
 bnd (aConvInt .u32 a0) fun t4_0 =>
 ACalls Tryd.prog 79 [t4_0] H fun t5_1 H_2 =>
 R t5_1 H_2) (
 ACalls Tryd.prog 80 [a0] H fun t7_3 H_4 =>
 R t7_3 H_4)
theorem S73_calls {a0 : Value} {H : AHeap} {R : Value → AHeap → Prop} (h : S73 a0 H R) : ACalls Tryd.prog 73 [a0] H R :=
  have e : S73 a0 H R = awpFn Tryd.prog (Tryd.f73.body.getD .skip) Tryd.f73.results.toList ann73 [a0] H R := by kernel_rfl
  calls_of_awp (fn := Tryd.f73) (c := Tryd.f73.body.getD .skip) (an := ann73) (by kernel_rfl) Tryd.func73 (by kernel_rfl) (by kernel_rfl) (of_decide_eq_true (by kernel_rfl)) (e ▸ h)

/-- 80: math/bits.TrailingZeros64 -/
def ann80 : Ann := (.two .leaf (.two (.two .leaf (.two (.two .leaf .leaf) .leaf)) (.two .leaf .leaf)))
def S80_8 (a0 : Value) (H : AHeap) (R : Value → AHeap → Prop) : Prop :=
 bnd (aUn .neg a0) fun t7_1 =>
 bnd (aBin .and .no a0 t7_1) fun t8_2 =>
 bnd (aBin .mul .no t8_2 (.int .u64 285870213051353865)) fun t9_3 =>
 bnd (aBin .shr .no t9_3 (.int .u64 58)) fun t10_4 =>
 bnd (aIdxAddrArr 64 1 (.pointer (some ⟨8, 0, none⟩)) t10_4) fun t11_5 =>
 bnd (aLdCell t11_5 H) fun t12_6 =>
 bnd (aConvInt .i64 t12_6) fun t13_7 =>
 R t13_7 H
def S80 (a0 : Value) (H : AHeap) (R : Value → AHeap → Prop) : Prop :=
 bnd (aBin .eql .no a0 (.int .u64 0)) fun t4_0 =>
 aCond t4_0 (
 R (.int .i64 64) H) (
 (S80_8 a0 H R))
theorem S80_calls {a0 : Value} {H : AHeap} {R : Value → AHeap → Prop} (h : S80 a0 H R) : ACalls Tryd.prog 80 [a0] H R :=
  have e : S80 a0 H R = awpFn Tryd.prog (Tryd.f80.body.getD .skip) Tryd.f80.results.toList ann80 [a0] H R := by kernel_rfl
  calls_of_awp (fn := Tryd.f80) (c := Tryd.f80.body.getD .skip) (an := ann80) (by kernel_rfl) Tryd.func80 (by kernel_rfl) (by kernel_rfl) (of_decide_eq_true (by kernel_rfl)) (e ▸ h)

end Go.Proofs.YtliakckflcoffaaDoor.A
