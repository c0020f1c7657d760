/- Contracts of functions that the statement reaches; each theorem carries its own conditions, the last theorem of the claim has none. -/
import Derived.Test.YtnbnojkfhfkecaaDoorAbsY
import Derived.Test.YtnbnojkfhfkecaaDoorProg
import Derived.KernelRfl
/- The texts that functions' bodies come to (printed by gen.lean, a tool of our own). -/
set_option linter.unusedVariables false
set_option maxRecDepth 100000
namespace Go.Proofs.YtnbnojkfhfkecaaDoor.A
open Go Go.Abs

/-- 5: marginalia/marginalialaw22.ScriptPuts -/
def ann5 : Ann := (.two .leaf (.two (.two .leaf (.two (.two .leaf .leaf) .leaf)) (.two (.draw [(0, []), (1, []), (2, [0]), (3, []), (4, []), (5, []), (6, []), (7, []), (8, [])]) (.two (.two .leaf (.two (.two .leaf .leaf) .leaf)) (.two .leaf (.two (.two .leaf (.one (.loop [7, 8] [7, 8, 35, 36, 37, 38, 39, 40, 41, 42, 43, 44, 45, 46, 47, 48] (.two (.two .leaf (.two .leaf .leaf)) (.two (.one .leaf) .leaf))))) (.two .leaf .leaf)))))))
def S5_43 (R : Value → AHeap → Prop) (H_27 : AHeap) (t22_28 : Value) (t23_29 : Value) : Prop :=
 bnd (aBin .eql .no t23_29 (.int .i64 6)) fun t28_32 =>
 aGuardK t28_32 true (fun K_33 H_34 =>
 K_33 t22_28 H_34) (fun t30_35 H_36 =>
 aGuardK t28_32 true (fun K_37 H_38 =>
 bnd (aBin .eql .no t30_35 (.string ⟨#[]⟩)) fun t31_39 =>
 K_37 t31_39 H_38) (fun t31_40 H_41 =>
 bnd (aPick t28_32 t31_40 (.bool false)) fun t32_42 =>
 R t32_42 H_41) H_36) H_27
def S5_59 (a1 : Value) (vs_47 : List Value) (H_48 : AHeap) (again_49 : List Value → AHeap → Prop) : Prop :=
 bnd (aIdxAddr 1 a1 (nth vs_47 1)) fun t44_52 =>
 bnd (aLdCell t44_52 H_48) fun t45_53 =>
 ACalls Tryd.prog 10 [t45_53] H_48 fun t46_54 H_55 =>
 bnd (aBin .add .no (nth vs_47 0) t46_54) fun t47_56 =>
 bnd (aBin .add .no t47_56 (.string ⟨#[10]⟩)) fun t48_57 =>
 bnd (aBin .add .no (nth vs_47 1) (.int .i64 1)) fun t40_58 =>
 again_49 [t48_57, t40_58] H_55
def S5_75 (R : Value → AHeap → Prop) (t22_28 : Value) (t23_29 : Value) (vs_47 : List Value) (H_48 : AHeap) : Prop :=
 bnd (aBin .eql .no t23_29 (.int .i64 0)) fun t50_60 =>
 aGuardK t50_60 true (fun K_61 H_62 =>
 K_61 t22_28 H_62) (fun t52_63 H_64 =>
 aGuardK t50_60 true (fun K_65 H_66 =>
 K_65 (nth vs_47 0) H_66) (fun t53_67 H_68 =>
 aGuardK t50_60 true (fun K_69 H_70 =>
 bnd (aBin .eql .no t52_63 t53_67) fun t54_71 =>
 K_69 t54_71 H_70) (fun t54_72 H_73 =>
 bnd (aPick t50_60 t54_72 (.bool false)) fun t55_74 =>
 R t55_74 H_73) H_68) H_64) H_48
def S5_76 (a1 : Value) (R : Value → AHeap → Prop) (t22_28 : Value) (t23_29 : Value) (vs_47 : List Value) (H_48 : AHeap) (again_49 : List Value → AHeap → Prop) : Prop :=
 bnd (aLenSl a1) fun t37_50 =>
 bnd (aBin .lss .no (nth vs_47 1) t37_50) fun t38_51 =>
 aCond t38_51 (
 (S5_59 a1 vs_47 H_48 again_49)) (
 (S5_75 R t22_28 t23_29 vs_47 H_48))
def S5_77 (a1 : Value) (R : Value → AHeap → Prop) (t2_0 : Value) (t21_26 : Value) (H_27 : AHeap) : Prop :=
 bnd (aExtract t21_26 0) fun t22_28 =>
 bnd (aExtract t21_26 1) fun t23_29 =>
 bnd (aLenSl a1) fun t25_30 =>
 bnd (aBin .gtr .no t25_30 (.int .i64 256)) fun t26_31 =>
 aCond t26_31 (
 (S5_43 R H_27 t22_28 t23_29)) (
 bnd (aLdAgg 3 t2_0 H_27) fun t33_44 =>
 ACalls Tryd.prog 13 [t33_44] H_27 fun t34_45 H_46 =>
 aLoop [t34_45, (.int .i64 0)] H_46 fun vs_47 H_48 again_49 =>
 (S5_76 a1 R t22_28 t23_29 vs_47 H_48 again_49))
def S5_79 (a1 : Value) (R : Value → AHeap → Prop) (t2_0 : Value) (t9_2 : Value) (H_3 : AHeap) : Prop :=
 bnd (aUn .not t9_2) fun t10_4 =>
 aGuardK t10_4 false (fun K_5 H_6 =>
 K_5 a1 H_6) (fun t12_7 H_8 =>
 aGuardK t10_4 false (fun K_9 H_10 =>
 ACalls Tryd.prog 12 [t12_7] H_10 fun t13_11 H_12 =>
 K_9 t13_11 H_12) (fun t13_13 H_14 =>
 aGuardK t10_4 false (fun K_15 H_16 =>
 bnd (aUn .not t13_13) fun t14_17 =>
 K_15 t14_17 H_16) (fun t14_18 H_19 =>
 bnd (aPick t10_4 (.bool true) t14_18) fun t15_20 =>
 aCond t15_20 (
 ACalls Tryd.prog 11 [] H_19 fun t16_21 H_22 =>
 R t16_21 H_22) (
 bnd (aLdAgg 3 t2_0 H_19) fun t18_23 =>
 ACalls Tryd.prog 14 [a1] H_19 fun t20_24 H_25 =>
 ((bnd (aLdAgg 3 t2_0 H_25) fun t18_78 =>
 t18_78 = t18_23)) ∧
 ACalls Tryd.prog 8 [t18_23, t20_24] H_25 fun t21_26 H_27 =>
 (S5_77 a1 R t2_0 t21_26 H_27))) H_14) H_8) H_3
def S5 (a0 : Value) (a1 : Value) (H : AHeap) (R : Value → AHeap → Prop) : Prop :=
 aBox 27 a0 H fun t2_0 H_1 =>
 ACalls Tryd.prog 11 [] H_1 fun t9_2 H_3 =>
 (S5_79 a1 R t2_0 t9_2 H_3)
theorem S5_calls {a0 a1 : Value} {H : AHeap} {R : Value → AHeap → Prop} (h : S5 a0 a1 H R) : ACalls Tryd.prog 5 [a0, a1] H R :=
  have e : S5 a0 a1 H R = awpFn Tryd.prog (Tryd.f5.body.getD .skip) Tryd.f5.results.toList ann5 [a0, a1] H R := by kernel_rfl
  calls_of_awp (fn := Tryd.f5) (c := Tryd.f5.body.getD .skip) (an := ann5) (by kernel_rfl) Tryd.func5 (by kernel_rfl) (by kernel_rfl) (of_decide_eq_true (by kernel_rfl)) (e ▸ h)

/-- 8: marginalia/script.Put -/
def ann8 : Ann := (.two .leaf (.two (.two .leaf (.two (.two .leaf .leaf) .leaf)) (.two .leaf (.two (.two .leaf (.one (.loop [16] [7, 8, 16, 17, 18, 19, 20, 21, 22, 23, 24, 25, 26, 27, 28, 29] (.two .leaf (.two (.two .leaf .leaf) (.two (.one (.two .leaf (.join [] [21, 22, 23] (.two .leaf (.two .leaf .leaf)) .leaf))) .leaf)))))) (.two .leaf (.two (.two .leaf (.one (.loop [33] [4, 5, 10, 33, 34, 35, 36, 37, 38, 39, 40, 41, 42, 43, 44] (.two .leaf (.two (.two .leaf .leaf) (.two (.one (.two .leaf (.two (.two .leaf (.two (.two .leaf .leaf) .leaf)) .leaf))) .leaf)))))) (.two .leaf .leaf)))))))
def S8_28 (t6_4 : Value) (vs_9 : List Value) (again_11 : List Value → AHeap → Prop) (t20_14 : Value) (H_16 : AHeap) : Prop :=
 bnd (aNilCheck t20_14) fun t25_18 =>
 bnd (aLdCell t25_18 H_16) fun t26_19 =>
 ACalls Tryd.prog 21 [t26_19] H_16 fun t27_20 H_21 =>
 ACalls Tryd.prog 20 [t6_4, t27_20] H_21 fun t28_22 H_23 =>
 bnd (aBin .add .no (nth vs_9 0) (.int .i64 1)) fun t29_24 =>
 again_11 [t29_24] H_23
def S8_29 (t6_4 : Value) (t14_6 : Value) (vs_9 : List Value) (H_10 : AHeap) (again_11 : List Value → AHeap → Prop) : Prop :=
 bnd (aIdxAddr 1 t14_6 (nth vs_9 0)) fun t19_13 =>
 bnd (aLdCell t19_13 H_10) fun t20_14 =>
 aJoin (fun vs_15 H_16 =>
 (S8_28 t6_4 vs_9 again_11 t20_14 H_16)) fun J_17 =>
 bnd (aBin .gtr .no (nth vs_9 0) (.int .i64 0)) fun t22_25 =>
 aCond t22_25 (
 ACalls Tryd.prog 19 [t6_4, (.int .u8 32)] H_10 fun t23_26 H_27 =>
 J_17 [] H_27) (
 J_17 [] H_10)
def S8_47 (t6_4 : Value) (vs_33 : List Value) (H_34 : AHeap) (again_35 : List Value → AHeap → Prop) (t36_38 : Value) : Prop :=
 ACalls Tryd.prog 22 [t36_38] H_34 fun t41_41 H_42 =>
 bnd (aBin .add .no t41_41 (.string ⟨#[10]⟩)) fun t42_43 =>
 ACalls Tryd.prog 20 [t6_4, t42_43] H_42 fun t43_44 H_45 =>
 bnd (aBin .add .no (nth vs_33 0) (.int .i64 1)) fun t44_46 =>
 again_35 [t44_46] H_45
def S8_48 (a1 : Value) (R : Value → AHeap → Prop) (t6_4 : Value) (vs_33 : List Value) (H_34 : AHeap) (again_35 : List Value → AHeap → Prop) : Prop :=
 bnd (aIdxAddr 1 a1 (nth vs_33 0)) fun t35_37 =>
 bnd (aLdCell t35_37 H_34) fun t36_38 =>
 bnd (aLenSl t36_38) fun t38_39 =>
 bnd (aBin .gtr .no t38_39 (.int .i64 65536)) fun t39_40 =>
 aCond t39_40 (
 R (.tuple #[(.string ⟨#[]⟩), (.int .i64 6)]) H_34) (
 (S8_47 t6_4 vs_33 H_34 again_35 t36_38))
def S8_51 (a1 : Value) (R : Value → AHeap → Prop) (t6_4 : Value) (t32_32 : Value) (vs_33 : List Value) (H_34 : AHeap) (again_35 : List Value → AHeap → Prop) : Prop :=
 bnd (aBin .lss .no (nth vs_33 0) t32_32) fun t34_36 =>
 aCond t34_36 (
 (S8_48 a1 R t6_4 vs_33 H_34 again_35)) (
 ACalls Tryd.prog 23 [t6_4] H_34 fun t45_49 H_50 =>
 R (.tuple #[t45_49, (.int .i64 0)]) H_50)
def S8_52 (a1 : Value) (R : Value → AHeap → Prop) (t6_4 : Value) (t14_6 : Value) (t15_8 : Value) (vs_9 : List Value) (H_10 : AHeap) (again_11 : List Value → AHeap → Prop) : Prop :=
 bnd (aBin .lss .no (nth vs_9 0) t15_8) fun t17_12 =>
 aCond t17_12 (
 (S8_29 t6_4 t14_6 vs_9 H_10 again_11)) (
 ACalls Tryd.prog 19 [t6_4, (.int .u8 10)] H_10 fun t30_30 H_31 =>
 bnd (aLenSl a1) fun t32_32 =>
 aLoop [(.int .i64 0)] H_31 fun vs_33 H_34 again_35 =>
 (S8_51 a1 R t6_4 t32_32 vs_33 H_34 again_35))
def S8 (a0 : Value) (a1 : Value) (H : AHeap) (R : Value → AHeap → Prop) : Prop :=
 aBox 27 a0 H fun t2_0 H_1 =>
 bnd (aLenSl a1) fun t12_2 =>
 bnd (aBin .gtr .no t12_2 (.int .i64 256)) fun t13_3 =>
 aCond t13_3 (
 R (.tuple #[(.string ⟨#[]⟩), (.int .i64 6)]) H_1) (
 aAlloc [(.pointer none), (.slice none 0 0)] 48 H_1 fun t6_4 H_5 =>
 ACalls Tryd.prog 18 [t2_0] H_5 fun t14_6 H_7 =>
 bnd (aLenSl t14_6) fun t15_8 =>
 aLoop [(.int .i64 0)] H_7 fun vs_9 H_10 again_11 =>
 (S8_52 a1 R t6_4 t14_6 t15_8 vs_9 H_10 again_11))
theorem S8_calls {a0 a1 : Value} {H : AHeap} {R : Value → AHeap → Prop} (h : S8 a0 a1 H R) : ACalls Tryd.prog 8 [a0, a1] H R :=
  have e : S8 a0 a1 H R = awpFn Tryd.prog (Tryd.f8.body.getD .skip) Tryd.f8.results.toList ann8 [a0, a1] H R := by kernel_rfl
  calls_of_awp (fn := Tryd.f8) (c := Tryd.f8.body.getD .skip) (an := ann8) (by kernel_rfl) Tryd.func8 (by kernel_rfl) (by kernel_rfl) (of_decide_eq_true (by kernel_rfl)) (e ▸ h)

/-- 10: marginalia/marginalialaw22.hex -/
def ann10 : Ann := (.two .leaf (.two .leaf (.two .leaf (.two (.two .leaf (.one (.loop [4, 5] [4, 5, 7, 8, 9, 10, 11, 12, 13, 14, 15, 16, 17, 18, 19, 20, 21, 22, 23, 24, 25, 26, 27, 28, 29] (.two (.two .leaf (.two .leaf .leaf)) (.two (.one (.draw [(0, []), (1, []), (2, []), (3, []), (4, []), (5, []), (6, []), (7, []), (8, []), (9, []), (10, []), (11, []), (12, []), (13, []), (14, []), (15, []), (16, []), (17, [])])) .leaf))))) (.two .leaf .leaf)))))
def S10_20 (a0 : Value) (vs_2 : List Value) (H_3 : AHeap) (again_4 : List Value → AHeap → Prop) : Prop :=
 bnd (aIdxAddr 1 a0 (nth vs_2 1)) fun t17_7 =>
 bnd (aLdCell t17_7 H_3) fun t18_8 =>
 bnd (aBin .quo .no t18_8 (.int .u8 16)) fun t19_9 =>
 bnd (aIdxStr (.string ⟨#[48, 49, 50, 51, 52, 53, 54, 55, 56, 57, 97, 98, 99, 100, 101, 102]⟩) t19_9) fun t20_10 =>
 bnd (aIdxAddr 1 a0 (nth vs_2 1)) fun t24_11 =>
 bnd (aLdCell t24_11 H_3) fun t25_12 =>
 bnd (aBin .rem .no t25_12 (.int .u8 16)) fun t26_13 =>
 bnd (aIdxStr (.string ⟨#[48, 49, 50, 51, 52, 53, 54, 55, 56, 57, 97, 98, 99, 100, 101, 102]⟩) t26_13) fun t27_14 =>
 aBuildSlice 1 2 5 [(.int .u8 0)] [(0, 1, t20_10), (1, 1, t27_14)] H_3 fun t28_15 H_16 =>
 aAppend 1 1 5 (nth vs_2 0) t28_15 H_16 fun t29_17 H_18 =>
 bnd (aBin .add .no (nth vs_2 1) (.int .i64 1)) fun t12_19 =>
 again_4 [t29_17, t12_19] H_18
def S10_22 (a0 : Value) (R : Value → AHeap → Prop) (vs_2 : List Value) (H_3 : AHeap) (again_4 : List Value → AHeap → Prop) : Prop :=
 bnd (aLenSl a0) fun t9_5 =>
 bnd (aBin .lss .no (nth vs_2 1) t9_5) fun t10_6 =>
 aCond t10_6 (
 (S10_20 a0 vs_2 H_3 again_4)) (
 bnd (aBytesStr (nth vs_2 0) H_3) fun t31_21 =>
 R t31_21 H_3)
def S10 (a0 : Value) (H : AHeap) (R : Value → AHeap → Prop) : Prop :=
 aBuildSlice 1 1 5 [(.int .u8 0)] [(0, 1, (.int .u8 120))] H fun t6_0 H_1 =>
 aLoop [t6_0, (.int .i64 0)] H_1 fun vs_2 H_3 again_4 =>
 (S10_22 a0 R vs_2 H_3 again_4)
theorem S10_calls {a0 : Value} {H : AHeap} {R : Value → AHeap → Prop} (h : S10 a0 H R) : ACalls Tryd.prog 10 [a0] H R :=
  have e : S10 a0 H R = awpFn Tryd.prog (Tryd.f10.body.getD .skip) Tryd.f10.results.toList ann10 [a0] H R := by kernel_rfl
  calls_of_awp (fn := Tryd.f10) (c := Tryd.f10.body.getD .skip) (an := ann10) (by kernel_rfl) Tryd.func10 (by kernel_rfl) (by kernel_rfl) (of_decide_eq_true (by kernel_rfl)) (e ▸ h)

/-- 11: marginalia/marginalialaw22.answers -/
def ann11 : Ann := (.two .leaf (.two .leaf (.two .leaf .leaf)))
def S11_22 (R : Value → AHeap → Prop) (t8_7 : Value) (H_8 : AHeap) : Prop :=
 bnd (aExtract t8_7 0) fun t9_9 =>
 bnd (aExtract t8_7 1) fun t10_10 =>
 bnd (aBin .eql .no t10_10 (.int .i64 0)) fun t12_11 =>
 aGuardK t12_11 true (fun K_12 H_13 =>
 K_12 t9_9 H_13) (fun t14_14 H_15 =>
 aGuardK t12_11 true (fun K_16 H_17 =>
 bnd (aBin .eql .no t14_14 (.string ⟨#[49, 48, 32, 50, 48, 32, 53, 10, 120, 52, 49, 10]⟩)) fun t15_18 =>
 K_16 t15_18 H_17) (fun t15_19 H_20 =>
 bnd (aPick t12_11 t15_19 (.bool false)) fun t16_21 =>
 R t16_21 H_20) H_15) H_8
def S11 (H : AHeap) (R : Value → AHeap → Prop) : Prop :=
 bnd (aFill [(.int .i64 0), (.int .i64 0), (.int .i64 0)] [(0, 1, (.int .i64 10)), (1, 1, (.int .i64 20)), (2, 1, (.int .i64 5))]) fun t4_0 =>
 aBuildSlice 1 1 5 [(.int .u8 0)] [(0, 1, (.int .u8 65))] H fun t5_1 H_2 =>
 aMark t5_1 H_2 fun t6_3 H_4 =>
 aBuildSlice 1 1 22 [(.slice none 0 0)] [(0, 1, t6_3)] H_4 fun t7_5 H_6 =>
 ACalls Tryd.prog 8 [(.agg t4_0.toArray), t7_5] H_6 fun t8_7 H_8 =>
 (S11_22 R t8_7 H_8)
theorem S11_calls {H : AHeap} {R : Value → AHeap → Prop} (h : S11 H R) : ACalls Tryd.prog 11 [] H R :=
  have e : S11 H R = awpFn Tryd.prog (Tryd.f11.body.getD .skip) Tryd.f11.results.toList ann11 [] H R := by kernel_rfl
  calls_of_awp (fn := Tryd.f11) (c := Tryd.f11.body.getD .skip) (an := ann11) (by kernel_rfl) Tryd.func11 (by kernel_rfl) (by kernel_rfl) (of_decide_eq_true (by kernel_rfl)) (e ▸ h)

/-- 12: marginalia/marginalialaw22.light -/
def ann12 : Ann := (.two .leaf (.two (.two .leaf (.one (.loop [3] [2, 3, 4, 5, 6, 7, 8, 9, 10, 11, 12, 13, 14, 15] (.two (.two .leaf (.two .leaf .leaf)) (.two (.one (.two .leaf (.two (.two .leaf .leaf) .leaf))) .leaf))))) (.two .leaf .leaf)))
def S12_10 (a0 : Value) (R : Value → AHeap → Prop) (vs_0 : List Value) (H_1 : AHeap) (again_2 : List Value → AHeap → Prop) : Prop :=
 bnd (aIdxAddr 1 a0 (nth vs_0 0)) fun t12_5 =>
 bnd (aLdCell t12_5 H_1) fun t13_6 =>
 bnd (aLenSl t13_6) fun t14_7 =>
 bnd (aBin .gtr .no t14_7 (.int .i64 3000)) fun t15_8 =>
 aCond t15_8 (
 R (.bool false) H_1) (
 bnd (aBin .add .no (nth vs_0 0) (.int .i64 1)) fun t9_9 =>
 again_2 [t9_9] H_1)
def S12_13 (a0 : Value) (R : Value → AHeap → Prop) (vs_0 : List Value) (H_1 : AHeap) (again_2 : List Value → AHeap → Prop) : Prop :=
 bnd (aLenSl a0) fun t6_3 =>
 bnd (aBin .lss .no (nth vs_0 0) t6_3) fun t7_4 =>
 aCond t7_4 (
 (S12_10 a0 R vs_0 H_1 again_2)) (
 bnd (aLenSl a0) fun t17_11 =>
 bnd (aBin .leq .no t17_11 (.int .i64 300)) fun t18_12 =>
 R t18_12 H_1)
def S12 (a0 : Value) (H : AHeap) (R : Value → AHeap → Prop) : Prop :=
 aLoop [(.int .i64 0)] H fun vs_0 H_1 again_2 =>
 (S12_13 a0 R vs_0 H_1 again_2)
theorem S12_calls {a0 : Value} {H : AHeap} {R : Value → AHeap → Prop} (h : S12 a0 H R) : ACalls Tryd.prog 12 [a0] H R :=
  have e : S12 a0 H R = awpFn Tryd.prog (Tryd.f12.body.getD .skip) Tryd.f12.results.toList ann12 [a0] H R := by kernel_rfl
  calls_of_awp (fn := Tryd.f12) (c := Tryd.f12.body.getD .skip) (an := ann12) (by kernel_rfl) Tryd.func12 (by kernel_rfl) (by kernel_rfl) (of_decide_eq_true (by kernel_rfl)) (e ▸ h)

/-- 13: marginalia/marginalialaw22.first -/
def ann13 : Ann := (.two .leaf (.two (.draw [(0, []), (1, []), (4, []), (5, []), (9, []), (10, []), (2, [5, 10]), (3, []), (6, [10]), (7, []), (8, []), (11, []), (12, []), (13, []), (14, [])]) .leaf))
def S13_22 (R : Value → AHeap → Prop) (t7_4 : Value) (t8_5 : Value) (t12_6 : Value) (t13_7 : Value) (t5_8 : Value) (H_9 : AHeap) : Prop :=
 ((bnd (aLdCell t7_4 H_9) fun t8_20 =>
 t8_20 = t8_5) ∧ (bnd (aLdCell t12_6 H_9) fun t13_21 =>
 t13_21 = t13_7)) ∧
 bnd (aBin .add .no t5_8 (.string ⟨#[32]⟩)) fun t6_10 =>
 ACalls Tryd.prog 16 [t8_5] H_9 fun t9_11 H_12 =>
 ((bnd (aLdCell t12_6 H_12) fun t13_19 =>
 t13_19 = t13_7)) ∧
 bnd (aBin .add .no t6_10 t9_11) fun t10_13 =>
 bnd (aBin .add .no t10_13 (.string ⟨#[32]⟩)) fun t11_14 =>
 ACalls Tryd.prog 16 [t13_7] H_12 fun t14_15 H_16 =>
 bnd (aBin .add .no t11_14 t14_15) fun t15_17 =>
 bnd (aBin .add .no t15_17 (.string ⟨#[10]⟩)) fun t16_18 =>
 R t16_18 H_16
def S13 (a0 : Value) (H : AHeap) (R : Value → AHeap → Prop) : Prop :=
 aBox 27 a0 H fun t1_0 H_1 =>
 bnd (aAdd 0 t1_0) fun t3_2 =>
 bnd (aLdCell t3_2 H_1) fun t4_3 =>
 bnd (aAdd 1 t1_0) fun t7_4 =>
 bnd (aLdCell t7_4 H_1) fun t8_5 =>
 bnd (aAdd 2 t1_0) fun t12_6 =>
 bnd (aLdCell t12_6 H_1) fun t13_7 =>
 ACalls Tryd.prog 16 [t4_3] H_1 fun t5_8 H_9 =>
 (S13_22 R t7_4 t8_5 t12_6 t13_7 t5_8 H_9)
theorem S13_calls {a0 : Value} {H : AHeap} {R : Value → AHeap → Prop} (h : S13 a0 H R) : ACalls Tryd.prog 13 [a0] H R :=
  have e : S13 a0 H R = awpFn Tryd.prog (Tryd.f13.body.getD .skip) Tryd.f13.results.toList ann13 [a0] H R := by kernel_rfl
  calls_of_awp (fn := Tryd.f13) (c := Tryd.f13.body.getD .skip) (an := ann13) (by kernel_rfl) Tryd.func13 (by kernel_rfl) (by kernel_rfl) (of_decide_eq_true (by kernel_rfl)) (e ▸ h)

/-- 14: marginalia/marginalialaw22.own -/
def ann14 : Ann := (.two .leaf (.two .leaf (.two (.two .leaf (.one (.loop [3, 4] [3, 4, 5, 6, 7, 8, 9, 10, 11, 12, 13, 14, 15, 16, 17, 18, 19] (.two (.two .leaf (.two .leaf .leaf)) (.two (.one .leaf) .leaf))))) (.two .leaf .leaf))))
def S14_16 (a0 : Value) (vs_0 : List Value) (H_1 : AHeap) (again_2 : List Value → AHeap → Prop) : Prop :=
 aBuildSlice 1 0 5 [(.int .u8 0)] [] H_1 fun t12_5 H_6 =>
 bnd (aIdxAddr 1 a0 (nth vs_0 1)) fun t15_7 =>
 bnd (aLdCell t15_7 H_6) fun t16_8 =>
 aAppend 1 1 5 t12_5 t16_8 H_6 fun t17_9 H_10 =>
 aBuildSlice 1 1 22 [(.slice none 0 0)] [(0, 1, t17_9)] H_10 fun t18_11 H_12 =>
 aAppend 1 24 22 (nth vs_0 0) t18_11 H_12 fun t19_13 H_14 =>
 bnd (aBin .add .no (nth vs_0 1) (.int .i64 1)) fun t10_15 =>
 again_2 [t19_13, t10_15] H_14
def S14_17 (a0 : Value) (R : Value → AHeap → Prop) (vs_0 : List Value) (H_1 : AHeap) (again_2 : List Value → AHeap → Prop) : Prop :=
 bnd (aLenSl a0) fun t7_3 =>
 bnd (aBin .lss .no (nth vs_0 1) t7_3) fun t8_4 =>
 aCond t8_4 (
 (S14_16 a0 vs_0 H_1 again_2)) (
 R (nth vs_0 0) H_1)
def S14 (a0 : Value) (H : AHeap) (R : Value → AHeap → Prop) : Prop :=
 aLoop [(.slice none 0 0), (.int .i64 0)] H fun vs_0 H_1 again_2 =>
 (S14_17 a0 R vs_0 H_1 again_2)
theorem S14_calls {a0 : Value} {H : AHeap} {R : Value → AHeap → Prop} (h : S14 a0 H R) : ACalls Tryd.prog 14 [a0] H R :=
  have e : S14 a0 H R = awpFn Tryd.prog (Tryd.f14.body.getD .skip) Tryd.f14.results.toList ann14 [a0] H R := by kernel_rfl
  calls_of_awp (fn := Tryd.f14) (c := Tryd.f14.body.getD .skip) (an := ann14) (by kernel_rfl) Tryd.func14 (by kernel_rfl) (by kernel_rfl) (of_decide_eq_true (by kernel_rfl)) (e ▸ h)

/-- 16: marginalia/marginaliaref01.Dec -/
def ann16 : Ann := (.two .leaf (.two .leaf .leaf))
def S16 (a0 : Value) (H : AHeap) (R : Value → AHeap → Prop) : Prop :=
 ACalls Tryd.prog 29 [a0] H fun t4_0 H_1 =>
 ACalls Tryd.prog 28 [t4_0] H_1 fun t5_2 H_3 =>
 R t5_2 H_3
theorem S16_calls {a0 : Value} {H : AHeap} {R : Value → AHeap → Prop} (h : S16 a0 H R) : ACalls Tryd.prog 16 [a0] H R :=
  have e : S16 a0 H R = awpFn Tryd.prog (Tryd.f16.body.getD .skip) Tryd.f16.results.toList ann16 [a0] H R := by kernel_rfl
  calls_of_awp (fn := Tryd.f16) (c := Tryd.f16.body.getD .skip) (an := ann16) (by kernel_rfl) Tryd.func16 (by kernel_rfl) (by kernel_rfl) (of_decide_eq_true (by kernel_rfl)) (e ▸ h)

/-- 18: marginalia/script.fields -/
def ann18 : Ann := (.two .leaf (.two (.draw [(0, []), (1, []), (2, []), (3, []), (4, []), (5, []), (6, []), (7, []), (8, []), (9, []), (10, [])]) .leaf))
def S18 (a0 : Value) (H : AHeap) (R : Value → AHeap → Prop) : Prop :=
 bnd (aNilCheck a0) fun t4_0 =>
 bnd (aAdd 0 t4_0) fun t5_1 =>
 bnd (aNilCheck a0) fun t7_2 =>
 bnd (aAdd 1 t7_2) fun t8_3 =>
 bnd (aNilCheck a0) fun t10_4 =>
 bnd (aAdd 2 t10_4) fun t11_5 =>
 aBuildSlice 1 3 52 [(.pointer none)] [(0, 1, t5_1), (1, 1, t8_3), (2, 1, t11_5)] H fun t12_6 H_7 =>
 R t12_6 H_7
theorem S18_calls {a0 : Value} {H : AHeap} {R : Value → AHeap → Prop} (h : S18 a0 H R) : ACalls Tryd.prog 18 [a0] H R :=
  have e : S18 a0 H R = awpFn Tryd.prog (Tryd.f18.body.getD .skip) Tryd.f18.results.toList ann18 [a0] H R := by kernel_rfl
  calls_of_awp (fn := Tryd.f18) (c := Tryd.f18.body.getD .skip) (an := ann18) (by kernel_rfl) Tryd.func18 (by kernel_rfl) (by kernel_rfl) (of_decide_eq_true (by kernel_rfl)) (e ▸ h)

/-- 19: (*strings.Builder).WriteByte -/
def ann19 : Ann := (.two .leaf (.two .leaf (.two .leaf (.two .leaf .leaf))))
def S19 (a0 : Value) (a1 : Value) (H : AHeap) (R : Value → AHeap → Prop) : Prop :=
 ACalls Tryd.prog 33 [a0] H fun t6_0 H_1 =>
 bnd (aNilCheck a0) fun t9_2 =>
 bnd (aAdd 1 t9_2) fun t10_3 =>
 bnd (aLdCell t10_3 H_1) fun t11_4 =>
 aBuildSlice 1 1 5 [(.int .u8 0)] [(0, 1, a1)] H_1 fun t13_5 H_6 =>
 aAppend 1 1 5 t11_4 t13_5 H_6 fun t14_7 H_8 =>
 bnd (aNilCheck a0) fun t15_9 =>
 bnd (aAdd 1 t15_9) fun t16_10 =>
 bnd (aSt 1 t16_10 t14_7 H_8) fun H_11 =>
 R .nilIface H_11
theorem S19_calls {a0 a1 : Value} {H : AHeap} {R : Value → AHeap → Prop} (h : S19 a0 a1 H R) : ACalls Tryd.prog 19 [a0, a1] H R :=
  have e : S19 a0 a1 H R = awpFn Tryd.prog (Tryd.f19.body.getD .skip) Tryd.f19.results.toList ann19 [a0, a1] H R := by kernel_rfl
  calls_of_awp (fn := Tryd.f19) (c := Tryd.f19.body.getD .skip) (an := ann19) (by kernel_rfl) Tryd.func19 (by kernel_rfl) (by kernel_rfl) (of_decide_eq_true (by kernel_rfl)) (e ▸ h)

/-- 20: (*strings.Builder).WriteString -/
def ann20 : Ann := (.two .leaf (.two .leaf (.two .leaf (.two .leaf .leaf))))
def S20 (a0 : Value) (a1 : Value) (H : AHeap) (R : Value → AHeap → Prop) : Prop :=
 ACalls Tryd.prog 33 [a0] H fun t7_0 H_1 =>
 bnd (aNilCheck a0) fun t10_2 =>
 bnd (aAdd 1 t10_2) fun t11_3 =>
 bnd (aLdCell t11_3 H_1) fun t12_4 =>
 aAppStr 1 1 5 t12_4 a1 H_1 fun t14_5 H_6 =>
 bnd (aNilCheck a0) fun t15_7 =>
 bnd (aAdd 1 t15_7) fun t16_8 =>
 bnd (aSt 1 t16_8 t14_5 H_6) fun H_9 =>
 bnd (aLenStr a1) fun t18_10 =>
 R (.tuple #[t18_10, .nilIface]) H_9
theorem S20_calls {a0 a1 : Value} {H : AHeap} {R : Value → AHeap → Prop} (h : S20 a0 a1 H R) : ACalls Tryd.prog 20 [a0, a1] H R :=
  have e : S20 a0 a1 H R = awpFn Tryd.prog (Tryd.f20.body.getD .skip) Tryd.f20.results.toList ann20 [a0, a1] H R := by kernel_rfl
  calls_of_awp (fn := Tryd.f20) (c := Tryd.f20.body.getD .skip) (an := ann20) (by kernel_rfl) Tryd.func20 (by kernel_rfl) (by kernel_rfl) (of_decide_eq_true (by kernel_rfl)) (e ▸ h)

/-- 22: marginalia/script.hex -/
def ann22 : Ann := (.two .leaf (.two .leaf (.two .leaf (.two (.two .leaf (.one (.loop [9] [5, 9, 10, 11, 12, 13, 14, 15, 16, 17, 18, 19, 20] (.two .leaf (.two (.two .leaf .leaf) (.two (.one (.two .leaf (.join [] [13, 14, 15] (.two .leaf (.two .leaf .leaf)) .leaf))) .leaf)))))) (.two .leaf .leaf)))))
def S22_23 (t3_0 : Value) (vs_5 : List Value) (again_7 : List Value → AHeap → Prop) (t12_10 : Value) (H_12 : AHeap) : Prop :=
 bnd (aConvInt .u64 t12_10) fun t17_14 =>
 ACalls Tryd.prog 35 [t17_14, (.int .i64 16)] H_12 fun t18_15 H_16 =>
 ACalls Tryd.prog 20 [t3_0, t18_15] H_16 fun t19_17 H_18 =>
 bnd (aBin .add .no (nth vs_5 0) (.int .i64 1)) fun t20_19 =>
 again_7 [t20_19] H_18
def S22_24 (a0 : Value) (t3_0 : Value) (vs_5 : List Value) (H_6 : AHeap) (again_7 : List Value → AHeap → Prop) : Prop :=
 bnd (aIdxAddr 1 a0 (nth vs_5 0)) fun t11_9 =>
 bnd (aLdCell t11_9 H_6) fun t12_10 =>
 aJoin (fun vs_11 H_12 =>
 (S22_23 t3_0 vs_5 again_7 t12_10 H_12)) fun J_13 =>
 bnd (aBin .lss .no t12_10 (.int .u8 16)) fun t14_20 =>
 aCond t14_20 (
 ACalls Tryd.prog 19 [t3_0, (.int .u8 48)] H_6 fun t15_21 H_22 =>
 J_13 [] H_22) (
 J_13 [] H_6)
def S22_27 (a0 : Value) (R : Value → AHeap → Prop) (t3_0 : Value) (t8_4 : Value) (vs_5 : List Value) (H_6 : AHeap) (again_7 : List Value → AHeap → Prop) : Prop :=
 bnd (aBin .lss .no (nth vs_5 0) t8_4) fun t10_8 =>
 aCond t10_8 (
 (S22_24 a0 t3_0 vs_5 H_6 again_7)) (
 ACalls Tryd.prog 23 [t3_0] H_6 fun t21_25 H_26 =>
 R t21_25 H_26)
def S22 (a0 : Value) (H : AHeap) (R : Value → AHeap → Prop) : Prop :=
 aAlloc [(.pointer none), (.slice none 0 0)] 48 H fun t3_0 H_1 =>
 ACalls Tryd.prog 19 [t3_0, (.int .u8 120)] H_1 fun t6_2 H_3 =>
 bnd (aLenSl a0) fun t8_4 =>
 aLoop [(.int .i64 0)] H_3 fun vs_5 H_6 again_7 =>
 (S22_27 a0 R t3_0 t8_4 vs_5 H_6 again_7)
theorem S22_calls {a0 : Value} {H : AHeap} {R : Value → AHeap → Prop} (h : S22 a0 H R) : ACalls Tryd.prog 22 [a0] H R :=
  have e : S22 a0 H R = awpFn Tryd.prog (Tryd.f22.body.getD .skip) Tryd.f22.results.toList ann22 [a0] H R := by kernel_rfl
  calls_of_awp (fn := Tryd.f22) (c := Tryd.f22.body.getD .skip) (an := ann22) (by kernel_rfl) Tryd.func22 (by kernel_rfl) (by kernel_rfl) (of_decide_eq_true (by kernel_rfl)) (e ▸ h)

/-- 23: (*strings.Builder).String -/
def ann23 : Ann := (.two .leaf (.two (.draw [(0, []), (1, []), (2, []), (3, []), (4, []), (5, []), (6, []), (7, []), (8, []), (9, []), (10, []), (11, [])]) .leaf))
def S23 (a0 : Value) (H : AHeap) (R : Value → AHeap → Prop) : Prop :=
 bnd (aNilCheck a0) fun t4_0 =>
 bnd (aAdd 1 t4_0) fun t5_1 =>
 bnd (aLdCell t5_1 H) fun t6_2 =>
 bnd (aSliceData t6_2) fun t7_3 =>
 bnd (aNilCheck a0) fun t9_4 =>
 bnd (aAdd 1 t9_4) fun t10_5 =>
 bnd (aLdCell t10_5 H) fun t11_6 =>
 bnd (aLenSl t11_6) fun t12_7 =>
 aUString 5 t7_3 t12_7 H fun t13_8 H_9 =>
 R t13_8 H_9
theorem S23_calls {a0 : Value} {H : AHeap} {R : Value → AHeap → Prop} (h : S23 a0 H R) : ACalls Tryd.prog 23 [a0] H R :=
  have e : S23 a0 H R = awpFn Tryd.prog (Tryd.f23.body.getD .skip) Tryd.f23.results.toList ann23 [a0] H R := by kernel_rfl
  calls_of_awp (fn := Tryd.f23) (c := Tryd.f23.body.getD .skip) (an := ann23) (by kernel_rfl) Tryd.func23 (by kernel_rfl) (by kernel_rfl) (of_decide_eq_true (by kernel_rfl)) (e ▸ h)

/-- 28: marginalia/marginaliaref01.Text -/
def ann28 : Ann := (.two .leaf (.two (.two .leaf (.two (.two .leaf .leaf) .leaf)) (.two .leaf (.two (.two .leaf (.two (.two .leaf .leaf) .leaf)) (.two .leaf (.join [4] [4, 14, 15, 16, 17, 18] (.two .leaf (.two .leaf .leaf)) (.two (.two .leaf (.one (.loop [4, 5] [4, 5, 22, 23, 24, 25, 26, 27, 28, 29, 30, 31, 32, 33] (.two (.two .leaf (.two .leaf .leaf)) (.two (.one .leaf) .leaf))))) (.two .leaf .leaf))))))))
def S28_28 (t10_7 : Value) (vs_16 : List Value) (H_17 : AHeap) (again_18 : List Value → AHeap → Prop) : Prop :=
 bnd (aIdxAddr 1 t10_7 (nth vs_16 1)) fun t29_20 =>
 bnd (aLdCell t29_20 H_17) fun t30_21 =>
 bnd (aBin .add .no (.int .u8 48) t30_21) fun t31_22 =>
 aBuildSlice 1 1 5 [(.int .u8 0)] [(0, 1, t31_22)] H_17 fun t32_23 H_24 =>
 aAppend 1 1 5 (nth vs_16 0) t32_23 H_24 fun t33_25 H_26 =>
 bnd (aBin .sub .no (nth vs_16 1) (.int .i64 1)) fun t25_27 =>
 again_18 [t33_25, t25_27] H_26
def S28_30 (R : Value → AHeap → Prop) (t10_7 : Value) (vs_16 : List Value) (H_17 : AHeap) (again_18 : List Value → AHeap → Prop) : Prop :=
 bnd (aBin .geq .no (nth vs_16 1) (.int .i64 0)) fun t23_19 =>
 aCond t23_19 (
 (S28_28 t10_7 vs_16 H_17 again_18)) (
 bnd (aBytesStr (nth vs_16 0) H_17) fun t35_29 =>
 R t35_29 H_17)
def S28_37 (R : Value → AHeap → Prop) (t10_7 : Value) (vs_11 : List Value) (H_12 : AHeap) : Prop :=
 bnd (aLenSl t10_7) fun t20_14 =>
 bnd (aBin .sub .no t20_14 (.int .i64 1)) fun t21_15 =>
 aLoop [(nth vs_11 0), t21_15] H_12 fun vs_16 H_17 again_18 =>
 (S28_30 R t10_7 vs_16 H_17 again_18)
def S28_38 (R : Value → AHeap → Prop) (t1_0 : Value) (t10_7 : Value) (H_8 : AHeap) : Prop :=
 aJoin (fun vs_11 H_12 =>
 (S28_37 R t10_7 vs_11 H_12)) fun J_13 =>
 bnd (aAdd 0 t1_0) fun t14_31 =>
 bnd (aLdCell t14_31 H_8) fun t15_32 =>
 aCond t15_32 (
 aBuildSlice 1 1 5 [(.int .u8 0)] [(0, 1, (.int .u8 45))] H_8 fun t17_33 H_34 =>
 aAppend 1 1 5 (.slice none 0 0) t17_33 H_34 fun t18_35 H_36 =>
 J_13 [t18_35] H_36) (
 J_13 [(.slice none 0 0)] H_8)
def S28 (a0 : Value) (H : AHeap) (R : Value → AHeap → Prop) : Prop :=
 aBox 68 a0 H fun t1_0 H_1 =>
 bnd (aLdAgg 2 t1_0 H_1) fun t6_2 =>
 ACalls Tryd.prog 44 [t6_2] H_1 fun t7_3 H_4 =>
 bnd (aUn .not t7_3) fun t8_5 =>
 aCond t8_5 (
 R (.string ⟨#[]⟩) H_4) (
 bnd (aLdAgg 2 t1_0 H_4) fun t9_6 =>
 ACalls Tryd.prog 45 [t9_6] H_4 fun t10_7 H_8 =>
 bnd (aLenSl t10_7) fun t12_9 =>
 bnd (aBin .eql .no t12_9 (.int .i64 0)) fun t13_10 =>
 aCond t13_10 (
 R (.string ⟨#[48]⟩) H_8) (
 (S28_38 R t1_0 t10_7 H_8)))
theorem S28_calls {a0 : Value} {H : AHeap} {R : Value → AHeap → Prop} (h : S28 a0 H R) : ACalls Tryd.prog 28 [a0] H R :=
  have e : S28 a0 H R = awpFn Tryd.prog (Tryd.f28.body.getD .skip) Tryd.f28.results.toList ann28 [a0] H R := by kernel_rfl
  calls_of_awp (fn := Tryd.f28) (c := Tryd.f28.body.getD .skip) (an := ann28) (by kernel_rfl) Tryd.func28 (by kernel_rfl) (by kernel_rfl) (of_decide_eq_true (by kernel_rfl)) (e ▸ h)

/-- 29: marginalia/marginaliaref01.Of -/
def ann29 : Ann := (.two .leaf (.two .leaf (.join [3] [3, 9, 10, 11, 12] (.two .leaf (.two .leaf .leaf)) (.two .leaf (.two (.one (.loop [3, 4] [3, 4, 13, 14, 15, 16, 17, 18, 19, 20, 21, 22] (.two (.two .leaf (.two .leaf .leaf)) (.one (.two .leaf .leaf))))) (.two .leaf (.two .leaf .leaf)))))))
def S29_17 (vs_6 : List Value) (H_7 : AHeap) (again_8 : List Value → AHeap → Prop) : Prop :=
 bnd (aBin .rem .no (nth vs_6 0) (.int .u64 10)) fun t17_10 =>
 bnd (aConvInt .u8 t17_10) fun t18_11 =>
 aBuildSlice 1 1 5 [(.int .u8 0)] [(0, 1, t18_11)] H_7 fun t19_12 H_13 =>
 aAppend 1 1 5 (nth vs_6 1) t19_12 H_13 fun t20_14 H_15 =>
 bnd (aBin .quo .no (nth vs_6 0) (.int .u64 10)) fun t22_16 =>
 again_8 [t22_16, t20_14] H_15
def S29_29 (a0 : Value) (R : Value → AHeap → Prop) (t2_0 : Value) (vs_6 : List Value) (H_7 : AHeap) : Prop :=
 bnd (aBin .lss .no a0 (.int .i64 0)) fun t25_18 =>
 ACalls Tryd.prog 46 [t25_18, (nth vs_6 1)] H_7 fun t27_19 H_20 =>
 bnd (aExtract t27_19 0) fun t28_21 =>
 bnd (aExtract t27_19 1) fun t29_22 =>
 aAlloc [(.bool false), (.slice none 0 0)] 68 H_20 fun t5_23 H_24 =>
 bnd (aSt 2 t5_23 t28_21 H_24) fun H_25 =>
 bnd (aLdAgg 2 t5_23 H_25) fun t30_26 =>
 bnd (aSt 2 t2_0 t30_26 H_25) fun H_27 =>
 bnd (aLdAgg 2 t2_0 H_27) fun r_28 =>
 R r_28 H_27
def S29_30 (a0 : Value) (R : Value → AHeap → Prop) (t2_0 : Value) (vs_6 : List Value) (H_7 : AHeap) (again_8 : List Value → AHeap → Prop) : Prop :=
 bnd (aBin .gtr .no (nth vs_6 0) (.int .u64 0)) fun t14_9 =>
 aCond t14_9 (
 (S29_17 vs_6 H_7 again_8)) (
 (S29_29 a0 R t2_0 vs_6 H_7))
def S29 (a0 : Value) (H : AHeap) (R : Value → AHeap → Prop) : Prop :=
 aAlloc [(.bool false), (.slice none 0 0)] 68 H fun t2_0 H_1 =>
 bnd (aConvInt .u64 a0) fun t8_2 =>
 aJoin (fun vs_3 H_4 =>
 aLoop [(nth vs_3 0), (.slice none 0 0)] H_4 fun vs_6 H_7 again_8 =>
 (S29_30 a0 R t2_0 vs_6 H_7 again_8)) fun J_5 =>
 bnd (aBin .lss .no a0 (.int .i64 0)) fun t10_31 =>
 aCond t10_31 (
 bnd (aUn .neg t8_2) fun t12_32 =>
 J_5 [t12_32] H_1) (
 J_5 [t8_2] H_1)
theorem S29_calls {a0 : Value} {H : AHeap} {R : Value → AHeap → Prop} (h : S29 a0 H R) : ACalls Tryd.prog 29 [a0] H R :=
  have e : S29 a0 H R = awpFn Tryd.prog (Tryd.f29.body.getD .skip) Tryd.f29.results.toList ann29 [a0] H R := by kernel_rfl
  calls_of_awp (fn := Tryd.f29) (c := Tryd.f29.body.getD .skip) (an := ann29) (by kernel_rfl) Tryd.func29 (by kernel_rfl) (by kernel_rfl) (of_decide_eq_true (by kernel_rfl)) (e ▸ h)

/-- 35: strconv.FormatUint -/
def ann35 : Ann := (.two .leaf (.two .leaf .leaf))
def S35 (a0 : Value) (a1 : Value) (H : AHeap) (R : Value → AHeap → Prop) : Prop :=
 ACalls Tryd.prog 50 [a0, a1] H fun t7_0 H_1 =>
 R t7_0 H_1
theorem S35_calls {a0 a1 : Value} {H : AHeap} {R : Value → AHeap → Prop} (h : S35 a0 a1 H R) : ACalls Tryd.prog 35 [a0, a1] H R :=
  have e : S35 a0 a1 H R = awpFn Tryd.prog (Tryd.f35.body.getD .skip) Tryd.f35.results.toList ann35 [a0, a1] H R := by kernel_rfl
  calls_of_awp (fn := Tryd.f35) (c := Tryd.f35.body.getD .skip) (an := ann35) (by kernel_rfl) Tryd.func35 (by kernel_rfl) (by kernel_rfl) (of_decide_eq_true (by kernel_rfl)) (e ▸ h)

/-- 44: marginalia/marginaliaref01.Sound -/
def ann44 : Ann := (.two .leaf (.two .leaf (.two (.two .leaf (.two (.two .leaf .leaf) .leaf)) (.two (.two .leaf (.one (.loop [4] [2, 4, 18, 19, 20, 21, 22, 23, 24, 25, 26, 27, 28] (.two (.two .leaf (.two .leaf .leaf)) (.two (.one (.two .leaf (.two (.two .leaf .leaf) .leaf))) .leaf))))) (.two .leaf .leaf)))))
def S44_45 (R : Value → AHeap → Prop) (t1_0 : Value) (vs_35 : List Value) (H_36 : AHeap) (again_37 : List Value → AHeap → Prop) : Prop :=
 bnd (aAdd 1 t1_0) fun t23_39 =>
 bnd (aLdCell t23_39 H_36) fun t24_40 =>
 bnd (aIdxAddr 1 t24_40 (nth vs_35 0)) fun t26_41 =>
 bnd (aLdCell t26_41 H_36) fun t27_42 =>
 bnd (aBin .geq .no t27_42 (.int .u32 1000000000)) fun t28_43 =>
 aCond t28_43 (
 R (.bool false) H_36) (
 bnd (aBin .add .no (nth vs_35 0) (.int .i64 1)) fun t22_44 =>
 again_37 [t22_44] H_36)
def S44_82 (R : Value → AHeap → Prop) (t1_0 : Value) (t7_4 : Value) (H_36 : AHeap) : Prop :=
 bnd (aBin .eql .no t7_4 (.int .i64 0)) fun t30_46 =>
 aGuardK t30_46 false (fun K_47 H_48 =>
 bnd (aAdd 1 t1_0) fun t32_49 =>
 K_47 t32_49 H_48) (fun t32_50 H_51 =>
 aGuardK t30_46 false (fun K_52 H_53 =>
 bnd (aLdCell t32_50 H_53) fun t33_54 =>
 K_52 t33_54 H_53) (fun t33_55 H_56 =>
 aGuardK t30_46 false (fun K_57 H_58 =>
 K_57 t7_4 H_58) (fun t34_59 H_60 =>
 aGuardK t30_46 false (fun K_61 H_62 =>
 bnd (aBin .sub .no t34_59 (.int .i64 1)) fun t35_63 =>
 K_61 t35_63 H_62) (fun t35_64 H_65 =>
 aGuardK t30_46 false (fun K_66 H_67 =>
 bnd (aIdxAddr 1 t33_55 t35_64) fun t36_68 =>
 K_66 t36_68 H_67) (fun t36_69 H_70 =>
 aGuardK t30_46 false (fun K_71 H_72 =>
 bnd (aLdCell t36_69 H_72) fun t37_73 =>
 K_71 t37_73 H_72) (fun t37_74 H_75 =>
 aGuardK t30_46 false (fun K_76 H_77 =>
 bnd (aBin .neq .no t37_74 (.int .u32 0)) fun t38_78 =>
 K_76 t38_78 H_77) (fun t38_79 H_80 =>
 bnd (aPick t30_46 (.bool true) t38_79) fun t39_81 =>
 R t39_81 H_80) H_75) H_70) H_65) H_60) H_56) H_51) H_36
def S44_83 (R : Value → AHeap → Prop) (t1_0 : Value) (t7_4 : Value) (vs_35 : List Value) (H_36 : AHeap) (again_37 : List Value → AHeap → Prop) : Prop :=
 bnd (aBin .lss .no (nth vs_35 0) t7_4) fun t20_38 =>
 aCond t20_38 (
 (S44_45 R t1_0 vs_35 H_36 again_37)) (
 (S44_82 R t1_0 t7_4 H_36))
def S44 (a0 : Value) (H : AHeap) (R : Value → AHeap → Prop) : Prop :=
 aBox 68 a0 H fun t1_0 H_1 =>
 bnd (aAdd 1 t1_0) fun t5_2 =>
 bnd (aLdCell t5_2 H_1) fun t6_3 =>
 bnd (aLenSl t6_3) fun t7_4 =>
 bnd (aBin .gtr .no t7_4 (.int .i64 64)) fun t9_5 =>
 aGuardK t9_5 false (fun K_6 H_7 =>
 K_6 t7_4 H_7) (fun t11_8 H_9 =>
 aGuardK t9_5 false (fun K_10 H_11 =>
 bnd (aBin .eql .no t11_8 (.int .i64 0)) fun t12_12 =>
 K_10 t12_12 H_11) (fun t12_13 H_14 =>
 aGuardK t9_5 false (fun K_15 H_16 =>
 K_15 t12_13 H_16) (fun t13_17 H_18 =>
 aGuardK t13_17 true (fun K_19 H_20 =>
 bnd (aAdd 0 t1_0) fun t14_21 =>
 K_19 t14_21 H_20) (fun t14_22 H_23 =>
 aGuardK t13_17 true (fun K_24 H_25 =>
 bnd (aLdCell t14_22 H_25) fun t15_26 =>
 K_24 t15_26 H_25) (fun t15_27 H_28 =>
 aGuardK t9_5 false (fun K_29 H_30 =>
 bnd (aPick t13_17 t15_27 (.bool false)) fun t16_31 =>
 K_29 t16_31 H_30) (fun t16_32 H_33 =>
 bnd (aPick t9_5 (.bool true) t16_32) fun t17_34 =>
 aCond t17_34 (
 R (.bool false) H_33) (
 aLoop [(.int .i64 0)] H_33 fun vs_35 H_36 again_37 =>
 (S44_83 R t1_0 t7_4 vs_35 H_36 again_37))) H_28) H_23) H_18) H_14) H_9) H_1
theorem S44_calls {a0 : Value} {H : AHeap} {R : Value → AHeap → Prop} (h : S44 a0 H R) : ACalls Tryd.prog 44 [a0] H R :=
  have e : S44 a0 H R = awpFn Tryd.prog (Tryd.f44.body.getD .skip) Tryd.f44.results.toList ann44 [a0] H R := by kernel_rfl
  calls_of_awp (fn := Tryd.f44) (c := Tryd.f44.body.getD .skip) (an := ann44) (by kernel_rfl) Tryd.func44 (by kernel_rfl) (by kernel_rfl) (of_decide_eq_true (by kernel_rfl)) (e ▸ h)

/-- 45: marginalia/marginaliaref01.Digits -/
def ann45 : Ann := (.two .leaf (.two .leaf (.two (.two .leaf (.one (.loop [3, 4] [3, 4, 5, 6, 7, 8, 9, 10, 11, 12, 13, 14, 15, 16, 17, 18, 19, 20, 21, 22, 23, 24, 25, 26, 27, 28, 29, 30] (.two (.two .leaf (.two .leaf .leaf)) (.two (.one (.two .leaf (.two .leaf (.one (.loop [3, 5, 6] [3, 5, 6, 19, 20, 21, 22, 23, 24, 25, 26, 27, 28, 29, 30] (.two (.two .leaf (.two .leaf .leaf)) (.two (.one (.two .leaf .leaf)) .leaf))))))) .leaf))))) (.two .leaf .leaf))))
def S45_25 (vs_13 : List Value) (H_14 : AHeap) (again_15 : List Value → AHeap → Prop) : Prop :=
 bnd (aBin .rem .no (nth vs_13 1) (.int .u32 10)) fun t25_17 =>
 bnd (aConvInt .u8 t25_17) fun t26_18 =>
 aBuildSlice 1 1 5 [(.int .u8 0)] [(0, 1, t26_18)] H_14 fun t27_19 H_20 =>
 aAppend 1 1 5 (nth vs_13 0) t27_19 H_20 fun t28_21 H_22 =>
 bnd (aBin .quo .no (nth vs_13 1) (.int .u32 10)) fun t30_23 =>
 bnd (aBin .add .no (nth vs_13 2) (.int .i64 1)) fun t22_24 =>
 again_15 [t28_21, t30_23, t22_24] H_22
def S45_27 (vs_2 : List Value) (again_4 : List Value → AHeap → Prop) (vs_13 : List Value) (H_14 : AHeap) (again_15 : List Value → AHeap → Prop) : Prop :=
 bnd (aBin .lss .no (nth vs_13 2) (.int .i64 9)) fun t20_16 =>
 aCond t20_16 (
 (S45_25 vs_13 H_14 again_15)) (
 bnd (aBin .add .no (nth vs_2 1) (.int .i64 1)) fun t13_26 =>
 again_4 [(nth vs_13 0), t13_26] H_14)
def S45_28 (t1_0 : Value) (vs_2 : List Value) (H_3 : AHeap) (again_4 : List Value → AHeap → Prop) : Prop :=
 bnd (aAdd 1 t1_0) fun t14_9 =>
 bnd (aLdCell t14_9 H_3) fun t15_10 =>
 bnd (aIdxAddr 1 t15_10 (nth vs_2 1)) fun t17_11 =>
 bnd (aLdCell t17_11 H_3) fun t18_12 =>
 aLoop [(nth vs_2 0), t18_12, (.int .i64 0)] H_3 fun vs_13 H_14 again_15 =>
 (S45_27 vs_2 again_4 vs_13 H_14 again_15)
def S45_31 (R : Value → AHeap → Prop) (t1_0 : Value) (vs_2 : List Value) (H_3 : AHeap) (again_4 : List Value → AHeap → Prop) : Prop :=
 bnd (aAdd 1 t1_0) fun t8_5 =>
 bnd (aLdCell t8_5 H_3) fun t9_6 =>
 bnd (aLenSl t9_6) fun t10_7 =>
 bnd (aBin .lss .no (nth vs_2 1) t10_7) fun t11_8 =>
 aCond t11_8 (
 (S45_28 t1_0 vs_2 H_3 again_4)) (
 ACalls Tryd.prog 66 [(nth vs_2 0)] H_3 fun t32_29 H_30 =>
 R t32_29 H_30)
def S45 (a0 : Value) (H : AHeap) (R : Value → AHeap → Prop) : Prop :=
 aBox 68 a0 H fun t1_0 H_1 =>
 aLoop [(.slice none 0 0), (.int .i64 0)] H_1 fun vs_2 H_3 again_4 =>
 (S45_31 R t1_0 vs_2 H_3 again_4)
theorem S45_calls {a0 : Value} {H : AHeap} {R : Value → AHeap → Prop} (h : S45 a0 H R) : ACalls Tryd.prog 45 [a0] H R :=
  have e : S45 a0 H R = awpFn Tryd.prog (Tryd.f45.body.getD .skip) Tryd.f45.results.toList ann45 [a0] H R := by kernel_rfl
  calls_of_awp (fn := Tryd.f45) (c := Tryd.f45.body.getD .skip) (an := ann45) (by kernel_rfl) Tryd.func45 (by kernel_rfl) (by kernel_rfl) (of_decide_eq_true (by kernel_rfl)) (e ▸ h)

/-- 46: marginalia/marginaliaref01.Make -/
def ann46 : Ann := (.two .leaf (.two .leaf (.two (.two .leaf (.two (.two .leaf .leaf) .leaf)) (.two .leaf (.two (.two .leaf (.one (.loop [7, 8] [7, 8, 9, 10, 17, 18, 19, 20, 21, 22, 23, 24, 25, 26, 27, 28, 29, 30, 31, 32, 33, 34, 35, 36, 37, 38, 39, 40, 41, 42, 43, 44, 45, 46, 47] (.two (.two .leaf (.two .leaf .leaf)) (.two (.one (.two .leaf (.two (.two .leaf (.one (.loop [9, 10] [9, 10, 23, 24, 25, 26, 27, 28, 29, 30, 31, 32, 33, 34, 35, 36, 37, 38, 39, 40, 41, 42, 43] (.two (.two .leaf (.two .leaf .leaf)) (.join [9] [9, 27, 28, 29, 30, 31, 32, 33, 34, 35, 36, 37, 38, 39, 40, 41, 42, 43] (.one (.two .leaf (.two .leaf (.two .leaf .leaf)))) .leaf))))) .leaf))) .leaf))))) (.two .leaf .leaf))))))
def S46_31 (t12_2 : Value) (vs_9 : List Value) (vs_14 : List Value) (H_15 : AHeap) (J_20 : List Value → AHeap → Prop) (t28_22 : Value) : Prop :=
 bnd (aBin .add .no (nth vs_9 1) (nth vs_14 1)) fun t39_26 =>
 bnd (aIdxAddr 1 t12_2 t39_26) fun t40_27 =>
 bnd (aLdCell t40_27 H_15) fun t41_28 =>
 bnd (aConvInt .u32 t41_28) fun t42_29 =>
 bnd (aBin .add .no t28_22 t42_29) fun t43_30 =>
 J_20 [t43_30] H_15
def S46_32 (t12_2 : Value) (vs_9 : List Value) (vs_14 : List Value) (H_15 : AHeap) (again_16 : List Value → AHeap → Prop) : Prop :=
 aJoin (fun vs_18 H_19 =>
 bnd (aBin .sub .no (nth vs_14 1) (.int .i64 1)) fun t26_21 =>
 again_16 [(nth vs_18 0), t26_21] H_19) fun J_20 =>
 bnd (aBin .mul .no (nth vs_14 0) (.int .u32 10)) fun t28_22 =>
 bnd (aBin .add .no (nth vs_9 1) (nth vs_14 1)) fun t31_23 =>
 bnd (aLenSl t12_2) fun t33_24 =>
 bnd (aBin .lss .no t31_23 t33_24) fun t34_25 =>
 aCond t34_25 (
 (S46_31 t12_2 vs_9 vs_14 H_15 J_20 t28_22)) (
 J_20 [t28_22] H_15)
def S46_38 (t12_2 : Value) (vs_9 : List Value) (again_11 : List Value → AHeap → Prop) (vs_14 : List Value) (H_15 : AHeap) (again_16 : List Value → AHeap → Prop) : Prop :=
 bnd (aBin .geq .no (nth vs_14 1) (.int .i64 0)) fun t24_17 =>
 aCond t24_17 (
 (S46_32 t12_2 vs_9 vs_14 H_15 again_16)) (
 aBuildSlice 1 1 103 [(.int .u32 0)] [(0, 1, (nth vs_14 0))] H_15 fun t46_33 H_34 =>
 aAppend 1 4 103 (nth vs_9 0) t46_33 H_34 fun t47_35 H_36 =>
 bnd (aBin .add .no (nth vs_9 1) (.int .i64 9)) fun t22_37 =>
 again_11 [t47_35, t22_37] H_36)
def S46_57 (a0 : Value) (R : Value → AHeap → Prop) (t4_0 : Value) (t12_2 : Value) (vs_9 : List Value) (H_10 : AHeap) : Prop :=
 aGuardK a0 true (fun K_39 H_40 =>
 K_39 t12_2 H_40) (fun t50_41 H_42 =>
 aGuardK a0 true (fun K_43 H_44 =>
 bnd (aLenSl t50_41) fun t51_45 =>
 K_43 t51_45 H_44) (fun t51_46 H_47 =>
 aGuardK a0 true (fun K_48 H_49 =>
 bnd (aBin .gtr .no t51_46 (.int .i64 0)) fun t52_50 =>
 K_48 t52_50 H_49) (fun t52_51 H_52 =>
 bnd (aPick a0 t52_51 (.bool false)) fun t53_53 =>
 bnd (aFill [(.bool false), (.slice none 0 0)] [(0, 1, t53_53), (1, 1, (nth vs_9 0))]) fun t55_54 =>
 bnd (aSt 2 t4_0 (.agg t55_54.toArray) H_52) fun H_55 =>
 bnd (aLdAgg 2 t4_0 H_55) fun r_56 =>
 R (.tuple #[r_56, (.bool true)]) H_55) H_47) H_42) H_10
def S46_58 (a0 : Value) (R : Value → AHeap → Prop) (t4_0 : Value) (t12_2 : Value) (vs_9 : List Value) (H_10 : AHeap) (again_11 : List Value → AHeap → Prop) : Prop :=
 bnd (aLenSl t12_2) fun t19_12 =>
 bnd (aBin .lss .no (nth vs_9 1) t19_12) fun t20_13 =>
 aCond t20_13 (
 aLoop [(.int .u32 0), (.int .i64 8)] H_10 fun vs_14 H_15 again_16 =>
 (S46_38 t12_2 vs_9 again_11 vs_14 H_15 again_16)) (
 (S46_57 a0 R t4_0 t12_2 vs_9 H_10))
def S46_59 (a0 : Value) (R : Value → AHeap → Prop) (t4_0 : Value) (t12_2 : Value) (H_3 : AHeap) : Prop :=
 bnd (aLenSl t12_2) fun t14_4 =>
 bnd (aBin .gtr .no t14_4 (.int .i64 576)) fun t15_5 =>
 aCond t15_5 (
 bnd (aFill [(.bool false), (.slice none 0 0)] []) fun t16_6 =>
 bnd (aSt 2 t4_0 (.agg t16_6.toArray) H_3) fun H_7 =>
 bnd (aLdAgg 2 t4_0 H_7) fun r_8 =>
 R (.tuple #[r_8, (.bool false)]) H_7) (
 aLoop [(.slice none 0 0), (.int .i64 0)] H_3 fun vs_9 H_10 again_11 =>
 (S46_58 a0 R t4_0 t12_2 vs_9 H_10 again_11))
def S46 (a0 : Value) (a1 : Value) (H : AHeap) (R : Value → AHeap → Prop) : Prop :=
 aAlloc [(.bool false), (.slice none 0 0)] 68 H fun t4_0 H_1 =>
 ACalls Tryd.prog 66 [a1] H_1 fun t12_2 H_3 =>
 (S46_59 a0 R t4_0 t12_2 H_3)
theorem S46_calls {a0 a1 : Value} {H : AHeap} {R : Value → AHeap → Prop} (h : S46 a0 a1 H R) : ACalls Tryd.prog 46 [a0, a1] H R :=
  have e : S46 a0 a1 H R = awpFn Tryd.prog (Tryd.f46.body.getD .skip) Tryd.f46.results.toList ann46 [a0, a1] H R := by kernel_rfl
  calls_of_awp (fn := Tryd.f46) (c := Tryd.f46.body.getD .skip) (an := ann46) (by kernel_rfl) Tryd.func46 (by kernel_rfl) (by kernel_rfl) (of_decide_eq_true (by kernel_rfl)) (e ▸ h)

/-- 50: internal/strconv.FormatUint -/
def ann50 : Ann := (.two .leaf (.two (.two .leaf (.two (.two (.two .leaf (.two (.two .leaf .leaf) .leaf)) (.two .leaf (.two .leaf (.two .leaf (.two .leaf .leaf))))) .leaf)) (.two .leaf (.two .leaf .leaf))))
def S50_14 (a0 : Value) (H : AHeap) (R : Value → AHeap → Prop) : Prop :=
 aAlloc [(.int .u8 0), (.int .u8 0), (.int .u8 0), (.int .u8 0), (.int .u8 0), (.int .u8 0), (.int .u8 0), (.int .u8 0), (.int .u8 0), (.int .u8 0), (.int .u8 0), (.int .u8 0), (.int .u8 0), (.int .u8 0), (.int .u8 0), (.int .u8 0), (.int .u8 0), (.int .u8 0), (.int .u8 0), (.int .u8 0), (.int .u8 0), (.int .u8 0), (.int .u8 0), (.int .u8 0)] 105 H fun t5_5 H_6 =>
 ACalls Tryd.prog 68 [a0] H_6 fun t17_7 H_8 =>
 bnd (aSliceArr 24 1 t5_5 none (some t17_7)) fun t19_9 =>
 ACalls Tryd.prog 69 [t19_9, a0] H_8 fun t21_10 H_11 =>
 bnd (aSliceArr 24 1 t5_5 none (some t17_7)) fun t23_12 =>
 bnd (aBytesStr t23_12 H_11) fun t24_13 =>
 R t24_13 H_11
def S50 (a0 : Value) (a1 : Value) (H : AHeap) (R : Value → AHeap → Prop) : Prop :=
 bnd (aBin .eql .no a1 (.int .i64 10)) fun t10_0 =>
 aCond t10_0 (
 bnd (aBin .lss .no a0 (.int .u64 100)) fun t12_1 =>
 aCond t12_1 (
 bnd (aConvInt .i64 a0) fun t14_2 =>
 ACalls Tryd.prog 67 [t14_2] H fun t15_3 H_4 =>
 R t15_3 H_4) (
 (S50_14 a0 H R))) (
 ACalls Tryd.prog 70 [(.slice none 0 0), a0, a1, (.bool false), (.bool false)] H fun t28_15 H_16 =>
 bnd (aExtract t28_15 0) fun t29_17 =>
 bnd (aExtract t28_15 1) fun t30_18 =>
 R t30_18 H_16)
theorem S50_calls {a0 a1 : Value} {H : AHeap} {R : Value → AHeap → Prop} (h : S50 a0 a1 H R) : ACalls Tryd.prog 50 [a0, a1] H R :=
  have e : S50 a0 a1 H R = awpFn Tryd.prog (Tryd.f50.body.getD .skip) Tryd.f50.results.toList ann50 [a0, a1] H R := by kernel_rfl
  calls_of_awp (fn := Tryd.f50) (c := Tryd.f50.body.getD .skip) (an := ann50) (by kernel_rfl) Tryd.func50 (by kernel_rfl) (by kernel_rfl) (of_decide_eq_true (by kernel_rfl)) (e ▸ h)

/-- 66: marginalia/marginaliaref01.trim -/
def ann66 : Ann := (.two .leaf (.two .leaf (.two (.one (.loop [3] [3, 6, 7, 8, 9, 10, 11, 12, 13, 14, 15, 16, 17] (.two (.two .leaf (.two .leaf .leaf)) (.one .leaf)))) (.two .leaf .leaf))))
def S66_36 (a0 : Value) (R : Value → AHeap → Prop) (vs_1 : List Value) (H_2 : AHeap) (again_3 : List Value → AHeap → Prop) : Prop :=
 bnd (aBin .gtr .no (nth vs_1 0) (.int .i64 0)) fun t7_4 =>
 aGuardK t7_4 true (fun K_5 H_6 =>
 K_5 a0 H_6) (fun t9_7 H_8 =>
 aGuardK t7_4 true (fun K_9 H_10 =>
 K_9 (nth vs_1 0) H_10) (fun t10_11 H_12 =>
 aGuardK t7_4 true (fun K_13 H_14 =>
 bnd (aBin .sub .no t10_11 (.int .i64 1)) fun t11_15 =>
 K_13 t11_15 H_14) (fun t11_16 H_17 =>
 aGuardK t7_4 true (fun K_18 H_19 =>
 bnd (aIdxAddr 1 t9_7 t11_16) fun t12_20 =>
 K_18 t12_20 H_19) (fun t12_21 H_22 =>
 aGuardK t7_4 true (fun K_23 H_24 =>
 bnd (aLdCell t12_21 H_24) fun t13_25 =>
 K_23 t13_25 H_24) (fun t13_26 H_27 =>
 aGuardK t7_4 true (fun K_28 H_29 =>
 bnd (aBin .eql .no t13_26 (.int .u8 0)) fun t14_30 =>
 K_28 t14_30 H_29) (fun t14_31 H_32 =>
 bnd (aPick t7_4 t14_31 (.bool false)) fun t15_33 =>
 aCond t15_33 (
 bnd (aBin .sub .no (nth vs_1 0) (.int .i64 1)) fun t17_34 =>
 again_3 [t17_34] H_32) (
 bnd (aSliceSl 1 a0 none (some (nth vs_1 0))) fun t20_35 =>
 R t20_35 H_32)) H_27) H_22) H_17) H_12) H_8) H_2
def S66 (a0 : Value) (H : AHeap) (R : Value → AHeap → Prop) : Prop :=
 bnd (aLenSl a0) fun t5_0 =>
 aLoop [t5_0] H fun vs_1 H_2 again_3 =>
 (S66_36 a0 R vs_1 H_2 again_3)
theorem S66_calls {a0 : Value} {H : AHeap} {R : Value → AHeap → Prop} (h : S66 a0 H R) : ACalls Tryd.prog 66 [a0] H R :=
  have e : S66 a0 H R = awpFn Tryd.prog (Tryd.f66.body.getD .skip) Tryd.f66.results.toList ann66 [a0] H R := by kernel_rfl
  calls_of_awp (fn := Tryd.f66) (c := Tryd.f66.body.getD .skip) (an := ann66) (by kernel_rfl) Tryd.func66 (by kernel_rfl) (by kernel_rfl) (of_decide_eq_true (by kernel_rfl)) (e ▸ h)

/-- 70: internal/strconv.formatBits -/
def ann70 : Ann := (.two .leaf (.join [] [19, 20, 21, 22, 23, 24, 25, 26, 27, 28, 29] (.two .leaf (.two .leaf .leaf)) (.two .leaf (.two .leaf (.join [1] [1, 30, 31, 32] (.two .leaf (.two .leaf .leaf)) (.join [13] [1, 13, 14, 15, 16, 17, 18, 33, 34, 35, 36, 37, 38, 39, 40, 41, 42, 43, 44, 45, 46, 47, 48, 49, 50, 51, 52, 53, 54, 55, 56, 57, 58, 59, 60, 61, 62, 63, 64, 65, 66, 67, 68, 69, 70, 71, 72, 73, 74, 75, 76, 77, 78, 79, 80, 81, 82, 83, 84, 85, 86, 87, 88] (.two .leaf (.two (.two .leaf (.two .leaf (.two .leaf (.two (.one (.loop [1, 13] [1, 13, 44, 45, 46, 47, 48, 49, 50, 51, 52, 53, 54, 55, 56, 57] (.two (.two .leaf (.two .leaf .leaf)) (.one (.two .leaf (.two .leaf .leaf)))))) (.two .leaf .leaf))))) (.two .leaf (.two (.one (.loop [1, 13] [1, 13, 18, 66, 67, 68, 69, 70, 71, 72, 73, 74, 75, 76, 77, 78, 79, 80, 81, 82] (.two (.two .leaf (.two .leaf .leaf)) (.one (.two .leaf (.two .leaf (.two .leaf .leaf))))))) (.two .leaf .leaf))))) (.join [13] [13, 89, 90, 91, 92, 93] (.two .leaf (.two (.two .leaf .leaf) .leaf)) (.two (.two .leaf (.two (.two .leaf .leaf) .leaf)) (.two .leaf .leaf)))))))))
def S70_22 (a0 : Value) (a4 : Value) (R : Value → AHeap → Prop) (t12_3 : Value) (vs_11 : List Value) (H_12 : AHeap) : Prop :=
 aCond a4 (
 bnd (aSliceArr 65 1 t12_3 (some (nth vs_11 0)) none) fun t97_14 =>
 aAppend 1 1 5 a0 t97_14 H_12 fun t98_15 H_16 =>
 R (.tuple #[t98_15, (.string ⟨#[]⟩)]) H_16) (
 bnd (aSliceArr 65 1 t12_3 (some (nth vs_11 0)) none) fun t100_17 =>
 bnd (aBytesStr t100_17 H_12) fun t101_18 =>
 R (.tuple #[(.slice none 0 0), t101_18]) H_12)
def S70_42 (t12_3 : Value) (t38_28 : Value) (t43_31 : Value) (vs_32 : List Value) (H_33 : AHeap) (again_34 : List Value → AHeap → Prop) : Prop :=
 bnd (aBin .sub .no (nth vs_32 1) (.int .i64 1)) fun t48_36 =>
 bnd (aBin .and .no (nth vs_32 0) t43_31) fun t52_37 =>
 bnd (aIdxStr (.string ⟨#[48, 49, 50, 51, 52, 53, 54, 55, 56, 57, 97, 98, 99, 100, 101, 102, 103, 104, 105, 106, 107, 108, 109, 110, 111, 112, 113, 114, 115, 116, 117, 118, 119, 120, 121, 122]⟩) t52_37) fun t53_38 =>
 bnd (aIdxAddrArr 65 1 t12_3 t48_36) fun t54_39 =>
 bnd (aSt 1 t54_39 t53_38 H_33) fun H_40 =>
 bnd (aBin .shr .no (nth vs_32 0) t38_28) fun t57_41 =>
 again_34 [t57_41, t48_36] H_40
def S70_47 (t12_3 : Value) (J_10 : List Value → AHeap → Prop) (vs_32 : List Value) (H_33 : AHeap) : Prop :=
 bnd (aBin .sub .no (nth vs_32 1) (.int .i64 1)) fun t59_43 =>
 bnd (aIdxStr (.string ⟨#[48, 49, 50, 51, 52, 53, 54, 55, 56, 57, 97, 98, 99, 100, 101, 102, 103, 104, 105, 106, 107, 108, 109, 110, 111, 112, 113, 114, 115, 116, 117, 118, 119, 120, 121, 122]⟩) (nth vs_32 0)) fun t62_44 =>
 bnd (aIdxAddrArr 65 1 t12_3 t59_43) fun t63_45 =>
 bnd (aSt 1 t63_45 t62_44 H_33) fun H_46 =>
 J_10 [t59_43] H_46
def S70_48 (t12_3 : Value) (J_10 : List Value → AHeap → Prop) (t38_28 : Value) (t40_29 : Value) (t43_31 : Value) (vs_32 : List Value) (H_33 : AHeap) (again_34 : List Value → AHeap → Prop) : Prop :=
 bnd (aBin .geq .no (nth vs_32 0) t40_29) fun t46_35 =>
 aCond t46_35 (
 (S70_42 t12_3 t38_28 t43_31 vs_32 H_33 again_34)) (
 (S70_47 t12_3 J_10 vs_32 H_33))
def S70_49 (a2 : Value) (t12_3 : Value) (vs_5 : List Value) (J_10 : List Value → AHeap → Prop) (H_24 : AHeap) : Prop :=
 bnd (aConvInt .u64 a2) fun t36_25 =>
 ACalls Tryd.prog 91 [t36_25] H_24 fun t37_26 H_27 =>
 bnd (aConvInt .u64 t37_26) fun t38_28 =>
 bnd (aConvInt .u64 a2) fun t40_29 =>
 bnd (aConvInt .u64 a2) fun t42_30 =>
 bnd (aBin .sub .no t42_30 (.int .u64 1)) fun t43_31 =>
 aLoop [(nth vs_5 0), (.int .i64 65)] H_27 fun vs_32 H_33 again_34 =>
 (S70_48 t12_3 J_10 t38_28 t40_29 t43_31 vs_32 H_33 again_34)
def S70_62 (t12_3 : Value) (t65_50 : Value) (vs_51 : List Value) (H_52 : AHeap) (again_53 : List Value → AHeap → Prop) : Prop :=
 bnd (aBin .sub .no (nth vs_51 1) (.int .i64 1)) fun t70_55 =>
 bnd (aBin .quo .no (nth vs_51 0) t65_50) fun t73_56 =>
 bnd (aBin .mul .no t73_56 t65_50) fun t78_57 =>
 bnd (aBin .sub .no (nth vs_51 0) t78_57) fun t79_58 =>
 bnd (aIdxStr (.string ⟨#[48, 49, 50, 51, 52, 53, 54, 55, 56, 57, 97, 98, 99, 100, 101, 102, 103, 104, 105, 106, 107, 108, 109, 110, 111, 112, 113, 114, 115, 116, 117, 118, 119, 120, 121, 122]⟩) t79_58) fun t80_59 =>
 bnd (aIdxAddrArr 65 1 t12_3 t70_55) fun t81_60 =>
 bnd (aSt 1 t81_60 t80_59 H_52) fun H_61 =>
 again_53 [t73_56, t70_55] H_61
def S70_67 (t12_3 : Value) (J_10 : List Value → AHeap → Prop) (vs_51 : List Value) (H_52 : AHeap) : Prop :=
 bnd (aBin .sub .no (nth vs_51 1) (.int .i64 1)) fun t84_63 =>
 bnd (aIdxStr (.string ⟨#[48, 49, 50, 51, 52, 53, 54, 55, 56, 57, 97, 98, 99, 100, 101, 102, 103, 104, 105, 106, 107, 108, 109, 110, 111, 112, 113, 114, 115, 116, 117, 118, 119, 120, 121, 122]⟩) (nth vs_51 0)) fun t87_64 =>
 bnd (aIdxAddrArr 65 1 t12_3 t84_63) fun t88_65 =>
 bnd (aSt 1 t88_65 t87_64 H_52) fun H_66 =>
 J_10 [t84_63] H_66
def S70_68 (t12_3 : Value) (J_10 : List Value → AHeap → Prop) (t65_50 : Value) (vs_51 : List Value) (H_52 : AHeap) (again_53 : List Value → AHeap → Prop) : Prop :=
 bnd (aBin .geq .no (nth vs_51 0) t65_50) fun t68_54 =>
 aCond t68_54 (
 (S70_62 t12_3 t65_50 vs_51 H_52 again_53)) (
 (S70_67 t12_3 J_10 vs_51 H_52))
def S70_69 (a0 : Value) (a3 : Value) (a4 : Value) (R : Value → AHeap → Prop) (t12_3 : Value) (vs_8 : List Value) (H_9 : AHeap) : Prop :=
 aJoin (fun vs_11 H_12 =>
 (S70_22 a0 a4 R t12_3 vs_11 H_12)) fun J_13 =>
 aCond a3 (
 bnd (aBin .sub .no (nth vs_8 0) (.int .i64 1)) fun t91_19 =>
 bnd (aIdxAddrArr 65 1 t12_3 t91_19) fun t93_20 =>
 bnd (aSt 1 t93_20 (.int .u8 45) H_9) fun H_21 =>
 J_13 [t91_19] H_21) (
 J_13 [(nth vs_8 0)] H_9)
def S70_71 (a0 : Value) (a2 : Value) (a3 : Value) (a4 : Value) (R : Value → AHeap → Prop) (t12_3 : Value) (vs_5 : List Value) (H_6 : AHeap) : Prop :=
 aJoin (fun vs_8 H_9 =>
 (S70_69 a0 a3 a4 R t12_3 vs_8 H_9)) fun J_10 =>
 ACalls Tryd.prog 90 [a2] H_6 fun t34_23 H_24 =>
 aCond t34_23 (
 (S70_49 a2 t12_3 vs_5 J_10 H_24)) (
 bnd (aConvInt .u64 a2) fun t65_50 =>
 aLoop [(nth vs_5 0), (.int .i64 65)] H_24 fun vs_51 H_52 again_53 =>
 (S70_68 t12_3 J_10 t65_50 vs_51 H_52 again_53))
def S70_93 (a0 : Value) (a1 : Value) (a2 : Value) (a3 : Value) (a4 : Value) (R : Value → AHeap → Prop) (H_1 : AHeap) : Prop :=
 aAlloc [(.int .u8 0), (.int .u8 0), (.int .u8 0), (.int .u8 0), (.int .u8 0), (.int .u8 0), (.int .u8 0), (.int .u8 0), (.int .u8 0), (.int .u8 0), (.int .u8 0), (.int .u8 0), (.int .u8 0), (.int .u8 0), (.int .u8 0), (.int .u8 0), (.int .u8 0), (.int .u8 0), (.int .u8 0), (.int .u8 0), (.int .u8 0), (.int .u8 0), (.int .u8 0), (.int .u8 0), (.int .u8 0), (.int .u8 0), (.int .u8 0), (.int .u8 0), (.int .u8 0), (.int .u8 0), (.int .u8 0), (.int .u8 0), (.int .u8 0), (.int .u8 0), (.int .u8 0), (.int .u8 0), (.int .u8 0), (.int .u8 0), (.int .u8 0), (.int .u8 0), (.int .u8 0), (.int .u8 0), (.int .u8 0), (.int .u8 0), (.int .u8 0), (.int .u8 0), (.int .u8 0), (.int .u8 0), (.int .u8 0), (.int .u8 0), (.int .u8 0), (.int .u8 0), (.int .u8 0), (.int .u8 0), (.int .u8 0), (.int .u8 0), (.int .u8 0), (.int .u8 0), (.int .u8 0), (.int .u8 0), (.int .u8 0), (.int .u8 0), (.int .u8 0), (.int .u8 0), (.int .u8 0)] 127 H_1 fun t12_3 H_4 =>
 aJoin (fun vs_5 H_6 =>
 (S70_71 a0 a2 a3 a4 R t12_3 vs_5 H_6)) fun J_7 =>
 aCond a3 (
 bnd (aUn .neg a1) fun t32_70 =>
 J_7 [t32_70] H_4) (
 J_7 [a1] H_4)
def S70 (a0 : Value) (a1 : Value) (a2 : Value) (a3 : Value) (a4 : Value) (H : AHeap) (R : Value → AHeap → Prop) : Prop :=
 aJoin (fun vs_0 H_1 =>
 (S70_93 a0 a1 a2 a3 a4 R H_1)) fun J_2 =>
 bnd (aBin .lss .no a2 (.int .i64 2)) fun t20_72 =>
 aGuardK t20_72 false (fun K_73 H_74 =>
 K_73 a2 H_74) (fun t22_75 H_76 =>
 aGuardK t20_72 false (fun K_77 H_78 =>
 bnd (aBin .eql .no t22_75 (.int .i64 10)) fun t23_79 =>
 K_77 t23_79 H_78) (fun t23_80 H_81 =>
 bnd (aPick t20_72 (.bool true) t23_80) fun t24_82 =>
 aGuardK t24_82 false (fun K_83 H_84 =>
 K_83 a2 H_84) (fun t26_85 H_86 =>
 aGuardK t24_82 false (fun K_87 H_88 =>
 bnd (aBin .gtr .no t26_85 (.int .i64 36)) fun t27_89 =>
 K_87 t27_89 H_88) (fun t27_90 H_91 =>
 bnd (aPick t24_82 (.bool true) t27_90) fun t28_92 =>
 aCond t28_92 (
 False) (
 J_2 [] H_91)) H_86) H_81) H_76) H
theorem S70_calls {a0 a1 a2 a3 a4 : Value} {H : AHeap} {R : Value → AHeap → Prop} (h : S70 a0 a1 a2 a3 a4 H R) : ACalls Tryd.prog 70 [a0, a1, a2, a3, a4] H R :=
  have e : S70 a0 a1 a2 a3 a4 H R = awpFn Tryd.prog (Tryd.f70.body.getD .skip) Tryd.f70.results.toList ann70 [a0, a1, a2, a3, a4] H R := by kernel_rfl
  calls_of_awp (fn := Tryd.f70) (c := Tryd.f70.body.getD .skip) (an := ann70) (by kernel_rfl) Tryd.func70 (by kernel_rfl) (by kernel_rfl) (of_decide_eq_true (by kernel_rfl)) (e ▸ h)

/-- 90: internal/strconv.isPowerOfTwo -/
def ann90 : Ann := (.two .leaf (.two .leaf .leaf))
def S90 (a0 : Value) (H : AHeap) (R : Value → AHeap → Prop) : Prop :=
 bnd (aBin .sub .no a0 (.int .i64 1)) fun t5_0 =>
 bnd (aBin .and .no a0 t5_0) fun t6_1 =>
 bnd (aBin .eql .no t6_1 (.int .i64 0)) fun t7_2 =>
 R t7_2 H
theorem S90_calls {a0 : Value} {H : AHeap} {R : Value → AHeap → Prop} (h : S90 a0 H R) : ACalls Tryd.prog 90 [a0] H R :=
  have e : S90 a0 H R = awpFn Tryd.prog (Tryd.f90.body.getD .skip) Tryd.f90.results.toList ann90 [a0] H R := by kernel_rfl
  calls_of_awp (fn := Tryd.f90) (c := Tryd.f90.body.getD .skip) (an := ann90) (by kernel_rfl) Tryd.func90 (by kernel_rfl) (by kernel_rfl) (of_decide_eq_true (by kernel_rfl)) (e ▸ h)

/-- 91: math/bits.TrailingZeros -/
def ann91 : Ann := (.two .leaf (.two (.two (.two .leaf .leaf) .leaf) (.two .leaf .leaf)))
def S91 (a0 : Value) (H : AHeap) (R : Value → AHeap → Prop) : Prop :=
 aCond (.bool false) (
 bnd (aConvInt .u32 a0) fun t4_0 =>
 ACalls Tryd.prog 100 [t4_0] H fun t5_1 H_2 =>
 R t5_1 H_2) (
 ACalls Tryd.prog 101 [a0] H fun t7_3 H_4 =>
 R t7_3 H_4)
theorem S91_calls {a0 : Value} {H : AHeap} {R : Value → AHeap → Prop} (h : S91 a0 H R) : ACalls Tryd.prog 91 [a0] H R :=
  have e : S91 a0 H R = awpFn Tryd.prog (Tryd.f91.body.getD .skip) Tryd.f91.results.toList ann91 [a0] H R := by kernel_rfl
  calls_of_awp (fn := Tryd.f91) (c := Tryd.f91.body.getD .skip) (an := ann91) (by kernel_rfl) Tryd.func91 (by kernel_rfl) (by kernel_rfl) (of_decide_eq_true (by kernel_rfl)) (e ▸ h)

/-- 101: math/bits.TrailingZeros64 -/
def ann101 : Ann := (.two .leaf (.two (.two .leaf (.two (.two .leaf .leaf) .leaf)) (.two .leaf .leaf)))
def S101_8 (a0 : Value) (H : AHeap) (R : Value → AHeap → Prop) : Prop :=
 bnd (aUn .neg a0) fun t7_1 =>
 bnd (aBin .and .no a0 t7_1) fun t8_2 =>
 bnd (aBin .mul .no t8_2 (.int .u64 285870213051353865)) fun t9_3 =>
 bnd (aBin .shr .no t9_3 (.int .u64 58)) fun t10_4 =>
 bnd (aIdxAddrArr 64 1 (.pointer (some ⟨7, 0, none⟩)) t10_4) fun t11_5 =>
 bnd (aLdCell t11_5 H) fun t12_6 =>
 bnd (aConvInt .i64 t12_6) fun t13_7 =>
 R t13_7 H
def S101 (a0 : Value) (H : AHeap) (R : Value → AHeap → Prop) : Prop :=
 bnd (aBin .eql .no a0 (.int .u64 0)) fun t4_0 =>
 aCond t4_0 (
 R (.int .i64 64) H) (
 (S101_8 a0 H R))
theorem S101_calls {a0 : Value} {H : AHeap} {R : Value → AHeap → Prop} (h : S101 a0 H R) : ACalls Tryd.prog 101 [a0] H R :=
  have e : S101 a0 H R = awpFn Tryd.prog (Tryd.f101.body.getD .skip) Tryd.f101.results.toList ann101 [a0] H R := by kernel_rfl
  calls_of_awp (fn := Tryd.f101) (c := Tryd.f101.body.getD .skip) (an := ann101) (by kernel_rfl) Tryd.func101 (by kernel_rfl) (by kernel_rfl) (of_decide_eq_true (by kernel_rfl)) (e ▸ h)

end Go.Proofs.YtnbnojkfhfkecaaDoor.A
