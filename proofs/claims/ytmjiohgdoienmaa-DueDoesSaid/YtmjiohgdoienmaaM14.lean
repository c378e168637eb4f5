/- Printed by denprint.py: the Go function as a predicate, and that it stands for the call. No condition. -/
import Derived.Test.YtmjiohgdoienmaaFns
set_option maxRecDepth 100000
set_option linter.unusedVariables false
namespace Go.Proofs.Ytmjiohgdoienmaa
open Go.Den

-- 14 (*tumbrel.tumbrelref07.Heap).Put
def M_tumbrelref07_Heap_Put (L_p0 i_p1 s_p2 : Value) (w : World) (R : Value → World → Prop) : Prop :=
  CALL PR F_tumbrelref07_Heap_find [L_p0, i_p1] w fun y_1 w1 =>
  BND (binv .int .geq y_1 (Value.int .i64 0)) fun t12_2 =>
  COND t12_2
  (R (Value.bool false) w1)
  (∃ (J_3 : Value → World → Prop) (m_3 : Value → World → Nat), J_3 (Value.int .i64 0) w1 ∧ ∀ (_d_3 : Env) (A_4 : Value) (w2 : World), J_3 A_4 w2 →
  (BND (nilchk L_p0) fun t15_50 =>
  BND (faddr 0 t15_50) fun t16_51 =>
  BND (load1 w2 t16_51) fun t17_52 =>
  BND (lenl t17_52) fun t18_53 =>
  BND (binv .int .lss A_4 t18_53) fun t19_54 =>
  BND (grd (isB t19_54 true) (some L_p0)) fun t21_55 =>
  BND (grd (isB t19_54 true) (nilchk t21_55)) fun t22_56 =>
  BND (grd (isB t19_54 true) (faddr 0 t22_56)) fun t23_57 =>
  BND (grd (isB t19_54 true) (load1 w2 t23_57)) fun t24_58 =>
  BND (grd (isB t19_54 true) (some A_4)) fun t25_59 =>
  BND (grd (isB t19_54 true) (iaddr 2 t24_58 t25_59)) fun t26_60 =>
  BND (grd (isB t19_54 true) (faddr 1 t26_60)) fun t27_61 =>
  BND (grd (isB t19_54 true) (load1 w2 t27_61)) fun t28_62 =>
  BND (grd (isB t19_54 true) (some s_p2)) fun t29_63 =>
  BND (grd (isB t19_54 true) (binv .int .lss t28_62 t29_63)) fun t30_64 =>
  BND (grd (isB t19_54 true) (some t30_64)) fun t31_65 =>
  BND (grd (isB t31_65 false) (some L_p0)) fun t32_66 =>
  BND (grd (isB t31_65 false) (nilchk t32_66)) fun t33_67 =>
  BND (grd (isB t31_65 false) (faddr 0 t33_67)) fun t34_68 =>
  BND (grd (isB t31_65 false) (load1 w2 t34_68)) fun t35_69 =>
  BND (grd (isB t31_65 false) (some A_4)) fun t36_70 =>
  BND (grd (isB t31_65 false) (iaddr 2 t35_69 t36_70)) fun t37_71 =>
  BND (grd (isB t31_65 false) (faddr 1 t37_71)) fun t38_72 =>
  BND (grd (isB t31_65 false) (load1 w2 t38_72)) fun t39_73 =>
  BND (grd (isB t31_65 false) (some s_p2)) fun t40_74 =>
  BND (grd (isB t31_65 false) (binv .int .eql t39_73 t40_74)) fun t41_75 =>
  BND (grd (isB t31_65 false) (some t41_75)) fun t42_76 =>
  BND (grd (isB t42_76 true) (some L_p0)) fun t43_77 =>
  BND (grd (isB t42_76 true) (nilchk t43_77)) fun t44_78 =>
  BND (grd (isB t42_76 true) (faddr 0 t44_78)) fun t45_79 =>
  BND (grd (isB t42_76 true) (load1 w2 t45_79)) fun t46_80 =>
  BND (grd (isB t42_76 true) (some A_4)) fun t47_81 =>
  BND (grd (isB t42_76 true) (iaddr 2 t46_80 t47_81)) fun t48_82 =>
  BND (grd (isB t42_76 true) (faddr 0 t48_82)) fun t49_83 =>
  BND (grd (isB t42_76 true) (load1 w2 t49_83)) fun t50_84 =>
  BND (grd (isB t42_76 true) (some i_p1)) fun t51_85 =>
  BND (grd (isB t42_76 true) (binv .int .lss t50_84 t51_85)) fun t52_86 =>
  BND (grd (isB t31_65 false) (pickv t42_76 t52_86 (Value.bool false))) fun t53_87 =>
  BND (grd (isB t19_54 true) (pickv t31_65 (Value.bool true) t53_87)) fun t54_88 =>
  BND (pickv t19_54 t54_88 (Value.bool false)) fun t55_89 =>
  COND t55_89
  (BND (binv .int .add A_4 (Value.int .i64 1)) fun t57_90 =>
  (J_3 t57_90 w2 ∧ m_3 t57_90 w2 < m_3 A_4 w2))
  (BND (newslice 58 #[(Value.int .u64 0), (Value.int .u64 0)] 2 0 [] w2) fun p_ => NEW p_ fun t58_91 w3 =>
  BND (nilchk L_p0) fun t60_92 =>
  BND (faddr 0 t60_92) fun t61_93 =>
  BND (load1 w3 t61_93) fun t62_94 =>
  BND (slicev 2 t62_94 none (some A_4)) fun t64_95 =>
  APPEND 58 2 16 (Value.agg #[(Value.int .u64 0), (Value.int .u64 0)]) t58_91 t64_95 w3 fun t65_96 w4 =>
  BND (buildv #[(Value.int .u64 0), (Value.int .u64 0)] [(0, 1, i_p1), (1, 1, s_p2)]) fun t68_97 =>
  BND (newslice 58 #[(Value.int .u64 0), (Value.int .u64 0)] 2 1 [(0, 2, t68_97)] w4) fun p_ => NEW p_ fun t69_98 w5 =>
  APPEND 58 2 16 (Value.agg #[(Value.int .u64 0), (Value.int .u64 0)]) t65_96 t69_98 w5 fun t70_99 w6 =>
  BND (nilchk L_p0) fun t74_100 =>
  BND (faddr 0 t74_100) fun t75_101 =>
  BND (load1 w6 t75_101) fun t76_102 =>
  BND (slicev 2 t76_102 (some A_4) none) fun t78_103 =>
  APPEND 58 2 16 (Value.agg #[(Value.int .u64 0), (Value.int .u64 0)]) t70_99 t78_103 w6 fun t79_104 w7 =>
  BND (nilchk L_p0) fun t80_105 =>
  BND (faddr 0 t80_105) fun t81_106 =>
  BND (storev 1 w7 t81_106 t79_104) fun w8 =>
  R (Value.bool true) w8)))
def ann_tumbrelref07_Heap_Put : List (Nat × List Nat) := [(1000004, [7])]
theorem E_tumbrelref07_Heap_Put (L_p0 i_p1 s_p2 : Value) (w : World) (R : Value → World → Prop) : M_tumbrelref07_Heap_Put L_p0 i_p1 s_p2 w R = den PR ann_tumbrelref07_Heap_Put (bodyOf Try.f14) (retQ PR Try.f14.results.toList R) (env0 [L_p0, i_p1, s_p2]) w := by kernel_rfl
theorem C_tumbrelref07_Heap_Put {L_p0 i_p1 s_p2 : Value} {w : World} {R : Value → World → Prop} (h : M_tumbrelref07_Heap_Put L_p0 i_p1 s_p2 w R) : CALL PR F_tumbrelref07_Heap_Put [L_p0, i_p1, s_p2] w R :=
  call_of_den2 ann_tumbrelref07_Heap_Put Try.func14 (by kernel_rfl) (by kernel_rfl) (by kernel_rfl) ((E_tumbrelref07_Heap_Put L_p0 i_p1 s_p2 w R) ▸ h)

end Go.Proofs.Ytmjiohgdoienmaa
