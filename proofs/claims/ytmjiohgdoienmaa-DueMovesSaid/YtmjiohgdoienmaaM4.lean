/- Printed by denprint.py: the Go function as a predicate, and that it stands for the call. No condition. -/
import Derived.Test.YtmjiohgdoienmaaFns
set_option maxRecDepth 100000
set_option linter.unusedVariables false
namespace Go.Proofs.Ytmjiohgdoienmaa
open Go.Den

-- 4 tumbrel.tumbrellaw07.DueMoves
def M_tumbrellaw07_DueMoves (L_p0 i_p1 s_p2 : Value) (w : World) (R : Value → World → Prop) : Prop :=
  CALL PR F_tumbrellaw07_awake [] w fun t19_1 w1 =>
  BND (unv .not t19_1) fun t20_2 =>
  COND t20_2
  (R (Value.bool false) w1)
  (BND (lenl L_p0) fun t22_3 =>
  BND (binv .int .gtr t22_3 (Value.int .i64 200)) fun t23_4 =>
  COND t23_4
  (R (Value.bool true) w1)
  (CALL PR F_due_New [] w1 fun t24_5 w2 =>
  CALL PR F_due_New [] w2 fun t25_6 w3 =>
  BND (lenl L_p0) fun t27_7 =>
  ∃ (J_8 : Value → World → Prop) (m_8 : Value → World → Nat), J_8 (Value.int .i64 0) w3 ∧ ∀ (_d_8 : Env) (t28_10 : Value) (w4 : World), J_8 t28_10 w4 →
  (BND (binv .int .lss t28_10 t27_7) fun t29_27 =>
  COND t29_27
  (BND (iaddr 3 L_p0 t28_10) fun t30_28 =>
  BND (loadn 3 w4 t30_28) fun t31_29 =>
  NEW (newv 28 w4 (Value.agg #[(Value.int .i64 0), (Value.int .u64 0), (Value.int .u64 0)])) fun a_30 w5 =>
  BND (storev 3 w5 a_30 t31_29) fun w6 =>
  BND (faddr 1 a_30) fun t33_31 =>
  BND (load1 w6 t33_31) fun t34_32 =>
  BND (faddr 2 a_30) fun t35_33 =>
  BND (load1 w6 t35_33) fun t36_34 =>
  CALL PR F_due_Heap_Put [t24_5, t34_32, t36_34] w6 fun t37_35 w7 =>
  BND (faddr 1 a_30) fun t39_36 =>
  BND (load1 w7 t39_36) fun t40_37 =>
  BND (faddr 2 a_30) fun t41_38 =>
  BND (load1 w7 t41_38) fun t42_39 =>
  CALL PR F_due_Heap_Put [t25_6, t40_37, t42_39] w7 fun t43_40 w8 =>
  BND (binv .int .add t28_10 (Value.int .i64 1)) fun t44_41 =>
  (J_8 t44_41 w8 ∧ m_8 t44_41 w8 < m_8 t28_10 w4))
  (CALL PR F_due_Heap_Move [t24_5, i_p1, s_p2] w4 fun t48_42 w9 =>
  CALL PR F_due_Heap_Drop [t25_6, i_p1] w9 fun t51_43 w10 =>
  BND (binv .bool .neq t51_43 t48_42) fun t54_44 =>
  BND (grd (isB t54_44 false) (some t51_43)) fun t56_45 =>
  BND (grd (isB t54_44 false) (some t56_45)) fun t57_46 =>
  BND (grd (isB t57_46 true) (some t25_6)) fun t58_47 =>
  BND (grd (isB t57_46 true) (some i_p1)) fun t59_48 =>
  BND (grd (isB t57_46 true) (some s_p2)) fun t60_49 =>
  GEF (isB t57_46 true) (fun k_ => CALL PR F_due_Heap_Put [t58_47, t59_48, t60_49] w10 k_) w10 fun t61_50 w11 =>
  BND (grd (isB t57_46 true) (unv .not t61_50)) fun t62_51 =>
  BND (grd (isB t54_44 false) (pickv t57_46 t62_51 (Value.bool false))) fun t63_52 =>
  BND (pickv t54_44 (Value.bool true) t63_52) fun t64_53 =>
  BND (grd (isB t64_53 false) (some t24_5)) fun t66_54 =>
  GEF (isB t64_53 false) (fun k_ => CALL PR F_due_Heap_Len [t66_54] w11 k_) w11 fun t67_55 w12 =>
  BND (grd (isB t64_53 false) (some t25_6)) fun t68_56 =>
  GEF (isB t64_53 false) (fun k_ => CALL PR F_due_Heap_Len [t68_56] w12 k_) w12 fun t69_57 w13 =>
  BND (grd (isB t64_53 false) (binv .int .neq t67_55 t69_57)) fun t70_58 =>
  BND (pickv t64_53 (Value.bool true) t70_58) fun t71_59 =>
  COND t71_59
  (R (Value.bool false) w13)
  (BND (lenl L_p0) fun t73_60 =>
  ∃ (J_61 : Value → World → Prop) (m_61 : Value → World → Nat), J_61 (Value.int .i64 0) w13 ∧ ∀ (_d_61 : Env) (t74_69 : Value) (w14 : World), J_61 t74_69 w14 →
  (BND (binv .int .lss t74_69 t73_60) fun t75_97 =>
  COND t75_97
  (CALL PR F_due_Heap_Take [t24_5, (Value.int .u64 18446744073709551615)] w14 fun t78_98 w15 =>
  BND (extractv t78_98 0) fun t79_99 =>
  BND (extractv t78_98 1) fun t80_100 =>
  BND (extractv t78_98 2) fun t81_101 =>
  CALL PR F_due_Heap_Take [t25_6, (Value.int .u64 18446744073709551615)] w15 fun t84_102 w16 =>
  BND (extractv t84_102 0) fun t85_103 =>
  BND (extractv t84_102 1) fun t86_104 =>
  BND (extractv t84_102 2) fun t87_105 =>
  BND (binv .int .neq t79_99 t85_103) fun t90_106 =>
  BND (grd (isB t90_106 false) (some t80_100)) fun t92_107 =>
  BND (grd (isB t90_106 false) (some t86_104)) fun t93_108 =>
  BND (grd (isB t90_106 false) (binv .int .neq t92_107 t93_108)) fun t94_109 =>
  BND (pickv t90_106 (Value.bool true) t94_109) fun t95_110 =>
  BND (grd (isB t95_110 false) (some t81_101)) fun t97_111 =>
  BND (grd (isB t95_110 false) (some t87_105)) fun t98_112 =>
  BND (grd (isB t95_110 false) (binv .bool .neq t97_111 t98_112)) fun t99_113 =>
  BND (pickv t95_110 (Value.bool true) t99_113) fun t100_114 =>
  COND t100_114
  (R (Value.bool false) w16)
  (BND (binv .int .add t74_69 (Value.int .i64 1)) fun t101_115 =>
  (J_61 t101_115 w16 ∧ m_61 t101_115 w16 < m_61 t74_69 w14)))
  (CALL PR F_due_Heap_Len [t24_5] w14 fun t103_116 w17 =>
  BND (binv .int .eql t103_116 (Value.int .i64 0)) fun t104_117 =>
  R t104_117 w17)))))))
def ann_tumbrellaw07_DueMoves : List (Nat × List Nat) := [(1000007, [28]), (1000017, [74])]
theorem E_tumbrellaw07_DueMoves (L_p0 i_p1 s_p2 : Value) (w : World) (R : Value → World → Prop) : M_tumbrellaw07_DueMoves L_p0 i_p1 s_p2 w R = den PR ann_tumbrellaw07_DueMoves (bodyOf Try.f4) (retQ PR Try.f4.results.toList R) (env0 [L_p0, i_p1, s_p2]) w := by kernel_rfl
theorem C_tumbrellaw07_DueMoves {L_p0 i_p1 s_p2 : Value} {w : World} {R : Value → World → Prop} (h : M_tumbrellaw07_DueMoves L_p0 i_p1 s_p2 w R) : CALL PR F_tumbrellaw07_DueMoves [L_p0, i_p1, s_p2] w R :=
  call_of_den2 ann_tumbrellaw07_DueMoves Try.func4 (by kernel_rfl) (by kernel_rfl) (by kernel_rfl) ((E_tumbrellaw07_DueMoves L_p0 i_p1 s_p2 w R) ▸ h)

end Go.Proofs.Ytmjiohgdoienmaa
