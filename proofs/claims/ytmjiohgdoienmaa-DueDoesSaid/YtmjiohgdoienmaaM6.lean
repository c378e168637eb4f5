/- Printed by denprint.py: the Go function as a predicate, and that it stands for the call. No condition. -/
import Derived.Test.YtmjiohgdoienmaaFns
set_option maxRecDepth 100000
set_option linter.unusedVariables false
namespace Go.Proofs.Ytmjiohgdoienmaa
open Go.Den

-- 6 tumbrel.tumbrellaw07.awake
def M_tumbrellaw07_awake (w : World) (R : Value → World → Prop) : Prop :=
  CALL PR F_due_New [] w fun t12_1 w1 =>
  BND (binv .ptr .eql t12_1 (Value.pointer none)) fun t14_2 =>
  COND t14_2
  (R (Value.bool false) w1)
  (CALL PR F_due_Heap_Put [t12_1, (Value.int .u64 1), (Value.int .u64 5)] w1 fun t16_3 w2 =>
  CALL PR F_due_Heap_Put [t12_1, (Value.int .u64 2), (Value.int .u64 3)] w2 fun t18_4 w3 =>
  CALL PR F_due_Heap_Put [t12_1, (Value.int .u64 1), (Value.int .u64 9)] w3 fun t20_5 w4 =>
  CALL PR F_due_Heap_Take [t12_1, (Value.int .u64 9)] w4 fun t23_6 w5 =>
  BND (extractv t23_6 0) fun t24_7 =>
  BND (extractv t23_6 1) fun t25_8 =>
  BND (extractv t23_6 2) fun t26_9 =>
  CALL PR F_due_Heap_Move [t12_1, (Value.int .u64 1), (Value.int .u64 7)] w5 fun t28_10 w6 =>
  CALL PR F_due_Heap_Take [t12_1, (Value.int .u64 6)] w6 fun t31_11 w7 =>
  BND (extractv t31_11 0) fun t32_12 =>
  BND (extractv t31_11 1) fun t33_13 =>
  BND (extractv t31_11 2) fun t34_14 =>
  BND (grd (isB t16_3 true) (some t18_4)) fun t37_15 =>
  BND (pickv t16_3 t37_15 (Value.bool false)) fun t38_16 =>
  BND (grd (isB t38_16 true) (some t20_5)) fun t40_17 =>
  BND (grd (isB t38_16 true) (unv .not t40_17)) fun t41_18 =>
  BND (pickv t38_16 t41_18 (Value.bool false)) fun t42_19 =>
  BND (grd (isB t42_19 true) (some t24_7)) fun t44_20 =>
  BND (grd (isB t42_19 true) (binv .int .eql t44_20 (Value.int .u64 2))) fun t45_21 =>
  BND (pickv t42_19 t45_21 (Value.bool false)) fun t46_22 =>
  BND (grd (isB t46_22 true) (some t25_8)) fun t48_23 =>
  BND (grd (isB t46_22 true) (binv .int .eql t48_23 (Value.int .u64 3))) fun t49_24 =>
  BND (pickv t46_22 t49_24 (Value.bool false)) fun t50_25 =>
  BND (grd (isB t50_25 true) (some t26_9)) fun t52_26 =>
  BND (pickv t50_25 t52_26 (Value.bool false)) fun t53_27 =>
  BND (grd (isB t53_27 true) (some t28_10)) fun t55_28 =>
  BND (pickv t53_27 t55_28 (Value.bool false)) fun t56_29 =>
  BND (grd (isB t56_29 true) (some t34_14)) fun t58_30 =>
  BND (grd (isB t56_29 true) (unv .not t58_30)) fun t59_31 =>
  BND (pickv t56_29 t59_31 (Value.bool false)) fun t60_32 =>
  BND (grd (isB t60_32 true) (some t12_1)) fun t62_33 =>
  GEF (isB t60_32 true) (fun k_ => CALL PR F_due_Heap_Len [t62_33] w7 k_) w7 fun t63_34 w8 =>
  BND (grd (isB t60_32 true) (binv .int .eql t63_34 (Value.int .i64 1))) fun t64_35 =>
  BND (pickv t60_32 t64_35 (Value.bool false)) fun t65_36 =>
  BND (grd (isB t65_36 true) (some t12_1)) fun t67_37 =>
  GEF (isB t65_36 true) (fun k_ => CALL PR F_due_Heap_Drop [t67_37, (Value.int .u64 1)] w8 k_) w8 fun t68_38 w9 =>
  BND (pickv t65_36 t68_38 (Value.bool false)) fun t69_39 =>
  BND (grd (isB t69_39 true) (some t12_1)) fun t71_40 =>
  GEF (isB t69_39 true) (fun k_ => CALL PR F_due_Heap_Len [t71_40] w9 k_) w9 fun t72_41 w10 =>
  BND (grd (isB t69_39 true) (binv .int .eql t72_41 (Value.int .i64 0))) fun t73_42 =>
  BND (pickv t69_39 t73_42 (Value.bool false)) fun t74_43 =>
  R t74_43 w10)
def ann_tumbrellaw07_awake : List (Nat × List Nat) := []
theorem E_tumbrellaw07_awake (w : World) (R : Value → World → Prop) : M_tumbrellaw07_awake w R = den PR ann_tumbrellaw07_awake (bodyOf Try.f6) (retQ PR Try.f6.results.toList R) (env0 []) w := by kernel_rfl
theorem C_tumbrellaw07_awake {w : World} {R : Value → World → Prop} (h : M_tumbrellaw07_awake w R) : CALL PR F_tumbrellaw07_awake [] w R :=
  call_of_den2 ann_tumbrellaw07_awake Try.func6 (by kernel_rfl) (by kernel_rfl) (by kernel_rfl) ((E_tumbrellaw07_awake w R) ▸ h)

end Go.Proofs.Ytmjiohgdoienmaa
