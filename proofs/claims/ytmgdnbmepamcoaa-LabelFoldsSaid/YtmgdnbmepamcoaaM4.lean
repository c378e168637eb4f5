/- Printed by denprint.py: the Go function as a predicate, and that it stands for the call. No condition. -/
import Derived.Test.YtmgdnbmepamcoaaFns
set_option maxRecDepth 100000
set_option linter.unusedVariables false
namespace Go.Proofs.Ytmgdnbmepamcoaa
open Go.Den

-- 4 tumbrel.tumbrellaw03.LabelFolds
def M_tumbrellaw03_LabelFolds (s_p0 : Value) (w : World) (R : Value → World → Prop) : Prop :=
  CALL PR F_tumbrellaw03_awake [] w fun t4_1 w1 =>
  BND (unv .not t4_1) fun t5_2 =>
  COND t5_2
  (R (Value.bool false) w1)
  (BND (lens s_p0) fun t7_3 =>
  BND (binv .int .gtr t7_3 (Value.int .i64 300)) fun t8_4 =>
  COND t8_4
  (R (Value.bool true) w1)
  (CALL PR F_label_Fold [s_p0] w1 fun t10_5 w2 =>
  CALL PR F_label_Fold [t10_5] w2 fun t12_6 w3 =>
  BND (binv .str .eql t12_6 t10_5) fun t14_7 =>
  BND (grd (isB t14_7 true) (some t10_5)) fun t16_8 =>
  GEF (isB t14_7 true) (fun k_ => CALL PR F_label_Len [t16_8] w3 k_) w3 fun t17_9 w4 =>
  BND (grd (isB t14_7 true) (some s_p0)) fun t18_10 =>
  GEF (isB t14_7 true) (fun k_ => CALL PR F_label_Len [t18_10] w4 k_) w4 fun t19_11 w5 =>
  BND (grd (isB t14_7 true) (binv .int .eql t17_9 t19_11)) fun t20_12 =>
  BND (pickv t14_7 t20_12 (Value.bool false)) fun t21_13 =>
  BND (grd (isB t21_13 true) (some s_p0)) fun t23_14 =>
  GEF (isB t21_13 true) (fun k_ => CALL PR F_label_Right [t23_14] w5 k_) w5 fun t24_15 w6 =>
  BND (grd (isB t21_13 true) (unv .not t24_15)) fun t25_16 =>
  BND (grd (isB t21_13 true) (some t25_16)) fun t26_17 =>
  BND (grd (isB t26_17 false) (some t10_5)) fun t27_18 =>
  GEF (isB t26_17 false) (fun k_ => CALL PR F_label_Right [t27_18] w6 k_) w6 fun t28_19 w7 =>
  BND (grd (isB t21_13 true) (pickv t26_17 (Value.bool true) t28_19)) fun t29_20 =>
  BND (pickv t21_13 t29_20 (Value.bool false)) fun t30_21 =>
  R t30_21 w7))
def ann_tumbrellaw03_LabelFolds : List (Nat × List Nat) := []
theorem E_tumbrellaw03_LabelFolds (s_p0 : Value) (w : World) (R : Value → World → Prop) : M_tumbrellaw03_LabelFolds s_p0 w R = den PR ann_tumbrellaw03_LabelFolds (bodyOf Try.f4) (retQ PR Try.f4.results.toList R) (env0 [s_p0]) w := by kernel_rfl
theorem C_tumbrellaw03_LabelFolds {s_p0 : Value} {w : World} {R : Value → World → Prop} (h : M_tumbrellaw03_LabelFolds s_p0 w R) : CALL PR F_tumbrellaw03_LabelFolds [s_p0] w R :=
  call_of_den2 ann_tumbrellaw03_LabelFolds Try.func4 (by kernel_rfl) (by kernel_rfl) (by kernel_rfl) ((E_tumbrellaw03_LabelFolds s_p0 w R) ▸ h)

end Go.Proofs.Ytmgdnbmepamcoaa
