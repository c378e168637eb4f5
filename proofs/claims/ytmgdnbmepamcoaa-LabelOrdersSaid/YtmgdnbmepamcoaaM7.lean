/- Printed by denprint.py: the Go function as a predicate, and that it stands for the call. No condition. -/
import Derived.Test.YtmgdnbmepamcoaaFns
set_option maxRecDepth 100000
set_option linter.unusedVariables false
namespace Go.Proofs.Ytmgdnbmepamcoaa
open Go.Den

-- 7 tumbrel.tumbrellaw03.awake
def M_tumbrellaw03_awake (w : World) (R : Value → World → Prop) : Prop :=
  CALL PR F_label_Right [(Value.string { data := #[97, 98, 57] })] w fun t1_1 w1 =>
  GEF (isB t1_1 true) (fun k_ => CALL PR F_label_Right [(Value.string { data := #[] })] w1 k_) w1 fun t3_2 w2 =>
  BND (grd (isB t1_1 true) (unv .not t3_2)) fun t4_3 =>
  BND (pickv t1_1 t4_3 (Value.bool false)) fun t5_4 =>
  GEF (isB t5_4 true) (fun k_ => CALL PR F_label_Right [(Value.string { data := #[97, 66] })] w2 k_) w2 fun t7_5 w3 =>
  BND (grd (isB t5_4 true) (unv .not t7_5)) fun t8_6 =>
  BND (pickv t5_4 t8_6 (Value.bool false)) fun t9_7 =>
  GEF (isB t9_7 true) (fun k_ => CALL PR F_label_Fold [(Value.string { data := #[65, 98, 57] })] w3 k_) w3 fun t11_8 w4 =>
  BND (grd (isB t9_7 true) (binv .str .eql t11_8 (Value.string { data := #[97, 98, 57] }))) fun t12_9 =>
  BND (pickv t9_7 t12_9 (Value.bool false)) fun t13_10 =>
  GEF (isB t13_10 true) (fun k_ => CALL PR F_label_Len [(Value.string { data := #[97, 98, 99] })] w4 k_) w4 fun t15_11 w5 =>
  BND (grd (isB t13_10 true) (binv .int .eql t15_11 (Value.int .i64 3))) fun t16_12 =>
  BND (pickv t13_10 t16_12 (Value.bool false)) fun t17_13 =>
  GEF (isB t17_13 true) (fun k_ => CALL PR F_label_Cut [(Value.string { data := #[97, 98, 99] }), (Value.int .i64 2)] w5 k_) w5 fun t19_14 w6 =>
  BND (grd (isB t17_13 true) (binv .str .eql t19_14 (Value.string { data := #[97, 98] }))) fun t20_15 =>
  BND (pickv t17_13 t20_15 (Value.bool false)) fun t21_16 =>
  GEF (isB t21_16 true) (fun k_ => CALL PR F_label_Less [(Value.string { data := #[97, 98] }), (Value.string { data := #[98] })] w6 k_) w6 fun t23_17 w7 =>
  BND (pickv t21_16 t23_17 (Value.bool false)) fun t24_18 =>
  GEF (isB t24_18 true) (fun k_ => CALL PR F_label_Less [(Value.string { data := #[98] }), (Value.string { data := #[97, 98] })] w7 k_) w7 fun t26_19 w8 =>
  BND (grd (isB t24_18 true) (unv .not t26_19)) fun t27_20 =>
  BND (pickv t24_18 t27_20 (Value.bool false)) fun t28_21 =>
  R t28_21 w8
def ann_tumbrellaw03_awake : List (Nat × List Nat) := []
theorem E_tumbrellaw03_awake (w : World) (R : Value → World → Prop) : M_tumbrellaw03_awake w R = den PR ann_tumbrellaw03_awake (bodyOf Try.f7) (retQ PR Try.f7.results.toList R) (env0 []) w := by kernel_rfl
theorem C_tumbrellaw03_awake {w : World} {R : Value → World → Prop} (h : M_tumbrellaw03_awake w R) : CALL PR F_tumbrellaw03_awake [] w R :=
  call_of_den2 ann_tumbrellaw03_awake Try.func7 (by kernel_rfl) (by kernel_rfl) (by kernel_rfl) ((E_tumbrellaw03_awake w R) ▸ h)

end Go.Proofs.Ytmgdnbmepamcoaa
