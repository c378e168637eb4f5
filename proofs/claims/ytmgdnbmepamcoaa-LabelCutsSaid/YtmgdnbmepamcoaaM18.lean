/- Printed by denprint.py: the Go function as a predicate, and that it stands for the call. No condition. -/
import Derived.Test.YtmgdnbmepamcoaaFns
set_option maxRecDepth 100000
set_option linter.unusedVariables false
namespace Go.Proofs.Ytmgdnbmepamcoaa
open Go.Den

-- 18 tumbrel.label.letter
def M_label_letter (c_p0 : Value) (w : World) (R : Value → World → Prop) : Prop :=
  BND (binv .int .geq c_p0 (Value.int .i32 97)) fun t4_1 =>
  BND (grd (isB t4_1 true) (some c_p0)) fun t6_2 =>
  BND (grd (isB t4_1 true) (binv .int .leq t6_2 (Value.int .i32 122))) fun t7_3 =>
  BND (pickv t4_1 t7_3 (Value.bool false)) fun t8_4 =>
  BND (grd (isB t8_4 false) (some c_p0)) fun t10_5 =>
  BND (grd (isB t8_4 false) (binv .int .geq t10_5 (Value.int .i32 48))) fun t11_6 =>
  BND (grd (isB t8_4 false) (some t11_6)) fun t12_7 =>
  BND (grd (isB t12_7 true) (some c_p0)) fun t13_8 =>
  BND (grd (isB t12_7 true) (binv .int .leq t13_8 (Value.int .i32 57))) fun t14_9 =>
  BND (grd (isB t8_4 false) (pickv t12_7 t14_9 (Value.bool false))) fun t15_10 =>
  BND (pickv t8_4 (Value.bool true) t15_10) fun t16_11 =>
  BND (grd (isB t16_11 false) (some c_p0)) fun t18_12 =>
  BND (grd (isB t16_11 false) (binv .int .geq t18_12 (Value.int .i32 945))) fun t19_13 =>
  BND (grd (isB t16_11 false) (some t19_13)) fun t20_14 =>
  BND (grd (isB t20_14 true) (some c_p0)) fun t21_15 =>
  BND (grd (isB t20_14 true) (binv .int .leq t21_15 (Value.int .i32 969))) fun t22_16 =>
  BND (grd (isB t16_11 false) (pickv t20_14 t22_16 (Value.bool false))) fun t23_17 =>
  BND (pickv t16_11 (Value.bool true) t23_17) fun t24_18 =>
  R t24_18 w
def ann_label_letter : List (Nat × List Nat) := []
theorem E_label_letter (c_p0 : Value) (w : World) (R : Value → World → Prop) : M_label_letter c_p0 w R = den PR ann_label_letter (bodyOf Try.f18) (retQ PR Try.f18.results.toList R) (env0 [c_p0]) w := by kernel_rfl
theorem C_label_letter {c_p0 : Value} {w : World} {R : Value → World → Prop} (h : M_label_letter c_p0 w R) : CALL PR F_label_letter [c_p0] w R :=
  call_of_den2 ann_label_letter Try.func18 (by kernel_rfl) (by kernel_rfl) (by kernel_rfl) ((E_label_letter c_p0 w R) ▸ h)

end Go.Proofs.Ytmgdnbmepamcoaa
