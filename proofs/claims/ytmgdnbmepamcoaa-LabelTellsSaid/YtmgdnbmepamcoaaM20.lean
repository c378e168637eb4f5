/- Printed by denprint.py: the Go function as a predicate, and that it stands for the call. No condition. -/
import Derived.Test.YtmgdnbmepamcoaaFns
set_option maxRecDepth 100000
set_option linter.unusedVariables false
namespace Go.Proofs.Ytmgdnbmepamcoaa
open Go.Den

-- 20 tumbrel.label.fold
def M_label_fold (c_p0 : Value) (w : World) (R : Value → World → Prop) : Prop :=
  BND (binv .int .eql c_p0 (Value.int .i32 962)) fun t5_1 =>
  COND t5_1
  (R (Value.int .i32 963) w)
  (BND (binv .int .eql c_p0 (Value.int .i32 930)) fun t8_2 =>
  COND t8_2
  (R c_p0 w)
  (BND (binv .int .geq c_p0 (Value.int .i32 65)) fun t12_3 =>
  BND (grd (isB t12_3 true) (some c_p0)) fun t14_4 =>
  BND (grd (isB t12_3 true) (binv .int .leq t14_4 (Value.int .i32 90))) fun t15_5 =>
  BND (pickv t12_3 t15_5 (Value.bool false)) fun t16_6 =>
  JOIN (α := Value → World → Prop) (fun k_15 => COND t16_6
  (k_15 t16_6 w)
  (BND (binv .int .geq c_p0 (Value.int .i32 913)) fun t18_16 =>
  BND (grd (isB t18_16 true) (some c_p0)) fun t20_17 =>
  BND (grd (isB t18_16 true) (binv .int .leq t20_17 (Value.int .i32 937))) fun t21_18 =>
  BND (pickv t18_16 t21_18 (Value.bool false)) fun t22_19 =>
  k_15 t22_19 w))
  (fun t10_7 w1 => COND t10_7
  (BND (binv .int .add c_p0 (Value.int .i32 32)) fun t24_14 =>
  R t24_14 w1)
  (R c_p0 w1))))
def ann_label_fold : List (Nat × List Nat) := []
theorem E_label_fold (c_p0 : Value) (w : World) (R : Value → World → Prop) : M_label_fold c_p0 w R = den PR ann_label_fold (bodyOf Try.f20) (retQ PR Try.f20.results.toList R) (env0 [c_p0]) w := by kernel_rfl
theorem C_label_fold {c_p0 : Value} {w : World} {R : Value → World → Prop} (h : M_label_fold c_p0 w R) : CALL PR F_label_fold [c_p0] w R :=
  call_of_den2 ann_label_fold Try.func20 (by kernel_rfl) (by kernel_rfl) (by kernel_rfl) ((E_label_fold c_p0 w R) ▸ h)

end Go.Proofs.Ytmgdnbmepamcoaa
