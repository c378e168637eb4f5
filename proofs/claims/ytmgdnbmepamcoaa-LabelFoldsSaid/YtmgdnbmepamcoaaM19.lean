/- Printed by denprint.py: the Go function as a predicate, and that it stands for the call. No condition. -/
import Derived.Test.YtmgdnbmepamcoaaFns
set_option maxRecDepth 100000
set_option linter.unusedVariables false
namespace Go.Proofs.Ytmgdnbmepamcoaa
open Go.Den

-- 19 (*strings.Builder).WriteRune
def M_strings_Builder_WriteRune (b_p0 r_p1 : Value) (w : World) (R : Value → World → Prop) : Prop :=
  CALL PR F_strings_Builder_copyCheck [b_p0] w fun t8_1 w1 =>
  BND (nilchk b_p0) fun t10_2 =>
  BND (faddr 1 t10_2) fun t11_3 =>
  BND (load1 w1 t11_3) fun t12_4 =>
  BND (lenl t12_4) fun t13_5 =>
  BND (nilchk b_p0) fun t16_6 =>
  BND (faddr 1 t16_6) fun t17_7 =>
  BND (load1 w1 t17_7) fun t18_8 =>
  CALL PR F_unicode_utf8_AppendRune [t18_8, r_p1] w1 fun t20_9 w2 =>
  BND (nilchk b_p0) fun t21_10 =>
  BND (faddr 1 t21_10) fun t22_11 =>
  BND (storev 1 w2 t22_11 t20_9) fun w3 =>
  BND (nilchk b_p0) fun t24_12 =>
  BND (faddr 1 t24_12) fun t25_13 =>
  BND (load1 w3 t25_13) fun t26_14 =>
  BND (lenl t26_14) fun t27_15 =>
  BND (binv .int .sub t27_15 t13_5) fun t29_16 =>
  R (.tuple #[t29_16, Value.nilIface]) w3
def ann_strings_Builder_WriteRune : List (Nat × List Nat) := []
theorem E_strings_Builder_WriteRune (b_p0 r_p1 : Value) (w : World) (R : Value → World → Prop) : M_strings_Builder_WriteRune b_p0 r_p1 w R = den PR ann_strings_Builder_WriteRune (bodyOf Try.f19) (retQ PR Try.f19.results.toList R) (env0 [b_p0, r_p1]) w := by kernel_rfl
theorem C_strings_Builder_WriteRune {b_p0 r_p1 : Value} {w : World} {R : Value → World → Prop} (h : M_strings_Builder_WriteRune b_p0 r_p1 w R) : CALL PR F_strings_Builder_WriteRune [b_p0, r_p1] w R :=
  call_of_den2 ann_strings_Builder_WriteRune Try.func19 (by kernel_rfl) (by kernel_rfl) (by kernel_rfl) ((E_strings_Builder_WriteRune b_p0 r_p1 w R) ▸ h)

end Go.Proofs.Ytmgdnbmepamcoaa
