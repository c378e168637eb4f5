/- Printed by denprint.py: the Go function as a predicate, and that it stands for the call. No condition. -/
import Derived.Test.YtmgdnbmepamcoaaFns
set_option maxRecDepth 100000
set_option linter.unusedVariables false
namespace Go.Proofs.Ytmgdnbmepamcoaa
open Go.Den

-- 25 cmp.Compare[rune]
def M_cmp_Compare_rune (x_p0 y_p1 : Value) (w : World) (R : Value → World → Prop) : Prop :=
  CALL PR F_cmp_isNaN_rune [x_p0] w fun t8_1 w1 =>
  CALL PR F_cmp_isNaN_rune [y_p1] w1 fun t10_2 w2 =>
  COND t8_1
  (COND t10_2
  (R (Value.int .i64 0) w2)
  (R (Value.int .i64 (-1)) w2))
  (COND t10_2
  (R (Value.int .i64 1) w2)
  (BND (binv .int .lss x_p0 y_p1) fun t16_3 =>
  COND t16_3
  (R (Value.int .i64 (-1)) w2)
  (BND (binv .int .gtr x_p0 y_p1) fun t19_4 =>
  COND t19_4
  (R (Value.int .i64 1) w2)
  (R (Value.int .i64 0) w2))))
def ann_cmp_Compare_rune : List (Nat × List Nat) := []
theorem E_cmp_Compare_rune (x_p0 y_p1 : Value) (w : World) (R : Value → World → Prop) : M_cmp_Compare_rune x_p0 y_p1 w R = den PR ann_cmp_Compare_rune (bodyOf Try.f25) (retQ PR Try.f25.results.toList R) (env0 [x_p0, y_p1]) w := by kernel_rfl
theorem C_cmp_Compare_rune {x_p0 y_p1 : Value} {w : World} {R : Value → World → Prop} (h : M_cmp_Compare_rune x_p0 y_p1 w R) : CALL PR F_cmp_Compare_rune [x_p0, y_p1] w R :=
  call_of_den2 ann_cmp_Compare_rune Try.func25 (by kernel_rfl) (by kernel_rfl) (by kernel_rfl) ((E_cmp_Compare_rune x_p0 y_p1 w R) ▸ h)

end Go.Proofs.Ytmgdnbmepamcoaa
