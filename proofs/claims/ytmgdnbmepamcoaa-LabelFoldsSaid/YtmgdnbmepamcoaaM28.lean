/- Printed by denprint.py: the Go function as a predicate, and that it stands for the call. No condition. -/
import Derived.Test.YtmgdnbmepamcoaaFns
set_option maxRecDepth 100000
set_option linter.unusedVariables false
namespace Go.Proofs.Ytmgdnbmepamcoaa
open Go.Den

-- 28 cmp.isNaN[rune]
def M_cmp_isNaN_rune (x_p0 : Value) (w : World) (R : Value → World → Prop) : Prop :=
  BND (binv .int .neq x_p0 x_p0) fun t5_1 =>
  R t5_1 w
def ann_cmp_isNaN_rune : List (Nat × List Nat) := []
theorem E_cmp_isNaN_rune (x_p0 : Value) (w : World) (R : Value → World → Prop) : M_cmp_isNaN_rune x_p0 w R = den PR ann_cmp_isNaN_rune (bodyOf Try.f28) (retQ PR Try.f28.results.toList R) (env0 [x_p0]) w := by kernel_rfl
theorem C_cmp_isNaN_rune {x_p0 : Value} {w : World} {R : Value → World → Prop} (h : M_cmp_isNaN_rune x_p0 w R) : CALL PR F_cmp_isNaN_rune [x_p0] w R :=
  call_of_den2 ann_cmp_isNaN_rune Try.func28 (by kernel_rfl) (by kernel_rfl) (by kernel_rfl) ((E_cmp_isNaN_rune x_p0 w R) ▸ h)

end Go.Proofs.Ytmgdnbmepamcoaa
