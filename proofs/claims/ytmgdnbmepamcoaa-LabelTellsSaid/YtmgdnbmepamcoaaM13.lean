/- Printed by denprint.py: the Go function as a predicate, and that it stands for the call. No condition. -/
import Derived.Test.YtmgdnbmepamcoaaFns
set_option maxRecDepth 100000
set_option linter.unusedVariables false
namespace Go.Proofs.Ytmgdnbmepamcoaa
open Go.Den

-- 13 tumbrel.tumbrelref03.Len
def M_tumbrelref03_Len (s_p0 : Value) (w : World) (R : Value → World → Prop) : Prop :=
  RUNES 21 s_p0 w fun t4_1 w1 =>
  BND (lenl t4_1) fun t5_2 =>
  R t5_2 w1
def ann_tumbrelref03_Len : List (Nat × List Nat) := []
theorem E_tumbrelref03_Len (s_p0 : Value) (w : World) (R : Value → World → Prop) : M_tumbrelref03_Len s_p0 w R = den PR ann_tumbrelref03_Len (bodyOf Try.f13) (retQ PR Try.f13.results.toList R) (env0 [s_p0]) w := by kernel_rfl
theorem C_tumbrelref03_Len {s_p0 : Value} {w : World} {R : Value → World → Prop} (h : M_tumbrelref03_Len s_p0 w R) : CALL PR F_tumbrelref03_Len [s_p0] w R :=
  call_of_den2 ann_tumbrelref03_Len Try.func13 (by kernel_rfl) (by kernel_rfl) (by kernel_rfl) ((E_tumbrelref03_Len s_p0 w R) ▸ h)

end Go.Proofs.Ytmgdnbmepamcoaa
