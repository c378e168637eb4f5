/- Printed by denprint.py: the Go function as a predicate, and that it stands for the call. No condition. -/
import Derived.Test.YtmjiohgdoienmaaFns
set_option maxRecDepth 100000
set_option linter.unusedVariables false
namespace Go.Proofs.Ytmjiohgdoienmaa
open Go.Den

-- 15 (*tumbrel.tumbrelref07.Heap).Take
def M_tumbrelref07_Heap_Take (h_p0 now_p1 : Value) (w : World) (R : Value → World → Prop) : Prop :=
  CALL PR F_tumbrelref07_Heap_First [h_p0] w fun t12_1 w1 =>
  BND (extractv t12_1 0) fun t13_2 =>
  BND (extractv t12_1 1) fun t14_3 =>
  BND (extractv t12_1 2) fun t15_4 =>
  BND (unv .not t15_4) fun t17_5 =>
  BND (grd (isB t17_5 false) (some t14_3)) fun t19_6 =>
  BND (grd (isB t17_5 false) (some now_p1)) fun t20_7 =>
  BND (grd (isB t17_5 false) (binv .int .gtr t19_6 t20_7)) fun t21_8 =>
  BND (pickv t17_5 (Value.bool true) t21_8) fun t22_9 =>
  COND t22_9
  (R (.tuple #[(Value.int .u64 0), (Value.int .u64 0), (Value.bool false)]) w1)
  (CALL PR F_tumbrelref07_Heap_Drop [h_p0, t13_2] w1 fun t25_10 w2 =>
  R (.tuple #[t13_2, t14_3, (Value.bool true)]) w2)
def ann_tumbrelref07_Heap_Take : List (Nat × List Nat) := []
theorem E_tumbrelref07_Heap_Take (h_p0 now_p1 : Value) (w : World) (R : Value → World → Prop) : M_tumbrelref07_Heap_Take h_p0 now_p1 w R = den PR ann_tumbrelref07_Heap_Take (bodyOf Try.f15) (retQ PR Try.f15.results.toList R) (env0 [h_p0, now_p1]) w := by kernel_rfl
theorem C_tumbrelref07_Heap_Take {h_p0 now_p1 : Value} {w : World} {R : Value → World → Prop} (h : M_tumbrelref07_Heap_Take h_p0 now_p1 w R) : CALL PR F_tumbrelref07_Heap_Take [h_p0, now_p1] w R :=
  call_of_den2 ann_tumbrelref07_Heap_Take Try.func15 (by kernel_rfl) (by kernel_rfl) (by kernel_rfl) ((E_tumbrelref07_Heap_Take h_p0 now_p1 w R) ▸ h)

end Go.Proofs.Ytmjiohgdoienmaa
