/- Printed by denprint.py: the Go function as a predicate, and that it stands for the call. No condition. -/
import Derived.Test.YtmjiohgdoienmaaFns
set_option maxRecDepth 100000
set_option linter.unusedVariables false
namespace Go.Proofs.Ytmjiohgdoienmaa
open Go.Den

-- 18 (*tumbrel.tumbrelref07.Heap).First
def M_tumbrelref07_Heap_First (h_p0 : Value) (w : World) (R : Value → World → Prop) : Prop :=
  BND (nilchk h_p0) fun t6_1 =>
  BND (faddr 0 t6_1) fun t7_2 =>
  BND (load1 w t7_2) fun t8_3 =>
  BND (lenl t8_3) fun t9_4 =>
  BND (binv .int .eql t9_4 (Value.int .i64 0)) fun t10_5 =>
  COND t10_5
  (R (.tuple #[(Value.int .u64 0), (Value.int .u64 0), (Value.bool false)]) w)
  (BND (nilchk h_p0) fun t12_6 =>
  BND (faddr 0 t12_6) fun t13_7 =>
  BND (nilchk h_p0) fun t19_8 =>
  BND (faddr 0 t19_8) fun t20_9 =>
  BND (load1 w.drew t13_7) fun t14_10 =>
  BND (iaddr 2 t14_10 (Value.int .i64 0)) fun t15_11 =>
  BND (faddr 0 t15_11) fun t16_12 =>
  BND (load1 w.drew t16_12) fun t17_13 =>
  BND (load1 w.drew t20_9) fun t21_14 =>
  BND (iaddr 2 t21_14 (Value.int .i64 0)) fun t22_15 =>
  BND (faddr 1 t22_15) fun t23_16 =>
  BND (load1 w.drew t23_16) fun t24_17 =>
  R (.tuple #[t17_13, t24_17, (Value.bool true)]) w.drew)
def ann_tumbrelref07_Heap_First : List (Nat × List Nat) := [(3, [0, 1, 2, 7, 8, 9, 3, 4, 5, 6, 14, 10, 11, 12, 13, 15, 16])]
theorem E_tumbrelref07_Heap_First (h_p0 : Value) (w : World) (R : Value → World → Prop) : M_tumbrelref07_Heap_First h_p0 w R = den PR ann_tumbrelref07_Heap_First (bodyOf Try.f18) (retQ PR Try.f18.results.toList R) (env0 [h_p0]) w := by kernel_rfl
theorem C_tumbrelref07_Heap_First {h_p0 : Value} {w : World} {R : Value → World → Prop} (h : M_tumbrelref07_Heap_First h_p0 w R) : CALL PR F_tumbrelref07_Heap_First [h_p0] w R :=
  call_of_den2 ann_tumbrelref07_Heap_First Try.func18 (by kernel_rfl) (by kernel_rfl) (by kernel_rfl) ((E_tumbrelref07_Heap_First h_p0 w R) ▸ h)

end Go.Proofs.Ytmjiohgdoienmaa
