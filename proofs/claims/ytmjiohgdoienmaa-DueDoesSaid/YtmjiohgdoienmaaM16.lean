/- Printed by denprint.py: the Go function as a predicate, and that it stands for the call. No condition. -/
import Derived.Test.YtmjiohgdoienmaaFns
set_option maxRecDepth 100000
set_option linter.unusedVariables false
namespace Go.Proofs.Ytmjiohgdoienmaa
open Go.Den

-- 16 (*tumbrel.tumbrelref07.Heap).Drop
def M_tumbrelref07_Heap_Drop (h_p0 id_p1 : Value) (w : World) (R : Value → World → Prop) : Prop :=
  CALL PR F_tumbrelref07_Heap_find [h_p0, id_p1] w fun t8_1 w1 =>
  BND (binv .int .lss t8_1 (Value.int .i64 0)) fun t10_2 =>
  COND t10_2
  (R (Value.bool false) w1)
  (∃ S_3 : World → Prop, S_3 w1.drew ∧
  BND (nilchk h_p0) fun t14_4 =>
  BND (faddr 0 t14_4) fun t15_5 =>
  FLT S_3 (fun w_ => load1 w_ t15_5) fun t16_6 =>
  BND (slicev 2 t16_6 none (some t8_1)) fun t18_7 =>
  BND (nilchk h_p0) fun t21_8 =>
  BND (faddr 0 t21_8) fun t22_9 =>
  FLT S_3 (fun w_ => load1 w_ t22_9) fun t23_10 =>
  BND (binv .int .add t8_1 (Value.int .i64 1)) fun t25_11 =>
  BND (slicev 2 t23_10 (some t25_11) none) fun t26_12 =>
  BND (newslice 58 #[(Value.int .u64 0), (Value.int .u64 0)] 2 0 [] w1.drew) fun p_ => NEW p_ fun t12_13 w2 =>
  S_3 w2 ∧
  APPEND 58 2 16 (Value.agg #[(Value.int .u64 0), (Value.int .u64 0)]) t12_13 t18_7 w2 fun t19_14 w3 =>
  S_3 w3 ∧
  APPEND 58 2 16 (Value.agg #[(Value.int .u64 0), (Value.int .u64 0)]) t19_14 t26_12 w3 fun t27_15 w4 =>
  BND (nilchk h_p0) fun t28_16 =>
  BND (faddr 0 t28_16) fun t29_17 =>
  BND (storev 1 w4 t29_17 t27_15) fun w5 =>
  R (Value.bool true) w5)
def ann_tumbrelref07_Heap_Drop : List (Nat × List Nat) := [(4, [0, 2, 3, 4, 5, 6, 7, 9, 10, 11, 12, 13, 14, 15, 1, 8, 16, 17, 18, 19]), (2000004, [5, 12, 16, 19])]
theorem E_tumbrelref07_Heap_Drop (h_p0 id_p1 : Value) (w : World) (R : Value → World → Prop) : M_tumbrelref07_Heap_Drop h_p0 id_p1 w R = den PR ann_tumbrelref07_Heap_Drop (bodyOf Try.f16) (retQ PR Try.f16.results.toList R) (env0 [h_p0, id_p1]) w := by kernel_rfl
theorem C_tumbrelref07_Heap_Drop {h_p0 id_p1 : Value} {w : World} {R : Value → World → Prop} (h : M_tumbrelref07_Heap_Drop h_p0 id_p1 w R) : CALL PR F_tumbrelref07_Heap_Drop [h_p0, id_p1] w R :=
  call_of_den2 ann_tumbrelref07_Heap_Drop Try.func16 (by kernel_rfl) (by kernel_rfl) (by kernel_rfl) ((E_tumbrelref07_Heap_Drop h_p0 id_p1 w R) ▸ h)

end Go.Proofs.Ytmjiohgdoienmaa
