
/- How acts that came in read. No condition. -/
import Derived.Test.YtmefbneoljpbgaaGreatDoorGc
import Derived.Test.YtmefbneoljpbgaaGreatDoorOp
import Derived.Test.YtmefbneoljpbgaaGreatDoorTab
namespace Go.Proofs.YtmefbneoljpbgaaGreatDoor
open Go.Den Go.Ev
open Go.ChangeShapes Go.WideShapes Go.ChangeAt Go.RowKit
set_option linter.unusedVariables false
theorem tabl_at {l : List (String × DataW Unit)} {w : World} (i : Nat) (hp : (l.all fun x => x.2.handleName?.isNone) = true) (hi : l[i]? = some (tabN, Lib.tabData .u64 Lib.pow10Tab)) (h : laidMetH PR l w) : Tab w :=
  tab_of (t := 202) (e := 32) hp (List.mem_of_getElem? hi) (by kernel_rfl) Tryz.underlying202 Tryz.underlying32 (by kernel_rfl) (by kernel_rfl) h
section
variable {H : Type} {enc : TypeId × Value → H} {w : World}
set_option maxRecDepth 100000 in
theorem where_dec (fuel : Nat) (cs : List Value) (y : DataW H × List MemPlace) (h : DataW.trod enc Tryz.prog w 0 (fun _ => true) true fuel 66 cs = some y) : ∃ (a0 : Int) (a1 : Int) (a2 : Int), cs = [.int .u64 a0, .int .u64 a1, .int .i64 a2] ∧ (Lit.int .u64 a0).wf = true ∧ (Lit.int .u64 a1).wf = true ∧ (Lit.int .i64 a2).wf = true := by
  obtain ⟨y0, y1, y2, n, hy, hl, h0, h1, h2⟩ := trodS3 Tryz.underlying66 h
  have hc : Tryz.prog.cellsOf 66 = 3 := by kernel_rfl
  rw [hc] at hl
  have c0 : Tryz.prog.cellsOf 32 = 1 := by kernel_rfl
  have c1 : Tryz.prog.cellsOf 3 = 1 := by kernel_rfl
  match cs, hl with
  | [u0, u1, u2], _ =>
    simp only [c0, c1, List.drop_zero, List.take_succ_cons, List.take_zero, List.drop_succ_cons] at h0 h1 h2
    obtain ⟨a0, e0, _, q0⟩ := DataW.trod_int Tryz.underlying32 h0
    obtain ⟨a1, e1, _, q1⟩ := DataW.trod_int Tryz.underlying32 h1
    obtain ⟨a2, e2, _, q2⟩ := DataW.trod_int Tryz.underlying3 h2
    simp only [List.cons.injEq, and_true] at e0 e1 e2
    subst e0
    subst e1
    subst e2
    exact ⟨a0, a1, a2, rfl, q0, q1, q2⟩
set_option maxRecDepth 100000 in
theorem op0_dec (fuel : Nat) (cs : List Value) (y : DataW H × List MemPlace) (h : DataW.trod enc Tryz.prog w 0 (fun _ => true) true fuel 68 cs = some y) : ∃ (a0 : Int) (a1 : Int) (a2 : Int) (a3 : Int) (a4 : ByteArray) (a5 : Int) (a6 : Int) (a7 : Int), cs = [.int .i64 a0, .int .i64 a1, .int .u64 a2, .int .u64 a3, .string a4, .int .u64 a5, .int .u64 a6, .int .i64 a7] ∧ (Lit.int .i64 a0).wf = true ∧ (Lit.int .i64 a1).wf = true ∧ (Lit.int .u64 a2).wf = true ∧ (Lit.int .u64 a3).wf = true ∧ a4.size ≤ 9223372036854775807 ∧ (Lit.int .u64 a5).wf = true ∧ (Lit.int .u64 a6).wf = true ∧ (Lit.int .i64 a7).wf = true := by
  obtain ⟨y0, y1, y2, y3, y4, y5, n, hy, hl, h0, h1, h2, h3, h4, h5⟩ := trodS6 Tryz.underlying68 h
  have hc : Tryz.prog.cellsOf 68 = 8 := by kernel_rfl
  rw [hc] at hl
  have c0 : Tryz.prog.cellsOf 3 = 1 := by kernel_rfl
  have c1 : Tryz.prog.cellsOf 32 = 1 := by kernel_rfl
  have c2 : Tryz.prog.cellsOf 9 = 1 := by kernel_rfl
  have c3 : Tryz.prog.cellsOf 66 = 3 := by kernel_rfl
  match cs, hl with
  | [u0, u1, u2, u3, u4, u5, u6, u7], _ =>
    simp only [c0, c1, c2, c3, List.drop_zero, List.take_succ_cons, List.take_zero, List.drop_succ_cons] at h0 h1 h2 h3 h4 h5
    obtain ⟨a0, e0, _, q0⟩ := DataW.trod_int Tryz.underlying3 h0
    obtain ⟨a1, e1, _, q1⟩ := DataW.trod_int Tryz.underlying3 h1
    obtain ⟨a2, e2, _, q2⟩ := DataW.trod_int Tryz.underlying32 h2
    obtain ⟨a3, e3, _, q3⟩ := DataW.trod_int Tryz.underlying32 h3
    obtain ⟨a4, e4, _, q4⟩ := DataW.trod_string Tryz.underlying9 h4
    obtain ⟨a5, a6, a7, e5, q5_0, q5_1, q5_2⟩ := where_dec _ _ _ h5
    simp only [List.cons.injEq, and_true] at e0 e1 e2 e3 e4 e5
    subst e0
    subst e1
    subst e2
    subst e3
    subst e4
    obtain ⟨rfl, rfl, rfl⟩ := e5
    exact ⟨a0, a1, a2, a3, a4, a5, a6, a7, rfl, q0, q1, q2, q3, q4, q5_0, q5_1, q5_2⟩
theorem u64_nat {x : Int} (h : (Lit.int .u64 x).wf = true) : ∃ n : Nat, x = (n : Int) ∧ n < 18446744073709551616 := by
  have := h
  simp [Lit.wf, IntKind.min, IntKind.max, IntKind.signed, IntKind.bits] at this
  exact ⟨x.toNat, by omega, by omega⟩
theorem i64_bounds {n : Int} (h : (Lit.int .i64 n).wf = true) : -9223372036854775808 ≤ n ∧ n ≤ 9223372036854775807 := by
  simp [Lit.wf, IntKind.min, IntKind.max, IntKind.signed, IntKind.bits] at h
  omega
theorem op_dec (fuel : Nat) (cs : List Value) (y : DataW H × List MemPlace) (h : DataW.trod enc Tryz.prog w 0 (fun _ => true) true fuel 68 cs = some y) : ∃ x : Ax, cs = encAx x ∧ OkA x := by
  obtain ⟨a0, a1, a2, a3, a4, a5, a6, a7, e, _, _, q2, q3, _, q5, q6, _⟩ := op0_dec _ _ _ h
  obtain ⟨n2, rfl, l2⟩ := u64_nat q2
  obtain ⟨n3, rfl, l3⟩ := u64_nat q3
  obtain ⟨n5, rfl, l5⟩ := u64_nat q5
  obtain ⟨n6, rfl, l6⟩ := u64_nat q6
  exact ⟨⟨a0, a1, n2, n3, a4, n5, n6, a7⟩, e, l2, l3, l5, l6⟩
end
end Go.Proofs.YtmefbneoljpbgaaGreatDoor
