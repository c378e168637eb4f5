/- How roots that came in read. No condition. -/
import Derived.Test.YthlmkjkjebcpfaaGc
import Derived.Test.YthlmkjkjebcpfaaRoot
namespace Go.Proofs.Ythlmkjkjebcpfaa
open Go.Den Go.Root
open Go.ChangeShapes Go.WideShapes Go.ChangeAt Go.RowKit
set_option linter.unusedVariables false
section
variable {H : Type} {enc : TypeId × Value → H} {w : World}
set_option maxRecDepth 100000 in
theorem cfg0_dec (fuel : Nat) (cs : List Value) (y : DataW H × List MemPlace) (h : DataW.trod enc Try.prog w 0 (fun _ => true) true fuel 24 cs = some y) : ∃ (a0 : Int) (a1 : Int) (a2 : Int), cs = [.int .i64 a0, .int .i64 a1, .int .i64 a2] ∧ (Lit.int .i64 a0).wf = true ∧ (Lit.int .i64 a1).wf = true ∧ (Lit.int .i64 a2).wf = true := by
  obtain ⟨y0, y1, y2, n, hy, hl, h0, h1, h2⟩ := trodS3 Try.underlying24 h
  have hc : Try.prog.cellsOf 24 = 3 := by kernel_rfl
  rw [hc] at hl
  have c0 : Try.prog.cellsOf 3 = 1 := by kernel_rfl
  match cs, hl with
  | [u0, u1, u2], _ =>
    simp only [c0, List.drop_zero, List.take_succ_cons, List.take_zero, List.drop_succ_cons] at h0 h1 h2
    obtain ⟨a0, e0, _, q0⟩ := DataW.trod_int Try.underlying3 h0
    obtain ⟨a1, e1, _, q1⟩ := DataW.trod_int Try.underlying3 h1
    obtain ⟨a2, e2, _, q2⟩ := DataW.trod_int Try.underlying3 h2
    simp only [List.cons.injEq, and_true] at e0 e1 e2
    subst e0
    subst e1
    subst e2
    exact ⟨a0, a1, a2, rfl, q0, q1, q2⟩
set_option maxRecDepth 100000 in
theorem root0_dec (fuel : Nat) (cs : List Value) (y : DataW H × List MemPlace) (h : DataW.trod enc Try.prog w 0 (fun _ => true) true fuel 26 cs = some y) : ∃ (a0 : Int) (a1 : Int) (a2 : Int) (a3 : Int) (a4 : Int), cs = [.int .u64 a0, .int .i64 a1, .int .i64 a2, .int .i64 a3, .int .i64 a4] ∧ (Lit.int .u64 a0).wf = true ∧ (Lit.int .i64 a1).wf = true ∧ (Lit.int .i64 a2).wf = true ∧ (Lit.int .i64 a3).wf = true ∧ (Lit.int .i64 a4).wf = true := by
  obtain ⟨y0, y1, y2, n, hy, hl, h0, h1, h2⟩ := trodS3 Try.underlying26 h
  have hc : Try.prog.cellsOf 26 = 5 := by kernel_rfl
  rw [hc] at hl
  have c0 : Try.prog.cellsOf 22 = 1 := by kernel_rfl
  have c1 : Try.prog.cellsOf 24 = 3 := by kernel_rfl
  have c2 : Try.prog.cellsOf 3 = 1 := by kernel_rfl
  match cs, hl with
  | [u0, u1, u2, u3, u4], _ =>
    simp only [c0, c1, c2, List.drop_zero, List.take_succ_cons, List.take_zero, List.drop_succ_cons] at h0 h1 h2
    obtain ⟨a0, e0, _, q0⟩ := DataW.trod_int Try.underlying22 h0
    obtain ⟨a1, a2, a3, e1, q1_0, q1_1, q1_2⟩ := cfg0_dec _ _ _ h1
    obtain ⟨a4, e2, _, q2⟩ := DataW.trod_int Try.underlying3 h2
    simp only [List.cons.injEq, and_true] at e0 e1 e2
    subst e0
    obtain ⟨rfl, rfl, rfl⟩ := e1
    subst e2
    exact ⟨a0, a1, a2, a3, a4, rfl, q0, q1_0, q1_1, q1_2, q2⟩
theorem u64_nat {x : Int} (h : (Lit.int .u64 x).wf = true) : ∃ n : Nat, x = (n : Int) := by
  have := h
  simp [Lit.wf, IntKind.min, IntKind.max, IntKind.signed, IntKind.bits] at this
  exact ⟨x.toNat, by omega⟩
theorem root_dec (fuel : Nat) (cs : List Value) (y : DataW H × List MemPlace) (h : DataW.trod enc Try.prog w 0 (fun _ => true) true fuel 26 cs = some y) : ∃ x : Rt, cs = encT x ∧ True := by
  obtain ⟨a0, a1, a2, a3, a4, e, q0, _⟩ := root0_dec _ _ _ h
  obtain ⟨n, rfl⟩ := u64_nat q0
  exact ⟨⟨n, a1, a2, a3, a4⟩, e, trivial⟩
end
end Go.Proofs.Ythlmkjkjebcpfaa
