/- How acts, rows and cursors that came in read. No condition. -/
import Derived.Test.YthcbcolnahbihaaRowK
import Derived.Lib.SmallJoins
import Derived.Test.YthcbcolnahbihaaRow
import Derived.Test.YthcbcolnahbihaaDeadLaw
namespace Go.Proofs.Ythcbcolnahbihaa
open Go.Den
open Go.ChangeShapes Go.WideShapes Go.ChangeAt Go.RowKit

def ActOk (x : Act) : Prop := 0 ≤ x.2.1 ∧ x.2.1 < 18446744073709551616
section
variable {H : Type} {enc : TypeId × Value → H} {w : World}
set_option maxRecDepth 100000 in
theorem act_dec (fuel : Nat) (cs : List Value) (y : DataW H × List MemPlace) (h : DataW.trod enc Try.prog w 0 (fun _ => true) true fuel 34 cs = some y) : ∃ x : Act, cs = encA x ∧ ActOk x := by
  obtain ⟨y0, y1, y2, y3, n, rfl, hl, h0, h1, h2, h3⟩ := Go.Joins.trod_struct4 Try.underlying34 h
  have hc : Try.prog.cellsOf 34 = 4 := by kernel_rfl
  rw [hc] at hl
  have ci : Try.prog.cellsOf 3 = 1 := by kernel_rfl
  have cu : Try.prog.cellsOf 29 = 1 := by kernel_rfl
  have cs' : Try.prog.cellsOf 9 = 1 := by kernel_rfl
  match cs, hl with
  | [u0, u1, u2, u3], _ =>
    simp only [ci, cu, cs', List.drop_zero, List.take_succ_cons, List.take_zero, List.drop_succ_cons] at h0 h1 h2 h3
    obtain ⟨a, e0, _, w0⟩ := DataW.trod_int Try.underlying3 h0
    obtain ⟨b, e1, _, w1⟩ := DataW.trod_int Try.underlying29 h1
    obtain ⟨s, e2, _, w2⟩ := DataW.trod_string Try.underlying9 h2
    obtain ⟨c, e3, _, w3⟩ := DataW.trod_int Try.underlying3 h3
    simp only [List.cons.injEq, and_true] at e0 e1 e2 e3
    subst e0; subst e1; subst e2; subst e3
    have b1 := int_bounds_u64 w1
    exact ⟨(a, b, s, c), rfl, b1.1, b1.2⟩
set_option maxRecDepth 100000 in
theorem row_dec (fuel : Nat) (cs : List Value) (y : DataW H × List MemPlace) (h : DataW.trod enc Try.prog w 0 (fun _ => true) true fuel 48 cs = some y) : ∃ x : Row, cs = encRow x ∧ True := by
  obtain ⟨y0, y1, n, rfl, hl, h0, h1⟩ := trod_struct2 Try.underlying48 h
  have hc : Try.prog.cellsOf 48 = 2 := by kernel_rfl
  rw [hc] at hl
  have cu : Try.prog.cellsOf 29 = 1 := by kernel_rfl
  match cs, hl with
  | [u0, u1], _ =>
    simp only [cu, List.drop_zero, List.take_succ_cons, List.take_zero, List.drop_succ_cons] at h0 h1
    obtain ⟨a, e0, _, w0⟩ := DataW.trod_int Try.underlying29 h0
    obtain ⟨b, e1, _, w1⟩ := DataW.trod_int Try.underlying29 h1
    simp only [List.cons.injEq, and_true] at e0 e1
    subst e0; subst e1
    exact ⟨(a, b), rfl, trivial⟩
set_option maxRecDepth 100000 in
theorem cur_dec (fuel : Nat) (cs : List Value) (y : DataW H × List MemPlace) (h : DataW.trod enc Try.prog w 0 (fun _ => true) true fuel 51 cs = some y) : ∃ x : ByteArray × Int, cs = encC x ∧ True := by
  obtain ⟨y0, y1, n, rfl, hl, h0, h1⟩ := trod_struct2 Try.underlying51 h
  have hc : Try.prog.cellsOf 51 = 2 := by kernel_rfl
  rw [hc] at hl
  have cu : Try.prog.cellsOf 29 = 1 := by kernel_rfl
  have cs' : Try.prog.cellsOf 9 = 1 := by kernel_rfl
  match cs, hl with
  | [u0, u1], _ =>
    simp only [cu, cs', List.drop_zero, List.take_succ_cons, List.take_zero, List.drop_succ_cons] at h0 h1
    obtain ⟨a, e0, _, w0⟩ := DataW.trod_string Try.underlying9 h0
    obtain ⟨b, e1, _, w1⟩ := DataW.trod_int Try.underlying29 h1
    simp only [List.cons.injEq, and_true] at e0 e1
    subst e0; subst e1
    exact ⟨(a, b), rfl, trivial⟩
end
end Go.Proofs.Ythcbcolnahbihaa
