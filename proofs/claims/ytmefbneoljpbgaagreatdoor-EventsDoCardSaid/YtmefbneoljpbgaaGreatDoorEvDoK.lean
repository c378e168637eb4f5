
/- How acts upon events that came in read. Conditions: as that law's. -/
import Derived.Test.YtmefbneoljpbgaaGreatDoorEvDo
import Derived.Test.YtmefbneoljpbgaaGreatDoorEvRowK
namespace Go.Proofs.YtmefbneoljpbgaaGreatDoor
open Go.Den Go.Disk Go.Ev
open Go.ChangeShapes Go.WideShapes Go.ChangeAt Go.RowKit
set_option linter.unusedVariables false
theorem encIz_len (x : Int) : (encI x).length = 1 := rfl
theorem i64_le {x : Int} (h : (Lit.int .i64 x).wf = true) : x ≤ 9223372036854775807 := by
  have := h
  simp [Lit.wf, IntKind.min, IntKind.max, IntKind.signed, IntKind.bits] at this
  omega
theorem u8_of_wf {x : Int} (h : (Lit.int .u8 x).wf = true) : ∃ b : UInt8, x = (b.toNat : Int) := by
  have := h
  simp [Lit.wf, IntKind.min, IntKind.max, IntKind.signed, IntKind.bits] at this
  refine ⟨UInt8.ofNat x.toNat, ?_⟩
  rw [UInt8.toNat_ofNat']
  omega
section
variable {H : Type} {enc : TypeId × Value → H} {w : World}
theorem u8_dec (fuel : Nat) (cs : List Value) (y : DataW H × List MemPlace) (h : DataW.trod enc Tryz.prog w 0 (fun _ => true) true fuel 5 cs = some y) : ∃ x : UInt8, cs = encB x ∧ True := by
  obtain ⟨a, e, _, q⟩ := DataW.trod_int Tryz.underlying5 h
  obtain ⟨b, rfl⟩ := u8_of_wf q
  exact ⟨b, e, trivial⟩
theorem int_dec (fuel : Nat) (cs : List Value) (y : DataW H × List MemPlace) (h : DataW.trod enc Tryz.prog w 0 (fun _ => true) true fuel 3 cs = some y) : ∃ x : Int, cs = encI x ∧ True := by
  obtain ⟨a, e, _, q⟩ := DataW.trod_int Tryz.underlying3 h
  exact ⟨a, e, trivial⟩
set_option maxRecDepth 100000 in
theorem ev0_dec (fuel : Nat) (cs : List Value) (y : DataW H × List MemPlace) (h : DataW.trod enc Tryz.prog w 0 (fun _ => true) true fuel 37 cs = some y) : ∃ (a0 : Int) (a1 : Int) (a2 : Int) (a3 : Value) (a4 : Value) (a5 : Value), cs = [.int .i64 a0, .int .i64 a1, .int .u64 a2, a3, a4, a5] ∧ (Lit.int .i64 a0).wf = true ∧ (Lit.int .i64 a1).wf = true ∧ (Lit.int .u64 a2).wf = true ∧ (Capd a3 ∧ ∃ xs, Arr encAx 8 w a3 xs ∧ (∀ x ∈ xs, Go.Ev.OkA x) ∧ ((y.1.weights Tryz.prog 37).all (· ≤ reachBytes) = true → xs.length * Tryz.prog.bytesOf 68 ≤ reachBytes)) ∧ (Capd a4 ∧ ∃ xs, Arr encI 1 w a4 xs ∧ (∀ x ∈ xs, (fun _ => True) x) ∧ ((y.1.weights Tryz.prog 37).all (· ≤ reachBytes) = true → xs.length * Tryz.prog.bytesOf 3 ≤ reachBytes)) ∧ (Capd a5 ∧ ∃ xs, Arr encB 1 w a5 xs ∧ (∀ x ∈ xs, (fun _ => True) x) ∧ ((y.1.weights Tryz.prog 37).all (· ≤ reachBytes) = true → xs.length * Tryz.prog.bytesOf 5 ≤ reachBytes)) := by
  obtain ⟨y0, y1, y2, y3, y4, y5, n, hy, hl, h0, h1, h2, h3, h4, h5⟩ := trodS6 Tryz.underlying37 h
  have hc : Tryz.prog.cellsOf 37 = 6 := by kernel_rfl
  rw [hc] at hl
  have c0 : Tryz.prog.cellsOf 3 = 1 := by kernel_rfl
  have c1 : Tryz.prog.cellsOf 32 = 1 := by kernel_rfl
  have c2 : Tryz.prog.cellsOf 33 = 1 := by kernel_rfl
  have c3 : Tryz.prog.cellsOf 34 = 1 := by kernel_rfl
  have c4 : Tryz.prog.cellsOf 35 = 1 := by kernel_rfl
  match cs, hl with
  | [u0, u1, u2, u3, u4, u5], _ =>
    simp only [c0, c1, c2, c3, c4, List.drop_zero, List.take_succ_cons, List.take_zero, List.drop_succ_cons] at h0 h1 h2 h3 h4 h5
    have hWs : (y.1.weights Tryz.prog 37).all (· ≤ reachBytes) = true → (y0.1.weights Tryz.prog 3).all (· ≤ reachBytes) = true ∧ (y1.1.weights Tryz.prog 3).all (· ≤ reachBytes) = true ∧ (y2.1.weights Tryz.prog 32).all (· ≤ reachBytes) = true ∧ (y3.1.weights Tryz.prog 33).all (· ≤ reachBytes) = true ∧ (y4.1.weights Tryz.prog 34).all (· ≤ reachBytes) = true ∧ (y5.1.weights Tryz.prog 35).all (· ≤ reachBytes) = true := by
      intro hW
      rw [hy] at hW
      simpa only [DataW.weights, Tryz.underlying37, List.map_cons, List.map_nil, DataW.weightsEach, List.all_append, List.all_nil, Bool.and_eq_true, and_true] using hW
    obtain ⟨a0, e0, _, q0⟩ := DataW.trod_int Tryz.underlying3 h0
    obtain ⟨a1, e1, _, q1⟩ := DataW.trod_int Tryz.underlying3 h1
    obtain ⟨a2, e2, _, q2⟩ := DataW.trod_int Tryz.underlying32 h2
    obtain ⟨a3, e3, q3⟩ := arr_of_cells (P := Tryz.prog) (encS := encAx) (OK := Go.Ev.OkA) Tryz.underlying33 (show Tryz.prog.cellsOf 68 = 8 by kernel_rfl) (by omega) encAx_len (op_dec) h3
    obtain ⟨a4, e4, q4⟩ := arr_of_cells (P := Tryz.prog) (encS := encI) (OK := (fun _ => True)) Tryz.underlying34 (show Tryz.prog.cellsOf 3 = 1 by kernel_rfl) (by omega) encIz_len (int_dec) h4
    obtain ⟨a5, e5, q5⟩ := arr_of_cells (P := Tryz.prog) (encS := encB) (OK := (fun _ => True)) Tryz.underlying35 (show Tryz.prog.cellsOf 5 = 1 by kernel_rfl) (by omega) encB_len (u8_dec) h5
    simp only [List.cons.injEq, and_true] at e0 e1 e2 e3 e4 e5
    subst e0
    subst e1
    subst e2
    subst e3
    subst e4
    subst e5
    exact ⟨a0, a1, a2, u3, u4, u5, rfl, q0, q1, q2, ⟨q3.1, q3.2.elim fun xs p => ⟨xs, p.1, p.2.1, fun hW => p.2.2 (hWs hW).2.2.2.1⟩⟩, ⟨q4.1, q4.2.elim fun xs p => ⟨xs, p.1, p.2.1, fun hW => p.2.2 (hWs hW).2.2.2.2.1⟩⟩, ⟨q5.1, q5.2.elim fun xs p => ⟨xs, p.1, p.2.1, fun hW => p.2.2 (hWs hW).2.2.2.2.2⟩⟩⟩
theorem evact_dec (fuel : Nat) (cs : List Value) (y : DataW H × List MemPlace) (h : DataW.trod enc Tryz.prog w 0 (fun _ => true) true fuel 37 cs = some y) : ∃ x : FE, cs = encFE x ∧ ActE w x ∧ ((y.1.weights Tryz.prog 37).all (· ≤ reachBytes) = true → ActW x) := by
  obtain ⟨a0, a1, a2, a3, a4, a5, e, q0, q1, q2, ⟨⟨p3, n3, c3, rfl, _⟩, x3, h3, k3, m3⟩, ⟨⟨p4, n4, c4, rfl, _⟩, x4, h4, k4, m4⟩, ⟨⟨p5, n5, c5, rfl, _⟩, x5, h5, k5, m5⟩⟩ := ev0_dec _ _ _ h
  obtain ⟨g, rfl, hg⟩ := u64_nat q2
  refine ⟨⟨a0, a1, g, ⟨p3, n3, c3⟩, ⟨p4, n4, c4⟩, ⟨p5, n5, c5⟩, x3, x4, x5⟩, e, ⟨h3, h4, h5, k3, hg, i64_le q1⟩, fun hW => ⟨?_, ?_, ?_⟩⟩
  · have := m3 hW; rwa [show Tryz.prog.bytesOf 68 = 72 by kernel_rfl] at this
  · have := m4 hW; rwa [show Tryz.prog.bytesOf 3 = 8 by kernel_rfl] at this
  · have := m5 hW; rw [show Tryz.prog.bytesOf 5 = 1 by kernel_rfl, Nat.mul_one] at this; exact this
end
end Go.Proofs.YtmefbneoljpbgaaGreatDoor
