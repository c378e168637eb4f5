/- How acts upon a root that came in read. No condition. -/
import Derived.Test.YthlmkjkjebcpfaaRootRowK
import Derived.Test.YthlmkjkjebcpfaaRootActs
namespace Go.Proofs.Ythlmkjkjebcpfaa
open Go.Den Go.Disk Go.Root
open Go.ChangeShapes Go.WideShapes Go.ChangeAt Go.RowKit
set_option linter.unusedVariables false
def AcOk (w : World) (a : Ac) : Prop := (∃ t b, Arr encI 1 w a.tv t ∧ Arr encB 1 w a.bv b) ∧ (a.tv.oneCell' = true ∧ a.bv.oneCell' = true) ∧ a.n ≤ 9223372036854775807 ∧ a.nm.size ≤ 9223372036854775807
theorem i64_le {x : Int} (h : (Lit.int .i64 x).wf = true) : x ≤ 9223372036854775807 := by
  have := h
  simp [Lit.wf, IntKind.min, IntKind.max, IntKind.signed, IntKind.bits] at this
  omega
theorem i64_both {x : Int} (h : (Lit.int .i64 x).wf = true) : -9223372036854775808 ≤ x ∧ x ≤ 9223372036854775807 := by
  have := h
  simp [Lit.wf, IntKind.min, IntKind.max, IntKind.signed, IntKind.bits] at this
  omega
theorem u8_of_wf {x : Int} (h : (Lit.int .u8 x).wf = true) : ∃ b : UInt8, x = (b.toNat : Int) := by
  have := h
  simp [Lit.wf, IntKind.min, IntKind.max, IntKind.signed, IntKind.bits] at this
  refine ⟨UInt8.ofNat x.toNat, ?_⟩
  rw [UInt8.toNat_ofNat']
  omega
theorem encI_len (x : Int) : (encI x).length = 1 := rfl
section
variable {H : Type} {enc : TypeId × Value → H} {w : World}
theorem u8_dec (fuel : Nat) (cs : List Value) (y : DataW H × List MemPlace) (h : DataW.trod enc Try.prog w 0 (fun _ => true) true fuel 5 cs = some y) : ∃ x : UInt8, cs = encB x ∧ True := by
  obtain ⟨a, e, _, q⟩ := DataW.trod_int Try.underlying5 h
  obtain ⟨b, rfl⟩ := u8_of_wf q
  exact ⟨b, e, trivial⟩
theorem int_dec (fuel : Nat) (cs : List Value) (y : DataW H × List MemPlace) (h : DataW.trod enc Try.prog w 0 (fun _ => true) true fuel 3 cs = some y) : ∃ x : Int, cs = encI x ∧ True := by
  obtain ⟨a, e, _, q⟩ := DataW.trod_int Try.underlying3 h
  exact ⟨a, e, trivial⟩
set_option maxRecDepth 100000 in
theorem cfg1_dec (fuel : Nat) (cs : List Value) (y : DataW H × List MemPlace) (h : DataW.trod enc Try.prog w 0 (fun _ => true) true fuel 24 cs = some y) : ∃ (a0 : Int) (a1 : Int) (a2 : Int), cs = [.int .i64 a0, .int .i64 a1, .int .i64 a2] ∧ (Lit.int .i64 a0).wf = true ∧ (Lit.int .i64 a1).wf = true ∧ (Lit.int .i64 a2).wf = true := by
  obtain ⟨y0, y1, y2, n, hy, hl, h0, h1, h2⟩ := trodS3 Try.underlying24 h
  have hc : Try.prog.cellsOf 24 = 3 := by kernel_rfl
  rw [hc] at hl
  have c0 : Try.prog.cellsOf 3 = 1 := by kernel_rfl
  match cs, hl with
  | [u0, u1, u2], _ =>
    simp only [c0, List.drop_zero, List.take_succ_cons, List.take_zero, List.drop_succ_cons] at h0 h1 h2
    obtain ⟨a0, e0, _, q0⟩ := DataW.trod_int Try.underlying3 h0
    obtain ⟨a1, e1, _, q1⟩ := DataW.trod_int Try.underlying3 h1
    obtain ⟨a2, e2, _, q2⟩ := DataW.trod_int Try.underlying3 h2
    simp only [List.cons.injEq, and_true] at e0 e1 e2
    subst e0
    subst e1
    subst e2
    exact ⟨a0, a1, a2, rfl, q0, q1, q2⟩
set_option maxRecDepth 100000 in
theorem root1_dec (fuel : Nat) (cs : List Value) (y : DataW H × List MemPlace) (h : DataW.trod enc Try.prog w 0 (fun _ => true) true fuel 26 cs = some y) : ∃ (a0 : Int) (a1 : Int) (a2 : Int) (a3 : Int) (a4 : Int), cs = [.int .u64 a0, .int .i64 a1, .int .i64 a2, .int .i64 a3, .int .i64 a4] ∧ (Lit.int .u64 a0).wf = true ∧ (Lit.int .i64 a1).wf = true ∧ (Lit.int .i64 a2).wf = true ∧ (Lit.int .i64 a3).wf = true ∧ (Lit.int .i64 a4).wf = true := by
  obtain ⟨y0, y1, y2, n, hy, hl, h0, h1, h2⟩ := trodS3 Try.underlying26 h
  have hc : Try.prog.cellsOf 26 = 5 := by kernel_rfl
  rw [hc] at hl
  have c0 : Try.prog.cellsOf 22 = 1 := by kernel_rfl
  have c1 : Try.prog.cellsOf 24 = 3 := by kernel_rfl
  have c2 : Try.prog.cellsOf 3 = 1 := by kernel_rfl
  match cs, hl with
  | [u0, u1, u2, u3, u4], _ =>
    simp only [c0, c1, c2, List.drop_zero, List.take_succ_cons, List.take_zero, List.drop_succ_cons] at h0 h1 h2
    obtain ⟨a0, e0, _, q0⟩ := DataW.trod_int Try.underlying22 h0
    obtain ⟨a1, a2, a3, e1, q1_0, q1_1, q1_2⟩ := cfg1_dec _ _ _ h1
    obtain ⟨a4, e2, _, q2⟩ := DataW.trod_int Try.underlying3 h2
    simp only [List.cons.injEq, and_true] at e0 e1 e2
    subst e0
    obtain ⟨rfl, rfl, rfl⟩ := e1
    subst e2
    exact ⟨a0, a1, a2, a3, a4, rfl, q0, q1_0, q1_1, q1_2, q2⟩
set_option maxRecDepth 100000 in
theorem ac0_dec (fuel : Nat) (cs : List Value) (y : DataW H × List MemPlace) (h : DataW.trod enc Try.prog w 0 (fun _ => true) true fuel 41 cs = some y) : ∃ (a0 : Int) (a1 : Int) (a2 : Int) (a3 : Int) (a4 : Int) (a5 : Int) (a6 : Int) (a7 : Value) (a8 : ByteArray) (a9 : Value), cs = [.int .i64 a0, .int .i64 a1, .int .u64 a2, .int .i64 a3, .int .i64 a4, .int .i64 a5, .int .i64 a6, a7, .string a8, a9] ∧ (Lit.int .i64 a0).wf = true ∧ (Lit.int .i64 a1).wf = true ∧ (Lit.int .u64 a2).wf = true ∧ (Lit.int .i64 a3).wf = true ∧ (Lit.int .i64 a4).wf = true ∧ (Lit.int .i64 a5).wf = true ∧ (Lit.int .i64 a6).wf = true ∧ (Capd a7 ∧ ∃ xs, Arr encI 1 w a7 xs ∧ (∀ x ∈ xs, (fun _ => True) x) ∧ ((y.1.weights Try.prog 41).all (· ≤ reachBytes) = true → xs.length * Try.prog.bytesOf 3 ≤ reachBytes)) ∧ a8.size ≤ 9223372036854775807 ∧ (Capd a9 ∧ ∃ xs, Arr encB 1 w a9 xs ∧ (∀ x ∈ xs, (fun _ => True) x) ∧ ((y.1.weights Try.prog 41).all (· ≤ reachBytes) = true → xs.length * Try.prog.bytesOf 5 ≤ reachBytes)) := by
  obtain ⟨y0, y1, y2, y3, y4, y5, n, hy, hl, h0, h1, h2, h3, h4, h5⟩ := trodS6 Try.underlying41 h
  have hc : Try.prog.cellsOf 41 = 10 := by kernel_rfl
  rw [hc] at hl
  have c0 : Try.prog.cellsOf 3 = 1 := by kernel_rfl
  have c1 : Try.prog.cellsOf 26 = 5 := by kernel_rfl
  have c2 : Try.prog.cellsOf 38 = 1 := by kernel_rfl
  have c3 : Try.prog.cellsOf 9 = 1 := by kernel_rfl
  have c4 : Try.prog.cellsOf 39 = 1 := by kernel_rfl
  match cs, hl with
  | [u0, u1, u2, u3, u4, u5, u6, u7, u8, u9], _ =>
    simp only [c0, c1, c2, c3, c4, List.drop_zero, List.take_succ_cons, List.take_zero, List.drop_succ_cons] at h0 h1 h2 h3 h4 h5
    have hWs : (y.1.weights Try.prog 41).all (· ≤ reachBytes) = true → (y0.1.weights Try.prog 3).all (· ≤ reachBytes) = true ∧ (y1.1.weights Try.prog 3).all (· ≤ reachBytes) = true ∧ (y2.1.weights Try.prog 26).all (· ≤ reachBytes) = true ∧ (y3.1.weights Try.prog 38).all (· ≤ reachBytes) = true ∧ (y4.1.weights Try.prog 9).all (· ≤ reachBytes) = true ∧ (y5.1.weights Try.prog 39).all (· ≤ reachBytes) = true := by
      intro hW
      rw [hy] at hW
      simpa only [DataW.weights, Try.underlying41, List.map_cons, List.map_nil, DataW.weightsEach, List.all_append, List.all_nil, Bool.and_eq_true, and_true] using hW
    obtain ⟨a0, e0, _, q0⟩ := DataW.trod_int Try.underlying3 h0
    obtain ⟨a1, e1, _, q1⟩ := DataW.trod_int Try.underlying3 h1
    obtain ⟨a2, a3, a4, a5, a6, e2, q2_0, q2_1, q2_2, q2_3, q2_4⟩ := root1_dec _ _ _ h2
    obtain ⟨a7, e3, q3⟩ := arr_of_cells (P := Try.prog) (encS := encI) (OK := (fun _ => True)) Try.underlying38 (show Try.prog.cellsOf 3 = 1 by kernel_rfl) (by omega) encI_len (int_dec) h3
    obtain ⟨a8, e4, _, q4⟩ := DataW.trod_string Try.underlying9 h4
    obtain ⟨a9, e5, q5⟩ := arr_of_cells (P := Try.prog) (encS := encB) (OK := (fun _ => True)) Try.underlying39 (show Try.prog.cellsOf 5 = 1 by kernel_rfl) (by omega) encB_len (u8_dec) h5
    simp only [List.cons.injEq, and_true] at e0 e1 e2 e3 e4 e5
    subst e0
    subst e1
    obtain ⟨rfl, rfl, rfl, rfl, rfl⟩ := e2
    subst e3
    subst e4
    subst e5
    exact ⟨a0, a1, a2, a3, a4, a5, a6, u7, a8, u9, rfl, q0, q1, q2_0, q2_1, q2_2, q2_3, q2_4, ⟨q3.1, q3.2.elim fun xs p => ⟨xs, p.1, p.2.1, fun hW => p.2.2 (hWs hW).2.2.2.1⟩⟩, q4, ⟨q5.1, q5.2.elim fun xs p => ⟨xs, p.1, p.2.1, fun hW => p.2.2 (hWs hW).2.2.2.2.2⟩⟩⟩
theorem ac_dec (fuel : Nat) (cs : List Value) (y : DataW H × List MemPlace) (h : DataW.trod enc Try.prog w 0 (fun _ => true) true fuel 41 cs = some y) : ∃ x : Ac, cs = encAc x ∧ AcOk w x := by
  obtain ⟨a0, a1, a2, a3, a4, a5, a6, a7, a8, a9, e, q0, q1, q2, _, _, _, _, ⟨⟨a, n, c, rfl, _⟩, t, ht, _⟩, qs, ⟨⟨a', n', c', rfl, _⟩, b, hb, _⟩⟩ := ac0_dec _ _ _ h
  obtain ⟨g, rfl⟩ := u64_nat q2
  exact ⟨⟨a0, a1, ⟨g, a3, a4, a5, a6⟩, _, a8, _⟩, e, ⟨t, b, ht, hb⟩, ⟨rfl, rfl⟩, i64_le q1, qs⟩
end
theorem actsT_of {w : World} {v : Value} {ls : List Ac} (h : Arr encAc 10 w v ls) (hok : ∀ a ∈ ls, AcOk w a) : ∃ xs, ActsT w v xs := by
  have key : ∀ ls : List Ac, (∀ a ∈ ls, AcOk w a) → ∃ xs : List FAc, xs.map (·.1) = ls ∧ ∀ x ∈ xs, (Arr encI 1 w x.1.tv x.2.1 ∧ Arr encB 1 w x.1.bv x.2.2) ∧ (x.1.tv.oneCell' = true ∧ x.1.bv.oneCell' = true) ∧ x.1.n ≤ 9223372036854775807 ∧ x.1.nm.size ≤ 9223372036854775807 := by
    intro ls
    induction ls with
    | nil => intro _; exact ⟨[], rfl, by simp⟩
    | cons a ls ih =>
      intro hok
      obtain ⟨xs, h1, h2⟩ := ih fun r hr => hok r (by simp [hr])
      obtain ⟨⟨t, b, q⟩, r⟩ := hok a (by simp)
      refine ⟨(a, t, b) :: xs, by simp [h1], fun x hx => ?_⟩
      rcases List.mem_cons.1 hx with rfl | hx
      · exact ⟨q, r⟩
      · exact h2 x hx
  obtain ⟨xs, h1, h2⟩ := key ls hok
  exact ⟨xs, by rw [h1]; exact h, fun x hx => (h2 x hx).1, fun x hx => (h2 x hx).2.1, fun x hx => (h2 x hx).2.2⟩
end Go.Proofs.Ythlmkjkjebcpfaa
