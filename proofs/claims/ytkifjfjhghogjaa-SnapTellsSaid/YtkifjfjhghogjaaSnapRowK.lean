/- How messages, records and snapshots that came in read. No condition. -/
import Derived.Test.YtkifjfjhghogjaaRowK
import Derived.Test.YtkifjfjhghogjaaRow2
import Derived.Test.YtkifjfjhghogjaaSnapBack
namespace Go.Proofs.Ytkifjfjhghogjaa
open Go.Den
open Go.ChangeShapes Go.WideShapes Go.ChangeAt Go.RowKit
def ItmOk (x : Itm) : Prop := U64 x.id ∧ U64 x.due ∧ U64 x.token ∧ U64 x.turn ∧ U64 x.seg ∧ U64 x.at_
def RowOk (x : Row) : Prop := U64 x.1 ∧ U64 x.2
def CurOk (x : Cur) : Prop := U64 x.2
def RecOk (w : World) (r : Rec) : Prop := ∃ xs, Arr encU 1 w r.nv xs ∧ ∀ x ∈ xs, U64 x
section
variable {H : Type} {enc : TypeId × Value → H} {w : World}
theorem u64_dec (fuel : Nat) (cs : List Value) (y : DataW H × List MemPlace) (h : DataW.trod enc Try.prog w 0 (fun _ => true) true fuel 22 cs = some y) : ∃ x : Int, cs = encU x ∧ U64 x := by
  obtain ⟨a, e, _, q⟩ := DataW.trod_int Try.underlying22 h
  exact ⟨a, e, u64_of_wf q⟩
set_option maxRecDepth 100000 in
theorem life_dec (fuel : Nat) (cs : List Value) (y : DataW H × List MemPlace) (h : DataW.trod enc Try.prog w 0 (fun _ => true) true fuel 65 cs = some y) : ∃ (a0 : Int) (a1 : Int) (a2 : Int) (a3 : Int), cs = [.int .i64 a0, .int .i64 a1, .int .u64 a2, .int .u64 a3] ∧ (Lit.int .i64 a0).wf = true ∧ (Lit.int .i64 a1).wf = true ∧ (Lit.int .u64 a2).wf = true ∧ (Lit.int .u64 a3).wf = true := by
  obtain ⟨y0, y1, y2, y3, n, hy, hl, h0, h1, h2, h3⟩ := trodS4 Try.underlying65 h
  have hc : Try.prog.cellsOf 65 = 4 := by kernel_rfl
  rw [hc] at hl
  have c0 : Try.prog.cellsOf 3 = 1 := by kernel_rfl
  have c1 : Try.prog.cellsOf 22 = 1 := by kernel_rfl
  match cs, hl with
  | [u0, u1, u2, u3], _ =>
    simp only [c0, c1, List.drop_zero, List.take_succ_cons, List.take_zero, List.drop_succ_cons] at h0 h1 h2 h3
    obtain ⟨a0, e0, _, q0⟩ := DataW.trod_int Try.underlying3 h0
    obtain ⟨a1, e1, _, q1⟩ := DataW.trod_int Try.underlying3 h1
    obtain ⟨a2, e2, _, q2⟩ := DataW.trod_int Try.underlying22 h2
    obtain ⟨a3, e3, _, q3⟩ := DataW.trod_int Try.underlying22 h3
    simp only [List.cons.injEq, and_true] at e0 e1 e2 e3
    subst e0
    subst e1
    subst e2
    subst e3
    exact ⟨a0, a1, a2, a3, rfl, q0, q1, q2, q3⟩
set_option maxRecDepth 100000 in
theorem where_dec (fuel : Nat) (cs : List Value) (y : DataW H × List MemPlace) (h : DataW.trod enc Try.prog w 0 (fun _ => true) true fuel 67 cs = some y) : ∃ (a0 : Int) (a1 : Int) (a2 : Int), cs = [.int .u64 a0, .int .u64 a1, .int .i64 a2] ∧ (Lit.int .u64 a0).wf = true ∧ (Lit.int .u64 a1).wf = true ∧ (Lit.int .i64 a2).wf = true := by
  obtain ⟨y0, y1, y2, n, hy, hl, h0, h1, h2⟩ := trodS3 Try.underlying67 h
  have hc : Try.prog.cellsOf 67 = 3 := by kernel_rfl
  rw [hc] at hl
  have c0 : Try.prog.cellsOf 22 = 1 := by kernel_rfl
  have c1 : Try.prog.cellsOf 3 = 1 := by kernel_rfl
  match cs, hl with
  | [u0, u1, u2], _ =>
    simp only [c0, c1, List.drop_zero, List.take_succ_cons, List.take_zero, List.drop_succ_cons] at h0 h1 h2
    obtain ⟨a0, e0, _, q0⟩ := DataW.trod_int Try.underlying22 h0
    obtain ⟨a1, e1, _, q1⟩ := DataW.trod_int Try.underlying22 h1
    obtain ⟨a2, e2, _, q2⟩ := DataW.trod_int Try.underlying3 h2
    simp only [List.cons.injEq, and_true] at e0 e1 e2
    subst e0
    subst e1
    subst e2
    exact ⟨a0, a1, a2, rfl, q0, q1, q2⟩
set_option maxRecDepth 100000 in
theorem item0_dec (fuel : Nat) (cs : List Value) (y : DataW H × List MemPlace) (h : DataW.trod enc Try.prog w 0 (fun _ => true) true fuel 69 cs = some y) : ∃ (a0 : Int) (a1 : Int) (a2 : Int) (a3 : Int) (a4 : Int) (a5 : Int) (a6 : Int) (a7 : Int) (a8 : Int) (a9 : Int), cs = [.int .u64 a0, .int .i64 a1, .int .i64 a2, .int .i64 a3, .int .u64 a4, .int .u64 a5, .int .u64 a6, .int .u64 a7, .int .u64 a8, .int .i64 a9] ∧ (Lit.int .u64 a0).wf = true ∧ (Lit.int .i64 a1).wf = true ∧ (Lit.int .i64 a2).wf = true ∧ (Lit.int .i64 a3).wf = true ∧ (Lit.int .u64 a4).wf = true ∧ (Lit.int .u64 a5).wf = true ∧ (Lit.int .u64 a6).wf = true ∧ (Lit.int .u64 a7).wf = true ∧ (Lit.int .u64 a8).wf = true ∧ (Lit.int .i64 a9).wf = true := by
  obtain ⟨y0, y1, y2, y3, y4, n, hy, hl, h0, h1, h2, h3, h4⟩ := trodS5 Try.underlying69 h
  have hc : Try.prog.cellsOf 69 = 10 := by kernel_rfl
  rw [hc] at hl
  have c0 : Try.prog.cellsOf 22 = 1 := by kernel_rfl
  have c1 : Try.prog.cellsOf 3 = 1 := by kernel_rfl
  have c2 : Try.prog.cellsOf 65 = 4 := by kernel_rfl
  have c3 : Try.prog.cellsOf 67 = 3 := by kernel_rfl
  match cs, hl with
  | [u0, u1, u2, u3, u4, u5, u6, u7, u8, u9], _ =>
    simp only [c0, c1, c2, c3, List.drop_zero, List.take_succ_cons, List.take_zero, List.drop_succ_cons] at h0 h1 h2 h3 h4
    obtain ⟨a0, e0, _, q0⟩ := DataW.trod_int Try.underlying22 h0
    obtain ⟨a1, e1, _, q1⟩ := DataW.trod_int Try.underlying3 h1
    obtain ⟨a2, a3, a4, a5, e2, q2_0, q2_1, q2_2, q2_3⟩ := life_dec _ _ _ h2
    obtain ⟨a6, e3, _, q3⟩ := DataW.trod_int Try.underlying22 h3
    obtain ⟨a7, a8, a9, e4, q4_0, q4_1, q4_2⟩ := where_dec _ _ _ h4
    simp only [List.cons.injEq, and_true] at e0 e1 e2 e3 e4
    subst e0
    subst e1
    obtain ⟨rfl, rfl, rfl, rfl⟩ := e2
    subst e3
    obtain ⟨rfl, rfl, rfl⟩ := e4
    exact ⟨a0, a1, a2, a3, a4, a5, a6, a7, a8, a9, rfl, q0, q1, q2_0, q2_1, q2_2, q2_3, q3, q4_0, q4_1, q4_2⟩
theorem item_dec (fuel : Nat) (cs : List Value) (y : DataW H × List MemPlace) (h : DataW.trod enc Try.prog w 0 (fun _ => true) true fuel 69 cs = some y) : ∃ x : Itm, cs = encI x ∧ ItmOk x := by
  obtain ⟨a0, a1, a2, a3, a4, a5, a6, a7, a8, a9, e, q0, _, _, _, q4, q5, q6, q7, q8, _⟩ := item0_dec _ _ _ h
  exact ⟨⟨a0, a1, a2, a3, a4, a5, a6, a7, a8, a9⟩, e, u64_of_wf q0, u64_of_wf q4, u64_of_wf q5, u64_of_wf q6, u64_of_wf q7, u64_of_wf q8⟩
set_option maxRecDepth 100000 in
theorem row0_dec (fuel : Nat) (cs : List Value) (y : DataW H × List MemPlace) (h : DataW.trod enc Try.prog w 0 (fun _ => true) true fuel 75 cs = some y) : ∃ (a0 : Int) (a1 : Int), cs = [.int .u64 a0, .int .u64 a1] ∧ (Lit.int .u64 a0).wf = true ∧ (Lit.int .u64 a1).wf = true := by
  obtain ⟨y0, y1, n, hy, hl, h0, h1⟩ := trodS2 Try.underlying75 h
  have hc : Try.prog.cellsOf 75 = 2 := by kernel_rfl
  rw [hc] at hl
  have c0 : Try.prog.cellsOf 22 = 1 := by kernel_rfl
  match cs, hl with
  | [u0, u1], _ =>
    simp only [c0, List.drop_zero, List.take_succ_cons, List.take_zero, List.drop_succ_cons] at h0 h1
    obtain ⟨a0, e0, _, q0⟩ := DataW.trod_int Try.underlying22 h0
    obtain ⟨a1, e1, _, q1⟩ := DataW.trod_int Try.underlying22 h1
    simp only [List.cons.injEq, and_true] at e0 e1
    subst e0
    subst e1
    exact ⟨a0, a1, rfl, q0, q1⟩
theorem row_dec (fuel : Nat) (cs : List Value) (y : DataW H × List MemPlace) (h : DataW.trod enc Try.prog w 0 (fun _ => true) true fuel 75 cs = some y) : ∃ x : Row, cs = encRow x ∧ RowOk x := by
  obtain ⟨a0, a1, e, q0, q1⟩ := row0_dec _ _ _ h
  exact ⟨(a0, a1), e, u64_of_wf q0, u64_of_wf q1⟩
set_option maxRecDepth 100000 in
theorem cur0_dec (fuel : Nat) (cs : List Value) (y : DataW H × List MemPlace) (h : DataW.trod enc Try.prog w 0 (fun _ => true) true fuel 77 cs = some y) : ∃ (a0 : ByteArray) (a1 : Int), cs = [.string a0, .int .u64 a1] ∧ True ∧ (Lit.int .u64 a1).wf = true := by
  obtain ⟨y0, y1, n, hy, hl, h0, h1⟩ := trodS2 Try.underlying77 h
  have hc : Try.prog.cellsOf 77 = 2 := by kernel_rfl
  rw [hc] at hl
  have c0 : Try.prog.cellsOf 9 = 1 := by kernel_rfl
  have c1 : Try.prog.cellsOf 22 = 1 := by kernel_rfl
  match cs, hl with
  | [u0, u1], _ =>
    simp only [c0, c1, List.drop_zero, List.take_succ_cons, List.take_zero, List.drop_succ_cons] at h0 h1
    obtain ⟨a0, e0, _, q0⟩ := DataW.trod_string Try.underlying9 h0
    obtain ⟨a1, e1, _, q1⟩ := DataW.trod_int Try.underlying22 h1
    simp only [List.cons.injEq, and_true] at e0 e1
    subst e0
    subst e1
    exact ⟨a0, a1, rfl, trivial, q1⟩
theorem cur_dec (fuel : Nat) (cs : List Value) (y : DataW H × List MemPlace) (h : DataW.trod enc Try.prog w 0 (fun _ => true) true fuel 77 cs = some y) : ∃ x : Cur, cs = encC x ∧ CurOk x := by
  obtain ⟨a0, a1, e, _, q1⟩ := cur0_dec _ _ _ h
  exact ⟨(a0, a1), e, u64_of_wf q1⟩
set_option maxRecDepth 100000 in
theorem rec0_dec (fuel : Nat) (cs : List Value) (y : DataW H × List MemPlace) (h : DataW.trod enc Try.prog w 0 (fun _ => true) true fuel 62 cs = some y) : ∃ (a0 : Int) (a1 : Value) (a2 : ByteArray), cs = [.int .i64 a0, a1, .string a2] ∧ (Lit.int .i64 a0).wf = true ∧ (Capd a1 ∧ ∃ xs, Arr encU 1 w a1 xs ∧ (∀ x ∈ xs, U64 x) ∧ ((y.1.weights Try.prog 62).all (· ≤ reachBytes) = true → xs.length * Try.prog.bytesOf 22 ≤ reachBytes)) ∧ True := by
  obtain ⟨y0, y1, y2, n, hy, hl, h0, h1, h2⟩ := trodS3 Try.underlying62 h
  have hc : Try.prog.cellsOf 62 = 3 := by kernel_rfl
  rw [hc] at hl
  have c0 : Try.prog.cellsOf 3 = 1 := by kernel_rfl
  have c1 : Try.prog.cellsOf 56 = 1 := by kernel_rfl
  have c2 : Try.prog.cellsOf 9 = 1 := by kernel_rfl
  match cs, hl with
  | [u0, u1, u2], _ =>
    simp only [c0, c1, c2, List.drop_zero, List.take_succ_cons, List.take_zero, List.drop_succ_cons] at h0 h1 h2
    have hWs : (y.1.weights Try.prog 62).all (· ≤ reachBytes) = true → (y0.1.weights Try.prog 3).all (· ≤ reachBytes) = true ∧ (y1.1.weights Try.prog 56).all (· ≤ reachBytes) = true ∧ (y2.1.weights Try.prog 9).all (· ≤ reachBytes) = true := by
      intro hW
      rw [hy] at hW
      simpa only [DataW.weights, Try.underlying62, List.map_cons, List.map_nil, DataW.weightsEach, List.all_append, List.all_nil, Bool.and_eq_true, and_true] using hW
    obtain ⟨a0, e0, _, q0⟩ := DataW.trod_int Try.underlying3 h0
    obtain ⟨a1, e1, q1⟩ := arr_of_cells (P := Try.prog) (encS := encU) (OK := U64) Try.underlying56 (show Try.prog.cellsOf 22 = 1 by kernel_rfl) (by omega) encU_len (u64_dec) h1
    obtain ⟨a2, e2, _, q2⟩ := DataW.trod_string Try.underlying9 h2
    simp only [List.cons.injEq, and_true] at e0 e1 e2
    subst e0
    subst e1
    subst e2
    exact ⟨a0, u1, a2, rfl, q0, ⟨q1.1, q1.2.elim fun xs p => ⟨xs, p.1, p.2.1, fun hW => p.2.2 (hWs hW).2.1⟩⟩, trivial⟩
theorem rec_dec (fuel : Nat) (cs : List Value) (y : DataW H × List MemPlace) (h : DataW.trod enc Try.prog w 0 (fun _ => true) true fuel 62 cs = some y) : ∃ x : Rec, cs = encR x ∧ RecOk w x := by
  obtain ⟨a0, a1, a2, e, _, ⟨⟨a, n, c, rfl, _⟩, xs, hx, hu, _⟩, _⟩ := rec0_dec _ _ _ h
  exact ⟨⟨a0, a, n, c, a2⟩, e, xs, hx, hu⟩
set_option maxRecDepth 100000 in
theorem state0_dec (fuel : Nat) (cs : List Value) (y : DataW H × List MemPlace) (h : DataW.trod enc Try.prog w 0 (fun _ => true) true fuel 27 cs = some y) : ∃ (a0 : Int) (a1 : Int) (a2 : Int) (a3 : Int) (a4 : Int) (a5 : Value) (a6 : Value) (a7 : Value), cs = [.int .u64 a0, .int .u64 a1, .int .u64 a2, .int .u64 a3, .int .u64 a4, a5, a6, a7] ∧ (Lit.int .u64 a0).wf = true ∧ (Lit.int .u64 a1).wf = true ∧ (Lit.int .u64 a2).wf = true ∧ (Lit.int .u64 a3).wf = true ∧ (Lit.int .u64 a4).wf = true ∧ (Capd a5 ∧ ∃ xs, Arr encI 10 w a5 xs ∧ (∀ x ∈ xs, ItmOk x) ∧ ((y.1.weights Try.prog 27).all (· ≤ reachBytes) = true → xs.length * Try.prog.bytesOf 69 ≤ reachBytes)) ∧ (Capd a6 ∧ ∃ xs, Arr encRow 2 w a6 xs ∧ (∀ x ∈ xs, RowOk x) ∧ ((y.1.weights Try.prog 27).all (· ≤ reachBytes) = true → xs.length * Try.prog.bytesOf 75 ≤ reachBytes)) ∧ (Capd a7 ∧ ∃ xs, Arr encC 2 w a7 xs ∧ (∀ x ∈ xs, CurOk x) ∧ ((y.1.weights Try.prog 27).all (· ≤ reachBytes) = true → xs.length * Try.prog.bytesOf 77 ≤ reachBytes)) := by
  obtain ⟨y0, y1, y2, y3, y4, y5, y6, y7, n, hy, hl, h0, h1, h2, h3, h4, h5, h6, h7⟩ := trodS8 Try.underlying27 h
  have hc : Try.prog.cellsOf 27 = 8 := by kernel_rfl
  rw [hc] at hl
  have c0 : Try.prog.cellsOf 22 = 1 := by kernel_rfl
  have c1 : Try.prog.cellsOf 23 = 1 := by kernel_rfl
  have c2 : Try.prog.cellsOf 24 = 1 := by kernel_rfl
  have c3 : Try.prog.cellsOf 25 = 1 := by kernel_rfl
  match cs, hl with
  | [u0, u1, u2, u3, u4, u5, u6, u7], _ =>
    simp only [c0, c1, c2, c3, List.drop_zero, List.take_succ_cons, List.take_zero, List.drop_succ_cons] at h0 h1 h2 h3 h4 h5 h6 h7
    have hWs : (y.1.weights Try.prog 27).all (· ≤ reachBytes) = true → (y0.1.weights Try.prog 22).all (· ≤ reachBytes) = true ∧ (y1.1.weights Try.prog 22).all (· ≤ reachBytes) = true ∧ (y2.1.weights Try.prog 22).all (· ≤ reachBytes) = true ∧ (y3.1.weights Try.prog 22).all (· ≤ reachBytes) = true ∧ (y4.1.weights Try.prog 22).all (· ≤ reachBytes) = true ∧ (y5.1.weights Try.prog 23).all (· ≤ reachBytes) = true ∧ (y6.1.weights Try.prog 24).all (· ≤ reachBytes) = true ∧ (y7.1.weights Try.prog 25).all (· ≤ reachBytes) = true := by
      intro hW
      rw [hy] at hW
      simpa only [DataW.weights, Try.underlying27, List.map_cons, List.map_nil, DataW.weightsEach, List.all_append, List.all_nil, Bool.and_eq_true, and_true] using hW
    obtain ⟨a0, e0, _, q0⟩ := DataW.trod_int Try.underlying22 h0
    obtain ⟨a1, e1, _, q1⟩ := DataW.trod_int Try.underlying22 h1
    obtain ⟨a2, e2, _, q2⟩ := DataW.trod_int Try.underlying22 h2
    obtain ⟨a3, e3, _, q3⟩ := DataW.trod_int Try.underlying22 h3
    obtain ⟨a4, e4, _, q4⟩ := DataW.trod_int Try.underlying22 h4
    obtain ⟨a5, e5, q5⟩ := arr_of_cells (P := Try.prog) (encS := encI) (OK := ItmOk) Try.underlying23 (show Try.prog.cellsOf 69 = 10 by kernel_rfl) (by omega) encI_len (item_dec) h5
    obtain ⟨a6, e6, q6⟩ := arr_of_cells (P := Try.prog) (encS := encRow) (OK := RowOk) Try.underlying24 (show Try.prog.cellsOf 75 = 2 by kernel_rfl) (by omega) encRow_len (row_dec) h6
    obtain ⟨a7, e7, q7⟩ := arr_of_cells (P := Try.prog) (encS := encC) (OK := CurOk) Try.underlying25 (show Try.prog.cellsOf 77 = 2 by kernel_rfl) (by omega) encC_len (cur_dec) h7
    simp only [List.cons.injEq, and_true] at e0 e1 e2 e3 e4 e5 e6 e7
    subst e0
    subst e1
    subst e2
    subst e3
    subst e4
    subst e5
    subst e6
    subst e7
    exact ⟨a0, a1, a2, a3, a4, u5, u6, u7, rfl, q0, q1, q2, q3, q4, ⟨q5.1, q5.2.elim fun xs p => ⟨xs, p.1, p.2.1, fun hW => p.2.2 (hWs hW).2.2.2.2.2.1⟩⟩, ⟨q6.1, q6.2.elim fun xs p => ⟨xs, p.1, p.2.1, fun hW => p.2.2 (hWs hW).2.2.2.2.2.2.1⟩⟩, ⟨q7.1, q7.2.elim fun xs p => ⟨xs, p.1, p.2.1, fun hW => p.2.2 (hWs hW).2.2.2.2.2.2.2⟩⟩⟩
set_option maxRecDepth 100000 in
theorem snap0_dec (fuel : Nat) (cs : List Value) (y : DataW H × List MemPlace) (h : DataW.trod enc Try.prog w 0 (fun _ => true) true fuel 29 cs = some y) : ∃ (a0 : Int) (a1 : Int) (a2 : Int) (a3 : Int) (a4 : Int) (a5 : Value) (a6 : Value) (a7 : Value) (a8 : Int) (a9 : Int), cs = [.int .u64 a0, .int .u64 a1, .int .u64 a2, .int .u64 a3, .int .u64 a4, a5, a6, a7, .int .u64 a8, .int .u64 a9] ∧ (Lit.int .u64 a0).wf = true ∧ (Lit.int .u64 a1).wf = true ∧ (Lit.int .u64 a2).wf = true ∧ (Lit.int .u64 a3).wf = true ∧ (Lit.int .u64 a4).wf = true ∧ (Capd a5 ∧ ∃ xs, Arr encI 10 w a5 xs ∧ (∀ x ∈ xs, ItmOk x) ∧ ((y.1.weights Try.prog 29).all (· ≤ reachBytes) = true → xs.length * Try.prog.bytesOf 69 ≤ reachBytes)) ∧ (Capd a6 ∧ ∃ xs, Arr encRow 2 w a6 xs ∧ (∀ x ∈ xs, RowOk x) ∧ ((y.1.weights Try.prog 29).all (· ≤ reachBytes) = true → xs.length * Try.prog.bytesOf 75 ≤ reachBytes)) ∧ (Capd a7 ∧ ∃ xs, Arr encC 2 w a7 xs ∧ (∀ x ∈ xs, CurOk x) ∧ ((y.1.weights Try.prog 29).all (· ≤ reachBytes) = true → xs.length * Try.prog.bytesOf 77 ≤ reachBytes)) ∧ (Lit.int .u64 a8).wf = true ∧ (Lit.int .u64 a9).wf = true := by
  obtain ⟨y0, y1, y2, n, hy, hl, h0, h1, h2⟩ := trodS3 Try.underlying29 h
  have hc : Try.prog.cellsOf 29 = 10 := by kernel_rfl
  rw [hc] at hl
  have c0 : Try.prog.cellsOf 27 = 8 := by kernel_rfl
  have c1 : Try.prog.cellsOf 22 = 1 := by kernel_rfl
  match cs, hl with
  | [u0, u1, u2, u3, u4, u5, u6, u7, u8, u9], _ =>
    simp only [c0, c1, List.drop_zero, List.take_succ_cons, List.take_zero, List.drop_succ_cons] at h0 h1 h2
    have hWs : (y.1.weights Try.prog 29).all (· ≤ reachBytes) = true → (y0.1.weights Try.prog 27).all (· ≤ reachBytes) = true ∧ (y1.1.weights Try.prog 22).all (· ≤ reachBytes) = true ∧ (y2.1.weights Try.prog 22).all (· ≤ reachBytes) = true := by
      intro hW
      rw [hy] at hW
      simpa only [DataW.weights, Try.underlying29, List.map_cons, List.map_nil, DataW.weightsEach, List.all_append, List.all_nil, Bool.and_eq_true, and_true] using hW
    obtain ⟨a0, a1, a2, a3, a4, a5, a6, a7, e0, q0_0, q0_1, q0_2, q0_3, q0_4, q0_5, q0_6, q0_7⟩ := state0_dec _ _ _ h0
    obtain ⟨a8, e1, _, q1⟩ := DataW.trod_int Try.underlying22 h1
    obtain ⟨a9, e2, _, q2⟩ := DataW.trod_int Try.underlying22 h2
    simp only [List.cons.injEq, and_true] at e0 e1 e2
    obtain ⟨rfl, rfl, rfl, rfl, rfl, rfl, rfl, rfl⟩ := e0
    subst e1
    subst e2
    exact ⟨a0, a1, a2, a3, a4, u5, u6, u7, a8, a9, rfl, q0_0, q0_1, q0_2, q0_3, q0_4, ⟨q0_5.1, q0_5.2.elim fun xs p => ⟨xs, p.1, p.2.1, fun hW => p.2.2 (hWs hW).1⟩⟩, ⟨q0_6.1, q0_6.2.elim fun xs p => ⟨xs, p.1, p.2.1, fun hW => p.2.2 (hWs hW).1⟩⟩, ⟨q0_7.1, q0_7.2.elim fun xs p => ⟨xs, p.1, p.2.1, fun hW => p.2.2 (hWs hW).1⟩⟩, q1, q2⟩
theorem snap_dec (fuel : Nat) (cs : List Value) (y : DataW H × List MemPlace) (h : DataW.trod enc Try.prog w 0 (fun _ => true) true fuel 29 cs = some y) : ∃ (s : SnapL) (iv dv cv : Value), cs = snC s iv dv cv ∧ SnV w s iv dv cv ∧ SnapU s ∧
    ((y.1.weights Try.prog 29).all (· ≤ reachBytes) = true → s.items.length * 80 ≤ reachBytes ∧ s.dead.length * 16 ≤ reachBytes ∧ s.curs.length * 24 ≤ reachBytes) := by
  have e1 : Try.prog.bytesOf 69 = 80 := by kernel_rfl
  have e2 : Try.prog.bytesOf 75 = 16 := by kernel_rfl
  have e3 : Try.prog.bytesOf 77 = 24 := by kernel_rfl
  obtain ⟨a0, a1, a2, a3, a4, a5, a6, a7, a8, a9, e, q0, q1, q2, q3, q4, ⟨_, xi, hi, ui, wi⟩, ⟨_, xd, hd, ud, wd⟩, ⟨_, xc, hc, uc, wc⟩, q8, q9⟩ := snap0_dec _ _ _ h
  rw [e1] at wi
  rw [e2] at wd
  rw [e3] at wc
  exact ⟨⟨a0, a1, a2, a3, a4, xi, xd, xc, a8, a9⟩, a5, a6, a7, e, ⟨hi, hd, hc⟩, ⟨⟨u64_of_wf q0, u64_of_wf q1, u64_of_wf q2, u64_of_wf q3, u64_of_wf q4, u64_of_wf q8, u64_of_wf q9⟩, ui, ud, uc⟩, fun hw => ⟨wi hw, wd hw, wc hw⟩⟩
end
theorem recs_of {w : World} {v : Value} {rs : List Rec} (h : Arr encR 3 w v rs) (hok : ∀ r ∈ rs, RecOk w r) (hc : Capd v) : ∃ ls, RecsR w v ls ∧ NsU ls := by
  have key : ∀ rs : List Rec, (∀ r ∈ rs, RecOk w r) → ∃ ls : List LRec, rs.length = ls.length ∧ (∀ (i : Nat) r l, rs[i]? = some r → ls[i]? = some l → RecOf w r l) ∧ NsU ls := by
    intro rs
    induction rs with
    | nil => intro _; exact ⟨[], rfl, by simp, fun l hl => by simp at hl⟩
    | cons r rs ih =>
      intro hok
      obtain ⟨ls, h1, h2, h3⟩ := ih fun r hr => hok r (by simp [hr])
      obtain ⟨xs, hx, hu⟩ := hok r (by simp)
      refine ⟨⟨r.k, xs, r.t⟩ :: ls, by simp [h1], fun i r' l hr hl => ?_, fun l hl => ?_⟩
      · cases i with
        | zero => simp at hr hl; subst hr; subst hl; exact ⟨rfl, rfl, hx⟩
        | succ i => exact h2 i r' l (by simpa using hr) (by simpa using hl)
      · rcases List.mem_cons.1 hl with rfl | hl
        · exact hu
        · exact h3 l hl
  obtain ⟨ls, h1, h2, h3⟩ := key rs hok
  exact ⟨ls, ⟨rs, h, h1, h2, hc⟩, h3⟩
end Go.Proofs.Ytkifjfjhghogjaa
