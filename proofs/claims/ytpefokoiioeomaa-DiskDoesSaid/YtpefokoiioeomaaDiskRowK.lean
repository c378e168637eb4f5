/- How acts that came in read. No condition. -/
import Derived.Test.YtpefokoiioeomaaRowK
import Derived.Test.YtpefokoiioeomaaRow2
import Derived.Test.YtpefokoiioeomaaDiskRoom
namespace Go.Proofs.Ytpefokoiioeomaa
open Go.Den Go.Disk
open Go.ChangeShapes Go.WideShapes Go.ChangeAt Go.RowKit
set_option linter.unusedVariables false
def ActOk (w : World) (a : Act) : Prop := (∃ b t, Arr encB 1 w a.bv b ∧ Arr encI 1 w a.tv t) ∧ (a.bv.oneCell' = true ∧ a.tv.oneCell' = true) ∧ a.n ≤ 9223372036854775807 ∧ a.nm.size ≤ 9223372036854775807 ∧ a.to.size ≤ 9223372036854775807
theorem i64_le {x : Int} (h : (Lit.int .i64 x).wf = true) : x ≤ 9223372036854775807 := by
  have := h
  simp [Lit.wf, IntKind.min, IntKind.max, IntKind.signed, IntKind.bits] at this
  omega
theorem u8_of_wf {x : Int} (h : (Lit.int .u8 x).wf = true) : ∃ b : UInt8, x = (b.toNat : Int) := by
  have := h
  simp [Lit.wf, IntKind.min, IntKind.max, IntKind.signed, IntKind.bits] at this
  refine ⟨UInt8.ofNat x.toNat, ?_⟩
  rw [UInt8.toNat_ofNat']
  omega
section
variable {H : Type} {enc : TypeId × Value → H} {w : World}
theorem u8_dec (fuel : Nat) (cs : List Value) (y : DataW H × List MemPlace) (h : DataW.trod enc Try.prog w 0 (fun _ => true) true fuel 5 cs = some y) : ∃ x : UInt8, cs = encB x ∧ True := by
  obtain ⟨a, e, _, q⟩ := DataW.trod_int Try.underlying5 h
  obtain ⟨b, rfl⟩ := u8_of_wf q
  exact ⟨b, e, trivial⟩
theorem int_dec (fuel : Nat) (cs : List Value) (y : DataW H × List MemPlace) (h : DataW.trod enc Try.prog w 0 (fun _ => true) true fuel 3 cs = some y) : ∃ x : Int, cs = encI x ∧ True := by
  obtain ⟨a, e, _, q⟩ := DataW.trod_int Try.underlying3 h
  exact ⟨a, e, trivial⟩
theorem encI_len (x : Int) : (encI x).length = 1 := rfl
set_option maxRecDepth 100000 in
theorem act0_dec (fuel : Nat) (cs : List Value) (y : DataW H × List MemPlace) (h : DataW.trod enc Try.prog w 0 (fun _ => true) true fuel 35 cs = some y) : ∃ (a0 : Int) (a1 : Int) (a2 : ByteArray) (a3 : ByteArray) (a4 : Value) (a5 : Value), cs = [.int .i64 a0, .int .i64 a1, .string a2, .string a3, a4, a5] ∧ (Lit.int .i64 a0).wf = true ∧ (Lit.int .i64 a1).wf = true ∧ a2.size ≤ 9223372036854775807 ∧ a3.size ≤ 9223372036854775807 ∧ (Capd a4 ∧ ∃ xs, Arr encB 1 w a4 xs ∧ (∀ x ∈ xs, (fun _ => True) x) ∧ ((y.1.weights Try.prog 35).all (· ≤ reachBytes) = true → xs.length * Try.prog.bytesOf 5 ≤ reachBytes)) ∧ (Capd a5 ∧ ∃ xs, Arr encI 1 w a5 xs ∧ (∀ x ∈ xs, (fun _ => True) x) ∧ ((y.1.weights Try.prog 35).all (· ≤ reachBytes) = true → xs.length * Try.prog.bytesOf 3 ≤ reachBytes)) := by
  obtain ⟨y0, y1, y2, y3, y4, y5, n, hy, hl, h0, h1, h2, h3, h4, h5⟩ := trodS6 Try.underlying35 h
  have hc : Try.prog.cellsOf 35 = 6 := by kernel_rfl
  rw [hc] at hl
  have c0 : Try.prog.cellsOf 3 = 1 := by kernel_rfl
  have c1 : Try.prog.cellsOf 9 = 1 := by kernel_rfl
  have c2 : Try.prog.cellsOf 32 = 1 := by kernel_rfl
  have c3 : Try.prog.cellsOf 33 = 1 := by kernel_rfl
  match cs, hl with
  | [u0, u1, u2, u3, u4, u5], _ =>
    simp only [c0, c1, c2, c3, List.drop_zero, List.take_succ_cons, List.take_zero, List.drop_succ_cons] at h0 h1 h2 h3 h4 h5
    have hWs : (y.1.weights Try.prog 35).all (· ≤ reachBytes) = true → (y0.1.weights Try.prog 3).all (· ≤ reachBytes) = true ∧ (y1.1.weights Try.prog 3).all (· ≤ reachBytes) = true ∧ (y2.1.weights Try.prog 9).all (· ≤ reachBytes) = true ∧ (y3.1.weights Try.prog 9).all (· ≤ reachBytes) = true ∧ (y4.1.weights Try.prog 32).all (· ≤ reachBytes) = true ∧ (y5.1.weights Try.prog 33).all (· ≤ reachBytes) = true := by
      intro hW
      rw [hy] at hW
      simpa only [DataW.weights, Try.underlying35, List.map_cons, List.map_nil, DataW.weightsEach, List.all_append, List.all_nil, Bool.and_eq_true, and_true] using hW
    obtain ⟨a0, e0, _, q0⟩ := DataW.trod_int Try.underlying3 h0
    obtain ⟨a1, e1, _, q1⟩ := DataW.trod_int Try.underlying3 h1
    obtain ⟨a2, e2, _, q2⟩ := DataW.trod_string Try.underlying9 h2
    obtain ⟨a3, e3, _, q3⟩ := DataW.trod_string Try.underlying9 h3
    obtain ⟨a4, e4, q4⟩ := arr_of_cells (P := Try.prog) (encS := encB) (OK := (fun _ => True)) Try.underlying32 (show Try.prog.cellsOf 5 = 1 by kernel_rfl) (by omega) encB_len (u8_dec) h4
    obtain ⟨a5, e5, q5⟩ := arr_of_cells (P := Try.prog) (encS := encI) (OK := (fun _ => True)) Try.underlying33 (show Try.prog.cellsOf 3 = 1 by kernel_rfl) (by omega) encI_len (int_dec) h5
    simp only [List.cons.injEq, and_true] at e0 e1 e2 e3 e4 e5
    subst e0
    subst e1
    subst e2
    subst e3
    subst e4
    subst e5
    exact ⟨a0, a1, a2, a3, u4, u5, rfl, q0, q1, q2, q3, ⟨q4.1, q4.2.elim fun xs p => ⟨xs, p.1, p.2.1, fun hW => p.2.2 (hWs hW).2.2.2.2.1⟩⟩, ⟨q5.1, q5.2.elim fun xs p => ⟨xs, p.1, p.2.1, fun hW => p.2.2 (hWs hW).2.2.2.2.2⟩⟩⟩
theorem act_dec (fuel : Nat) (cs : List Value) (y : DataW H × List MemPlace) (h : DataW.trod enc Try.prog w 0 (fun _ => true) true fuel 35 cs = some y) : ∃ x : Act, cs = encA x ∧ ActOk w x := by
  obtain ⟨a0, a1, a2, a3, a4, a5, e, q0, q1, z2, z3, ⟨⟨a, n, c, rfl, _⟩, b, hb, _⟩, ⟨⟨a', n', c', rfl, _⟩, t, ht, _⟩⟩ := act0_dec _ _ _ h
  exact ⟨⟨a0, a1, a2, a3, _, _⟩, e, ⟨b, t, hb, ht⟩, ⟨rfl, rfl⟩, i64_le q1, z2, z3⟩
end
theorem acts_of2 {w : World} {v : Value} {ls : List Act} (h : Arr encA 6 w v ls) (hok : ∀ a ∈ ls, ActOk w a) : ∃ xs, Acts w v xs ∧ ∀ x ∈ xs, x.1.nm.size ≤ 9223372036854775807 ∧ x.1.to.size ≤ 9223372036854775807 := by
  have key : ∀ ls : List Act, (∀ a ∈ ls, ActOk w a) → ∃ xs : List FA, xs.map (·.1) = ls ∧ ∀ x ∈ xs, (Arr encB 1 w x.1.bv x.2.1 ∧ Arr encI 1 w x.1.tv x.2.2) ∧ (x.1.bv.oneCell' = true ∧ x.1.tv.oneCell' = true) ∧ x.1.n ≤ 9223372036854775807 ∧ x.1.nm.size ≤ 9223372036854775807 ∧ x.1.to.size ≤ 9223372036854775807 := by
    intro ls
    induction ls with
    | nil => intro _; exact ⟨[], rfl, by simp⟩
    | cons a ls ih =>
      intro hok
      obtain ⟨xs, h1, h2⟩ := ih fun r hr => hok r (by simp [hr])
      obtain ⟨⟨b, t, q⟩, r⟩ := hok a (by simp)
      refine ⟨(a, b, t) :: xs, by simp [h1], fun x hx => ?_⟩
      rcases List.mem_cons.1 hx with rfl | hx
      · exact ⟨q, r⟩
      · exact h2 x hx
  obtain ⟨xs, h1, h2⟩ := key ls hok
  exact ⟨xs, ⟨by rw [h1]; exact h, fun x hx => (h2 x hx).1, fun x hx => (h2 x hx).2.1, fun x hx => (h2 x hx).2.2.1⟩, fun x hx => (h2 x hx).2.2.2⟩
theorem acts_of {w : World} {v : Value} {ls : List Act} (h : Arr encA 6 w v ls) (hok : ∀ a ∈ ls, ActOk w a) : ∃ xs, Acts w v xs := (acts_of2 h hok).elim fun xs h => ⟨xs, h.1⟩
end Go.Proofs.Ytpefokoiioeomaa
