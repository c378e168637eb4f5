/- DERIVED: THE SHELF's CONTRACTS AT THIS DUMP, IN PLAIN WORDS (tools/lay-plain.mjs out of 'TryzShelf.lean', which tools/lay-shelf.mjs wrote): THE SAME DECLARATIONS UNDER THE SAME NAMES: 'import', 'namespace', 'open', 'def', 'theorem' AND NOTHING ELSE: no command of the shelf's: FOR A HAND-IN. Each laying: the table of numbers ('.._ren') and one theorem, a field a fact of the dump's own or the kernel's comparison; each contract: ONE APPLICATION. Lanes: the first one: a range over a function that goes through a ring. No condition. A map's keys (numbers), by maps.Keys' iterator: a range over a map that yields. No condition. slices.AppendSeq of a map's keys (numbers): a range over a function that collects. No condition but sizes. -/
import Derived.Shelf.SlIter.Nil
import Derived.Shelf.Strings.Builder1
import Derived.Shelf.Small.Bits
import Derived.Shelf.Strings.BuilderF
import Derived.Shelf.Strings.BuilderK
import Derived.Shelf.Strings.BuilderRune
import Derived.Shelf.Strconv.Itoa0
import Derived.Test.YtpgflmjeedbimaaGreatProg
import Derived.RangeFuncFrom
import Derived.RangeFuncKeeps
import Derived.RangeFuncLeaves
import Derived.Shelf.Abstract
import Derived.WalkKit
import Derived.OwnWalkIn
import Derived.TacticsInMore
import Derived.LoopNIn
import Derived.LoopIn
import Derived.Test.YtpgflmjeedbimaaGreatDenOps
import Derived.RangeFuncBox
import Derived.Maps.AppendAt
set_option linter.unusedVariables false
set_option linter.unusedSimpArgs false
section
namespace Go.Proofs
open Go.Shelf
def Tryz.lays242_ren : Go.Shelf.Ren := ⟨fun | 242 => 230 | 278 => 247 | n => n, fun | 37 => 289 | 21 => 21 | 51 => 317 | 4 => 4 | 5 => 5 | 46 => 287 | 72 => 291 | n => n, fun | n => n⟩
theorem Tryz.lays242 : Go.Proofs.Lays.n242 Tryz.prog Tryz.lays242_ren := {
  mixed := by kernel_rfl
  f242 := Tryz.func230.trans (congrArg some (by kernel_rfl))
  f278 := Tryz.func247.trans (congrArg some (by kernel_rfl))
  t4 := Tryz.underlying4
  a4 := Tryz.isAgg4
  z4 := Tryz.sizeOf4
  v4 := Tryz.zeroValue4
  t5 := Tryz.underlying5
  a5 := Tryz.isAgg5
  z5 := Tryz.sizeOf5
  v5 := Tryz.zeroValue5
  t21 := Tryz.underlying21
  a21 := Tryz.isAgg21
  z21 := Tryz.sizeOf21
  v21 := Tryz.zeroValue21
  t37 := Tryz.underlying289
  a37 := Tryz.isAgg289
  z37 := Tryz.sizeOf289
  v37 := Tryz.zeroValue289
  t46 := Tryz.underlying287
  a46 := Tryz.isAgg287
  z46 := Tryz.sizeOf287
  v46 := Tryz.zeroValue287
  t51 := Tryz.underlying317
  a51 := Tryz.isAgg317
  z51 := Tryz.sizeOf317
  v51 := Tryz.zeroValue317 }
def Tryz.lays169_ren : Go.Shelf.Ren := ⟨fun | 169 => 205 | n => n, fun | 70 => 288 | 9 => 9 | 0 => 0 | 72 => 291 | 37 => 289 | 127 => 319 | 3 => 3 | 5 => 5 | n => n, fun | n => n⟩
theorem Tryz.lays169 : Go.Proofs.Lays.n169 Tryz.prog Tryz.lays169_ren := {
  mixed := by kernel_rfl
  f169 := Tryz.func205.trans (congrArg some (by kernel_rfl))
  t0 := Tryz.underlying0
  a0 := Tryz.isAgg0
  z0 := Tryz.sizeOf0
  v0 := Tryz.zeroValue0
  t3 := Tryz.underlying3
  a3 := Tryz.isAgg3
  z3 := Tryz.sizeOf3
  v3 := Tryz.zeroValue3
  t9 := Tryz.underlying9
  a9 := Tryz.isAgg9
  z9 := Tryz.sizeOf9
  v9 := Tryz.zeroValue9
  t37 := Tryz.underlying289
  a37 := Tryz.isAgg289
  z37 := Tryz.sizeOf289
  v37 := Tryz.zeroValue289
  t70 := Tryz.underlying288
  a70 := Tryz.isAgg288
  z70 := Tryz.sizeOf288
  v70 := Tryz.zeroValue288
  t72 := Tryz.underlying291
  a72 := Tryz.isAgg291
  z72 := Tryz.sizeOf291
  v72 := Tryz.zeroValue291
  t127 := Tryz.underlying319
  a127 := Tryz.isAgg319
  z127 := Tryz.sizeOf319
  v127 := Tryz.zeroValue319 }
theorem Tryz.Builder_Extra_169 : Builder.Extra Tryz.prog Tryz.lays169_ren := {
  sizeBuilder := by kernel_rfl
  liesBuilder := by kernel_rfl
  t5 := Tryz.underlying5
  a5 := Tryz.isAgg5
  z5 := Tryz.sizeOf5
  v5 := Tryz.zeroValue5
  infoByte := by kernel_rfl
  cellsByte := by kernel_rfl
  sizeByte := by kernel_rfl
  neB5 := by decide }
theorem Tryz.Builder_Extra_242 : Builder.Extra Tryz.prog Tryz.lays242_ren := {
  sizeBuilder := by kernel_rfl
  liesBuilder := by kernel_rfl
  t5 := Tryz.underlying5
  a5 := Tryz.isAgg5
  z5 := Tryz.sizeOf5
  v5 := Tryz.zeroValue5
  infoByte := by kernel_rfl
  cellsByte := by kernel_rfl
  sizeByte := by kernel_rfl
  neB5 := by decide }
open Go.RowKit in
theorem Tryz.Builder_String (B b : Nat) (l : List UInt8) (w : World) (h : Lib.IsBuilder 291 5 B b (Lib.byteCells l) w) (h0 : l ≠ []) :
    Calls Tryz.prog 205 #[.pointer (some ⟨b, 0, none⟩)] w fun e w' => e = .returned (.string ⟨l.toArray⟩) ∧ Below B w w' := Any.Builder_String Tryz.lays169 Tryz.Builder_Extra_169 B b l w h h0
open Go.RowKit in
theorem Tryz.Builder_String_empty (B b : Nat) (w : World) (h : Lib.IsBuilder 291 5 B b [] w) (hBw : B ≤ w.heap.size) :
    Calls Tryz.prog 205 #[.pointer (some ⟨b, 0, none⟩)] w fun e w' => e = .returned (.string ⟨#[]⟩) ∧ Below B w w' := Any.Builder_String_empty Tryz.lays169 Tryz.Builder_Extra_169 B b w h hBw
open Go.RowKit in
theorem Tryz.Builder_String_any (B b : Nat) (l : List UInt8) (w : World) (h : Lib.IsBuilder 291 5 B b (Lib.byteCells l) w) (hBw : B ≤ w.heap.size) :
    Calls Tryz.prog 205 #[.pointer (some ⟨b, 0, none⟩)] w fun e w' => e = .returned (.string ⟨l.toArray⟩) ∧ Below B w w' := Any.Builder_String_any Tryz.lays169 Tryz.Builder_Extra_169 B b l w h hBw
open Go.RowKit in
theorem Tryz.Builder_String_f (B b : Nat) (l : List UInt8) (w : World) (h : Lib.IsBuilderF 291 5 B b (Lib.byteCells l) w) (h0 : l ≠ []) :
    Calls Tryz.prog 205 #[.pointer (some ⟨b, 0, none⟩)] w fun e w' => e = .returned (.string ⟨l.toArray⟩) ∧ (Lib.IsBuilderF 291 5 B b (Lib.byteCells l) w' ∧ Below B w w') := Any.Builder_String_f Tryz.lays169 Tryz.Builder_Extra_169 B b l w h h0
open Go.RowKit in
theorem Tryz.Builder_String_empty_f (B b : Nat) (w : World) (h : Lib.IsBuilderF 291 5 B b [] w) (hBw : B ≤ w.heap.size) :
    Calls Tryz.prog 205 #[.pointer (some ⟨b, 0, none⟩)] w fun e w' => e = .returned (.string ⟨#[]⟩) ∧ (Lib.IsBuilderF 291 5 B b [] w' ∧ Below B w w') := Any.Builder_String_empty_f Tryz.lays169 Tryz.Builder_Extra_169 B b w h hBw
open Go.RowKit in
theorem Tryz.Builder_String_any_f (B b : Nat) (l : List UInt8) (w : World) (h : Lib.IsBuilderF 291 5 B b (Lib.byteCells l) w) (hBw : B ≤ w.heap.size) :
    Calls Tryz.prog 205 #[.pointer (some ⟨b, 0, none⟩)] w fun e w' => e = .returned (.string ⟨l.toArray⟩) ∧ (Lib.IsBuilderF 291 5 B b (Lib.byteCells l) w' ∧ Below B w w') := Any.Builder_String_any_f Tryz.lays169 Tryz.Builder_Extra_169 B b l w h hBw
open Go.RowKit in
theorem Tryz.Builder_String_k (B b : Nat) (l : List UInt8) (w : World) (h : Lib.IsBuilderF 291 5 B b (Lib.byteCells l) w) (h0 : l ≠ []) :
    Calls Tryz.prog 205 #[.pointer (some ⟨b, 0, none⟩)] w fun e w' => e = .returned (.string ⟨l.toArray⟩) ∧ (Lib.IsBuilderF 291 5 B b (Lib.byteCells l) w' ∧ Below B w w' ∧ Lib.OthersKept 5 (some b) w w') := Any.Builder_String_k Tryz.lays169 Tryz.Builder_Extra_169 B b l w h h0
open Go.RowKit in
theorem Tryz.Builder_String_empty_k (B b : Nat) (w : World) (h : Lib.IsBuilderF 291 5 B b [] w) (hBw : B ≤ w.heap.size) :
    Calls Tryz.prog 205 #[.pointer (some ⟨b, 0, none⟩)] w fun e w' => e = .returned (.string ⟨#[]⟩) ∧ (Lib.IsBuilderF 291 5 B b [] w' ∧ Below B w w' ∧ Lib.OthersKept 5 (some b) w w') := Any.Builder_String_empty_k Tryz.lays169 Tryz.Builder_Extra_169 B b w h hBw
open Go.RowKit in
theorem Tryz.Builder_String_any_k (B b : Nat) (l : List UInt8) (w : World) (h : Lib.IsBuilderF 291 5 B b (Lib.byteCells l) w) (hBw : B ≤ w.heap.size) :
    Calls Tryz.prog 205 #[.pointer (some ⟨b, 0, none⟩)] w fun e w' => e = .returned (.string ⟨l.toArray⟩) ∧ (Lib.IsBuilderF 291 5 B b (Lib.byteCells l) w' ∧ Below B w w' ∧ Lib.OthersKept 5 (some b) w w') := Any.Builder_String_any_k Tryz.lays169 Tryz.Builder_Extra_169 B b l w h hBw
end Go.Proofs
end
section
namespace Go.Proofs.YtpgflmjeedbimaaGreat
open Go.RowKit Go.Shelf
attribute [local go_sem] Oper.semAt_some
set_option linter.unusedSimpArgs false
set_option linter.unusedVariables false
def IsR (n₀ lb : Nat) (W : World) : Nat → List Int → Prop
  | b, [] => b = lb
  | b, x :: xs => b ≠ lb ∧ b < n₀ ∧ (∃ c T, W.heap[b]? = some (.cells c T (0, 0))) ∧ W.cell? ⟨b, 2, none⟩ = some (.int .u64 x) ∧ ∃ q, W.cell? ⟨b, 1, none⟩ = some (.pointer (some ⟨q, 0, none⟩)) ∧ IsR n₀ lb W q xs
theorem IsR.below {n₀ lb : Nat} {A B : World} (h : Below n₀ A B) : ∀ {b : Nat} {xs : List Int}, IsR n₀ lb A b xs → IsR n₀ lb B b xs
  | _, [], hl => hl
  | _, _ :: _, ⟨h1, h2, ⟨c, T, h3⟩, h4, q, h5, h6⟩ => ⟨h1, h2, ⟨c, T, (h.block _ h2).trans h3⟩, (h.cell (p := ⟨_, 2, none⟩) h2).trans h4, q, (h.cell (p := ⟨_, 1, none⟩) h2).trans h5, IsR.below h h6⟩
theorem IsR.grow {n₀ n₁ lb : Nat} {A : World} (h : n₀ ≤ n₁) : ∀ {b : Nat} {xs : List Int}, IsR n₀ lb A b xs → IsR n₁ lb A b xs
  | _, [], hl => hl
  | _, _ :: _, ⟨h1, h2, h3, h4, q, h5, h6⟩ => ⟨h1, by omega, h3, h4, q, h5, IsR.grow h h6⟩
theorem IsR.unique {n₀ lb : Nat} {W : World} : ∀ {b : Nat} {xs ys : List Int}, IsR n₀ lb W b xs → IsR n₀ lb W b ys → xs = ys
  | _, [], [], _, _ => rfl
  | _, [], _ :: _, h, ⟨h1, _⟩ => absurd h h1
  | _, _ :: _, [], ⟨h1, _⟩, h => absurd h h1
  | _, x :: xs, y :: ys, ⟨_, _, _, h4, q, h5, h6⟩, ⟨_, _, _, g4, q', g5, g6⟩ => by
    rw [h4] at g4; cases g4
    rw [h5] at g5; cases g5
    rw [IsR.unique h6 g6]
open Classical in
noncomputable def leftR (n₀ lb : Nat) (W : World) (v : Value) : Nat :=
  if h : ∃ r : Nat × List Int, v = .pointer (some ⟨r.1, 0, none⟩) ∧ IsR n₀ lb W r.1 r.2 then (Classical.choose h).2.length else 0
theorem leftR_eq {n₀ lb : Nat} {W : World} {q : Nat} {xs : List Int} (h : IsR n₀ lb W q xs) : leftR n₀ lb W (.pointer (some ⟨q, 0, none⟩)) = xs.length := by
  have hex : ∃ r : Nat × List Int, Value.pointer (some ⟨q, 0, none⟩) = .pointer (some ⟨r.1, 0, none⟩) ∧ IsR n₀ lb W r.1 r.2 := ⟨(q, xs), rfl, h⟩
  unfold leftR
  rw [dif_pos hex]
  obtain ⟨e, hl⟩ := Classical.choose_spec hex
  have e' : q = (Classical.choose hex).1 := by simpa using e
  rw [← e'] at hl
  rw [IsR.unique hl h]
open Go.Den in
theorem run_neq_ptr {P : Program} {t e : TypeId} {n : Nat} (he : P.underlying t = some (.pointer e)) (hs : sizeT P e = some (n + 1)) {a b : Nat} {w : World} (ha : ∃ c T, w.heap[a]? = some (.cells c T (0, 0))) (hb : ∃ c T, w.heap[b]? = some (.cells c T (0, 0))) :
    (binOp .neq t (.pointer (some ⟨a, 0, none⟩)) (.pointer (some ⟨b, 0, none⟩))).run P w = .ok (.bool (!decide (a = b))) w := by
  obtain ⟨ca, Ta, ha⟩ := ha
  obtain ⟨cb, Tb, hb⟩ := hb
  have hsz : ∃ i, P.info? e = some i ∧ i.size = n + 1 := by
    unfold sizeT at hs
    cases hi : P.info? e with
    | none => simp [hi] at hs
    | some i => simp [hi] at hs; exact ⟨i, rfl, hs⟩
  obtain ⟨i, hi, his⟩ := hsz
  by_cases h : a = b
  · subst h
    exact run_binEq (run_equal_pp 9999 he hi his _ w) (by simp [binn]) (by simp) (by simp) (by simp) (by simp)
  · exact run_binEq (run_equal_pq 9999 he hi his w (fun e => h (by cases e; rfl)) ha hb) (by simp [binn, h]) (by simp) (by simp) (by simp) (by simp)
set_option maxRecDepth 100000 in
set_option maxHeartbeats 1000000 in
theorem each1_in (F : Fence) (n : Nat) (h6 : F.fn 183) (hro : F.round = none) (hn : 1 ≤ n) (l Bn n₀ lb : Nat) (b0 : Nat) (xs : List Int) (J Jx : List Int → World → Prop)
    (hY : ∀ pre x W, J pre W → pre.length < xs.length → YieldAt F (n - 1) Tryz.prog l #[.int .u64 x] W fun e W' =>
      (e = .returned (.bool true) ∧ J (pre ++ [x]) W' ∧ Below n₀ W W') ∨ (e = .returned (.bool false) ∧ Jx (pre ++ [x]) W'))
    (W : World) (hBn : W.cell? ⟨Bn, 0, none⟩ = some (.pointer (some ⟨lb, 0, none⟩))) (hBl : Bn < n₀) (hlb : lb < n₀) (hlc : ∃ c T, W.heap[lb]? = some (.cells c T (0, 0))) (hl1 : W.cell? ⟨lb, 1, none⟩ = some (.pointer (some ⟨b0, 0, none⟩)))
    (hL : IsR n₀ lb W b0 xs) (h0 : J [] W) :
    CallsIn F n Tryz.prog 183 #[.func (.yield l) #[] #[], .pointer (some ⟨Bn, 0, none⟩)] W fun e W' => (∃ v, e = .returned v) ∧
      ((∃ ys, ys = xs ∧ J ys W') ∨ (∃ pre, pre <+: xs ∧ Jx pre W')) := by
  refine callsIn_of_wp Tryz.func183 rfl h6 ?_ hro
  simp only [Tryz.ntmps183, List.size_toArray, List.length_cons, List.length_nil, Nat.reduceAdd, Nat.reduceSub, Array.replicate_succ, Array.replicate_zero, List.push_toArray, List.append_toArray, List.nil_append, List.cons_append]
  gi_wp2
  gi_loopw [3] (fun p wr => ∃ (pre rest : List Int) (q : Nat), p = .pointer (some ⟨q, 0, none⟩) ∧ xs = pre ++ rest ∧ IsR n₀ lb wr q rest ∧ J pre wr ∧ wr.cell? ⟨Bn, 0, none⟩ = some (.pointer (some ⟨lb, 0, none⟩)) ∧ ∃ c T, wr.heap[lb]? = some (.cells c T (0, 0)))
    (fun p wr => leftR n₀ lb wr p)
  case atStart =>
    exact ⟨[], xs, b0, rfl, rfl, hL, h0, hBn, hlc⟩
  case round =>
    obtain ⟨pre, rest, q, rfl, hx, hl, hJs, hBn2, hlc2⟩ := hrel
    cases rest with
    | nil =>
      obtain rfl : q = lb := hl
      have hcmp := run_neq_ptr (P := Tryz.prog) (n := 2) Tryz.underlying223 (by kernel_rfl) hlc2 hlc2
      gi_wp2
      go_end0
      exact ⟨⟨_, rfl⟩, .inl hJs⟩
    | cons x rest =>
      have hl' := hl
      obtain ⟨hne, hb, hbc, hv, q', hq, hr⟩ := hl
      have hcmp := run_neq_ptr (P := Tryz.prog) (n := 2) Tryz.underlying223 (by kernel_rfl) hbc hlc2
      rw [decide_eq_false hne] at hcmp
      obtain ⟨fn, tmps, assign, body, hy, hR⟩ := hY pre x wr hJs (by rw [hx]; simp)
      gi_wp2
      refine hR.mono ?_
      rintro e W3 (⟨rfl, hJ3, hk3⟩ | ⟨rfl, hJx3⟩)
      · have hq3 : W3.cell? ⟨q, 1, none⟩ = some (.pointer (some ⟨q', 0, none⟩)) := (hk3.cell (p := ⟨q, 1, none⟩) hb).trans hq
        gi_wp2
        go_roundw
        case rel =>
          obtain ⟨cl, Tl, hcl⟩ := hlc2
          exact ⟨pre ++ [x], rest, q', rfl, by simp [hx], hr.below hk3, hJ3, (hk3.cell (p := ⟨Bn, 0, none⟩) hBl).trans hBn2, cl, Tl, (hk3.block _ hlb).trans hcl⟩
        case measure => rw [leftR_eq (hr.below hk3), leftR_eq hl']; simp
      · gi_wp2
        refine bodyPost_ret (results_none rfl _ _ _) rfl ?_
        exact ⟨⟨_, rfl⟩, .inr ⟨pre ++ [x], ⟨rest, by simp [hx]⟩, hJx3⟩⟩
theorem each_stops (F : Fence) (n : Nat) (h6 : F.fn 183) (hro : F.round = none) (hn : 1 ≤ n) (Bn n₀ lb b0 : Nat) (xs : List Int) (w : World) (hBn : Bn < w.heap.size) (hn₀ : n₀ ≤ w.heap.size) (hlb : lb < n₀) (hB0 : Bn < n₀)
    (hc : w.cell? ⟨Bn, 0, none⟩ = some (.pointer (some ⟨lb, 0, none⟩))) (hlc : ∃ c T, w.heap[lb]? = some (.cells c T (0, 0))) (hl1 : w.cell? ⟨lb, 1, none⟩ = some (.pointer (some ⟨b0, 0, none⟩))) (hL : IsR n₀ lb w b0 xs) :
    SeqStopsK F n Tryz.prog 183 #[.pointer (some ⟨Bn, 0, none⟩)] (fun x : Int => #[Value.int .u64 x]) (Below n₀) (fun ys => ys = xs) (fun pre => pre <+: xs) xs.length w := fun l J Jx W hW _ _ hY h0 => by
  obtain ⟨c, T, hlc⟩ := hlc
  exact each1_in F n h6 hro hn l Bn n₀ lb b0 xs J Jx hY W ((hW.cell (p := ⟨Bn, 0, none⟩) hBn).trans hc) hB0 hlb ⟨c, T, (hW.block _ (by omega)).trans hlc⟩ ((hW.cell (p := ⟨lb, 1, none⟩) (show lb < w.heap.size by omega)).trans hl1) (hL.below (hW.mono hn₀)) h0
set_option maxHeartbeats 1000000 in
theorem each_in (F : Fence) (n : Nat) (h5 : F.fn 132) (hro : F.round = none) (p0 : Option Addr) (w : World) :
    CallsIn F n Tryz.prog 132 #[.pointer p0] w fun e w' => e = .returned (.func (.func 183) #[] #[.pointer (some ⟨w.heap.size, 0, none⟩)]) ∧ w' = w.alloc (.cells #[.pointer p0] 154) := by
  refine callsIn_of_wp Tryz.func132 rfl h5 ?_ hro
  simp only [Tryz.ntmps132, List.size_toArray, List.length_cons, List.length_nil, Nat.reduceAdd, Nat.reduceSub, Array.replicate_succ, Array.replicate_zero, List.push_toArray, List.append_toArray, List.nil_append, List.cons_append]
  gi_wp2
  go_ret
  exact ⟨rfl, rfl⟩
theorem cellBoxF {W : World} {B : Nat} {v : Value} {t : TypeId} (h : W.heap[B]? = some (.cells #[v] t (0, 0))) : W.cell? ⟨B, 0, none⟩ = some v ∧ W.frozen? ⟨B, 0, none⟩ = false := by
  constructor <;> simp [World.cell?, World.frozen?, h]
theorem cellNewF (W : World) (v : Value) (t : TypeId) : (W.alloc (.cells #[v] t)).cell? ⟨W.heap.size, 0, none⟩ = some v ∧ (W.alloc (.cells #[v] t)).frozen? ⟨W.heap.size, 0, none⟩ = false :=
  cellBoxF (World.alloc_heap_new W _)
theorem cellAllocF {W : World} {a : Addr} {v : Value} (o : Obj) (h : W.cell? a = some v) : (W.alloc o).cell? a = some v := cell_kept h (World.grownBy_alloc W o none) (fun r e => by cases e)
theorem frozenAllocF {W : World} {a : Addr} {v : Value} (o : Obj) (h : W.cell? a = some v) (hf : W.frozen? a = false) : (W.alloc o).frozen? a = false := (frozen_kept h (World.grownBy_alloc W o none) (fun r e => by cases e)).trans hf
set_option maxRecDepth 100000 in
set_option maxHeartbeats 2000000 in
theorem first_in (F : Fence) (n : Nat) (h4 : F.fn 78) (h5 : F.fn 132) (h6 : F.fn 183) (hro : F.round = none) (hn : 3 ≤ n) (lb b0 : Nat) (xs : List Int) (w : World) (hlb : lb < w.heap.size)
    (hlc : ∃ c T, w.heap[lb]? = some (.cells c T (0, 0))) (hl1 : w.cell? ⟨lb, 1, none⟩ = some (.pointer (some ⟨b0, 0, none⟩))) (hL : IsR w.heap.size lb w b0 xs) :
    CallsIn F n Tryz.prog 78 #[.pointer (some ⟨lb, 0, none⟩)] w fun e W' => e = .returned (.tuple #[.int .u64 (xs.headD 0), .bool (!xs.isEmpty)]) ∧ Below w.heap.size w W' := by
  have h1 : 1 ≤ n := by omega
  refine callsIn_of_wp_marks Tryz.func78 rfl h4 ?_ hro
  simp only [Tryz.ntmps78, List.size_toArray, List.length_cons, List.length_nil, Nat.reduceAdd, Nat.reduceSub, Array.replicate_succ, Array.replicate_zero, List.push_toArray, List.append_toArray, List.nil_append, List.cons_append]
  gi_wp2_with (gi_at_call 132; refine (each_in F (n - 1) h5 hro _ _).mono ?_; rintro e w' ⟨rfl, rfl⟩)
  have c0 := cellNewF w (.int .u64 0) 22
  have c1 := cellNewF (w.alloc (.cells #[.int .u64 0] 22)) (.bool false) 4
  have c2 := cellNewF ((w.alloc (.cells #[.int .u64 0] 22)).alloc (.cells #[.bool false] 4)) (.pointer (some ⟨lb, 0, none⟩)) 154
  simp only [World.size_alloc] at c1 c2
  have hB0 : Below w.heap.size w (((w.alloc (.cells #[.int .u64 0] 22)).alloc (.cells #[.bool false] 4)).alloc (.cells #[.pointer (some ⟨lb, 0, none⟩)] 154)) := (((Below.refl _ w).alloc (Nat.le_refl _) _).alloc (by simp) _).alloc (by simp; omega) _
  obtain ⟨cl, Tl, hcl⟩ := hlc
  have hb3 : ∀ {A : World}, Below w.heap.size w A → ∃ c T, A.heap[lb]? = some (.cells c T (0, 0)) := fun h => ⟨cl, Tl, (h.block _ hlb).trans hcl⟩
  refine wpIn_rangeFunc_ownF hro h1 (gf := 183) (lb := #[.pointer (some ⟨w.heap.size + 1 + 1, 0, none⟩)]) rfl h6 (enters_of Tryz.func183 (by kernel_rfl) rfl)
    (each_stops F (n - 1) h6 hro (by omega) (w.heap.size + 1 + 1) (w.heap.size + 1 + 1 + 1) lb b0 xs _ (by simp) (by simp) (by omega) (by omega) c2.1 (hb3 hB0) ((hB0.cell (p := ⟨lb, 1, none⟩) hlb).trans hl1) ?hL) belowK_t (belowK_b (by simp)) (Below.refl _ _) (fun _ => rfl)
    (fun pre W => (pre = [] ∧ W.cell? ⟨w.heap.size, 0, none⟩ = some (.int .u64 0) ∧ W.frozen? ⟨w.heap.size, 0, none⟩ = false ∧ W.cell? ⟨w.heap.size + 1, 0, none⟩ = some (.bool false) ∧ W.frozen? ⟨w.heap.size + 1, 0, none⟩ = false) ∧ Below w.heap.size w W)
    (fun c pre W => (c = .ret ∧ ∃ x, pre = [x] ∧ W.cell? ⟨w.heap.size, 0, none⟩ = some (.int .u64 x) ∧ W.cell? ⟨w.heap.size + 1, 0, none⟩ = some (.bool true)) ∧ Below w.heap.size w W)
    (OwnFrom.and (Own.from (fun s A B row hs hg hr => ⟨hs.1, cell_kept hs.2.1 hg hr, (frozen_kept hs.2.1 hg hr).trans hs.2.2.1, cell_kept hs.2.2.2.1 hg hr, (frozen_kept hs.2.2.2.1 hg hr).trans hs.2.2.2.2⟩) _) (ownFrom_below (Nat.le_refl _) (by simp; omega)))
    (fun c => OwnFrom.and (Own.from (fun s A B row hs hg hr => by obtain ⟨h1, x, h2, h3, h4⟩ := hs; exact ⟨h1, x, h2, cell_kept h3 hg hr, cell_kept h4 hg hr⟩) _) (ownFrom_below (Nat.le_refl _) (by simp; omega)))
    ⟨⟨rfl, cellAllocF _ (cellAllocF _ c0.1), frozenAllocF _ (cellAllocF _ c0.1) (frozenAllocF _ c0.1 c0.2), cellAllocF _ c1.1, frozenAllocF _ c1.1 c1.2⟩, hB0⟩
    (fun x => { tmps := #[.pointer (some ⟨lb, 0, none⟩), undef, .pointer (some ⟨w.heap.size, 0, none⟩), .pointer (some ⟨w.heap.size + 1, 0, none⟩), .int .u64 x, .pointer (some ⟨lb, 0, none⟩), .func (.func 183) #[] #[.pointer (some ⟨w.heap.size + 1 + 1, 0, none⟩)], .int .u64 x, undef], defers := [] }) ?assign ?body ?done ?stop
  case hL => exact (hL.below hB0).grow (by omega)
  case assign =>
    intro l x W K hK
    gi_wp2
    exact hK
  case body =>
    rintro l pre x W ⟨⟨rfl, h2, h3, h4, h5⟩, hB⟩ _
    gi_wp2
    have g1 : (W.setCell ⟨w.heap.size, 0, none⟩ (.int .u64 x)).cell? ⟨w.heap.size, 0, none⟩ = some (.int .u64 x) := World.cell?_setCell_same' _ _ _ (by rw [h2]; rfl)
    have g2 : (W.setCell ⟨w.heap.size, 0, none⟩ (.int .u64 x)).cell? ⟨w.heap.size + 1, 0, none⟩ = some (.bool false) := (World.cell?_setCell_other _ _ _ _ (by simp)).trans h4
    exact ⟨(KeepsOthers.setCell _ _ _).trans (KeepsOthers.setCell _ _ _), ⟨rfl, x, rfl, (World.cell?_setCell_other _ _ _ _ (by simp)).trans g1, World.cell?_setCell_same' _ _ _ (by rw [g2]; rfl)⟩, (hB.setCell (p := ⟨w.heap.size, 0, none⟩) (Nat.le_refl _) _).setCell (p := ⟨w.heap.size + 1, 0, none⟩) (Nat.le_succ _) _⟩
  case done =>
    rintro D ys W hD rfl ⟨⟨hne, h2, h3, h4, h5⟩, hB⟩ hK
    gi_wp2
    subst hne
    have g1 : (W.setCell ⟨w.heap.size, 0, none⟩ (.int .u64 0)).cell? ⟨w.heap.size, 0, none⟩ = some (.int .u64 0) := World.cell?_setCell_same' _ _ _ (by rw [h2]; rfl)
    have g2 : (W.setCell ⟨w.heap.size, 0, none⟩ (.int .u64 0)).cell? ⟨w.heap.size + 1, 0, none⟩ = some (.bool false) := (World.cell?_setCell_other _ _ _ _ (by simp)).trans h4
    have hB' := (hB.setCell (p := ⟨w.heap.size, 0, none⟩) (Nat.le_refl _) (.int .u64 0)).setCell (p := ⟨w.heap.size + 1, 0, none⟩) (Nat.le_succ _) (.bool false)
    have hK' := (KeepsOthers.setCell _ ⟨w.heap.size + 1, 0, none⟩ (.bool false)).same D _ ((KeepsOthers.setCell W ⟨w.heap.size, 0, none⟩ (.int .u64 0)).same D _ hK rfl) rfl
    have k1 := cell_kept ((World.cell?_setCell_other _ ⟨w.heap.size + 1, 0, none⟩ ⟨w.heap.size, 0, none⟩ (.bool false) (by simp)).trans g1) (grownBy_putObj' _ D (.deferred none)) (fun r e => by cases e; exact ⟨_, hK', rfl⟩)
    have k2 := cell_kept (World.cell?_setCell_same' _ ⟨w.heap.size + 1, 0, none⟩ (.bool false) (by rw [g2]; rfl)) (grownBy_putObj' _ D (.deferred none)) (fun r e => by cases e; exact ⟨_, hK', rfl⟩)
    refine ⟨by simp, .inl ⟨_, _, rfl, run_takeDeferred hK', ?_⟩⟩
    refine ⟨.tuple #[.int .u64 0, .bool false], ?_, rfl, hB'.trans (belowK_b (w := w) (Nat.le_refl _) _ D _ _ (by simp at hD; omega) hK' rfl rfl)⟩
    simp [results, Tryz.f78, go_sem, k1, k2]
  case stop =>
    rintro D c pre W hD hpre ⟨⟨rfl, x, rfl, h2, h3⟩, hB⟩ hK
    gi_wp2
    have k1 := cell_kept h2 (grownBy_putObj' _ D (.deferred none)) (fun r e => by cases e; exact ⟨_, hK, rfl⟩)
    have k2 := cell_kept h3 (grownBy_putObj' _ D (.deferred none)) (fun r e => by cases e; exact ⟨_, hK, rfl⟩)
    obtain ⟨ys, rfl⟩ := hpre
    refine ⟨by simp, .inl ⟨_, _, rfl, run_takeDeferred hK, ?_⟩⟩
    refine ⟨.tuple #[.int .u64 x, .bool true], ?_, rfl, hB.trans (belowK_b (w := w) (Nat.le_refl _) W D _ _ (by simp at hD; omega) hK rfl rfl)⟩
    simp [results, Tryz.f78, go_sem, k1, k2]
end Go.Proofs.YtpgflmjeedbimaaGreat
end
section
namespace Go.Proofs.YtpgflmjeedbimaaGreat
open Go.RowKit Go.Shelf
attribute [local go_sem] Oper.semAt_some
set_option linter.unusedSimpArgs false
set_option linter.unusedVariables false
end Go.Proofs.YtpgflmjeedbimaaGreat
end
section
namespace Go.Proofs.YtpgflmjeedbimaaGreat
open Go.RowKit Go.Shelf
attribute [local go_sem] Oper.semAt_some
set_option linter.unusedSimpArgs false
set_option linter.unusedVariables false
end Go.Proofs.YtpgflmjeedbimaaGreat
end
