/- strings.Builder at this program: copyCheck, WriteRune, String, over 'Lib.IsBuilderF'. No condition. -/
import Derived.Test.YthcbcolnahbihaaLib2
import Derived.Test.YthcbcolnahbihaaShelf
import Derived.Test.YthcbcolnahbihaaMa
namespace Go.Proofs.Ythcbcolnahbihaa
open Go.Den Go.RowKit

set_option maxHeartbeats 1000000 in
set_option maxRecDepth 100000 in
theorem bld_check_used (b : Nat) (w : World) (h0 : w.cell? ⟨b, 0, none⟩ = some (.pointer (some ⟨b, 0, none⟩))) :
    Calls Try.prog 52 #[.pointer (some ⟨b, 0, none⟩)] w fun e w' => e = .returned (.tuple #[]) ∧ w' = w := by
  have hn : (binOp .neq 84 (.pointer (some ⟨b, 0, none⟩)) (.pointer (some ⟨b, 0, none⟩))).run Try.prog w = .ok (.bool false) w := by
    cases hi : Try.prog.info? 87 with
    | none => have : (Try.prog.info? 87).isSome = true := by kernel_rfl
              rw [hi] at this; cases this
    | some j => exact Lib.run_neq_ptr_same w _ Try.underlying84 hi
  go_enter Try.func52, Try.ntmps52
  go_wp2
  go_end0
  exact ⟨rfl, rfl⟩

set_option maxHeartbeats 1000000 in
set_option maxRecDepth 100000 in
theorem bld_check_fresh (b : Nat) (w : World) (h0 : w.cell? ⟨b, 0, none⟩ = some (.pointer none)) (hsh : w.shape? b = some (87, 2)) (hfz : w.frozen? ⟨b, 0, none⟩ = false) :
    Calls Try.prog 52 #[.pointer (some ⟨b, 0, none⟩)] w fun e w' => e = .returned (.tuple #[]) ∧ w' = w.setCell ⟨b, 0, none⟩ (.pointer (some ⟨b, 0, none⟩)) := by
  obtain ⟨j, hj, hjs⟩ := Option.map_eq_some_iff.1 (show (Try.prog.info? 87).map (·.size) = some 2 by kernel_rfl)
  go_enter Try.func52, Try.ntmps52
  go_wp2
  rw [Lib.run_to_unsafe w ⟨b, 0, none⟩ Try.underlying84 Try.underlying105 hj (by rw [hjs]; decide) hsh (Nat.zero_lt_succ 1)]
  simp only [Result.andThen]
  rw [Oper.upon_value]
  go_wp2
  rw [run_callFunc_extern Try.func58 (by kernel_rfl) (by kernel_rfl) (by kernel_rfl) (e := Extern.AbiNoEscape.same) (by kernel_rfl)]
  rw [Lib.run_noEscape]
  simp only [Result.andThen]
  rw [Oper.upon_value]
  go_wp2
  rw [Lib.run_from_unsafe w ⟨b, 0, none⟩ Try.underlying105 Try.underlying84 hj hsh (by kernel_rfl)]
  simp only [Result.andThen]
  rw [Oper.upon_value]
  go_wp2
  go_end0
  exact ⟨rfl, rfl⟩

def Bld (B b : Nat) (bs : List Value) (w : World) : Prop := Lib.IsBuilderF 87 5 B b bs w
structure Keeps (B b : Nat) (w w' : World) : Prop where
  below : Below B w w'
  kept : Lib.OthersKept 5 (some b) w w'

theorem bld_check {B b : Nat} {bs : List Value} {w : World} (h : Bld B b bs w) {R : Value → World → Prop}
    (hR : ∀ v w', Lib.BuilderAtF 87 5 B b (.pointer (some ⟨b, 0, none⟩)) bs w' → Keeps B b w w' → R v w') : CALL PR F_strings_Builder_copyCheck [.pointer (some ⟨b, 0, none⟩)] w R := by
  constructor
  rcases h with h | h
  · refine (bld_check_fresh b w h.cell0 h.shape h.frozen0).mono ?_
    rintro e w' ⟨rfl, rfl⟩
    exact ⟨_, rfl, hR _ _ (h.used _) ⟨(Below.refl B w).setCell (p := ⟨b, 0, none⟩) h.1 _, (Lib.OthersKept.refl _ _ w).setCell ⟨b, 0, none⟩ rfl _⟩⟩
  · refine (bld_check_used b w h.cell0).mono ?_
    rintro e w' ⟨rfl, rfl⟩
    exact ⟨_, rfl, hR _ _ h ⟨Below.refl B _, Lib.OthersKept.refl _ _ _⟩⟩

theorem bld_write {B b : Nat} {bs : List Value} {w : World} (h : Bld B b bs w) (r : Int) (hr0 : -2147483648 ≤ r) (hr1 : r ≤ 2147483647) (hlen : bs.length + 4 ≤ 140737488355328) (hBw : B ≤ w.heap.size) {R : Value → World → Prop}
    (hR : ∀ v w', Bld B b (bs ++ Lib.runeCells r) w' → Keeps B b w w' → R v w') : CALL PR F_strings_Builder_WriteRune [.pointer (some ⟨b, 0, none⟩), .int .i32 r] w R := by
  refine C_strings_Builder_WriteRune ?_
  unfold M_strings_Builder_WriteRune
  refine bld_check h fun _ w1 h1 k1 => ?_
  have hsz1 : B ≤ w1.heap.size := by have := k1.below.size; omega
  obtain ⟨hB, v, hbk, hown, hne⟩ := h1
  obtain ⟨ao, cap, rfl⟩ : ∃ ao cap, v = .slice ao bs.length cap := by
    rcases hown.2 with ⟨hv, h0⟩ | ⟨g, cap, cur, fz, hv, _⟩
    · exact ⟨none, 0, by rw [hv, h0]⟩
    · exact ⟨_, _, hv⟩
  refine BND_step (nilchk_ptr _) <| BND_step (faddr_ptr _ _ _) <| BND_step (v := .slice ao bs.length cap) (load1_blk hbk) <| BND_step (lenl_slice _ _ _) <| BND_step (nilchk_ptr _) <| BND_step (faddr_ptr _ _ _) <| BND_step (v := .slice ao bs.length cap) (load1_blk hbk) ?_
  constructor
  refine (Any.utf8_AppendRune_own Try.lays242 Try.Builder_Extra_242 B _ bs.length bs r hr0 hr1 w1 hown hlen hsz1).mono ?_
  rintro e w2 ⟨v', rfl, hown', o, hgrow⟩
  refine ⟨v', rfl, ?_⟩
  have hlt : b < w1.heap.size := blk_lt hbk
  have hb2 : blk w2 b = some (.cells #[.pointer (some ⟨b, 0, none⟩), .slice ao bs.length cap] 87 (0, 0)) := by
    show w2.heap[b]? = _
    rw [hgrow.block b (by simp; have : hsz w1 = w1.heap.size := rfl; omega) (fun e => hne e.symm), Lib.alloc_old w1 _ b hlt]
    exact hbk
  have hv' : (∃ ao' cap', v' = .slice ao' (bs.length + (Lib.runeCells r).length) cap') := by
    rcases hown'.2 with ⟨hv, h0⟩ | ⟨g, cap', cur, fz, hv, _⟩
    · exact ⟨none, 0, by rw [hv, h0]⟩
    · exact ⟨_, _, hv⟩
  obtain ⟨ao', cap', rfl⟩ := hv'
  have st := storev1_blk (o := 1) (v := .slice ao' (bs.length + (Lib.runeCells r).length) cap') hb2 (by simp) rfl rfl
  refine BND_step (nilchk_ptr _) <| BND_step (faddr_ptr _ _ _) <| BND_step st <| BND_step (nilchk_ptr _) <| BND_step (faddr_ptr _ _ _) <| BND_step (v := .slice ao' (bs.length + (Lib.runeCells r).length) cap') (load1_blk (blk_setB_same hb2)) <|
    BND_step (lenl_slice _ _ _) <| BND_step (binv_sub _ _ _ _) ?_
  have hset : setB w2 b (.cells (#[.pointer (some ⟨b, 0, none⟩), .slice ao bs.length cap].setIfInBounds (0 + 1) (.slice ao' (bs.length + (Lib.runeCells r).length) cap')) 87 (0, 0)) = w2.setCell ⟨b, 1, none⟩ (.slice ao' (bs.length + (Lib.runeCells r).length) cap') := (setCell_setB hb2 _).symm
  refine hR _ _ ?_ ⟨?_, ?_⟩
  · exact .inr (by rw [hset]; exact Lib.BuilderAtF.put hB hb2 (bs' := bs ++ Lib.runeCells r) (by rw [List.length_append]; exact hown') (by decide))
  · rw [hset]
    exact k1.below.trans ((((Below.refl B w1).alloc hsz1 _).grown hgrow (by simp; have : hsz w1 = w1.heap.size := rfl; omega) (fun k hk => (hown.lt k hk).1)).setCell (p := ⟨b, 1, none⟩) hB _)
  · rw [hset]
    exact k1.kept.trans ((((Lib.OthersKept.refl _ _ w1).alloc _).grown hgrow (Lib.ownsRowF_kind (hown.alloc _))).setCell ⟨b, 1, none⟩ rfl _)

theorem bld_string {B b : Nat} {l : List UInt8} {w : World} (h : Bld B b (Lib.byteCells l) w) (hBw : B ≤ w.heap.size) {R : Value → World → Prop}
    (hR : ∀ w', Keeps B b w w' → R (.string ⟨l.toArray⟩) w') : CALL PR F_strings_Builder_String [.pointer (some ⟨b, 0, none⟩)] w R := by
  constructor
  refine (Try.Builder_String_any_k B b l w h hBw).mono ?_
  rintro e w' ⟨rfl, _, b1, k1⟩
  exact ⟨_, rfl, hR w' ⟨b1, k1⟩⟩
end Go.Proofs.Ythcbcolnahbihaa
