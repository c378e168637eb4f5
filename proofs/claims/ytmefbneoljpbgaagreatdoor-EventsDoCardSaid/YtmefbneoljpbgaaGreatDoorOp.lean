
/- Acts of a queue walked: what an act keeps, which may be, and its record. No condition but that numbers are of 64 bits. -/
import Derived.Test.YtmefbneoljpbgaaGreatDoorOpP
import Derived.Test.YtmefbneoljpbgaaGreatDoorGb
import Derived.Test.YtmefbneoljpbgaaGreatDoorMa
namespace Go.Proofs.YtmefbneoljpbgaaGreatDoor
open Go.Den Go.Disk Go.Vint Go.Crc Go.Frame Go.Rec Go.Ev
def encAx (o : Ax) : List Value := [.int .i64 o.d, .int .i64 o.lane, .int .u64 (o.id : Int), .int .u64 (o.n : Int), .string o.name, .int .u64 (o.seg : Int), .int .u64 (o.at_ : Int), .int .i64 o.size]
def nilV : SV := ⟨none, 0, 0⟩
theorem encAx_len (o : Ax) : (encAx o).length = 8 := rfl
theorem encAx_one (o : Ax) : ∀ u ∈ encAx o, u.oneCell' = true := by intro u hu; simp [encAx] at hu; rcases hu with rfl | rfl | rfl | rfl | rfl | rfl | rfl | rfl <;> rfl
theorem eqA_cells (x y : Ax) : eqCells [(0, (.int .i64)), (1, (.int .i64)), (2, (.int .u64)), (3, (.int .u64)), (4, .string), (5, (.int .u64)), (6, (.int .u64)), (7, (.int .i64))] (encAx x).toArray (encAx y).toArray = some (decide (x = y)) := by
  rw [eqCells_int (xs := encAx x) (ys := encAx y) rfl rfl, eqCells_int (xs := encAx x) (ys := encAx y) rfl rfl, eqCells_int (xs := encAx x) (ys := encAx y) rfl rfl, eqCells_int (xs := encAx x) (ys := encAx y) rfl rfl,
    eqCells_str (xs := encAx x) (ys := encAx y) rfl rfl, eqCells_int (xs := encAx x) (ys := encAx y) rfl rfl, eqCells_int (xs := encAx x) (ys := encAx y) rfl rfl, eqCells_int (xs := encAx x) (ys := encAx y) rfl rfl, eqCells_nil]
  obtain ⟨a, b, c, d, e, f, g, h⟩ := x
  obtain ⟨a', b', c', d', e', f', g', h'⟩ := y
  simp only [Ax.mk.injEq, Int.ofNat_inj]
  by_cases h1 : a = a' <;> by_cases h2 : b = b' <;> by_cases h3 : c = c' <;> by_cases h4 : d = d' <;> by_cases h5 : e = e' <;> by_cases h6 : f = f' <;> by_cases h7 : g = g' <;> by_cases h8 : h = h' <;> simp [h1, h2, h3, h4, h5, h6, h7, h8]
theorem eqA (x y : Ax) : eqaggv [(0, (.int .i64)), (1, (.int .i64)), (2, (.int .u64)), (3, (.int .u64)), (4, .string), (5, (.int .u64)), (6, (.int .u64)), (7, (.int .i64))] .eql (.agg (encAx x).toArray) (.agg (encAx y).toArray) = some (.bool (decide (x = y))) := eqagg_eq (eqA_cells x y)
theorem neA (x y : Ax) : eqaggv [(0, (.int .i64)), (1, (.int .i64)), (2, (.int .u64)), (3, (.int .u64)), (4, .string), (5, (.int .u64)), (6, (.int .u64)), (7, (.int .i64))] .neq (.agg (encAx x).toArray) (.agg (encAx y).toArray) = some (.bool (!decide (x = y))) := eqagg_ne (eqA_cells x y)
theorem fstoren_step {T TT j n : Nat} {fs us : List Value} {w : World} {K : World → Prop} (g : blk w T = some (.cells fs.toArray TT (0, 0))) (hn : us.length = n) (hj : j + n ≤ fs.length) (h1 : ∀ u ∈ us, u.oneCell' = true) (hne : us ≠ [])
    (h : ∀ w', blk w' T = some (.cells (spliceL fs j us).toArray TT (0, 0)) → Fr [T] w w' → hsz w' = hsz w → K w') : BND (storev n w (.pointer (some ⟨T, j, none⟩)) (.agg us.toArray)) K := by
  refine BND_step (storevn_blk g hn (by simpa using hj) h1 hne) ?_
  refine h _ ?_ (Fr.setB (.inl (by simp)) _) (by simp)
  rw [blk_setB_same g, splice_L]
/-- a result that is laid where it stands, and read. -/
theorem ret_step {n T b : Nat} {zs vs : List Value} {w : World} {R : Value → World → Prop} (hb : blk w b = some (.cells zs.toArray T (0, 0))) (hz : zs.length = n) (hv : vs.length = n) (h1 : ∀ u ∈ vs, u.oneCell' = true) (hn : vs ≠ [])
    (h : ∀ w', Fr [b] w w' → hsz w' = hsz w → R (.agg vs.toArray) w') : BND (storev n w (.pointer (some ⟨b, 0, none⟩)) (.agg vs.toArray)) fun w8 => BND (loadn n w8 (.pointer (some ⟨b, 0, none⟩))) fun r => R r w8 := by
  refine fstoren_step hb hv (by omega) h1 hn fun w' b' f' z' => ?_
  have e : spliceL zs 0 vs = vs := by
    have := splice_all zs.toArray vs (by simp; omega)
    rw [splice_L] at this
    exact List.toArray_inj this
  rw [e] at b'
  refine BND_step (loadn_all b' hv) ?_
  exact h w' f' z'
theorem conv_iu {n : Int} (h : 0 ≤ n ∧ n < 9223372036854775808) : convi .u64 (.int .i64 n) = some (.int .u64 ((n.toNat : Nat) : Int)) := by
  obtain ⟨k, rfl⟩ : ∃ k : Nat, n = (k : Int) := ⟨n.toNat, by omega⟩
  simpa using convu64 (k := .i64) (x := k) (by omega)
theorem lane_up {n : Int} (h : -1 ≤ n ∧ n < 8) : binv .int .add (.int .i64 n) (.int .i64 1) = some (.int .i64 (n + 1)) := by
  rw [binv_add, wrap_i64 (by omega) (by omega)]
set_option linter.unusedSimpArgs false
set_option linter.unusedVariables false
set_option maxRecDepth 20000
set_option maxHeartbeats 4000000
attribute [local congr] BND_cg COND_cg GEF_cg
attribute [local irreducible] capl slicea load1 loadn iaddr iaddra faddr storev newslice binv lookv mupd mdel mlenv mentry mestore slicev slicev3 slices indexs indexav textv rangev nexts clearv shiftv eqaggv convi buildv pickv lens lenl unv nilchk extractv partn JOIN
section
variable {w : World} {R : Value → World → Prop}
theorem op_lane (n least : Int) (hR : R (.bool (decide (least ≤ n) && decide (n < 8))) w) : CALL PR F_op_lane [.int .i64 n, .int .i64 least] w R := by
  refine C_op_lane ?_
  unfold M_op_lane
  by_cases h1 : least ≤ n
  · by_cases h2 : n < 8
    · (repeat refine gg ?_)
      simpa [h1, h2] using hR
    · (repeat refine gg ?_)
      simpa [h1, h2] using hR
  · (repeat refine gg ?_)
    simpa [h1] using hR
theorem op_kept (o : Ax) (hR : ∀ w', Fr [] w w' → R (.agg (encAx (keptA o)).toArray) w') : CALL PR F_op_Op_kept [.agg (encAx o).toArray] w R := by
  refine C_op_Op_kept ?_
  unfold M_op_Op_kept
  refine NEW_intro fun w1 b1 f1 z1 => ?_
  replace b1 : blk w1 (hsz w) = some (.cells (encAx o).toArray 68 (0, 0)) := b1
  refine NEW_intro fun w2 b2 f2 z2 => ?_
  replace b2 : blk w2 (hsz w1) = some (.cells (encAx zeroA).toArray 68 (0, 0)) := b2
  have b12 := f2.some (by simp) b1
  (repeat (first | refine gg ?_ | (apply BND_build (encAx { zeroA with d := o.d }); exact rfl)))
  refine box_step (n := 8) (zs := encAx zeroA) (vs := encAx { zeroA with d := o.d }) rfl rfl (encAx_one _) (by simp [encAx]) fun w4 b4 f4 z4 => ?_
  have b14 := f4.some (by simp) b12
  have b24 := f4.some (by simp) b2
  have f04 := (f1.trans' f2).trans' f4
  have key : ∀ (vs : List Value) (w5 : World) (a : Ax), vs = encAx a → keptA o = a → blk w5 (hsz w2) = some (.cells vs.toArray 68 (0, 0)) → Fr [hsz w2] w4 w5 →
      BND (loadn 8 w5 (.pointer (some ⟨hsz w2, 0, none⟩))) fun t => BND (storev 8 w5 (.pointer (some ⟨hsz w1, 0, none⟩)) t) fun w8 => BND (loadn 8 w8 (.pointer (some ⟨hsz w1, 0, none⟩))) fun r => R r w8 := by
    rintro _ w5 a rfl rfl hb hf
    refine BND_step (loadn_all' hb rfl) ?_
    have b25 := hf.some (by simp; omega) b24
    refine ret_step b25 rfl rfl (encAx_one _) (by simp [encAx]) fun w8 f8 z8 => ?_
    exact hR w8 ((f04.trans hf fun b hb => .inr (by simp at hb; omega)).trans f8 fun b hb => .inr (by simp at hb; omega))
  by_cases h2 : o.d = 2
  · (repeat refine gg ?_)
    refine ⟨fun _ w' => blk w' (hsz w) = some (.cells (encAx o).toArray 68 (0, 0)), b14, b14, ?_⟩
    replace b4 : blk w4.drew (hsz w2) = some (.cells (encAx { zeroA with d := o.d }).toArray 68 (0, 0)) := b4
    replace b14 : blk w4.drew (hsz w) = some (.cells (encAx o).toArray 68 (0, 0)) := b14
    (repeat (first | refine gg ?_ | refine FLT.mk _ (fun _ hw_ => (loadn_blk hw_ (by simp [encAx]))) ?_))
    refine fstore_step (j := 1) (u := .int .i64 o.lane) b4 ⟨rfl, rfl⟩ (by simp [encAx]) fun w5 b5 f5 z5 => ?_
    have b15 := f5.some (by simp; omega) b14
    refine ⟨b15, b15, ?_⟩
    (repeat refine gg ?_)
    refine fstore_step (j := 3) (u := .int .u64 (o.n : Int)) b5 ⟨rfl, rfl⟩ (by simp [encAx]) fun w6 b6 f6 z6 => ?_
    have b16 := f6.some (by simp; omega) b15
    refine ⟨b16, ?_⟩
    (repeat refine gg ?_)
    refine fstoren_step (us := [.int .u64 (o.seg : Int), .int .u64 (o.at_ : Int), .int .i64 o.size]) b6 rfl (by simp [encAx]) (by intro u hu; simp at hu; rcases hu with rfl | rfl | rfl <;> rfl) (by simp) fun w7 b7 f7 z7 => ?_
    refine key _ w7 ⟨2, o.lane, 0, o.n, noB, o.seg, o.at_, o.size⟩ ?_ (by unfold keptA; rw [if_pos h2]) b7 ?_
    · rw [h2]; rfl
    · exact ((⟨Nat.le_refl _, fun _ _ _ => rfl, rfl, rfl, rfl⟩ : Fr [hsz w2] w4 w4.drew).trans f5 fun b hb => .inl hb).trans f6 (fun b hb => .inl hb) |>.trans f7 fun b hb => .inl hb
  by_cases h3 : o.d = 3
  · (repeat refine gg ?_)
    refine ⟨fun _ w' => blk w' (hsz w) = some (.cells (encAx o).toArray 68 (0, 0)), b14, ?_⟩
    replace b4 : blk w4.drew (hsz w2) = some (.cells (encAx { zeroA with d := o.d }).toArray 68 (0, 0)) := b4
    replace b14 : blk w4.drew (hsz w) = some (.cells (encAx o).toArray 68 (0, 0)) := b14
    (repeat refine gg ?_)
    refine fstore_step (j := 1) (u := .int .i64 o.lane) b4 ⟨rfl, rfl⟩ (by simp [encAx]) fun w5 b5 f5 z5 => ?_
    have b15 := f5.some (by simp; omega) b14
    refine ⟨b15, ?_⟩
    (repeat refine gg ?_)
    refine fstore_step (j := 3) (u := .int .u64 (o.n : Int)) b5 ⟨rfl, rfl⟩ (by simp [encAx]) fun w6 b6 f6 z6 => ?_
    refine key _ w6 ⟨3, o.lane, 0, o.n, noB, 0, 0, 0⟩ ?_ (by unfold keptA; rw [if_neg h2, if_pos h3]) b6 ?_
    · rw [h3]; rfl
    · exact ((⟨Nat.le_refl _, fun _ _ _ => rfl, rfl, rfl, rfl⟩ : Fr [hsz w2] w4 w4.drew).trans f5 fun b hb => .inl hb).trans f6 fun b hb => .inl hb
  have e2 : (decide (o.d = 2)) = false := decide_eq_false h2
  have e3 : (decide (o.d = 3)) = false := decide_eq_false h3
  (repeat refine gg ?_)
  refine join_v (fun v w' => v = .bool (id2D o.d) ∧ w4 = w') (fun K hK => ?_) ?_
  · unfold id2D at hK
    by_cases h5 : o.d = 5
    · (repeat refine gg ?_)
      exact hK _ _ ⟨by simp [h5], rfl⟩
    · (repeat refine gg ?_)
      exact hK _ _ ⟨by simp [h5], rfl⟩
  rintro _ _ ⟨rfl, rfl⟩
  cases h56 : id2D o.d with
  | true =>
    (repeat refine gg ?_)
    refine fstore_step (j := 3) (u := .int .u64 (o.n : Int)) b4 ⟨rfl, rfl⟩ (by simp [encAx]) fun w5 b5 f5 z5 => ?_
    have b15 := f5.some (by simp; omega) b14
    (repeat refine gg ?_)
    refine fstore_step (j := 2) (u := .int .u64 (o.id : Int)) b5 ⟨rfl, rfl⟩ (by simp [encAx]) fun w6 b6 f6 z6 => ?_
    refine key _ w6 ⟨o.d, 0, o.id, o.n, noB, 0, 0, 0⟩ rfl (by unfold keptA; rw [if_neg h2, if_neg h3, if_pos h56]) b6 ?_
    exact f5.trans f6 fun b hb => .inl hb
  | false =>
    (repeat refine gg ?_)
    refine join_v (fun v w' => v = .bool (idD o.d) ∧ w4 = w') (fun K hK => ?_) ?_
    · unfold idD at hK
      by_cases h4 : o.d = 4
      · (repeat refine gg ?_)
        exact hK _ _ ⟨by simp [h4], rfl⟩
      · (repeat refine gg ?_)
        refine join_v (fun v w' => v = .bool (decide (o.d = 8) || decide (o.d = 9)) ∧ w4 = w') (fun K2 hK2 => ?_) ?_
        · by_cases h8 : o.d = 8
          · (repeat refine gg ?_)
            exact hK2 _ _ ⟨by simp [h8], rfl⟩
          · (repeat refine gg ?_)
            exact hK2 _ _ ⟨by simp [h8], rfl⟩
        · rintro _ _ ⟨rfl, rfl⟩
          exact hK _ _ ⟨by simp [h4], rfl⟩
    rintro _ _ ⟨rfl, rfl⟩
    cases h489 : idD o.d with
    | true =>
      (repeat refine gg ?_)
      refine fstore_step (j := 2) (u := .int .u64 (o.id : Int)) b4 ⟨rfl, rfl⟩ (by simp [encAx]) fun w5 b5 f5 z5 => ?_
      refine key _ w5 ⟨o.d, 0, o.id, 0, noB, 0, 0, 0⟩ rfl (by unfold keptA; rw [if_neg h2, if_neg h3, h56, h489]; simp) b5 f5
    | false =>
      by_cases h10 : o.d = 10
      · (repeat refine gg ?_)
        refine fstore_step (j := 4) (u := .string o.name) b4 ⟨rfl, rfl⟩ (by simp [encAx]) fun w5 b5 f5 z5 => ?_
        have b15 := f5.some (by simp; omega) b14
        (repeat refine gg ?_)
        refine fstore_step (j := 3) (u := .int .u64 (o.n : Int)) b5 ⟨rfl, rfl⟩ (by simp [encAx]) fun w6 b6 f6 z6 => ?_
        refine key _ w6 ⟨10, 0, 0, o.n, o.name, 0, 0, 0⟩ ?_ (by unfold keptA; rw [if_neg h2, if_neg h3, h56, h489]; simp [h10]) b6 ?_
        · rw [h10]; rfl
        · exact f5.trans f6 fun b hb => .inl hb
      · by_cases h7 : o.d = 7
        · (repeat refine gg ?_)
          refine fstore_step (j := 3) (u := .int .u64 (o.n : Int)) b4 ⟨rfl, rfl⟩ (by simp [encAx]) fun w5 b5 f5 z5 => ?_
          refine key _ w5 ⟨7, 0, 0, o.n, noB, 0, 0, 0⟩ ?_ (by unfold keptA; rw [if_neg h2, if_neg h3, h56, h489]; simp [h10, h7]) b5 f5
          rw [h7]; rfl
        · (repeat refine gg ?_)
          refine key _ w4 ⟨o.d, 0, 0, 0, noB, 0, 0, 0⟩ rfl (by unfold keptA; rw [if_neg h2, if_neg h3, h56, h489]; simp [h10, h7]) b4 (Fr.refl _ _)
theorem op_Right (o : Ax) (hR : ∀ w', Fr [] w w' → R (.bool (rightA o)) w') : CALL PR F_op_Right [.agg (encAx o).toArray] w R := by
  refine C_op_Right ?_
  unfold M_op_Right
  refine NEW_intro fun w1 b1 f1 z1 => ?_
  replace b1 : blk w1.drew (hsz w) = some (.cells (encAx o).toArray 68 (0, 0)) := b1
  have f1d : Fr [] w w1.drew := f1.trans' (Fr.drew _ _)
  refine ⟨fun _ w' => blk w' (hsz w) = some (.cells (encAx o).toArray 68 (0, 0)), b1, ?_⟩
  by_cases h1 : o.d < 1
  · have e : rightA o = false := by unfold rightA; rw [decide_eq_false (show ¬ 1 ≤ o.d by omega)]; simp
    rw [e] at hR
    (repeat refine gg ?_)
    refine FLT.mk undef (fun _ _ => rfl) ?_
    (repeat refine gg ?_)
    refine ⟨b1, ?_⟩
    (repeat refine gg ?_)
    exact hR _ f1d
  by_cases h2 : 10 < o.d
  · have e : rightA o = false := by unfold rightA; rw [decide_eq_false (show ¬ o.d ≤ 10 by omega)]; simp
    rw [e] at hR
    (repeat refine gg ?_)
    refine FLT.mk undef (fun _ _ => rfl) ?_
    (repeat refine gg ?_)
    refine ⟨b1, ?_⟩
    (repeat refine gg ?_)
    exact hR _ f1d
  have p1 : decide (1 ≤ o.d) = true := decide_eq_true (by omega)
  have p2 : decide (o.d ≤ 10) = true := decide_eq_true (by omega)
  (repeat (first | refine BND_step (loadn_all' b1 rfl) ?_ | refine gg ?_ | refine FLT.mk _ (fun _ hw_ => (loadn_all' hw_ rfl)) ?_))
  refine op_kept o fun w2 f2 => ?_
  have b2 := f2.some (by simp) b1
  have f02 := f1d.trans' f2
  refine ⟨b2, ?_⟩
  have n1 := neA o (keptA o)
  by_cases hk : o = keptA o
  · rw [decide_eq_true hk] at n1
    simp only [Bool.not_true] at n1
    by_cases hs : 64 < o.name.size
    · have e : rightA o = false := by unfold rightA; rw [decide_eq_false (show ¬ o.name.size ≤ 64 by omega)]; simp
      rw [e] at hR
      (repeat refine gg ?_)
      exact hR _ f02
    · have e : rightA o = mayA o := by unfold rightA; rw [p1, p2, decide_eq_true hk, decide_eq_true (show o.name.size ≤ 64 by omega)]; simp
      rw [e] at hR
      unfold mayA at hR
      by_cases d2 : o.d = 2
      · (repeat refine gg ?_)
        refine op_lane _ _ ?_
        rw [if_pos d2] at hR
        cases hl : (decide (0 ≤ o.lane) && decide (o.lane < 8)) with
        | false =>
          rw [hl] at hR
          (repeat refine gg ?_)
          simpa using hR _ f02
        | true =>
          rw [hl] at hR
          by_cases g1 : 0 ≤ o.size
          · by_cases g2 : o.size ≤ 64
            · (repeat refine gg ?_)
              simpa [g1, g2] using hR _ f02
            · (repeat refine gg ?_)
              simpa [g1, g2] using hR _ f02
          · (repeat refine gg ?_)
            simpa [g1] using hR _ f02
      · rw [if_neg d2] at hR
        by_cases d3 : o.d = 3
        · (repeat refine gg ?_)
          refine op_lane _ _ ?_
          rw [if_pos d3] at hR
          exact hR _ f02
        · rw [if_neg d3] at hR
          (repeat refine gg ?_)
          exact hR _ f02
  · have e : rightA o = false := by unfold rightA; rw [decide_eq_false hk]; simp
    rw [e] at hR
    rw [decide_eq_false hk] at n1
    simp only [Bool.not_false] at n1
    (repeat refine gg ?_)
    exact hR _ f02
theorem op_Record (o : Ax) (hR0 : rightA o = false → ∀ w', Fr [] w w' → R (.tuple #[.agg (encRc (0, nilV, noB)).toArray, .int .i64 1]) w')
    (hR : rightA o = true → ∀ w' (s : SV) H, Slc encU 1 w' s.v (numsA o) H → (∀ b ∈ H, hsz w ≤ b) → Fr [] w w' → R (.tuple #[.agg (encRc (o.d, s, o.name)).toArray, .int .i64 0]) w') : CALL PR F_op_Record [.agg (encAx o).toArray] w R := by
  refine C_op_Record ?_
  unfold M_op_Record
  refine NEW_intro fun w1 b1 f1 z1 => ?_
  replace b1 : blk w1 (hsz w) = some (.cells (encAx o).toArray 68 (0, 0)) := b1
  refine NEW_intro fun w2 b2 f2 z2 => ?_
  replace b2 : blk w2 (hsz w1) = some (.cells (encRc (0, nilV, noB)).toArray 86 (0, 0)) := b2
  have b12 := f2.some (by simp) b1
  (repeat (first | refine BND_step (loadn_all' b12 rfl) ?_ | refine gg ?_))
  refine op_Right o fun w3 f3 => ?_
  have b13 := f3.some (by simp) b12
  have b23 := f3.some (by simp) b2
  have f03 := (f1.trans' f2).trans' f3
  cases hr : rightA o with
  | false =>
    (repeat (first | refine gg ?_ | (apply BND_build (encRc (0, nilV, noB)); exact rfl)))
    refine ret_step (R := fun r w8 => R (.tuple #[r, .int .i64 1]) w8) b23 rfl rfl (encRc_one _) (by simp [encRc]) fun w4 f4 z4 => ?_
    exact hR0 hr w4 (f03.trans f4 fun b hb => .inr (by simp at hb; omega))
  | true =>
    obtain ⟨hd, hk, hs, hm⟩ := rightA_iff.1 hr
    (repeat (first | refine gg ?_ | (apply BND_build (encRc (o.d, nilV, o.name)); exact rfl)))
    refine box_step (n := 3) (zs := encRc (0, nilV, noB)) (vs := encRc (o.d, nilV, o.name)) rfl rfl (encRc_one _) (by simp [encRc]) fun w6 b6 f6 z6 => ?_
    have b16 := f6.some (by simp) b13
    have b26 := f6.some (by simp) b23
    have f06 := f03.trans' f6
    have gr := f06.grow
    (repeat refine gg ?_)
    obtain ⟨Q, hQ⟩ : ∃ Q : World → Prop, Q = fun w' => ∃ (s : SV) (H : List Nat), blk w' (hsz w3) = some (.cells (encRc (o.d, s, o.name)).toArray 86 (0, 0)) ∧ Slc encU 1 w' s.v (numsA o) H ∧ (∀ b ∈ H, hsz w6 ≤ b) ∧ Fr [hsz w3] w6 w' := ⟨_, rfl⟩
    have put : ∀ (K : World → Prop), (∀ w', Q w' → K w') → ∀ (ps : List (Nat × Nat × Value)) (n : Nat), numsA o ≠ [] → ps = partsAt 1 (fun x : Nat => Value.int .u64 (x : Int)) 0 (numsA o) → n = (numsA o).length →
        BND (newslice 32 #[(Value.int .u64 0)] 1 n ps w6) fun p_ => NEW p_ fun t w9 => BND (faddr 1 (.pointer (some ⟨hsz w3, 0, none⟩))) fun a => BND (storev 1 w9 a t) fun w10 => K w10 := by
      intro K hK ps n hne hps hn
      refine newparts_step encU_len (val := fun x : Nat => Value.int .u64 (x : Int)) (fun _ => rfl) (numsA o) hn hps fun t w9 s9 f9 z9 => ?_
      obtain ⟨x9, rfl⟩ := slc_sv s9
      have b69 := f9.some (by simp) b6
      (repeat refine gg ?_)
      refine fstore_step (j := 1) (u := x9.v) b69 (sv_one x9) (by simp [encRc]) fun w10 b10 f10 z10 => ?_
      refine hK _ (by rw [hQ]; exact ⟨x9, [hsz w6], b10, s9.fr f10 (by simp; omega), by simp, f9.nil.trans f10 fun b hb => .inl hb⟩)
    refine join_w Q (fun K hK => ?_) (fun w7 hq => ?_)
    · by_cases h2 : o.d = 2
      · obtain ⟨m1, m2, m3, m4⟩ := may2 hm h2
        have e : numsA o = [o.lane.toNat, o.n, o.seg, o.at_, o.size.toNat] := by unfold numsA; rw [if_pos h2]
        (repeat (first | refine BND_step (conv_iu (n := o.lane) (by omega)) ?_ | refine BND_step (conv_iu (n := o.size) (by omega)) ?_ | refine gg ?_))
        exact put K hK _ _ (by rw [e]; simp) (by rw [e]; rfl) (by rw [e]; rfl)
      · (repeat refine gg ?_)
        refine join_w Q (fun K1 hK1 => ?_) (fun w' hq => hK _ hq)
        by_cases h3 : o.d = 3
        · obtain ⟨m1, m2⟩ := may3 hm h3
          have e : numsA o = [(o.lane + 1).toNat, o.n] := by unfold numsA; rw [if_neg h2, if_pos h3]
          (repeat (first | refine BND_step (lane_up (n := o.lane) (by omega)) ?_ | refine BND_step (conv_iu (n := o.lane + 1) (by omega)) ?_ | refine gg ?_))
          exact put K1 hK1 _ _ (by rw [e]; simp) (by rw [e]; rfl) (by rw [e]; rfl)
        · (repeat refine gg ?_)
          refine join_v (fun v w' => v = .bool (id2D o.d) ∧ w6 = w') (fun K2 hK2 => ?_) ?_
          · unfold id2D at hK2
            by_cases h5 : o.d = 5
            · (repeat refine gg ?_)
              exact hK2 _ _ ⟨by simp [h5], rfl⟩
            · (repeat refine gg ?_)
              exact hK2 _ _ ⟨by simp [h5], rfl⟩
          rintro _ _ ⟨rfl, rfl⟩
          refine join_w Q (fun K2 hK2 => ?_) (fun w' hq => hK1 _ hq)
          cases h56 : id2D o.d with
          | true =>
            have e : numsA o = [o.id, o.n] := by unfold numsA; rw [if_neg h2, if_neg h3, if_pos h56]
            (repeat refine gg ?_)
            exact put K2 hK2 _ _ (by rw [e]; simp) (by rw [e]; rfl) (by rw [e]; rfl)
          | false =>
            (repeat refine gg ?_)
            refine join_v (fun v w' => v = .bool (idD o.d) ∧ w6 = w') (fun K3 hK3 => ?_) ?_
            · unfold idD at hK3
              by_cases h4 : o.d = 4
              · (repeat refine gg ?_)
                exact hK3 _ _ ⟨by simp [h4], rfl⟩
              · (repeat refine gg ?_)
                refine join_v (fun v w' => v = .bool (decide (o.d = 8) || decide (o.d = 9)) ∧ w6 = w') (fun K4 hK4 => ?_) ?_
                · by_cases h8 : o.d = 8
                  · (repeat refine gg ?_)
                    exact hK4 _ _ ⟨by simp [h8], rfl⟩
                  · (repeat refine gg ?_)
                    exact hK4 _ _ ⟨by simp [h8], rfl⟩
                · rintro _ _ ⟨rfl, rfl⟩
                  exact hK3 _ _ ⟨by simp [h4], rfl⟩
            rintro _ _ ⟨rfl, rfl⟩
            refine join_w Q (fun K3 hK3 => ?_) (fun w' hq => hK2 _ hq)
            cases h489 : idD o.d with
            | true =>
              have e : numsA o = [o.id] := by unfold numsA; rw [if_neg h2, if_neg h3, h56, h489]; simp
              (repeat refine gg ?_)
              exact put K3 hK3 _ _ (by rw [e]; simp) (by rw [e]; rfl) (by rw [e]; rfl)
            | false =>
              (repeat refine gg ?_)
              refine join_v (fun v w' => v = .bool (decide (o.d = 7) || decide (o.d = 10)) ∧ w6 = w') (fun K4 hK4 => ?_) ?_
              · by_cases h7 : o.d = 7
                · (repeat refine gg ?_)
                  exact hK4 _ _ ⟨by simp [h7], rfl⟩
                · (repeat refine gg ?_)
                  exact hK4 _ _ ⟨by simp [h7], rfl⟩
              rintro _ _ ⟨rfl, rfl⟩
              refine join_w Q (fun K4 hK4 => ?_) (fun w' hq => hK3 _ hq)
              cases h710 : (decide (o.d = 7) || decide (o.d = 10)) with
              | true =>
                have e : numsA o = [o.n] := by unfold numsA; rw [if_neg h2, if_neg h3, h56, h489]; simp at h710; simp [h710]
                (repeat refine gg ?_)
                exact put K4 hK4 _ _ (by rw [e]; simp) (by rw [e]; rfl) (by rw [e]; rfl)
              | false =>
                have e : numsA o = [] := by unfold numsA; rw [if_neg h2, if_neg h3, h56, h489]; simp at h710; simp [h710]
                (repeat refine gg ?_)
                refine hK4 _ (by rw [hQ, e]; exact ⟨nilV, [], b6, Slc.nil _ _ _, by simp, Fr.refl _ _⟩)
    · rw [hQ] at hq
      obtain ⟨x7, H, b7, s7, g7, f7⟩ := hq
      have gr3 := f3.grow
      have gr6 := f6.grow
      have gr03 := f03.grow
      have b27 := f7.some (by simp; omega) b26
      (repeat (first | refine BND_step (loadn_all' b7 rfl) ?_ | refine gg ?_))
      refine ret_step (R := fun r w8 => R (.tuple #[r, .int .i64 0]) w8) b27 rfl rfl (encRc_one _) (by simp [encRc]) fun w8 f8 z8 => ?_
      refine hR hr w8 x7 H (s7.fr f8 (fun b hb hb' => ?_)) (fun b hb => ?_) ((f06.trans f7 fun b hb => .inr (by simp at hb; omega)).trans f8 fun b hb => .inr (by simp at hb; omega))
      · have := g7 b hb; simp at hb'; omega
      · have := g7 b hb; omega
end
end Go.Proofs.YtmefbneoljpbgaaGreatDoor
