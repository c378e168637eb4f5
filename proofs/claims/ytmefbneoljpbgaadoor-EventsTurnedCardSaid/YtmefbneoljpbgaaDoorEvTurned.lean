
/- The law of events of which bits are turned, walked. Conditions: the table of the powers of ten is laid; numbers are of 64 bits. -/
import Derived.Test.YtmefbneoljpbgaaDoorEvA
import Derived.Test.YtmefbneoljpbgaaDoorTurn
import Derived.Test.YtmefbneoljpbgaaDoorDiskSame1
import Derived.Test.YtmefbneoljpbgaaDoorMa
namespace Go.Proofs.YtmefbneoljpbgaaDoor
open Go.Den Go.Disk Go.Vint Go.Crc Go.Frame Go.Rec Go.Ev Go.Nm
theorem ev1_name : (⟨#[101, 46, 49]⟩ : ByteArray) = evN 1 := by
  unfold evN nmB nmL
  rw [dec_small (by omega)]
  rfl
set_option linter.unusedSimpArgs false
set_option linter.unusedVariables false
set_option maxRecDepth 20000
set_option maxHeartbeats 4000000
attribute [local congr] BND_cg COND_cg GEF_cg
attribute [local irreducible] capl slicea load1 loadn iaddr iaddra faddr storev newslice binv lookv mupd mdel mlenv mentry mestore slicev slicev3 slices indexs indexav textv rangev nexts clearv shiftv eqaggv convi buildv pickv lens lenl unv nilchk extractv partn JOIN
section
variable {w : World} {R : Value → World → Prop}
theorem ev_Turned (hT : Tab w) {lv : Value} {xs : List Ax} (ha : Arr encAx 8 w lv xs) (hk : ∀ a ∈ xs, OkA a) (hbig : xs.length * 72 ≤ 140737488351232) (at_ : Int) (hat : -9223372036854775808 ≤ at_ ∧ at_ ≤ 9223372036854775807) (t : Int)
    (hR : ∀ w', Fr [] w w' → R (.bool true) w') : CALL PR F_tumbrellaw17_EventsTurned [lv, .int .i64 at_, .int .u32 t] w R := by
  refine C_tumbrellaw17_EventsTurned ?_
  unfold M_tumbrellaw17_EventsTurned
  have hTF : TabF w [] := fun w' f => hT.fr f
  have g1 : okG 1 = true := by decide
  refine ev_awake hT fun w1 f1 => ?_
  (repeat (first | refine stp ?_ | (apply BND_inc; omega) | (apply BND_dec; omega) | refine BND_step (rfl : some _ = some _) ?_ | (apply cyes; first | assumption | omega) | (apply cno; first | assumption | omega) | refine (COND_true _ _).2 ?_ | refine (COND_false _ _).2 ?_ | simp (disch := first | assumption | omega) only [gs1, gs2, decide_true, decide_false, eq_self, beq_self_eq_true, Bool.not_true, Bool.not_false]))
  refine dk_New 65536 (fun h => by omega) fun hroom w2 d h2 => ?_
  have h2' := At.base f1 h2
  (repeat (first | refine BND_step ptr_nil ?_ | refine stp ?_ | (apply BND_inc; omega) | (apply BND_dec; omega) | refine BND_step (rfl : some _ = some _) ?_ | (apply cyes; first | assumption | omega) | (apply cno; first | assumption | omega) | refine (COND_true _ _).2 ?_ | refine (COND_false _ _).2 ?_ | simp (disch := first | assumption | omega) only [gs1, gs2, decide_true, decide_false, eq_self, beq_self_eq_true, Bool.not_true, Bool.not_false]))
  refine ev_own (ha.fr h2'.frame (by simp)) hbig fun w3 v3 G3 s3 g3 f3 => ?_
  (repeat (first | refine stp ?_ | (apply BND_inc; omega) | (apply BND_dec; omega) | refine BND_step (rfl : some _ = some _) ?_ | (apply cyes; first | assumption | omega) | (apply cno; first | assumption | omega) | refine (COND_true _ _).2 ?_ | refine (COND_false _ _).2 ?_ | simp (disch := first | assumption | omega) only [gs1, gs2, decide_true, decide_false, eq_self, beq_self_eq_true, Bool.not_true, Bool.not_false]))
  refine ev_Large s3.arr 20 (by omega) ?_
  have h3 := h2'.fr0 f3
  cases hlg : largeA xs 20 with
  | true =>
    (repeat (first | refine stp ?_ | (apply BND_inc; omega) | (apply BND_dec; omega) | refine BND_step (rfl : some _ = some _) ?_ | (apply cyes; first | assumption | omega) | (apply cno; first | assumption | omega) | refine (COND_true _ _).2 ?_ | refine (COND_false _ _).2 ?_ | simp (disch := first | assumption | omega) only [gs1, gs2, decide_true, decide_false, eq_self, beq_self_eq_true, Bool.not_true, Bool.not_false]))
    exact hR _ h3.frame
  | false =>
  obtain ⟨hn, _⟩ := largeA_no hlg
  (repeat (first | refine stp ?_ | (apply BND_inc; omega) | (apply BND_dec; omega) | refine BND_step (rfl : some _ = some _) ?_ | (apply cyes; first | assumption | omega) | (apply cno; first | assumption | omega) | refine (COND_true _ _).2 ?_ | refine (COND_false _ _).2 ?_ | simp (disch := first | assumption | omega) only [gs1, gs2, decide_true, decide_false, eq_self, beq_self_eq_true, Bool.not_true, Bool.not_false]))
  obtain ⟨e1, o1⟩ := One.begin_ hroom g1
  refine ev_Begin hTF h3 (inv_empty hroom) (by simp [empty]) 1 (by omega) fun w5 h5 => ?_
  rw [e1]
  generalize (evBegin (empty 65536) 1).1 = s1 at h5 o1
  have dm := o1.small
  (repeat (first | refine stp ?_ | (apply BND_inc; omega) | (apply BND_dec; omega) | refine BND_step (rfl : some _ = some _) ?_ | (apply cyes; first | assumption | omega) | (apply cno; first | assumption | omega) | refine (COND_true _ _).2 ?_ | refine (COND_false _ _).2 ?_ | simp (disch := first | assumption | omega) only [gs1, gs2, decide_true, decide_false, eq_self, beq_self_eq_true, Bool.not_true, Bool.not_false]))
  refine ev_Append hTF h5 o1.inv (by omega) (by omega) 1 (by omega) (ha.fr h5.frame (by simp)) hk (by omega) fun w6 h6 => ?_
  cases hr : xs.all rightA with
  | false =>
    have : evAppend s1 1 xs = (s1, 1) := by unfold evAppend; rw [if_pos g1, hr]; rfl
    rw [this] at h6 ⊢
    (repeat (first | refine stp ?_ | (apply BND_inc; omega) | (apply BND_dec; omega) | refine BND_step (rfl : some _ = some _) ?_ | (apply cyes; first | assumption | omega) | (apply cno; first | assumption | omega) | refine (COND_true _ _).2 ?_ | refine (COND_false _ _).2 ?_ | simp (disch := first | assumption | omega) only [gs1, gs2, decide_true, decide_false, eq_self, beq_self_eq_true, Bool.not_true, Bool.not_false]))
    exact hR _ h6.frame
  | true =>
    have hg : GoodA xs := fun a h => ⟨List.all_eq_true.1 hr a h, hk a h⟩
    have hb := allB_len hg
    obtain ⟨q1, q2⟩ := o1.put g1 hg (by simp; omega)
    rw [q1]
    generalize (evAppend s1 1 xs).1 = s2 at h6 q2
    rw [List.nil_append] at q2
    have dm2 := q2.small
    have e2 := q2.read
    (repeat (first | refine stp ?_ | (apply BND_inc; omega) | (apply BND_dec; omega) | refine BND_step (rfl : some _ = some _) ?_ | (apply cyes; first | assumption | omega) | (apply cno; first | assumption | omega) | refine (COND_true _ _).2 ?_ | refine (COND_false _ _).2 ?_ | simp (disch := first | assumption | omega) only [gs1, gs2, decide_true, decide_false, eq_self, beq_self_eq_true, Bool.not_true, Bool.not_false]))
    rw [ev1_name]
    refine dk_Read h6 q2.inv.wf (by omega) (evN 1) fun w7 v7 G7 h7 s7 g7 f7 => ?_
    rw [e2] at s7 ⊢
    (repeat (first | refine stp ?_ | (apply BND_inc; omega) | (apply BND_dec; omega) | refine BND_step (rfl : some _ = some _) ?_ | (apply cyes; first | assumption | omega) | (apply cno; first | assumption | omega) | refine (COND_true _ _).2 ?_ | refine (COND_false _ _).2 ?_ | simp (disch := first | assumption | omega) only [gs1, gs2, decide_true, decide_false, eq_self, beq_self_eq_true, Bool.not_true, Bool.not_false]))
    refine r1_Turn s7.arr (show (allB xs).length < 1000000 by omega) at_ hat t fun w8 v8 c G8 hbu s8 g8 f8 => ?_
    obtain ⟨e3, o3⟩ := q2.cut0
    have hcl : c.length = (allB xs).length := hbu.1.symm
    obtain ⟨A8, z8, hA8, hA8', back⟩ := At.re3 h6 (f7.trans' f8)
    have g67 := f7.grow
    have n7 : ∀ b ∈ G7, b ∉ A8 := fun b hb hb' => by have := g7 b hb; have := hA8 b hb'; omega
    have n8 : ∀ b ∈ G8, b ∉ A8 := fun b hb hb' => by have := g8 b hb; have := hA8 b hb'; omega
    refine dk_Cut z8 q2.inv.wf (by omega) (evN 1) 0 fun w9 z9 => ?_
    rw [e3]
    generalize (cut s2 (evN 1) 0).1 = s3 at z9 o3
    have dm3 := o3.small
    (repeat (first | refine stp ?_ | (apply BND_inc; omega) | (apply BND_dec; omega) | refine BND_step (rfl : some _ = some _) ?_ | (apply cyes; first | assumption | omega) | (apply cno; first | assumption | omega) | refine (COND_true _ _).2 ?_ | refine (COND_false _ _).2 ?_ | simp (disch := first | assumption | omega) only [gs1, gs2, decide_true, decide_false, eq_self, beq_self_eq_true, Bool.not_true, Bool.not_false]))
    obtain ⟨e4, o4⟩ := o3.add (b := c) (by simp; omega)
    refine dk_Append z9 o3.inv.wf (by omega) (by omega) (evN 1) (bs := c) (by omega) s8.len (fun w' f => (s8.fr f n8).loads encB_len) fun w10 z10 => ?_
    rw [e4]
    have s7' := (s7.fr f8 (by simp)).fr z10.frame n7
    have s8' := s8.fr z10.frame n8
    have h10 := back _ _ z10
    generalize (append s3 (evN 1) c).1 = s4 at h10 o4
    rw [List.nil_append] at o4
    have dm4 := o4.small
    (repeat (first | refine stp ?_ | (apply BND_inc; omega) | (apply BND_dec; omega) | refine BND_step (rfl : some _ = some _) ?_ | (apply cyes; first | assumption | omega) | (apply cno; first | assumption | omega) | refine (COND_true _ _).2 ?_ | refine (COND_false _ _).2 ?_ | simp (disch := first | assumption | omega) only [gs1, gs2, decide_true, decide_false, eq_self, beq_self_eq_true, Bool.not_true, Bool.not_false]))
    refine ev_Load hTF h10 o4.inv (by omega) 1 (by omega) fun w11 v11 ev11 G11 E11 s11 se11 gG gE f11 => ?_
    rw [o4.load g1] at s11 se11 ⊢
    have h11 := h10.fr0 f11
    (repeat (first | refine stp ?_ | (apply BND_inc; omega) | (apply BND_dec; omega) | refine BND_step (rfl : some _ = some _) ?_ | (apply cyes; first | assumption | omega) | (apply cno; first | assumption | omega) | refine (COND_true _ _).2 ?_ | refine (COND_false _ _).2 ?_ | simp (disch := first | assumption | omega) only [gs1, gs2, decide_true, decide_false, eq_self, beq_self_eq_true, Bool.not_true, Bool.not_false]))
    refine r1_Same (s7'.fr f11 (by simp)).arr (s8'.fr f11 (by simp)).arr (show (allB xs).length < 1000000000 by omega) fun w12 f12 => ?_
    have h12 := h11.fr0 f12
    by_cases he : allB xs = c
    · rw [decide_eq_true he]
      subst he
      rw [load_all hg] at s11 se11 ⊢
      (repeat (first | refine stp ?_ | (apply BND_inc; omega) | (apply BND_dec; omega) | refine BND_step (rfl : some _ = some _) ?_ | (apply cyes; first | assumption | omega) | (apply cno; first | assumption | omega) | refine (COND_true _ _).2 ?_ | refine (COND_false _ _).2 ?_ | simp (disch := first | assumption | omega) only [gs1, gs2, decide_true, decide_false, eq_self, beq_self_eq_true, Bool.not_true, Bool.not_false]))
      refine ev_own (s11.fr f12 (by simp)).arr (show xs.length * 72 ≤ 140737488351232 by omega) fun w13 v13 G13 s13 g13 f13 => ?_
      have h13 := h12.fr0 f13
      (repeat (first | refine stp ?_ | (apply BND_inc; omega) | (apply BND_dec; omega) | refine BND_step (rfl : some _ = some _) ?_ | (apply cyes; first | assumption | omega) | (apply cno; first | assumption | omega) | refine (COND_true _ _).2 ?_ | refine (COND_false _ _).2 ?_ | simp (disch := first | assumption | omega) only [gs1, gs2, decide_true, decide_false, eq_self, beq_self_eq_true, Bool.not_true, Bool.not_false]))
      refine ev_own (ha.fr h13.frame (by simp)) hbig fun w14 v14 G14 s14 g14 f14 => ?_
      (repeat (first | refine stp ?_ | (apply BND_inc; omega) | (apply BND_dec; omega) | refine BND_step (rfl : some _ = some _) ?_ | (apply cyes; first | assumption | omega) | (apply cno; first | assumption | omega) | refine (COND_true _ _).2 ?_ | refine (COND_false _ _).2 ?_ | simp (disch := first | assumption | omega) only [gs1, gs2, decide_true, decide_false, eq_self, beq_self_eq_true, Bool.not_true, Bool.not_false]))
      refine ev_same (s13.fr f14 (by simp)).arr s14.arr (show xs.length < 1000000000 by omega) fun w15 f15 => ?_
      rw [decide_eq_true rfl]
      have el := se11.len
      rw [show (xs, endsF 0 xs, (0 : Int)).2.1 = endsF 0 xs from rfl, endsF_len] at el
      (repeat (first | refine BND_step el ?_ | refine BND_step ha.len ?_ | refine stp ?_ | (apply BND_inc; omega) | (apply BND_dec; omega) | refine BND_step (rfl : some _ = some _) ?_ | (apply cyes; first | assumption | omega) | (apply cno; first | assumption | omega) | refine (COND_true _ _).2 ?_ | refine (COND_false _ _).2 ?_ | simp (disch := first | assumption | omega) only [gs1, gs2, decide_true, decide_false, eq_self, beq_self_eq_true, Bool.not_true, Bool.not_false]))
      exact hR _ ((h13.fr0 f14).fr0 f15).frame
    · rw [decide_eq_false he]
      rw [loadB_turned hg hbu (fun e => he e.symm)] at s11 se11 ⊢
      have e1 : lenl v11 = some (.int .i64 0) := s11.len
      have e2 : lenl ev11 = some (.int .i64 0) := se11.len
      (repeat (first | refine BND_step e1 ?_ | refine BND_step e2 ?_ | refine stp ?_ | (apply BND_inc; omega) | (apply BND_dec; omega) | refine BND_step (rfl : some _ = some _) ?_ | (apply cyes; first | assumption | omega) | (apply cno; first | assumption | omega) | refine (COND_true _ _).2 ?_ | refine (COND_false _ _).2 ?_ | simp (disch := first | assumption | omega) only [gs1, gs2, decide_true, decide_false, eq_self, beq_self_eq_true, Bool.not_true, Bool.not_false]))
      exact hR _ h12.frame
end
end Go.Proofs.YtmefbneoljpbgaaDoor
