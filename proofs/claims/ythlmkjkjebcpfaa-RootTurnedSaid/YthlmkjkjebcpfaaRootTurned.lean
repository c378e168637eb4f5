/- The law of a root of which bits are turned, walked. No condition but that a place is a number of 64 bits. -/
import Derived.Test.YthlmkjkjebcpfaaRootTurnedP
import Derived.Test.YthlmkjkjebcpfaaRootBack
import Derived.Test.YthlmkjkjebcpfaaTurn
import Derived.Test.YthlmkjkjebcpfaaDiskSame1
import Derived.Test.YthlmkjkjebcpfaaMa
namespace Go.Proofs.Ythlmkjkjebcpfaa
open Go.Den Go.Disk Go.Vint Go.Crc Go.Frame Go.Rec Go.Root
set_option linter.unusedSimpArgs false
set_option linter.unusedVariables false
set_option maxRecDepth 20000
set_option maxHeartbeats 4000000
attribute [local congr] BND_cg COND_cg GEF_cg
attribute [local irreducible] capl slicea load1 loadn iaddr iaddra faddr storev newslice binv lookv mupd mdel mlenv mentry mestore slicev slicev3 slices indexs indexav textv rangev nexts clearv shiftv eqaggv convi buildv pickv lens lenl unv nilchk extractv partn JOIN
section
variable {w : World} {R : Value → World → Prop}
theorem rt_RootTurned (r : Rt) (at_ t ct : Int) (hat : -9223372036854775808 ≤ at_ ∧ at_ ≤ 9223372036854775807) (hR : ∀ w', Fr [] w w' → R (.bool true) w') : CALL PR F_tumbrellaw16_RootTurned [.agg (encT r).toArray, .int .i64 at_, .int .u32 t, .int .i64 ct] w R := by
  refine C_tumbrellaw16_RootTurned ?_
  unfold M_tumbrellaw16_RootTurned
  refine NEW_intro fun w1 br f1 z1 => ?_
  replace br : blk w1 (hsz w) = some (.cells (encT r).toArray 26 (0, 0)) := br
  refine rt_awake fun w2 f2 => ?_
  have f02 := f1.trans' f2
  have br2 := f2.some (by simp) br
  (repeat (first | refine stp ?_ | (apply BND_inc; omega) | (apply BND_dec; omega) | refine BND_step (rfl : some _ = some _) ?_ | (apply cyes; first | assumption | omega) | (apply cno; first | assumption | omega) | refine (COND_true _ _).2 ?_ | refine (COND_false _ _).2 ?_ | simp (disch := first | assumption | omega) only [gs1, gs2, decide_true, decide_false, eq_self, beq_self_eq_true, Bool.not_true, Bool.not_false]))
  refine dk_New 1024 (fun h => by omega) fun hroom w3 d h3 => ?_
  (repeat (first | refine BND_step ptr_nil ?_ | refine BND_step (loadn_all' (h3.frame.some (by simp) br2) rfl) ?_ | refine stp ?_ | (apply BND_inc; omega) | (apply BND_dec; omega) | refine BND_step (rfl : some _ = some _) ?_ | (apply cyes; first | assumption | omega) | (apply cno; first | assumption | omega) | refine (COND_true _ _).2 ?_ | refine (COND_false _ _).2 ?_ | simp (disch := first | assumption | omega) only [gs1, gs2, decide_true, decide_false, eq_self, beq_self_eq_true, Bool.not_true, Bool.not_false]))
  have t0 : StT (empty 1024) none := st_empty hroom
  have ra : (100 : Int) ≤ (empty 1024).room := by show (100 : Int) ≤ 1024; omega
  have fl0 : (empty 1024).files.length = 0 := rfl
  have fl1 := write_files (empty 1024) r
  obtain ⟨o1, t1, r1, c1⟩ := write_any t0 ra r
  refine rt_Write h3 t0.inv (by simp [empty]) (by simp [empty]) r fun w4 h4 => ?_
  generalize writeT (empty 1024) r = x1 at h4 t1 r1 c1 fl1
  have br4 := h4.frame.some (by simp) br2
  rcases Or.symm c1 with ⟨q1, q2, q3⟩ | ⟨q1, q2, q3⟩
  · rw [q2]
    (repeat (first | refine BND_step (loadn_all' br4 rfl) ?_ | refine stp ?_ | (apply BND_inc; omega) | (apply BND_dec; omega) | refine BND_step (rfl : some _ = some _) ?_ | (apply cyes; first | assumption | omega) | (apply cno; first | assumption | omega) | refine (COND_true _ _).2 ?_ | refine (COND_false _ _).2 ?_ | simp (disch := first | assumption | omega) only [gs1, gs2, decide_true, decide_false, eq_self, beq_self_eq_true, Bool.not_true, Bool.not_false]))
    refine rt_Right r fun w5 f5 => ?_
    rw [q1]
    (repeat (first | refine stp ?_ | (apply BND_inc; omega) | (apply BND_dec; omega) | refine BND_step (rfl : some _ = some _) ?_ | (apply cyes; first | assumption | omega) | (apply cno; first | assumption | omega) | refine (COND_true _ _).2 ?_ | refine (COND_false _ _).2 ?_ | simp (disch := first | assumption | omega) only [gs1, gs2, decide_true, decide_false, eq_self, beq_self_eq_true, Bool.not_true, Bool.not_false]))
    exact hR _ (f02.trans' (h4.fr0 f5).frame)
  subst q3
  rw [q2]
  have hrt := rightT_iff.1 q1
  obtain ⟨f, td1⟩ := td_of t1
  rw [r1] at td1
  replace td1 : Td x1.1 f x1.1.files.length 1024 (bytesT r) := td1
  have dl1 := st_lens t1
  have hbl := (bytesT_len hrt).2
  (repeat (first | refine stp ?_ | (apply BND_inc; omega) | (apply BND_dec; omega) | refine BND_step (rfl : some _ = some _) ?_ | (apply cyes; first | assumption | omega) | (apply cno; first | assumption | omega) | refine (COND_true _ _).2 ?_ | refine (COND_false _ _).2 ?_ | simp (disch := first | assumption | omega) only [gs1, gs2, decide_true, decide_false, eq_self, beq_self_eq_true, Bool.not_true, Bool.not_false]))
  refine dk_Read h4 t1.inv.wf (by omega) nf fun w6 v6 G6 h6 s6 g6 f6 => ?_
  rw [td1.read] at s6 ⊢
  simp only at s6
  (repeat (first | refine stp ?_ | (apply BND_inc; omega) | (apply BND_dec; omega) | refine BND_step (rfl : some _ = some _) ?_ | (apply cyes; first | assumption | omega) | (apply cno; first | assumption | omega) | refine (COND_true _ _).2 ?_ | refine (COND_false _ _).2 ?_ | simp (disch := first | assumption | omega) only [gs1, gs2, decide_true, decide_false, eq_self, beq_self_eq_true, Bool.not_true, Bool.not_false]))
  refine r1_Turn s6.arr (by omega) at_ hat t fun w7 v7 c G7 hbu s7 g7 f7 => ?_
  have hcl : (bytesT r).length = c.length := hbu.1
  obtain ⟨A, hz, hA, back⟩ := At.re2 h4 (f6.trans' f7)
  have s67 := s6.fr f7 (by simp)
  have gr6 := f6.grow
  obtain ⟨e8, td8⟩ := td_cut (k := 0) td1 (by omega)
  rw [List.take_zero] at td8
  have dl8 : (cut x1.1 nf 0).1.dirs.length = 1 := by have := td8.dirs; rw [show ((0 : Nat) : Int) = 0 from rfl] at this; rw [this]; rfl
  refine dk_Cut hz t1.inv.wf (by omega) nf 0 fun w8 h8 => ?_
  rw [show ((0 : Nat) : Int) = 0 from rfl] at e8 td8
  rw [e8]
  generalize (cut x1.1 nf 0).1 = s8 at h8 td8 dl8
  obtain ⟨e9, td9⟩ := td_append (c := c) td8 (by omega)
  have dl9 : (append s8 nf c).1.dirs.length = 1 := by rw [td9.dirs]; rfl
  (repeat (first | refine stp ?_ | (apply BND_inc; omega) | (apply BND_dec; omega) | refine BND_step (rfl : some _ = some _) ?_ | (apply cyes; first | assumption | omega) | (apply cno; first | assumption | omega) | refine (COND_true _ _).2 ?_ | refine (COND_false _ _).2 ?_ | simp (disch := first | assumption | omega) only [gs1, gs2, decide_true, decide_false, eq_self, beq_self_eq_true, Bool.not_true, Bool.not_false]))
  refine dk_Append h8 td8.inv.wf (by omega) (by rw [td8.files]; omega) nf (bs := c) (by omega) s7.len (fun w' f' => (s7.fr f' (fun b hb hb' => by have := g7 b hb; have := hA b hb'; omega)).loads encB_len) fun w9 h9 => ?_
  rw [e9]
  generalize (append s8 nf c).1 = s9 at h9 td9 dl9
  have s79 := s7.fr h9.frame (fun b hb hb' => by have := g7 b hb; have := hA b hb'; omega)
  have s69 := s67.fr h9.frame (fun b hb hb' => by have := g6 b hb; have := hA b hb'; omega)
  have h9' := back _ _ h9
  have br9 := h9'.frame.some (by simp) br2
  have rd9 := td_read td9
  (repeat (first | refine stp ?_ | (apply BND_inc; omega) | (apply BND_dec; omega) | refine BND_step (rfl : some _ = some _) ?_ | (apply cyes; first | assumption | omega) | (apply cno; first | assumption | omega) | refine (COND_true _ _).2 ?_ | refine (COND_false _ _).2 ?_ | simp (disch := first | assumption | omega) only [gs1, gs2, decide_true, decide_false, eq_self, beq_self_eq_true, Bool.not_true, Bool.not_false]))
  refine rt_Read h9' td9.inv (by omega) fun w10 f10 => ?_
  rw [rd9]
  (repeat (first | refine stp ?_ | (apply BND_inc; omega) | (apply BND_dec; omega) | refine BND_step (rfl : some _ = some _) ?_ | (apply cyes; first | assumption | omega) | (apply cno; first | assumption | omega) | refine (COND_true _ _).2 ?_ | refine (COND_false _ _).2 ?_ | simp (disch := first | assumption | omega) only [gs1, gs2, decide_true, decide_false, eq_self, beq_self_eq_true, Bool.not_true, Bool.not_false]))
  refine box_step (n := 5) (zs := [_, _, _, _, _]) (vs := encT (fromB c).1) rfl rfl (encT_one _) (by simp [encT]) fun w12 b12 f12 z12 => ?_
  have f912 := f10.trans' f12
  refine r1_Same ((s69.fr f912 (by simp)).arr) ((s79.fr f912 (by simp)).arr) (by omega) fun w13 f13 => ?_
  have f913 := f912.trans' f13
  have br13 := f913.some (by simp) br9
  have b13 := f13.some (by simp) b12
  have h13 := h9'.fr0 f913
  have s613 := s69.fr f913 (by simp)
  have n1 := neT (fromB c).1 r
  have n2 := neT (fromB c).1 zeroT
  have rest : (BND (binv .int .lss (.int .i64 ct) (Value.int .i64 0)) fun t74_45 =>
      BND (grd (isB t74_45 false) (some (.int .i64 ct))) fun t76_46 =>
      BND (grd (isB t74_45 false) (some v6)) fun t77_47 =>
      BND (grd (isB t74_45 false) (lenl t77_47)) fun t78_48 =>
      BND (grd (isB t74_45 false) (binv .int .geq t76_46 t78_48)) fun t79_49 =>
      BND (pickv t74_45 (Value.bool true) t79_49) fun t80_50 =>
      BND (grd (isB t80_50 false) (some (ptrTo d))) fun t82_51 =>
      BND (grd (isB t80_50 false) (some (.int .i64 ct))) fun t83_52 =>
      GEF (isB t80_50 false) (fun k_ => CALL PR F_disk_Disk_Cut [t82_51, (Value.string nf), t83_52] w13 k_) w13 fun t84_53 w15 =>
      BND (grd (isB t80_50 false) (binv .int .neq t84_53 (Value.int .i64 0))) fun t85_54 =>
      BND (pickv t80_50 (Value.bool true) t85_54) fun t86_55 =>
      COND t86_55
      (R (Value.bool true) w15)
      (CALL PR F_root_Read [ptrTo d] w15 fun t89_56 w16 =>
      BND (extractv t89_56 0) fun t90_57 =>
      BND (extractv t89_56 1) fun t91_58 =>
      NEW (newv 26 w16 (Value.agg #[(Value.int .u64 0), (Value.int .i64 0), (Value.int .i64 0), (Value.int .i64 0), (Value.int .i64 0)])) fun t16_59 w17 =>
      BND (storev 5 w17 t16_59 t90_57) fun w18 =>
      BND (binv .int .neq t91_58 (Value.int .i64 0)) fun t93_60 =>
      R t93_60 w18)) := by
    by_cases hc0 : ct < 0
    · (repeat (first | refine stp ?_ | (apply BND_inc; omega) | (apply BND_dec; omega) | refine BND_step (rfl : some _ = some _) ?_ | (apply cyes; first | assumption | omega) | (apply cno; first | assumption | omega) | refine (COND_true _ _).2 ?_ | refine (COND_false _ _).2 ?_ | simp (disch := first | assumption | omega) only [gs1, gs2, decide_true, decide_false, eq_self, beq_self_eq_true, Bool.not_true, Bool.not_false]))
      exact hR _ (f02.trans' h13.frame)
    · by_cases hc1 : ((bytesT r).length : Int) ≤ ct
      · (repeat (first | refine BND_step s613.len ?_ | refine stp ?_ | (apply BND_inc; omega) | (apply BND_dec; omega) | refine BND_step (rfl : some _ = some _) ?_ | (apply cyes; first | assumption | omega) | (apply cno; first | assumption | omega) | refine (COND_true _ _).2 ?_ | refine (COND_false _ _).2 ?_ | simp (disch := first | assumption | omega) only [gs1, gs2, decide_true, decide_false, eq_self, beq_self_eq_true, Bool.not_true, Bool.not_false]))
        exact hR _ (f02.trans' h13.frame)
      · obtain ⟨k, rfl⟩ : ∃ k : Nat, ct = (k : Int) := ⟨ct.toNat, by omega⟩
        obtain ⟨ek, tdk⟩ := td_cut (k := k) td9 (by omega)
        (repeat (first | refine BND_step s613.len ?_ | refine stp ?_ | (apply BND_inc; omega) | (apply BND_dec; omega) | refine BND_step (rfl : some _ = some _) ?_ | (apply cyes; first | assumption | omega) | (apply cno; first | assumption | omega) | refine (COND_true _ _).2 ?_ | refine (COND_false _ _).2 ?_ | simp (disch := first | assumption | omega) only [gs1, gs2, decide_true, decide_false, eq_self, beq_self_eq_true, Bool.not_true, Bool.not_false]))
        refine dk_Cut h13 td9.inv.wf (by omega) nf (k : Int) fun w15 h15 => ?_
        have rdk := td_read tdk
        have hne := cut_root (k := k) hrt hbu (by omega)
        have dlk : (cut s9 nf (k : Int)).1.dirs.length = 1 := by rw [tdk.dirs]; rfl
        rw [ek]
        (repeat (first | refine stp ?_ | (apply BND_inc; omega) | (apply BND_dec; omega) | refine BND_step (rfl : some _ = some _) ?_ | (apply cyes; first | assumption | omega) | (apply cno; first | assumption | omega) | refine (COND_true _ _).2 ?_ | refine (COND_false _ _).2 ?_ | simp (disch := first | assumption | omega) only [gs1, gs2, decide_true, decide_false, eq_self, beq_self_eq_true, Bool.not_true, Bool.not_false]))
        refine rt_Read h15 tdk.inv (by omega) fun w16 f16 => ?_
        rw [rdk]
        (repeat (first | refine stp ?_ | (apply BND_inc; omega) | (apply BND_dec; omega) | refine BND_step (rfl : some _ = some _) ?_ | (apply cyes; first | assumption | omega) | (apply cno; first | assumption | omega) | refine (COND_true _ _).2 ?_ | refine (COND_false _ _).2 ?_ | simp (disch := first | assumption | omega) only [gs1, gs2, decide_true, decide_false, eq_self, beq_self_eq_true, Bool.not_true, Bool.not_false]))
        refine box_step (n := 5) (zs := [_, _, _, _, _]) (vs := encT (fromB (c.take k)).1) rfl rfl (encT_one _) (by simp [encT]) fun w18 b18 f18 z18 => ?_
        have e : binv .int .neq (.int .i64 (fromB (c.take k)).2) (.int .i64 0) = some (.bool true) := by rw [binv_neq, decide_eq_false hne]; rfl
        (repeat (first | refine BND_step e ?_ | refine stp ?_ | (apply BND_inc; omega) | (apply BND_dec; omega) | refine BND_step (rfl : some _ = some _) ?_ | (apply cyes; first | assumption | omega) | (apply cno; first | assumption | omega) | refine (COND_true _ _).2 ?_ | refine (COND_false _ _).2 ?_ | simp (disch := first | assumption | omega) only [gs1, gs2, decide_true, decide_false, eq_self, beq_self_eq_true, Bool.not_true, Bool.not_false]))
        exact hR _ (f02.trans' ((h15.fr0 f16).fr0 f18).frame)
  refine join_w (fun w' => w' = w13) (fun K hK => ?_) (fun w' hw => by subst hw; exact rest)
  by_cases he : bytesT r = c
  · rw [decide_eq_true he]
    have hfr := fromB_bytes hrt
    rw [he] at hfr
    rw [hfr] at b13 n1 ⊢
    simp only at b13 n1
    simp only [decide_true, Bool.not_true] at n1
    (repeat (first | refine BND_step (loadn_all' b13 rfl) ?_ | refine BND_step (loadn_all' br13 rfl) ?_ | refine BND_step n1 ?_ | refine stp ?_ | (apply BND_inc; omega) | (apply BND_dec; omega) | refine BND_step (rfl : some _ = some _) ?_ | (apply cyes; first | assumption | omega) | (apply cno; first | assumption | omega) | refine (COND_true _ _).2 ?_ | refine (COND_false _ _).2 ?_ | simp (disch := first | assumption | omega) only [gs1, gs2, decide_true, decide_false, eq_self, beq_self_eq_true, Bool.not_true, Bool.not_false]))
    exact hK _ rfl
  · rw [decide_eq_false he]
    have hfr := turned_root hrt hbu (fun e => he e.symm)
    rw [hfr] at b13 n2 ⊢
    simp only at b13 n2
    simp only [decide_true, Bool.not_true] at n2
    (repeat (first | refine BND_step (loadn_all' b13 rfl) ?_ | (apply BND_build (encT zeroT); exact rfl) | refine BND_step n2 ?_ | refine stp ?_ | (apply BND_inc; omega) | (apply BND_dec; omega) | refine BND_step (rfl : some _ = some _) ?_ | (apply cyes; first | assumption | omega) | (apply cno; first | assumption | omega) | refine (COND_true _ _).2 ?_ | refine (COND_false _ _).2 ?_ | simp (disch := first | assumption | omega) only [gs1, gs2, decide_true, decide_false, eq_self, beq_self_eq_true, Bool.not_true, Bool.not_false]))
    exact hK _ rfl
end
end Go.Proofs.Ythlmkjkjebcpfaa
