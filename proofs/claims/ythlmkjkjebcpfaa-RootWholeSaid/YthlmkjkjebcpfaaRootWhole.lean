/- The law that a root is the one or the other, walked. No condition. -/
import Derived.Test.YthlmkjkjebcpfaaRootActs
import Derived.Test.YthlmkjkjebcpfaaRootWholeP
import Derived.Test.YthlmkjkjebcpfaaRootBack
import Derived.Test.YthlmkjkjebcpfaaDiskFz
import Derived.Test.YthlmkjkjebcpfaaMa
namespace Go.Proofs.Ythlmkjkjebcpfaa
open Go.Den Go.Disk Go.Vint Go.Crc Go.Frame Go.Rec Go.Root
def oldT : Rt := ⟨1, 1, 0, 1, 64⟩
theorem old_right : rightT oldT = true := by decide +kernel
set_option linter.unusedSimpArgs false
set_option linter.unusedVariables false
set_option maxRecDepth 20000
set_option maxHeartbeats 4000000
attribute [local congr] BND_cg COND_cg GEF_cg
attribute [local irreducible] capl slicea load1 loadn iaddr iaddra faddr storev newslice binv lookv mupd mdel mlenv mentry mestore slicev slicev3 slices indexs indexav textv rangev nexts clearv shiftv eqaggv convi buildv pickv lens lenl unv nilchk extractv partn JOIN
section
variable {w : World} {R : Value → World → Prop}
theorem rt_RootWhole {lv : Value} {xs : List FAc} (ha : ActsT w lv xs) (hR : ∀ w', Fr [] w w' → R (.bool true) w') : CALL PR F_tumbrellaw16_RootWhole [lv] w R := by
  refine C_tumbrellaw16_RootWhole ?_
  unfold M_tumbrellaw16_RootWhole
  have hlx := ha.arr.len
  rw [List.length_map] at hlx
  refine rt_awake fun w1 f1 => ?_
  (repeat (first | refine stp ?_ | (apply BND_inc; omega) | (apply BND_dec; omega) | refine BND_step (rfl : some _ = some _) ?_ | (apply cyes; first | assumption | omega) | (apply cno; first | assumption | omega) | refine (COND_true _ _).2 ?_ | refine (COND_false _ _).2 ?_ | simp (disch := first | assumption | omega) only [gs1, gs2, decide_true, decide_false, eq_self, beq_self_eq_true, Bool.not_true, Bool.not_false]))
  refine dk_New 4096 (fun h => by omega) fun hroom w2 d h2 => ?_
  have f02 : Fr [] w w2 := f1.trans' h2.frame
  (repeat (first | refine BND_step ptr_nil ?_ | refine BND_step hlx ?_ | refine stp ?_ | (apply BND_inc; omega) | (apply BND_dec; omega) | refine BND_step (rfl : some _ = some _) ?_ | (apply cyes; first | assumption | omega) | (apply cno; first | assumption | omega) | refine (COND_true _ _).2 ?_ | refine (COND_false _ _).2 ?_ | simp (disch := first | assumption | omega) only [gs1, gs2, decide_true, decide_false, eq_self, beq_self_eq_true, Bool.not_true, Bool.not_false]))
  by_cases h40 : 40 < xs.length
  · (repeat (first | refine stp ?_ | (apply BND_inc; omega) | (apply BND_dec; omega) | refine BND_step (rfl : some _ = some _) ?_ | (apply cyes; first | assumption | omega) | (apply cno; first | assumption | omega) | refine (COND_true _ _).2 ?_ | refine (COND_false _ _).2 ?_ | simp (disch := first | assumption | omega) only [gs1, gs2, decide_true, decide_false, eq_self, beq_self_eq_true, Bool.not_true, Bool.not_false]))
    exact hR _ f02
  (repeat (first | (apply BND_build ([.int .i64 1, .int .i64 0, .int .i64 1]); exact rfl) | (apply BND_build (encT oldT); exact rfl) | refine stp ?_ | (apply BND_inc; omega) | (apply BND_dec; omega) | refine BND_step (rfl : some _ = some _) ?_ | (apply cyes; first | assumption | omega) | (apply cno; first | assumption | omega) | refine (COND_true _ _).2 ?_ | refine (COND_false _ _).2 ?_ | simp (disch := first | assumption | omega) only [gs1, gs2, decide_true, decide_false, eq_self, beq_self_eq_true, Bool.not_true, Bool.not_false]))
  refine box_step (n := 5) (zs := [_, _, _, _, _]) (vs := encT oldT) rfl rfl (encT_one _) (by simp [encT]) fun w4 b4 f4 z4 => ?_
  have t0 : StT (empty 4096) none := st_empty hroom
  have ra : (100 : Int) ≤ (empty 4096).room := by show (100 : Int) ≤ 4096; omega
  obtain ⟨u1, u2, u3⟩ := write_st t0 (rightT_iff.1 old_right) ra
  have uf := write_files (empty 4096) oldT
  have uf0 : (empty 4096).files.length = 0 := rfl
  have h4 : At w1 [] (stars [pts (hsz w2) (encT oldT), diskHP d (empty 4096)]) w4 := (At.wrap h2).add f4 (P := pts (hsz w2) (encT oldT)) (A := [hsz w2]) ⟨⟨_, b4⟩, rfl⟩ (by simp)
  obtain ⟨A, hz, hA, hA2, back⟩ := At.zoom3 h4 (Fr.refl _ _) 1 rfl
  (repeat (first | refine BND_step (loadn_all' b4 rfl) ?_ | refine stp ?_ | (apply BND_inc; omega) | (apply BND_dec; omega) | refine BND_step (rfl : some _ = some _) ?_ | (apply cyes; first | assumption | omega) | (apply cno; first | assumption | omega) | refine (COND_true _ _).2 ?_ | refine (COND_false _ _).2 ?_ | simp (disch := first | assumption | omega) only [gs1, gs2, decide_true, decide_false, eq_self, beq_self_eq_true, Bool.not_true, Bool.not_false]))
  refine rt_Write hz t0.inv (by simp [empty]) (by simp [empty]) oldT fun w5 h5 => ?_
  have h5' := At.base f1 (back _ _ h5)
  rw [u1]
  have wt0 := wt_of_st u2 (by rw [u3]; rfl)
  generalize (writeT (empty 4096) oldT).1 = s1 at h5' uf wt0
  clear u1 u2 u3 back hz h5
  (repeat (first | refine BND_step hlx ?_ | refine stp ?_ | (apply BND_inc; omega) | (apply BND_dec; omega) | refine BND_step (rfl : some _ = some _) ?_ | (apply cyes; first | assumption | omega) | (apply cno; first | assumption | omega) | refine (COND_true _ _).2 ?_ | refine (COND_false _ _).2 ?_ | simp (disch := first | assumption | omega) only [gs1, gs2, decide_true, decide_false, eq_self, beq_self_eq_true, Bool.not_true, Bool.not_false]))
  refine loop_up 0 xs.length (fun i w' => ∃ old s, At w [] (stars [pts (hsz w2) (encT old), diskHP d s]) w' ∧ Wt s old ∧ s.files.length ≤ i + 1) ⟨oldT, s1, h5', wt0, by omega⟩ (by omega) ?_
  rintro i w6 - hi ⟨old, s, h6, wt, hfl⟩ J m hJ
  by_cases hlt : i < xs.length
  · have hx := List.getElem?_eq_getElem hlt
    have hmem := List.getElem_mem hlt
    generalize xs[i] = x at hx hmem
    have ha6 := ha.fr h6.frame
    have o1 := encAc_one ha6 hmem
    have hnum := (ha.num _ hmem).1
    obtain ⟨a, tl, bt⟩ := x
    simp only at o1 hnum
    obtain ⟨bb, oo, ia, ln, _, _⟩ := ha6.arr.spot (x := a) (by rw [List.getElem?_map, hx]; rfl) rfl .i64
    (repeat (first | refine BND_step ia ?_ | refine BND_step ln ?_ | refine stp ?_ | (apply BND_inc; omega) | (apply BND_dec; omega) | refine BND_step (rfl : some _ = some _) ?_ | (apply cyes; first | assumption | omega) | (apply cno; first | assumption | omega) | refine (COND_true _ _).2 ?_ | refine (COND_false _ _).2 ?_ | simp (disch := first | assumption | omega) only [gs1, gs2, decide_true, decide_false, eq_self, beq_self_eq_true, Bool.not_true, Bool.not_false]))
    refine box_step (n := 10) (zs := [_, _, _, _, _, _, _, _, _, _]) (vs := encAc a) rfl rfl o1 (by simp [encAc]) fun w8 b8 f8 z8 => ?_
    have htl := (ha.ins _ hmem).1
    have f08 := h6.frame.trans' f8
    simp only at htl
    (repeat (first | (apply BND_ld b8; exact rfl) | refine BND_step (htl.fr f08 (by simp)).len ?_ | refine stp ?_ | (apply BND_inc; omega) | (apply BND_dec; omega) | refine BND_step (rfl : some _ = some _) ?_ | (apply cyes; first | assumption | omega) | (apply cno; first | assumption | omega) | refine (COND_true _ _).2 ?_ | refine (COND_false _ _).2 ?_ | simp (disch := first | assumption | omega) only [gs1, gs2, decide_true, decide_false, eq_self, beq_self_eq_true, Bool.not_true, Bool.not_false]))
    by_cases h300 : 300 < tl.length
    · (repeat (first | refine stp ?_ | (apply BND_inc; omega) | (apply BND_dec; omega) | refine BND_step (rfl : some _ = some _) ?_ | (apply cyes; first | assumption | omega) | (apply cno; first | assumption | omega) | refine (COND_true _ _).2 ?_ | refine (COND_false _ _).2 ?_ | simp (disch := first | assumption | omega) only [gs1, gs2, decide_true, decide_false, eq_self, beq_self_eq_true, Bool.not_true, Bool.not_false]))
      exact hR _ f08
    (repeat (first | refine BND_step (root_of b8) ?_ | refine stp ?_ | (apply BND_inc; omega) | (apply BND_dec; omega) | refine BND_step (rfl : some _ = some _) ?_ | (apply cyes; first | assumption | omega) | (apply cno; first | assumption | omega) | refine (COND_true _ _).2 ?_ | refine (COND_false _ _).2 ?_ | simp (disch := first | assumption | omega) only [gs1, gs2, decide_true, decide_false, eq_self, beq_self_eq_true, Bool.not_true, Bool.not_false]))
    refine rt_Right a.rt fun w9 f9 => ?_
    have f09 := f08.trans' f9
    have b9 := f9.some (by simp) b8
    cases hr : rightT a.rt with
    | false =>
      (repeat (first | refine stp ?_ | (apply BND_inc; omega) | (apply BND_dec; omega) | refine BND_step (rfl : some _ = some _) ?_ | (apply cyes; first | assumption | omega) | (apply cno; first | assumption | omega) | refine (COND_true _ _).2 ?_ | refine (COND_false _ _).2 ?_ | simp (disch := first | assumption | omega) only [gs1, gs2, decide_true, decide_false, eq_self, beq_self_eq_true, Bool.not_true, Bool.not_false]))
      exact hR _ f09
    | true =>
      have hrt := rightT_iff.1 hr
      have hd1 : s.dirs.length = 1 := by obtain ⟨_, _, _, _, _, l, hd, _⟩ := wt; rw [hd]; rfl
      obtain ⟨A, hz, hA, hA2, back⟩ := At.zoom3 h6 (f8.trans' f9) 1 rfl
      have hA3 : ∀ {w'}, Fr A w9 w' → Fr [] w w' := fun f => f09.trans f hA2
      (repeat (first | (apply BND_ld b9; exact rfl) | refine stp ?_ | (apply BND_inc; omega) | (apply BND_dec; omega) | refine BND_step (rfl : some _ = some _) ?_ | (apply cyes; first | assumption | omega) | (apply cno; first | assumption | omega) | refine (COND_true _ _).2 ?_ | refine (COND_false _ _).2 ?_ | simp (disch := first | assumption | omega) only [gs1, gs2, decide_true, decide_false, eq_self, beq_self_eq_true, Bool.not_true, Bool.not_false]))
      refine dk_Fuse hz a.n fun w10 h10 => ?_
      have b10 := h10.frame.some (fun hb => by have := hA _ hb; omega) b9
      obtain ⟨t, e, hW, ti, tr, te, tfl, tdl, tg⟩ := write_wt wt hrt a.n hnum (by omega)
      (repeat (first | refine BND_step (root_of b10) ?_ | refine stp ?_ | (apply BND_inc; omega) | (apply BND_dec; omega) | refine BND_step (rfl : some _ = some _) ?_ | (apply cyes; first | assumption | omega) | (apply cno; first | assumption | omega) | refine (COND_true _ _).2 ?_ | refine (COND_false _ _).2 ?_ | simp (disch := first | assumption | omega) only [gs1, gs2, decide_true, decide_false, eq_self, beq_self_eq_true, Bool.not_true, Bool.not_false]))
      refine rt_Write h10 (inv_fuse wt.inv hnum) (by show s.dirs.length < _; omega) (by show s.files.length < _; omega) a.rt fun w11 h11 => ?_
      have b11 := h11.frame.some (fun hb => by have := hA _ hb; omega) b9
      rw [hW] at h11 ⊢
      simp only at h11
      (repeat (first | (apply BND_ld b11; exact rfl) | refine stp ?_ | (apply BND_inc; omega) | (apply BND_dec; omega) | refine BND_step (rfl : some _ = some _) ?_ | (apply cyes; first | assumption | omega) | (apply cno; first | assumption | omega) | refine (COND_true _ _).2 ?_ | refine (COND_false _ _).2 ?_ | simp (disch := first | assumption | omega) only [gs1, gs2, decide_true, decide_false, eq_self, beq_self_eq_true, Bool.not_true, Bool.not_false]))
      refine dk_Crash h11 ti.wf (by omega) a.dn (tails := tl) (fun w' f => htl.fr (hA3 f) (by simp)) fun w12 h12 => ?_
      have b12 := h12.frame.some (fun hb => by have := hA _ hb; omega) b9
      obtain ⟨q, hq, wq⟩ := crash_wt (op := a.dn) (tails := tl) ti tr tg
      have rq := read_wt wq
      have fq : (crash t a.dn tl).files.length = t.files.length := crashF_len tl _ 0 t.files
      have dq : (crash t a.dn tl).dirs.length = 1 := rfl
      have h12' := back _ _ h12
      (repeat (first | refine stp ?_ | (apply BND_inc; omega) | (apply BND_dec; omega) | refine BND_step (rfl : some _ = some _) ?_ | (apply cyes; first | assumption | omega) | (apply cno; first | assumption | omega) | refine (COND_true _ _).2 ?_ | refine (COND_false _ _).2 ?_ | simp (disch := first | assumption | omega) only [gs1, gs2, decide_true, decide_false, eq_self, beq_self_eq_true, Bool.not_true, Bool.not_false]))
      refine rt_Read h12 wq.inv (by omega) fun w13 f13 => ?_
      rw [rq]
      (repeat (first | refine stp ?_ | (apply BND_inc; omega) | (apply BND_dec; omega) | refine BND_step (rfl : some _ = some _) ?_ | (apply cyes; first | assumption | omega) | (apply cno; first | assumption | omega) | refine (COND_true _ _).2 ?_ | refine (COND_false _ _).2 ?_ | simp (disch := first | assumption | omega) only [gs1, gs2, decide_true, decide_false, eq_self, beq_self_eq_true, Bool.not_true, Bool.not_false]))
      refine box_step (n := 5) (zs := [_, _, _, _, _]) (vs := encT q) rfl rfl (encT_one _) (by simp [encT]) fun w15 b15 f15 z15 => ?_
      have f1215 := f13.trans' f15
      have h15 := h12'.fr0 f1215
      have b1215 := f1215.some (by simp) b12
      obtain ⟨To, bo⟩ := h15.cell (i := 0) rfl
      have n1 := neT q old
      have n2 := neT q a.rt
      have nxt : (BND (storev 5 w15 (.pointer (some ⟨hsz w2, 0, none⟩)) (.agg (encT q).toArray)) fun w16 =>
          BND (binv .int .add (.int .i64 (i : Int)) (Value.int .i64 1)) fun t97_146 =>
          (J t97_146 w16 ∧ m t97_146 w16 < m (.int .i64 (i : Int)) w6)) := by
        refine h15.put (i := 0) (n := 5) (vs := encT q) rfl rfl rfl (encT_one _) (by simp [encT]) fun w16 h16 _ => ?_
        (repeat (first | refine stp ?_ | (apply BND_inc; omega) | (apply BND_dec; omega) | refine BND_step (rfl : some _ = some _) ?_ | (apply cyes; first | assumption | omega) | (apply cno; first | assumption | omega) | refine (COND_true _ _).2 ?_ | refine (COND_false _ _).2 ?_ | simp (disch := first | assumption | omega) only [gs1, gs2, decide_true, decide_false, eq_self, beq_self_eq_true, Bool.not_true, Bool.not_false]))
        exact hJ _ hlt ⟨q, _, h16, wq, by omega⟩
      have l1 := loadn_all' b15 (encT_len q)
      have l2 := loadn_all' bo (encT_len old)
      have l3 := root_of b1215
      rcases hq with hqe | ⟨hne, rfl⟩
      · rw [decide_eq_true hqe] at n2
        by_cases hqo : q = old
        · rw [decide_eq_true hqo] at n1
          rcases te with rfl | rfl
          · (repeat (first | refine BND_step l1 ?_ | refine BND_step l2 ?_ | refine BND_step n1 ?_ | refine BND_step l3 ?_ | refine BND_step n2 ?_ | refine stp ?_ | (apply BND_inc; omega) | (apply BND_dec; omega) | refine BND_step (rfl : some _ = some _) ?_ | (apply cyes; first | assumption | omega) | (apply cno; first | assumption | omega) | refine (COND_true _ _).2 ?_ | refine (COND_false _ _).2 ?_ | simp (disch := first | assumption | omega) only [gs1, gs2, decide_true, decide_false, eq_self, beq_self_eq_true, Bool.not_true, Bool.not_false]))
            exact nxt
          · (repeat (first | refine BND_step l1 ?_ | refine BND_step l2 ?_ | refine BND_step n1 ?_ | refine BND_step l3 ?_ | refine BND_step n2 ?_ | refine stp ?_ | (apply BND_inc; omega) | (apply BND_dec; omega) | refine BND_step (rfl : some _ = some _) ?_ | (apply cyes; first | assumption | omega) | (apply cno; first | assumption | omega) | refine (COND_true _ _).2 ?_ | refine (COND_false _ _).2 ?_ | simp (disch := first | assumption | omega) only [gs1, gs2, decide_true, decide_false, eq_self, beq_self_eq_true, Bool.not_true, Bool.not_false]))
            exact nxt
        · rw [decide_eq_false hqo] at n1
          rcases te with rfl | rfl
          · (repeat (first | refine BND_step l1 ?_ | refine BND_step l2 ?_ | refine BND_step n1 ?_ | refine BND_step l3 ?_ | refine BND_step n2 ?_ | refine stp ?_ | (apply BND_inc; omega) | (apply BND_dec; omega) | refine BND_step (rfl : some _ = some _) ?_ | (apply cyes; first | assumption | omega) | (apply cno; first | assumption | omega) | refine (COND_true _ _).2 ?_ | refine (COND_false _ _).2 ?_ | simp (disch := first | assumption | omega) only [gs1, gs2, decide_true, decide_false, eq_self, beq_self_eq_true, Bool.not_true, Bool.not_false]))
            exact nxt
          · (repeat (first | refine BND_step l1 ?_ | refine BND_step l2 ?_ | refine BND_step n1 ?_ | refine BND_step l3 ?_ | refine BND_step n2 ?_ | refine stp ?_ | (apply BND_inc; omega) | (apply BND_dec; omega) | refine BND_step (rfl : some _ = some _) ?_ | (apply cyes; first | assumption | omega) | (apply cno; first | assumption | omega) | refine (COND_true _ _).2 ?_ | refine (COND_false _ _).2 ?_ | simp (disch := first | assumption | omega) only [gs1, gs2, decide_true, decide_false, eq_self, beq_self_eq_true, Bool.not_true, Bool.not_false]))
            exact nxt
      · have e7 : e = 7 := te.resolve_left hne
        subst e7
        rw [decide_eq_true rfl] at n1
        (repeat (first | refine BND_step l1 ?_ | refine BND_step l2 ?_ | refine BND_step n1 ?_ | refine BND_step l3 ?_ | refine BND_step n2 ?_ | refine stp ?_ | (apply BND_inc; omega) | (apply BND_dec; omega) | refine BND_step (rfl : some _ = some _) ?_ | (apply cyes; first | assumption | omega) | (apply cno; first | assumption | omega) | refine (COND_true _ _).2 ?_ | refine (COND_false _ _).2 ?_ | simp (disch := first | assumption | omega) only [gs1, gs2, decide_true, decide_false, eq_self, beq_self_eq_true, Bool.not_true, Bool.not_false]))
        exact nxt
  · (repeat (first | refine stp ?_ | (apply BND_inc; omega) | (apply BND_dec; omega) | refine BND_step (rfl : some _ = some _) ?_ | (apply cyes; first | assumption | omega) | (apply cno; first | assumption | omega) | refine (COND_true _ _).2 ?_ | refine (COND_false _ _).2 ?_ | simp (disch := first | assumption | omega) only [gs1, gs2, decide_true, decide_false, eq_self, beq_self_eq_true, Bool.not_true, Bool.not_false]))
    exact hR _ h6.frame
end
end Go.Proofs.Ythlmkjkjebcpfaa
