/- The law of what a disk does, walked. No condition but that texts are no longer than any can be. -/
import Derived.Test.YtpefokoiioeomaaDiskFuse
import Derived.Test.YtpefokoiioeomaaDiskRef6
import Derived.Test.YtpefokoiioeomaaMa
namespace Go.Proofs.Ytpefokoiioeomaa
open Go.Den Go.Disk
theorem read_len {s : Dk} (h : Inv s) (n : ByteArray) : (Disk.read s n).1.length < 1000000000 := by
  have := act_len h ⟨9, 0, n, n, .slice none 0 0, .slice none 0 0⟩ [] []
  simpa [act] using this
set_option linter.unusedSimpArgs false
set_option linter.unusedVariables false
set_option maxRecDepth 20000
set_option maxHeartbeats 4000000
attribute [local congr] BND_cg COND_cg GEF_cg
attribute [local irreducible] load1 loadn iaddr iaddra faddr storev newslice binv lookv mupd mdel mlenv mentry mestore slicev slicev3 slices indexs indexav textv rangev nexts clearv shiftv eqaggv convi buildv pickv lens lenl unv nilchk extractv partn JOIN
section
variable {w : World} {R : Value → World → Prop}
theorem dk_DiskDoes {lv : Value} {xs : List FA} (room : Int) (ha : Acts w lv xs) (hstr : ∀ x ∈ xs, x.1.nm.size ≤ 9223372036854775807 ∧ x.1.to.size ≤ 9223372036854775807) (hR : ∀ w', Fr [] w w' → R (.bool true) w') : CALL PR F_tumbrellaw06_DiskDoes [.int .i64 room, lv] w R := by
  refine C_tumbrellaw06_DiskDoes ?_
  unfold M_tumbrellaw06_DiskDoes
  refine dk_awake fun w1 f1 => ?_
  (repeat (first | refine stp ?_ | (apply BND_inc; omega) | (apply BND_dec; omega) | refine BND_step (rfl : some _ = some _) ?_ | (apply cyes; first | assumption | omega) | (apply cno; first | assumption | omega) | refine (COND_true _ _).2 ?_ | refine (COND_false _ _).2 ?_ | simp (disch := first | assumption | omega) only [gs1, gs2, decide_true, decide_false, eq_self, beq_self_eq_true, Bool.not_true, Bool.not_false]))
  refine dk_large (ha.fr f1) fun w2 f2 => ?_
  have f02 := f1.trans' f2
  cases hlg : largeP xs with
  | true =>
    (repeat (first | refine stp ?_ | (apply BND_inc; omega) | (apply BND_dec; omega) | refine BND_step (rfl : some _ = some _) ?_ | (apply cyes; first | assumption | omega) | (apply cno; first | assumption | omega) | refine (COND_true _ _).2 ?_ | refine (COND_false _ _).2 ?_ | simp (disch := first | assumption | omega) only [gs1, gs2, decide_true, decide_false, eq_self, beq_self_eq_true, Bool.not_true, Bool.not_false]))
    exact hR _ f02
  | false =>
  obtain ⟨hlen, hsm⟩ := largeX_no hlg
  have hlx := ha.arr.len
  rw [List.length_map] at hlx
  (repeat (first | refine stp ?_ | (apply BND_inc; omega) | (apply BND_dec; omega) | refine BND_step (rfl : some _ = some _) ?_ | (apply cyes; first | assumption | omega) | (apply cno; first | assumption | omega) | refine (COND_true _ _).2 ?_ | refine (COND_false _ _).2 ?_ | simp (disch := first | assumption | omega) only [gs1, gs2, decide_true, decide_false, eq_self, beq_self_eq_true, Bool.not_true, Bool.not_false]))
  refine dk_New room (fun hno => ?_) fun hroom w3 d h3 => ?_
  · (repeat (first | refine stp ?_ | (apply BND_inc; omega) | (apply BND_dec; omega) | refine BND_step (rfl : some _ = some _) ?_ | (apply cyes; first | assumption | omega) | (apply cno; first | assumption | omega) | refine (COND_true _ _).2 ?_ | refine (COND_false _ _).2 ?_ | simp (disch := first | assumption | omega) only [gs1, gs2, decide_true, decide_false, eq_self, beq_self_eq_true, Bool.not_true, Bool.not_false]))
    refine rf_New room (fun _ => ?_) fun hroom _ _ _ => by omega
    (repeat (first | refine stp ?_ | (apply BND_inc; omega) | (apply BND_dec; omega) | refine BND_step (rfl : some _ = some _) ?_ | (apply cyes; first | assumption | omega) | (apply cno; first | assumption | omega) | refine (COND_true _ _).2 ?_ | refine (COND_false _ _).2 ?_ | simp (disch := first | assumption | omega) only [gs1, gs2, decide_true, decide_false, eq_self, beq_self_eq_true, Bool.not_true, Bool.not_false]))
    exact hR _ f02
  (repeat (first | refine stp ?_ | (apply BND_inc; omega) | (apply BND_dec; omega) | refine BND_step (rfl : some _ = some _) ?_ | (apply cyes; first | assumption | omega) | (apply cno; first | assumption | omega) | refine (COND_true _ _).2 ?_ | refine (COND_false _ _).2 ?_ | simp (disch := first | assumption | omega) only [gs1, gs2, decide_true, decide_false, eq_self, beq_self_eq_true, Bool.not_true, Bool.not_false]))
  refine rf_New room (fun hno => by omega) fun _ w4 r h4 => ?_
  (repeat (first | refine BND_step ptr_nil ?_ | refine stp ?_ | (apply BND_inc; omega) | (apply BND_dec; omega) | refine BND_step (rfl : some _ = some _) ?_ | (apply cyes; first | assumption | omega) | (apply cno; first | assumption | omega) | refine (COND_true _ _).2 ?_ | refine (COND_false _ _).2 ?_ | simp (disch := first | assumption | omega) only [gs1, gs2, decide_true, decide_false, eq_self, beq_self_eq_true, Bool.not_true, Bool.not_false]))
  have hA : At w2 [] (stars [rfHP r (empty room), diskHP d (empty room)]) w4 := by
    obtain ⟨F, g1, g2, g3⟩ := h4
    exact (At.wrap h3).add g3 g1 (fun b hb => by have := g2 b hb; simpa using this)
  have hA4 := At.base f02 hA
  unfold ptrTo
  (repeat (first | refine BND_step hlx ?_ | refine stp ?_ | (apply BND_inc; omega) | (apply BND_dec; omega) | refine BND_step (rfl : some _ = some _) ?_ | (apply cyes; first | assumption | omega) | (apply cno; first | assumption | omega) | refine (COND_true _ _).2 ?_ | refine (COND_false _ _).2 ?_ | simp (disch := first | assumption | omega) only [gs1, gs2, decide_true, decide_false, eq_self, beq_self_eq_true, Bool.not_true, Bool.not_false]))
  refine loop_up 0 xs.length (fun i w' => ∃ s, At w [] (stars [rfHP r s, diskHP d s]) w' ∧ Inv s ∧ s.dirs.length ≤ i + 1 ∧ s.files.length ≤ i) ⟨empty room, hA4, inv_empty hroom, by simp [empty], by simp [empty]⟩ (by omega) ?_
  rintro i w5 - hi ⟨s, h5, inv, hd1, hd2⟩ J m hJ
  by_cases hlt : i < xs.length
  · have hx := List.getElem?_eq_getElem hlt
    have hmem := List.getElem_mem hlt
    generalize xs[i] = x at hx hmem
    have ha5 := ha.fr h5.frame
    have o1 := encA_one ha5 hmem
    have hs1 := hsm _ hmem
    have hnum := ha.num _ hmem
    have hstr1 := hstr _ hmem
    obtain ⟨a, b, t⟩ := x
    simp only at o1 hs1 hnum hstr1
    obtain ⟨bb, oo, ia, ln, _, _⟩ := ha5.arr.spot (x := a) (by rw [List.getElem?_map, hx]; rfl) rfl .i64
    (repeat (first | refine BND_step ia ?_ | refine BND_step ln ?_ | refine stp ?_ | (apply BND_inc; omega) | (apply BND_dec; omega) | refine BND_step (rfl : some _ = some _) ?_ | (apply cyes; first | assumption | omega) | (apply cno; first | assumption | omega) | refine (COND_true _ _).2 ?_ | refine (COND_false _ _).2 ?_ | simp (disch := first | assumption | omega) only [gs1, gs2, decide_true, decide_false, eq_self, beq_self_eq_true, Bool.not_true, Bool.not_false]))
    refine box_step (n := 6) (zs := [_, _, _, _, _, _]) (vs := encA a) rfl rfl o1 (by simp [encA]) fun w7 b7 f7 z7 => ?_
    have h7 := h5.fr0 f7
    obtain ⟨A, B, zA, zB, hA1, hB1, hd, f07, hA2, hB2⟩ := At.two h5 f7
    have hins : ∀ w', Fr [] w w' → Arr encB 1 w' a.bv b ∧ Arr encI 1 w' a.tv t := fun w' f => (ha.fr f).ins _ hmem
    (repeat (first | refine BND_step (loadn_all b7 rfl) ?_ | refine stp ?_ | (apply BND_inc; omega) | (apply BND_dec; omega) | refine BND_step (rfl : some _ = some _) ?_ | (apply cyes; first | assumption | omega) | (apply cno; first | assumption | omega) | refine (COND_true _ _).2 ?_ | refine (COND_false _ _).2 ?_ | simp (disch := first | assumption | omega) only [gs1, gs2, decide_true, decide_false, eq_self, beq_self_eq_true, Bool.not_true, Bool.not_false]))
    refine dk_do zB inv.wf (by omega) (by omega) a (b := b) (tails := t) (by omega) (fun w' f => (hins w' (f07.trans f hB2)).1) (fun w' f => (hins w' (f07.trans f hB2)).2) fun w8 v8 G8 h8 s8 g8 => ?_
    have b8 := h8.frame.keep (hsz w5) (blk_lt b7) (fun hb => by have := hB1 _ hb; omega)
    rw [b7] at b8
    (repeat (first | refine BND_step (loadn_all b8 rfl) ?_ | refine stp ?_ | (apply BND_inc; omega) | (apply BND_dec; omega) | refine BND_step (rfl : some _ = some _) ?_ | (apply cyes; first | assumption | omega) | (apply cno; first | assumption | omega) | refine (COND_true _ _).2 ?_ | refine (COND_false _ _).2 ?_ | simp (disch := first | assumption | omega) only [gs1, gs2, decide_true, decide_false, eq_self, beq_self_eq_true, Bool.not_true, Bool.not_false]))
    have f08 : Fr [] w w8 := f07.trans h8.frame hB2
    have gr7 := f7.grow
    refine rf_own (At.first zA h8 hd) inv.wf (by omega) (by omega) a (b := b) (tails := t) (by omega) hstr1 (fun w' f => (hins w' (f08.trans f hA2)).1) (fun w' f => (hins w' (f08.trans f hA2)).2) fun w9 v9 G9 h9 s9 g9 => ?_
    have s8' := s8.fr h9.frame (fun b hb hb' => by have := g8 b hb; have := hA1 b hb'; omega)
    have hlr : (act s a b t).2.1.length < 1000000000 := act_len inv a b t
    have inv' := inv_act inv a b t hnum
    have hmore := more_act s a b t inv.wf.ne
    have h10 := (At.join2 h8 h9 hd (fun b hb => by have := hA1 b hb; omega) f07 hA2 hB2).fr0 (Fr.drew [] w9)
    have s8'' := s8'.fr (Fr.drew [] w9) (by simp)
    have s9'' := s9.fr (Fr.drew [] w9) (by simp)
    clear h8 h9 s8 s9 zA zB
    obtain ⟨⟨s', rd, e'⟩, hact⟩ : ∃ y, act s a b t = y := ⟨_, rfl⟩
    simp only [hact] at h10 s8'' s9'' hlr inv' hmore ⊢
    have hwf := inv'.wf
    have h60 := hwf.many _ (now_mem hwf)
    obtain ⟨Az, hz, _⟩ := At.zoom h10 0 rfl
    obtain ⟨fv, dv, fc, es, hs⟩ := rf_open hz
    obtain ⟨T, c⟩ := hs.cell (i := 0) rfl
    unfold rfC at c
    (repeat (first | refine stp ?_ | (apply BND_inc; omega) | (apply BND_dec; omega) | refine BND_step (rfl : some _ = some _) ?_ | (apply cyes; first | assumption | omega) | (apply cno; first | assumption | omega) | refine (COND_true _ _).2 ?_ | refine (COND_false _ _).2 ?_ | simp (disch := first | assumption | omega) only [gs1, gs2, decide_true, decide_false, eq_self, beq_self_eq_true, Bool.not_true, Bool.not_false]))
    refine ⟨fun _ w' => blk w' r = some (.cells [.int .i64 s'.room, fv, dv, .int .i64 s'.burn, .bool s'.gone].toArray T (0, 0)), c, ?_⟩
    refine r1_Same s8''.arr s9''.arr hlr fun w10 f10 => ?_
    rw [decide_eq_true rfl]
    have c10 := f10.some (by simp) c
    refine ⟨c10, ?_⟩
    have h11 := h10.fr0 f10
    obtain ⟨A11, z11, _⟩ := At.zoom h11 1 rfl
    (repeat (first | refine stp ?_ | (apply BND_inc; omega) | (apply BND_dec; omega) | refine BND_step (rfl : some _ = some _) ?_ | (apply cyes; first | assumption | omega) | (apply cno; first | assumption | omega) | refine (COND_true _ _).2 ?_ | refine (COND_false _ _).2 ?_ | simp (disch := first | assumption | omega) only [gs1, gs2, decide_true, decide_false, eq_self, beq_self_eq_true, Bool.not_true, Bool.not_false]))
    refine dk_Names z11 hwf (by omega) fun w11 v11 G11 _ s11 g11 f11 => ?_
    have c11 := f11.some (by simp) c10
    refine ⟨c11, ?_⟩
    have h12 := h11.fr0 f11
    obtain ⟨A12, z12, _⟩ := At.zoom h12 0 rfl
    (repeat (first | refine stp ?_ | (apply BND_inc; omega) | (apply BND_dec; omega) | refine BND_step (rfl : some _ = some _) ?_ | (apply cyes; first | assumption | omega) | (apply cno; first | assumption | omega) | refine (COND_true _ _).2 ?_ | refine (COND_false _ _).2 ?_ | simp (disch := first | assumption | omega) only [gs1, gs2, decide_true, decide_false, eq_self, beq_self_eq_true, Bool.not_true, Bool.not_false]))
    refine rf_Names z12 hwf (by omega) fun w12 v12 G12 _ s12 g12 f12 => ?_
    have c12 := f12.some (by simp) c11
    refine ⟨c12, ?_⟩
    have h13 := h12.fr0 f12
    (repeat (first | refine stp ?_ | (apply BND_inc; omega) | (apply BND_dec; omega) | refine BND_step (rfl : some _ = some _) ?_ | (apply cyes; first | assumption | omega) | (apply cno; first | assumption | omega) | refine (COND_true _ _).2 ?_ | refine (COND_false _ _).2 ?_ | simp (disch := first | assumption | omega) only [gs1, gs2, decide_true, decide_false, eq_self, beq_self_eq_true, Bool.not_true, Bool.not_false]))
    refine r6_Same (s11.fr f12 (by simp)).arr s12.arr (by simp; omega) fun w13 f13 => ?_
    rw [decide_eq_true rfl]
    have c13 := f13.some (by simp) c12
    refine ⟨c13, ?_⟩
    have h14 := h13.fr0 f13
    obtain ⟨A14, z14, _⟩ := At.zoom h14 1 rfl
    (repeat (first | refine stp ?_ | (apply BND_inc; omega) | (apply BND_dec; omega) | refine BND_step (rfl : some _ = some _) ?_ | (apply cyes; first | assumption | omega) | (apply cno; first | assumption | omega) | refine (COND_true _ _).2 ?_ | refine (COND_false _ _).2 ?_ | simp (disch := first | assumption | omega) only [gs1, gs2, decide_true, decide_false, eq_self, beq_self_eq_true, Bool.not_true, Bool.not_false]))
    refine dk_Held z14 hwf (by omega) (by omega) fun w14 f14 => ?_
    have c14 := f14.some (by simp) c13
    refine ⟨c14, ?_⟩
    have h15 := h14.fr0 f14
    obtain ⟨A15, z15, _⟩ := At.zoom h15 0 rfl
    (repeat (first | refine stp ?_ | (apply BND_inc; omega) | (apply BND_dec; omega) | refine BND_step (rfl : some _ = some _) ?_ | (apply cyes; first | assumption | omega) | (apply cno; first | assumption | omega) | refine (COND_true _ _).2 ?_ | refine (COND_false _ _).2 ?_ | simp (disch := first | assumption | omega) only [gs1, gs2, decide_true, decide_false, eq_self, beq_self_eq_true, Bool.not_true, Bool.not_false]))
    refine rf_Held z15 hwf (by omega) (by omega) fun w15 f15 => ?_
    have c15 := f15.some (by simp) c14
    refine ⟨c15, ?_⟩
    have h16 := h15.fr0 f15
    (repeat (first | (apply FLT_ld (fun _ h_ => h_); exact rfl) | refine stp ?_ | (apply BND_inc; omega) | (apply BND_dec; omega) | refine BND_step (rfl : some _ = some _) ?_ | (apply cyes; first | assumption | omega) | (apply cno; first | assumption | omega) | refine (COND_true _ _).2 ?_ | refine (COND_false _ _).2 ?_ | simp (disch := first | assumption | omega) only [gs1, gs2, decide_true, decide_false, eq_self, beq_self_eq_true, Bool.not_true, Bool.not_false]))
    obtain ⟨A16, z16, _⟩ := At.zoom h16 1 rfl
    refine dk_Down z16 ?_
    refine ⟨c15, ?_⟩
    have eb : binv .bool .neq (.bool s'.gone) (.bool s'.gone) = some (.bool false) := (binv_neb _ _).trans (by simp)
    (repeat (first | refine BND_step eb ?_ | refine stp ?_ | (apply BND_inc; omega) | (apply BND_dec; omega) | refine BND_step (rfl : some _ = some _) ?_ | (apply cyes; first | assumption | omega) | (apply cno; first | assumption | omega) | refine (COND_true _ _).2 ?_ | refine (COND_false _ _).2 ?_ | simp (disch := first | assumption | omega) only [gs1, gs2, decide_true, decide_false, eq_self, beq_self_eq_true, Bool.not_true, Bool.not_false]))
    obtain ⟨A17, z17, _⟩ := At.zoom h16 0 rfl
    refine rf_Names z17 hwf (by omega) fun w17 v17 G17 _ s17 g17 f17 => ?_
    have h17 := h16.fr0 f17
    have e17 := s17.len
    rw [List.length_map] at e17
    (repeat (first | refine BND_step e17 ?_ | refine stp ?_ | (apply BND_inc; omega) | (apply BND_dec; omega) | refine BND_step (rfl : some _ = some _) ?_ | (apply cyes; first | assumption | omega) | (apply cno; first | assumption | omega) | refine (COND_true _ _).2 ?_ | refine (COND_false _ _).2 ?_ | simp (disch := first | assumption | omega) only [gs1, gs2, decide_true, decide_false, eq_self, beq_self_eq_true, Bool.not_true, Bool.not_false]))
    refine loop_up 0 s'.now.length (fun k w' => Fr [] w17 w') (Fr.refl _ _) (by omega) ?_
    rintro k w18 - hk f18 J2 m2 hJ2
    have h18 := h17.fr0 f18
    by_cases hlt2 : k < s'.now.length
    · have hxk := List.getElem?_eq_getElem hlt2
      generalize s'.now[k] = y at hxk
      obtain ⟨b1, q1, i1, _, _, l1⟩ := (s17.fr f18 (by simp)).arr.spot (i := k) (x := y.1) (by rw [List.getElem?_map, hxk]; rfl) rfl .i64
      (repeat (first | refine BND_step i1 ?_ | (apply BND_step; exact (l1 (w' := w18) rfl (j := 0) rfl)) | refine stp ?_ | (apply BND_inc; omega) | (apply BND_dec; omega) | refine BND_step (rfl : some _ = some _) ?_ | (apply cyes; first | assumption | omega) | (apply cno; first | assumption | omega) | refine (COND_true _ _).2 ?_ | refine (COND_false _ _).2 ?_ | simp (disch := first | assumption | omega) only [gs1, gs2, decide_true, decide_false, eq_self, beq_self_eq_true, Bool.not_true, Bool.not_false]))
      obtain ⟨A18, z18, _⟩ := At.zoom h18 1 rfl
      refine dk_Read z18 hwf (by omega) y.1 fun w19 v19 G19 _ s19 g19 f19 => ?_
      (repeat (first | refine stp ?_ | (apply BND_inc; omega) | (apply BND_dec; omega) | refine BND_step (rfl : some _ = some _) ?_ | (apply cyes; first | assumption | omega) | (apply cno; first | assumption | omega) | refine (COND_true _ _).2 ?_ | refine (COND_false _ _).2 ?_ | simp (disch := first | assumption | omega) only [gs1, gs2, decide_true, decide_false, eq_self, beq_self_eq_true, Bool.not_true, Bool.not_false]))
      obtain ⟨A19, z19, _⟩ := At.zoom (h18.fr0 f19) 0 rfl
      refine rf_Read z19 hwf (by omega) y.1 fun w20 v20 G20 _ s20 g20 f20 => ?_
      (repeat (first | refine stp ?_ | (apply BND_inc; omega) | (apply BND_dec; omega) | refine BND_step (rfl : some _ = some _) ?_ | (apply cyes; first | assumption | omega) | (apply cno; first | assumption | omega) | refine (COND_true _ _).2 ?_ | refine (COND_false _ _).2 ?_ | simp (disch := first | assumption | omega) only [gs1, gs2, decide_true, decide_false, eq_self, beq_self_eq_true, Bool.not_true, Bool.not_false]))
      refine r1_Same (s19.fr f20 (by simp)).arr s20.arr (read_len inv' _) fun w21 f21 => ?_
      rw [decide_eq_true rfl]
      (repeat (first | refine stp ?_ | (apply BND_inc; omega) | (apply BND_dec; omega) | refine BND_step (rfl : some _ = some _) ?_ | (apply cyes; first | assumption | omega) | (apply cno; first | assumption | omega) | refine (COND_true _ _).2 ?_ | refine (COND_false _ _).2 ?_ | simp (disch := first | assumption | omega) only [gs1, gs2, decide_true, decide_false, eq_self, beq_self_eq_true, Bool.not_true, Bool.not_false]))
      exact hJ2 _ hlt2 (((f18.trans' f19).trans' f20).trans' f21)
    · (repeat (first | refine stp ?_ | (apply BND_inc; omega) | (apply BND_dec; omega) | refine BND_step (rfl : some _ = some _) ?_ | (apply cyes; first | assumption | omega) | (apply cno; first | assumption | omega) | refine (COND_true _ _).2 ?_ | refine (COND_false _ _).2 ?_ | simp (disch := first | assumption | omega) only [gs1, gs2, decide_true, decide_false, eq_self, beq_self_eq_true, Bool.not_true, Bool.not_false]))
      exact hJ _ hlt ⟨s', h18, inv', by omega, by omega⟩
  · (repeat (first | refine stp ?_ | (apply BND_inc; omega) | (apply BND_dec; omega) | refine BND_step (rfl : some _ = some _) ?_ | (apply cyes; first | assumption | omega) | (apply cno; first | assumption | omega) | refine (COND_true _ _).2 ?_ | refine (COND_false _ _).2 ?_ | simp (disch := first | assumption | omega) only [gs1, gs2, decide_true, decide_false, eq_self, beq_self_eq_true, Bool.not_true, Bool.not_false]))
    exact hR _ h5.frame
end
end Go.Proofs.Ytpefokoiioeomaa
