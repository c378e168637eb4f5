/- The law of a disk's room, walked. No condition. -/
import Derived.Test.YtpefokoiioeomaaDiskAwake
import Derived.Test.YtpefokoiioeomaaDiskInv2
import Derived.Test.YtpefokoiioeomaaMa
namespace Go.Proofs.Ytpefokoiioeomaa
open Go.Den Go.Disk
theorem loadn_all {w : World} {b n : Nat} {c : List Value} {T : Nat} {f : Nat × Nat} (h : blk w b = some (.cells c.toArray T f)) (hn : c.length = n) : loadn n w (.pointer (some ⟨b, 0, none⟩)) = some (.agg c.toArray) := by
  subst hn
  rw [loadn_blk h (by simp)]
  simp
theorem At.re3 {w0 w w' : World} {F0 : List Nat} {P : HP} (h : At w0 F0 P w) (f : Fr [] w w') : ∃ A, At w' A P w' ∧ (∀ b ∈ A, b < hsz w) ∧ (∀ b ∈ A, b ∈ F0 ∨ hsz w0 ≤ b) ∧ ∀ w2 P', At w' A P' w2 → At w0 F0 P' w2 := by
  obtain ⟨F, h1, h2, h3⟩ := h
  have f' : Fr F0 w0 w' := h3.trans' f.nil
  have gr := f'.grow
  refine ⟨F, At.start (P.fr h1 f (by simp)), P.lt h1, h2, fun w2 P' ⟨F', p1, p2, p3⟩ => ⟨F', p1, fun b hb => ?_, f'.trans p3 h2⟩⟩
  rcases p2 b hb with hb | hb
  · exact h2 b hb
  · exact .inr (by omega)
theorem act_room (s : Dk) (a : Act) (b : List UInt8) (tails : List Int) : (act s a b tails).1.room = s.room := by
  unfold act
  split; · simp only [create]; split <;> exact (can_keep s _).2.2
  split; · simp only [append, setF]; split <;> exact (can_keep s _).2.2
  split; · simp only [sync, setF]; split <;> exact (can_keep s _).2.2
  split; · simp only [cut, setF]; split <;> exact (can_keep s _).2.2
  split; · simp only [rename]; split <;> exact (can_keep s _).2.2
  split; · simp only [delete]; split <;> exact (can_keep s _).2.2
  split; · simp only [dirsync]; split <;> exact (can_keep s _).2.2
  split; · rfl
  split; · rfl
  rfl
theorem ptr_nil {d : Nat} : binv .ptr .eql (ptrTo d) (.pointer none) = some (.bool false) := rfl
theorem encA_one {w : World} {lv : Value} {xs : List FA} (h : Acts w lv xs) {x : FA} (hx : x ∈ xs) : ∀ u ∈ encA x.1, u.oneCell' = true := by
  intro u hu
  obtain ⟨o1, o2⟩ := h.one x hx
  simp only [encA, List.mem_cons, List.not_mem_nil, or_false] at hu
  rcases hu with rfl | rfl | rfl | rfl | rfl | rfl <;> first | rfl | assumption
theorem largeX_no {xs : List FA} (h : largeP xs = false) : xs.length ≤ 40 ∧ ∀ x ∈ xs, x.2.1.length ≤ 1000 ∧ x.2.2.length ≤ 1000 := by
  unfold largeP at h
  simp only [Bool.or_eq_false_iff, decide_eq_false_iff_not] at h
  refine ⟨by omega, fun x hx => ?_⟩
  have := List.any_eq_false.1 h.2 x hx
  unfold largeX at this
  simp only [Bool.or_eq_true, decide_eq_true_eq, not_or] at this
  omega
set_option linter.unusedSimpArgs false
set_option linter.unusedVariables false
set_option maxRecDepth 20000
set_option maxHeartbeats 4000000
attribute [local congr] BND_cg COND_cg GEF_cg
attribute [local irreducible] load1 loadn iaddr iaddra faddr storev newslice binv lookv mupd mdel mlenv mentry mestore slicev slicev3 slices indexs indexav textv rangev nexts clearv shiftv eqaggv convi buildv pickv lens lenl unv nilchk extractv partn JOIN
section
variable {w : World} {R : Value → World → Prop}
theorem dk_DiskRoom {lv : Value} {xs : List FA} (room : Int) (ha : Acts w lv xs) (hR : ∀ w', Fr [] w w' → R (.bool true) w') : CALL PR F_tumbrellaw06_DiskRoom [.int .i64 room, lv] w R := by
  refine C_tumbrellaw06_DiskRoom ?_
  unfold M_tumbrellaw06_DiskRoom
  refine dk_awake fun w1 f1 => ?_
  (repeat (first | refine stp ?_ | (apply BND_inc; omega) | (apply BND_dec; omega) | refine BND_step (rfl : some _ = some _) ?_ | (apply cyes; first | assumption | omega) | (apply cno; first | assumption | omega) | refine (COND_true _ _).2 ?_ | refine (COND_false _ _).2 ?_ | simp (disch := first | assumption | omega) only [gs1, gs2, decide_true, decide_false, eq_self, beq_self_eq_true, Bool.not_true, Bool.not_false]))
  refine dk_New room (fun _ => ?_) fun hroom w2 d h2 => ?_
  · (repeat (first | refine stp ?_ | (apply BND_inc; omega) | (apply BND_dec; omega) | refine BND_step (rfl : some _ = some _) ?_ | (apply cyes; first | assumption | omega) | (apply cno; first | assumption | omega) | refine (COND_true _ _).2 ?_ | refine (COND_false _ _).2 ?_ | simp (disch := first | assumption | omega) only [gs1, gs2, decide_true, decide_false, eq_self, beq_self_eq_true, Bool.not_true, Bool.not_false]))
    exact hR _ f1
  (repeat (first | refine BND_step ptr_nil ?_ | refine stp ?_ | (apply BND_inc; omega) | (apply BND_dec; omega) | refine BND_step (rfl : some _ = some _) ?_ | (apply cyes; first | assumption | omega) | (apply cno; first | assumption | omega) | refine (COND_true _ _).2 ?_ | refine (COND_false _ _).2 ?_ | simp (disch := first | assumption | omega) only [gs1, gs2, decide_true, decide_false, eq_self, beq_self_eq_true, Bool.not_true, Bool.not_false]))
  have f2 : Fr [] w w2 := f1.trans' h2.frame
  refine dk_large (ha.fr f2) fun w3 f3 => ?_
  cases hlg : largeP xs with
  | true =>
    (repeat (first | refine stp ?_ | (apply BND_inc; omega) | (apply BND_dec; omega) | refine BND_step (rfl : some _ = some _) ?_ | (apply cyes; first | assumption | omega) | (apply cno; first | assumption | omega) | refine (COND_true _ _).2 ?_ | refine (COND_false _ _).2 ?_ | simp (disch := first | assumption | omega) only [gs1, gs2, decide_true, decide_false, eq_self, beq_self_eq_true, Bool.not_true, Bool.not_false]))
    exact hR _ (f2.trans' f3)
  | false =>
  obtain ⟨hlen, hsm⟩ := largeX_no hlg
  have hlx := ha.arr.len
  rw [List.length_map] at hlx
  (repeat (first | refine BND_step hlx ?_ | refine stp ?_ | (apply BND_inc; omega) | (apply BND_dec; omega) | refine BND_step (rfl : some _ = some _) ?_ | (apply cyes; first | assumption | omega) | (apply cno; first | assumption | omega) | refine (COND_true _ _).2 ?_ | refine (COND_false _ _).2 ?_ | simp (disch := first | assumption | omega) only [gs1, gs2, decide_true, decide_false, eq_self, beq_self_eq_true, Bool.not_true, Bool.not_false]))
  have h3 : At w [] (diskHP d (empty room)) w3 := At.base f1 (h2.fr0 f3)
  refine loop_up 0 xs.length (fun i w' => ∃ s, At w [] (diskHP d s) w' ∧ Inv s ∧ s.room = room ∧ s.dirs.length ≤ i + 1 ∧ s.files.length ≤ i) ⟨empty room, h3, inv_empty hroom, rfl, by simp [empty], by simp [empty]⟩ (by omega) ?_
  rintro i w4 - hi ⟨s, h4, inv, hrm, hd1, hd2⟩ J m hJ
  by_cases hlt : i < xs.length
  · have hx := List.getElem?_eq_getElem hlt
    have hmem := List.getElem_mem hlt
    generalize xs[i] = x at hx hmem
    have ha4 := ha.fr h4.frame
    have o1 := encA_one ha4 hmem
    have hs1 := hsm _ hmem
    have hnum := ha.num _ hmem
    obtain ⟨a, b, t⟩ := x
    simp only at o1 hs1 hnum
    obtain ⟨bb, oo, ia, ln, _, _⟩ := ha4.arr.spot (x := a) (by rw [List.getElem?_map, hx]; rfl) rfl .i64
    (repeat (first | refine BND_step ia ?_ | refine BND_step ln ?_ | refine stp ?_ | (apply BND_inc; omega) | (apply BND_dec; omega) | refine BND_step (rfl : some _ = some _) ?_ | (apply cyes; first | assumption | omega) | (apply cno; first | assumption | omega) | refine (COND_true _ _).2 ?_ | refine (COND_false _ _).2 ?_ | simp (disch := first | assumption | omega) only [gs1, gs2, decide_true, decide_false, eq_self, beq_self_eq_true, Bool.not_true, Bool.not_false]))
    refine box_step (n := 6) (zs := [_, _, _, _, _, _]) (vs := encA a) rfl rfl o1 (by simp [encA]) fun w6 b6 f6 z6 => ?_
    have h6 := h4.fr0 f6
    refine dk_Down h6 ?_
    refine dk_Names h6 inv.wf (by omega) fun w8 v8 G8 h8 s8 g8 f8 => ?_
    refine dk_Held h8 inv.wf (by omega) (by omega) fun w9 f9 => ?_
    have f49 : Fr [] w4 w9 := (f6.trans' f8).trans' f9
    have b9 := (f8.trans' f9).some (by simp) b6
    (repeat (first | refine BND_step (loadn_all b9 rfl) ?_ | refine stp ?_ | (apply BND_inc; omega) | (apply BND_dec; omega) | refine BND_step (rfl : some _ = some _) ?_ | (apply cyes; first | assumption | omega) | (apply cno; first | assumption | omega) | refine (COND_true _ _).2 ?_ | refine (COND_false _ _).2 ?_ | simp (disch := first | assumption | omega) only [gs1, gs2, decide_true, decide_false, eq_self, beq_self_eq_true, Bool.not_true, Bool.not_false]))
    obtain ⟨A, ha9, hA, hA2, back⟩ := At.re3 h4 f49
    have f09 : Fr [] w w9 := h4.frame.trans' f49
    have hins := (ha.fr f09).ins _ hmem
    have toW : ∀ {w'}, Fr A w9 w' → Fr [] w w' := fun f => f09.trans f hA2
    have hpa : ∀ w', Fr A w9 w' → Arr encB 1 w' a.bv b ∧ Arr encI 1 w' a.tv t := fun w' f => (ha.fr (toW f)).ins _ hmem
    refine dk_do ha9 inv.wf (by omega) (by omega) a (b := b) (tails := t) (by omega) (fun w' f => (hpa w' f).1) (fun w' f => (hpa w' f).2) fun w10 v10 G10 h10 s10 g10 => ?_
    have inv' := inv_act inv a b t hnum
    have hmore := more_act s a b t inv.wf.ne
    have hrm' := act_room s a b t
    have hgone := @act_gone s
    generalize hact : act s a b t = y at h10 s10 inv' hmore hrm'
    obtain ⟨s', rd, e'⟩ := y
    simp only at h10 s10 inv' hmore hrm' ⊢
    have f10 := h10.frame
    have b10 := f10.keep (hsz w4) (blk_lt b9) (fun hb => by have := hA _ hb; omega)
    rw [b9] at b10
    have s8' : Slc encN 1 w10 v8 (s.now.map (·.1)) G8 := (s8.fr f9 (by simp)).fr f10 (fun b hb hb' => by
      have := hA b hb'; have := g8 b hb; have := f6.grow; omega)
    (repeat (first | refine stp ?_ | (apply BND_inc; omega) | (apply BND_dec; omega) | refine BND_step (rfl : some _ = some _) ?_ | (apply cyes; first | assumption | omega) | (apply cno; first | assumption | omega) | refine (COND_true _ _).2 ?_ | refine (COND_false _ _).2 ?_ | simp (disch := first | assumption | omega) only [gs1, gs2, decide_true, decide_false, eq_self, beq_self_eq_true, Bool.not_true, Bool.not_false]))
    refine dk_Held h10 inv'.wf (by omega) (by omega) fun w11 f11 => ?_
    have hroomy := inv'.roomy
    rw [hrm', hrm] at hroomy
    (repeat (first | refine stp ?_ | (apply BND_inc; omega) | (apply BND_dec; omega) | refine BND_step (rfl : some _ = some _) ?_ | (apply cyes; first | assumption | omega) | (apply cno; first | assumption | omega) | refine (COND_true _ _).2 ?_ | refine (COND_false _ _).2 ?_ | simp (disch := first | assumption | omega) only [gs1, gs2, decide_true, decide_false, eq_self, beq_self_eq_true, Bool.not_true, Bool.not_false]))
    refine dk_Held (h10.fr0 f11) inv'.wf (by omega) (by omega) fun w12 f12 => ?_
    have h12 := (h10.fr0 f11).fr0 f12
    have b12 := (f11.trans' f12).some (by simp) b10
    have hi12 : i < 1000000 := by omega
    have hbk : ∀ {w'}, At w9 A (diskHP d s') w' → At w [] (diskHP d s') w' := fun h => back _ _ h
    have tail : ∀ w16, Fr [] w12 w16 → (BND (load1 w16 (.pointer (some ⟨hsz w4, 0, none⟩))) fun t93_158 =>
        BND (binv .int .neq t93_158 (Value.int .i64 8)) fun t94_159 =>
        COND t94_159
        (BND (binv .int .add (.int .i64 (i : Int)) (Value.int .i64 1)) fun t121_160 =>
        (J t121_160 w16 ∧ m t121_160 w16 < m (.int .i64 (i : Int)) w4))
        (CALL PR F_disk_Disk_Names [ptrTo d] w16 fun t96_161 w17 =>
        BND (lenl t96_161) fun t97_162 =>
        ∃ (J_163 : Value → Value → World → Prop) (m_163 : Value → Value → World → Nat), J_163 (Value.int .i64 0) (Value.int .i64 0) w17 ∧ ∀ (_d_163 : Env) (t14_164 t98_168 : Value) (w18 : World), J_163 t14_164 t98_168 w18 →
        (BND (binv .int .lss t98_168 t97_162) fun t99_183 =>
        COND t99_183
        (BND (iaddr 1 t96_161 t98_168) fun t100_184 =>
        BND (load1 w18 t100_184) fun t101_185 =>
        CALL PR F_disk_Disk_Read [ptrTo d, t101_185] w18 fun t105_186 w19 =>
        BND (extractv t105_186 0) fun t106_187 =>
        BND (extractv t105_186 1) fun t107_188 =>
        BND (lenl t106_187) fun t110_189 =>
        BND (binv .int .add t14_164 t110_189) fun t111_190 =>
        BND (binv .int .add t98_168 (Value.int .i64 1)) fun t112_191 =>
        (J_163 t111_190 t112_191 w19 ∧ m_163 t111_190 t112_191 w19 < m_163 t14_164 t98_168 w18))
        (CALL PR F_disk_Disk_Held [ptrTo d] w18 fun t115_192 w20 =>
        BND (binv .int .neq t14_164 t115_192) fun t116_193 =>
        BND (grd (isB t116_193 false) (some (ptrTo d))) fun t118_194 =>
        GEF (isB t116_193 false) (fun k_ => CALL PR F_disk_Disk_Down [t118_194] w20 k_) w20 fun t119_195 w21 =>
        BND (pickv t116_193 (Value.bool true) t119_195) fun t120_196 =>
        COND t120_196
        (R (Value.bool false) w21)
        (BND (binv .int .add (.int .i64 (i : Int)) (Value.int .i64 1)) fun t121_197 =>
        (J t121_197 w21 ∧ m t121_197 w21 < m (.int .i64 (i : Int)) w4)))))) := by
      intro w16 f16
      have b16 := f16.some (by simp) b12
      have h16 := h12.fr0 f16
      by_cases q8 : a.dn = 8
      · (repeat (first | (apply BND_ld b16; exact rfl) | refine stp ?_ | (apply BND_inc; omega) | (apply BND_dec; omega) | refine BND_step (rfl : some _ = some _) ?_ | (apply cyes; first | assumption | omega) | (apply cno; first | assumption | omega) | refine (COND_true _ _).2 ?_ | refine (COND_false _ _).2 ?_ | simp (disch := first | assumption | omega) only [gs1, gs2, decide_true, decide_false, eq_self, beq_self_eq_true, Bool.not_true, Bool.not_false]))
        have hcr : s' = crash s a.n t ∧ e' = 0 := by
          unfold act at hact
          simp [q8] at hact
          exact ⟨hact.1.symm, hact.2.2.symm⟩
        obtain ⟨l, hl⟩ : ∃ l, s'.dirs = [l] := by rw [hcr.1]; exact ⟨_, rfl⟩
        have hg0 : s'.gone = false := by rw [hcr.1]; rfl
        have hnow : s'.now = l := by unfold Dk.now; rw [hl]; rfl
        have h60 := inv'.wf.many l (by rw [hl]; simp)
        refine dk_Names h16 inv'.wf (by omega) fun w17 v17 G17 h17 s17 g17 f17 => ?_
        rw [hnow] at s17
        (repeat (first | refine BND_step s17.len ?_ | refine stp ?_ | (apply BND_inc; omega) | (apply BND_dec; omega) | refine BND_step (rfl : some _ = some _) ?_ | (apply cyes; first | assumption | omega) | (apply cno; first | assumption | omega) | refine (COND_true _ _).2 ?_ | refine (COND_false _ _).2 ?_ | simp (disch := first | assumption | omega) only [gs1, gs2, decide_true, decide_false, eq_self, beq_self_eq_true, Bool.not_true, Bool.not_false]))
        refine loop_up2 (o := .int .i64 0) 0 (names l).length (fun o k w' => Fr [] w17 w' ∧ o = .int .i64 ((((l.take k).map fun x => (fileAt s' x.2).b.length).sum : Nat) : Int)) ⟨Fr.refl _ _, rfl⟩ (by omega) ?_
        rintro o k w18 - hk ⟨f18, rfl⟩ J2 m2 hJ2
        have hnl : (names l).length = l.length := by simp [names]
        have hnl2 : (l.map (·.1)).length = l.length := by simp
        have h18 := h17.fr0 f18
        have hbig : ((l.take k).map fun x => (fileAt s' x.2).b.length).sum ≤ 60 * 1048576 := by
          have : ∀ (l : Dir), (∀ x ∈ l, x.2 < s'.files.length) → (l.map fun x => (fileAt s' x.2).b.length).sum ≤ l.length * 1048576 := by
            intro l
            induction l with
            | nil => intro _; simp
            | cons y l ih =>
              intro h
              have h1 := ih fun x hx => h x (by simp [hx])
              have h2 := h y (by simp)
              have hx : fileAt s' y.2 ∈ s'.files := by
                unfold fileAt; rw [List.getD_eq_getElem?_getD, List.getElem?_eq_getElem h2]; exact List.getElem_mem h2
              have h3 := inv'.wf.small _ hx
              have h4 := inv'.wf.room
              simp only [List.map_cons, List.sum_cons, List.length_cons, Nat.add_mul]
              omega
          refine Nat.le_trans (this _ fun x hx => inv'.wf.idx l (by rw [hl]; simp) x (List.mem_of_mem_take hx)) (Nat.mul_le_mul_right _ ?_)
          rw [List.length_take]; omega
        by_cases hlt2 : k < (names l).length
        · have hlt3 : k < l.length := by omega
          have hxk := List.getElem?_eq_getElem hlt3
          obtain ⟨⟨nm, f⟩, hp⟩ : ∃ p, p = l[k] := ⟨_, rfl⟩
          rw [← hp] at hxk
          have hmk : (nm, f) ∈ l := List.mem_of_getElem? hxk
          have hnk : (l.map (·.1))[k]? = some nm := by rw [List.getElem?_map, hxk]; rfl
          obtain ⟨b1, o1, i1, _, _, l1⟩ := (s17.fr f18 (by simp)).arr.spot hnk rfl .i64
          (repeat (first | refine BND_step i1 ?_ | (apply BND_step; exact (l1 (w' := w18) rfl (j := 0) rfl)) | refine stp ?_ | (apply BND_inc; omega) | (apply BND_dec; omega) | refine BND_step (rfl : some _ = some _) ?_ | (apply cyes; first | assumption | omega) | (apply cno; first | assumption | omega) | refine (COND_true _ _).2 ?_ | refine (COND_false _ _).2 ?_ | simp (disch := first | assumption | omega) only [gs1, gs2, decide_true, decide_false, eq_self, beq_self_eq_true, Bool.not_true, Bool.not_false]))
          refine dk_Read h18 inv'.wf (by omega) nm fun w19 v19 G19 h19 s19 g19 f19 => ?_
          have hfd : findD s'.now nm = some f := by rw [hnow]; exact findD_of_mem (inv'.wf.rise l (by rw [hl]; simp)) hmk
          have hrd : Disk.read s' nm = ((fileAt s' f).b, 0) := by
            unfold Disk.read Dk.find
            rw [hfd, hg0]; rfl
          rw [hrd] at s19
          have hsmall := inv'.wf.small _ (List.mem_of_getElem? (wf_pick inv'.wf hfd))
          have hrm2 := inv'.wf.room
          have el := s19.len
          simp only at el
          (repeat (first | refine BND_step el ?_ | refine BND_step (addn_ (by omega)) ?_ | refine stp ?_ | (apply BND_inc; omega) | (apply BND_dec; omega) | refine BND_step (rfl : some _ = some _) ?_ | (apply cyes; first | assumption | omega) | (apply cno; first | assumption | omega) | refine (COND_true _ _).2 ?_ | refine (COND_false _ _).2 ?_ | simp (disch := first | assumption | omega) only [gs1, gs2, decide_true, decide_false, eq_self, beq_self_eq_true, Bool.not_true, Bool.not_false]))
          refine hJ2 _ w19 hlt2 ⟨f18.trans' f19, ?_⟩
          rw [List.take_add_one, hxk]
          simp
        · (repeat (first | refine stp ?_ | (apply BND_inc; omega) | (apply BND_dec; omega) | refine BND_step (rfl : some _ = some _) ?_ | (apply cyes; first | assumption | omega) | (apply cno; first | assumption | omega) | refine (COND_true _ _).2 ?_ | refine (COND_false _ _).2 ?_ | simp (disch := first | assumption | omega) only [gs1, gs2, decide_true, decide_false, eq_self, beq_self_eq_true, Bool.not_true, Bool.not_false]))
          refine dk_Held h18 inv'.wf (by omega) (by omega) fun w20 f20 => ?_
          rw [List.take_of_length_le (by omega), ← held_one inv' hl]
          (repeat (first | refine stp ?_ | (apply BND_inc; omega) | (apply BND_dec; omega) | refine BND_step (rfl : some _ = some _) ?_ | (apply cyes; first | assumption | omega) | (apply cno; first | assumption | omega) | refine (COND_true _ _).2 ?_ | refine (COND_false _ _).2 ?_ | simp (disch := first | assumption | omega) only [gs1, gs2, decide_true, decide_false, eq_self, beq_self_eq_true, Bool.not_true, Bool.not_false]))
          refine dk_Down (h18.fr0 f20) ?_
          rw [hg0]
          (repeat (first | refine stp ?_ | (apply BND_inc; omega) | (apply BND_dec; omega) | refine BND_step (rfl : some _ = some _) ?_ | (apply cyes; first | assumption | omega) | (apply cno; first | assumption | omega) | refine (COND_true _ _).2 ?_ | refine (COND_false _ _).2 ?_ | simp (disch := first | assumption | omega) only [gs1, gs2, decide_true, decide_false, eq_self, beq_self_eq_true, Bool.not_true, Bool.not_false]))
          exact hJ _ hlt ⟨s', hbk (h18.fr0 f20), inv', by rw [hrm', hrm], by omega, by omega⟩
      · (repeat (first | (apply BND_ld b16; exact rfl) | refine stp ?_ | (apply BND_inc; omega) | (apply BND_dec; omega) | refine BND_step (rfl : some _ = some _) ?_ | (apply cyes; first | assumption | omega) | (apply cno; first | assumption | omega) | refine (COND_true _ _).2 ?_ | refine (COND_false _ _).2 ?_ | simp (disch := first | assumption | omega) only [gs1, gs2, decide_true, decide_false, eq_self, beq_self_eq_true, Bool.not_true, Bool.not_false]))
        exact hJ _ hlt ⟨s', hbk h16, inv', by rw [hrm', hrm], by omega, by omega⟩
    (repeat (first | refine stp ?_ | (apply BND_inc; omega) | (apply BND_dec; omega) | refine BND_step (rfl : some _ = some _) ?_ | (apply cyes; first | assumption | omega) | (apply cno; first | assumption | omega) | refine (COND_true _ _).2 ?_ | refine (COND_false _ _).2 ?_ | simp (disch := first | assumption | omega) only [gs1, gs2, decide_true, decide_false, eq_self, beq_self_eq_true, Bool.not_true, Bool.not_false]))
    cases hg : s.gone with
    | false =>
      (repeat (first | refine stp ?_ | (apply BND_inc; omega) | (apply BND_dec; omega) | refine BND_step (rfl : some _ = some _) ?_ | (apply cyes; first | assumption | omega) | (apply cno; first | assumption | omega) | refine (COND_true _ _).2 ?_ | refine (COND_false _ _).2 ?_ | simp (disch := first | assumption | omega) only [gs1, gs2, decide_true, decide_false, eq_self, beq_self_eq_true, Bool.not_true, Bool.not_false]))
      exact tail _ (Fr.refl _ _)
    | true =>
      (repeat (first | (apply BND_ld b12; exact rfl) | refine stp ?_ | (apply BND_inc; omega) | (apply BND_dec; omega) | refine BND_step (rfl : some _ = some _) ?_ | (apply cyes; first | assumption | omega) | (apply cno; first | assumption | omega) | refine (COND_true _ _).2 ?_ | refine (COND_false _ _).2 ?_ | simp (disch := first | assumption | omega) only [gs1, gs2, decide_true, decide_false, eq_self, beq_self_eq_true, Bool.not_true, Bool.not_false]))
      by_cases q7 : a.dn = 7
      · (repeat (first | refine stp ?_ | (apply BND_inc; omega) | (apply BND_dec; omega) | refine BND_step (rfl : some _ = some _) ?_ | (apply cyes; first | assumption | omega) | (apply cno; first | assumption | omega) | refine (COND_true _ _).2 ?_ | refine (COND_false _ _).2 ?_ | simp (disch := first | assumption | omega) only [gs1, gs2, decide_true, decide_false, eq_self, beq_self_eq_true, Bool.not_true, Bool.not_false]))
        exact tail _ (Fr.refl _ _)
      (repeat (first | (apply BND_ld b12; exact rfl) | refine stp ?_ | (apply BND_inc; omega) | (apply BND_dec; omega) | refine BND_step (rfl : some _ = some _) ?_ | (apply cyes; first | assumption | omega) | (apply cno; first | assumption | omega) | refine (COND_true _ _).2 ?_ | refine (COND_false _ _).2 ?_ | simp (disch := first | assumption | omega) only [gs1, gs2, decide_true, decide_false, eq_self, beq_self_eq_true, Bool.not_true, Bool.not_false]))
      by_cases q8 : a.dn = 8
      · (repeat (first | refine stp ?_ | (apply BND_inc; omega) | (apply BND_dec; omega) | refine BND_step (rfl : some _ = some _) ?_ | (apply cyes; first | assumption | omega) | (apply cno; first | assumption | omega) | refine (COND_true _ _).2 ?_ | refine (COND_false _ _).2 ?_ | simp (disch := first | assumption | omega) only [gs1, gs2, decide_true, decide_false, eq_self, beq_self_eq_true, Bool.not_true, Bool.not_false]))
        exact tail _ (Fr.refl _ _)
      rw [hgone hg a b t q7 q8] at hact
      cases hact
      (repeat (first | refine stp ?_ | (apply BND_inc; omega) | (apply BND_dec; omega) | refine BND_step (rfl : some _ = some _) ?_ | (apply cyes; first | assumption | omega) | (apply cno; first | assumption | omega) | refine (COND_true _ _).2 ?_ | refine (COND_false _ _).2 ?_ | simp (disch := first | assumption | omega) only [gs1, gs2, decide_true, decide_false, eq_self, beq_self_eq_true, Bool.not_true, Bool.not_false]))
      refine dk_Down h12 ?_
      rw [hg]
      (repeat (first | refine stp ?_ | (apply BND_inc; omega) | (apply BND_dec; omega) | refine BND_step (rfl : some _ = some _) ?_ | (apply cyes; first | assumption | omega) | (apply cno; first | assumption | omega) | refine (COND_true _ _).2 ?_ | refine (COND_false _ _).2 ?_ | simp (disch := first | assumption | omega) only [gs1, gs2, decide_true, decide_false, eq_self, beq_self_eq_true, Bool.not_true, Bool.not_false]))
      refine dk_Names h12 inv.wf (by omega) fun w14 v14 G14 h14 s14 g14 f14 => ?_
      (repeat (first | refine stp ?_ | (apply BND_inc; omega) | (apply BND_dec; omega) | refine BND_step (rfl : some _ = some _) ?_ | (apply cyes; first | assumption | omega) | (apply cno; first | assumption | omega) | refine (COND_true _ _).2 ?_ | refine (COND_false _ _).2 ?_ | simp (disch := first | assumption | omega) only [gs1, gs2, decide_true, decide_false, eq_self, beq_self_eq_true, Bool.not_true, Bool.not_false]))
      have h60 := inv.wf.many _ (now_mem inv.wf)
      refine r6_Same s14.arr (((s8'.fr f11 (by simp)).fr f12 (by simp)).fr f14 (by simp)).arr (by simp; omega) fun w15 f15 => ?_
      rw [decide_eq_true rfl]
      (repeat (first | refine stp ?_ | (apply BND_inc; omega) | (apply BND_dec; omega) | refine BND_step (rfl : some _ = some _) ?_ | (apply cyes; first | assumption | omega) | (apply cno; first | assumption | omega) | refine (COND_true _ _).2 ?_ | refine (COND_false _ _).2 ?_ | simp (disch := first | assumption | omega) only [gs1, gs2, decide_true, decide_false, eq_self, beq_self_eq_true, Bool.not_true, Bool.not_false]))
      refine dk_Held (h14.fr0 f15) inv.wf (by omega) (by omega) fun w16 f16 => ?_
      (repeat (first | refine stp ?_ | (apply BND_inc; omega) | (apply BND_dec; omega) | refine BND_step (rfl : some _ = some _) ?_ | (apply cyes; first | assumption | omega) | (apply cno; first | assumption | omega) | refine (COND_true _ _).2 ?_ | refine (COND_false _ _).2 ?_ | simp (disch := first | assumption | omega) only [gs1, gs2, decide_true, decide_false, eq_self, beq_self_eq_true, Bool.not_true, Bool.not_false]))
      exact tail _ ((f14.trans' f15).trans' f16)
  · (repeat (first | refine stp ?_ | (apply BND_inc; omega) | (apply BND_dec; omega) | refine BND_step (rfl : some _ = some _) ?_ | (apply cyes; first | assumption | omega) | (apply cno; first | assumption | omega) | refine (COND_true _ _).2 ?_ | refine (COND_false _ _).2 ?_ | simp (disch := first | assumption | omega) only [gs1, gs2, decide_true, decide_false, eq_self, beq_self_eq_true, Bool.not_true, Bool.not_false]))
    exact hR _ h4.frame
end
end Go.Proofs.Ytpefokoiioeomaa
