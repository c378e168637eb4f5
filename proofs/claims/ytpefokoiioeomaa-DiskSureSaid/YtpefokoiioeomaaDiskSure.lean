/- The law of what is sure, walked. No condition. -/
import Derived.Test.YtpefokoiioeomaaDiskSureP
import Derived.Test.YtpefokoiioeomaaMa
namespace Go.Proofs.Ytpefokoiioeomaa
open Go.Den Go.Disk
set_option linter.unusedSimpArgs false
set_option linter.unusedVariables false
set_option maxRecDepth 20000
set_option maxHeartbeats 4000000
attribute [local congr] BND_cg COND_cg GEF_cg
attribute [local irreducible] load1 loadn iaddr iaddra faddr storev newslice binv lookv mupd mdel mlenv mentry mestore slicev slicev3 slices indexs indexav textv rangev nexts clearv shiftv eqaggv convi buildv pickv lens lenl unv nilchk extractv partn JOIN
section
variable {w : World} {R : Value → World → Prop}
theorem dk_DiskSure {lv fv tv : Value} {xs : List FA} {fs : List UInt8} {ts : List Int} (nm : ByteArray) (op : Int) (hf : Arr encB 1 w fv fs) (ha : Acts w lv xs) (ht : Arr encI 1 w tv ts) (hR : ∀ w', Fr [] w w' → R (.bool true) w') : CALL PR F_tumbrellaw06_DiskSure [.string nm, fv, lv, .int .i64 op, tv] w R := by
  refine C_tumbrellaw06_DiskSure ?_
  unfold M_tumbrellaw06_DiskSure
  refine dk_awake fun w1 f1 => ?_
  (repeat (first | refine stp ?_ | (apply BND_inc; omega) | (apply BND_dec; omega) | refine BND_step (rfl : some _ = some _) ?_ | (apply cyes; first | assumption | omega) | (apply cno; first | assumption | omega) | refine (COND_true _ _).2 ?_ | refine (COND_false _ _).2 ?_ | simp (disch := first | assumption | omega) only [gs1, gs2, decide_true, decide_false, eq_self, beq_self_eq_true, Bool.not_true, Bool.not_false]))
  refine dk_large (ha.fr f1) fun w2 f2 => ?_
  have f02 := f1.trans' f2
  cases hlg : largeP xs with
  | true =>
    (repeat (first | refine stp ?_ | (apply BND_inc; omega) | (apply BND_dec; omega) | refine BND_step (rfl : some _ = some _) ?_ | (apply cyes; first | assumption | omega) | (apply cno; first | assumption | omega) | refine (COND_true _ _).2 ?_ | refine (COND_false _ _).2 ?_ | simp (disch := first | assumption | omega) only [gs1, gs2, decide_true, decide_false, eq_self, beq_self_eq_true, Bool.not_true, Bool.not_false]))
    exact hR _ f02
  | false =>
  obtain ⟨hlen, hsm⟩ := largeX_no hlg
  have hlx := ha.arr.len
  rw [List.length_map] at hlx
  (repeat (first | refine BND_step hf.len ?_ | refine stp ?_ | (apply BND_inc; omega) | (apply BND_dec; omega) | refine BND_step (rfl : some _ = some _) ?_ | (apply cyes; first | assumption | omega) | (apply cno; first | assumption | omega) | refine (COND_true _ _).2 ?_ | refine (COND_false _ _).2 ?_ | simp (disch := first | assumption | omega) only [gs1, gs2, decide_true, decide_false, eq_self, beq_self_eq_true, Bool.not_true, Bool.not_false]))
  by_cases hfl : 1000 < fs.length
  · (repeat (first | refine stp ?_ | (apply BND_inc; omega) | (apply BND_dec; omega) | refine BND_step (rfl : some _ = some _) ?_ | (apply cyes; first | assumption | omega) | (apply cno; first | assumption | omega) | refine (COND_true _ _).2 ?_ | refine (COND_false _ _).2 ?_ | simp (disch := first | assumption | omega) only [gs1, gs2, decide_true, decide_false, eq_self, beq_self_eq_true, Bool.not_true, Bool.not_false]))
    exact hR _ f02
  (repeat (first | refine BND_step ht.len ?_ | refine stp ?_ | (apply BND_inc; omega) | (apply BND_dec; omega) | refine BND_step (rfl : some _ = some _) ?_ | (apply cyes; first | assumption | omega) | (apply cno; first | assumption | omega) | refine (COND_true _ _).2 ?_ | refine (COND_false _ _).2 ?_ | simp (disch := first | assumption | omega) only [gs1, gs2, decide_true, decide_false, eq_self, beq_self_eq_true, Bool.not_true, Bool.not_false]))
  by_cases htl : 1000 < ts.length
  · (repeat (first | refine stp ?_ | (apply BND_inc; omega) | (apply BND_dec; omega) | refine BND_step (rfl : some _ = some _) ?_ | (apply cyes; first | assumption | omega) | (apply cno; first | assumption | omega) | refine (COND_true _ _).2 ?_ | refine (COND_false _ _).2 ?_ | simp (disch := first | assumption | omega) only [gs1, gs2, decide_true, decide_false, eq_self, beq_self_eq_true, Bool.not_true, Bool.not_false]))
    exact hR _ f02
  (repeat (first | refine stp ?_ | (apply BND_inc; omega) | (apply BND_dec; omega) | refine BND_step (rfl : some _ = some _) ?_ | (apply cyes; first | assumption | omega) | (apply cno; first | assumption | omega) | refine (COND_true _ _).2 ?_ | refine (COND_false _ _).2 ?_ | simp (disch := first | assumption | omega) only [gs1, gs2, decide_true, decide_false, eq_self, beq_self_eq_true, Bool.not_true, Bool.not_false]))
  refine dk_New 131072 (fun h => by omega) fun _ w3 d h3 => ?_
  (repeat (first | refine BND_step ptr_nil ?_ | refine stp ?_ | (apply BND_inc; omega) | (apply BND_dec; omega) | refine BND_step (rfl : some _ = some _) ?_ | (apply cyes; first | assumption | omega) | (apply cno; first | assumption | omega) | refine (COND_true _ _).2 ?_ | refine (COND_false _ _).2 ?_ | simp (disch := first | assumption | omega) only [gs1, gs2, decide_true, decide_false, eq_self, beq_self_eq_true, Bool.not_true, Bool.not_false]))
  have hroom : (16 : Int) ≤ 131072 ∧ (131072 : Int) ≤ 1048576 := by omega
  have i0 := inv_empty hroom
  refine dk_Create h3 i0.wf (by simp [empty]) nm fun w4 h4 => ?_
  have i1 := inv_create i0 nm
  have m1 := more_act (empty 131072) ⟨0, 0, nm, nm, .slice none 0 0, .slice none 0 0⟩ [] [] i0.wf.ne
  simp only [act, if_true] at m1
  have hd0 : (empty 131072).dirs.length = 1 := rfl
  have hf0 : (empty 131072).files.length = 0 := rfl
  by_cases hc' : (create (empty 131072) nm).2 ≠ 0
  · (repeat (first | refine stp ?_ | (apply BND_inc; omega) | (apply BND_dec; omega) | refine BND_step (rfl : some _ = some _) ?_ | (apply cyes; first | assumption | omega) | (apply cno; first | assumption | omega) | refine (COND_true _ _).2 ?_ | refine (COND_false _ _).2 ?_ | simp (disch := first | assumption | omega) only [gs1, gs2, decide_true, decide_false, eq_self, beq_self_eq_true, Bool.not_true, Bool.not_false]))
    exact hR _ (f02.trans' h4.frame)
  have hc : (create (empty 131072) nm).2 = 0 := by omega
  obtain ⟨e2, e3, e4, e5⟩ := sure_start (b := fs) hc (by omega)
  (repeat (first | refine stp ?_ | (apply BND_inc; omega) | (apply BND_dec; omega) | refine BND_step (rfl : some _ = some _) ?_ | (apply cyes; first | assumption | omega) | (apply cno; first | assumption | omega) | refine (COND_true _ _).2 ?_ | refine (COND_false _ _).2 ?_ | simp (disch := first | assumption | omega) only [gs1, gs2, decide_true, decide_false, eq_self, beq_self_eq_true, Bool.not_true, Bool.not_false]))
  have f04 := f02.trans' h4.frame
  refine dk_Append h4 i1.wf (by omega) (by omega) nm (u := fv) (bs := fs) (by omega) hf.len (fun w' f => ((hf.fr f02 (by simp)).fr f (by simp)).src encB_len (by omega)) fun w5 h5 => ?_
  have i2 := inv_append i1 nm fs
  have m2 := more_act (create (empty 131072) nm).1 ⟨1, 0, nm, nm, .slice none 0 0, .slice none 0 0⟩ fs [] i1.wf.ne
  simp only [act, Int.reduceEq, if_false, if_true] at m2
  rw [e2]
  (repeat (first | refine stp ?_ | (apply BND_inc; omega) | (apply BND_dec; omega) | refine BND_step (rfl : some _ = some _) ?_ | (apply cyes; first | assumption | omega) | (apply cno; first | assumption | omega) | refine (COND_true _ _).2 ?_ | refine (COND_false _ _).2 ?_ | simp (disch := first | assumption | omega) only [gs1, gs2, decide_true, decide_false, eq_self, beq_self_eq_true, Bool.not_true, Bool.not_false]))
  refine dk_Sync h5 i2.wf (by omega) nm fun w6 h6 => ?_
  have i3 := inv_sync i2 nm
  have m3 := more_act (append (create (empty 131072) nm).1 nm fs).1 ⟨2, 0, nm, nm, .slice none 0 0, .slice none 0 0⟩ fs [] i2.wf.ne
  simp only [act, Int.reduceEq, if_false, if_true] at m3
  rw [e3]
  (repeat (first | refine stp ?_ | (apply BND_inc; omega) | (apply BND_dec; omega) | refine BND_step (rfl : some _ = some _) ?_ | (apply cyes; first | assumption | omega) | (apply cno; first | assumption | omega) | refine (COND_true _ _).2 ?_ | refine (COND_false _ _).2 ?_ | simp (disch := first | assumption | omega) only [gs1, gs2, decide_true, decide_false, eq_self, beq_self_eq_true, Bool.not_true, Bool.not_false]))
  refine dk_DirSync h6 i3.wf (by omega) fun w7 h7 => ?_
  have i4 := inv_dirsync i3
  rw [e5] at h7 i4
  rw [e4]
  (repeat (first | refine stp ?_ | (apply BND_inc; omega) | (apply BND_dec; omega) | refine BND_step (rfl : some _ = some _) ?_ | (apply cyes; first | assumption | omega) | (apply cno; first | assumption | omega) | refine (COND_true _ _).2 ?_ | refine (COND_false _ _).2 ?_ | simp (disch := first | assumption | omega) only [gs1, gs2, decide_true, decide_false, eq_self, beq_self_eq_true, Bool.not_true, Bool.not_false]))
  have h7' := At.base f02 h7
  refine newnil_step encB fun v8 w8 s8 f8 g8 => ?_
  have h8 : At w [] (stars [slc encB 1 v8 [], diskHP d (sure4 nm fs)]) w8 := (At.wrap h7').add f8 s8 (fun b hb => by simp at hb; omega)
  refine h8.append (i := 0) (ys := fs) rfl ((hf.fr h8.frame (by simp)).src encB_len (by omega)) encB_len encB_one rfl (by omega) (by simp; omega) fun v9 w9 h9 _ => ?_
  (repeat (first | refine BND_step hlx ?_ | refine stp ?_ | (apply BND_inc; omega) | (apply BND_dec; omega) | refine BND_step (rfl : some _ = some _) ?_ | (apply cyes; first | assumption | omega) | (apply cno; first | assumption | omega) | refine (COND_true _ _).2 ?_ | refine (COND_false _ _).2 ?_ | simp (disch := first | assumption | omega) only [gs1, gs2, decide_true, decide_false, eq_self, beq_self_eq_true, Bool.not_true, Bool.not_false]))
  refine loop_up2 (o := v9) 0 xs.length (fun o i w' => ∃ all s, At w [] (stars [slc encB 1 o all, diskHP d s]) w' ∧ Inv s ∧ Kept nm 0 s all fs.length ∧ s.dirs.length ≤ i + 1 ∧ s.files.length ≤ i + 1 ∧ all.length ≤ 1000 + i * 1000)
    ⟨fs, sure4 nm fs, h9, i4, kept_start nm fs, by simp [sure4], by simp [sure4], by omega⟩ (by omega) ?_
  rintro o i w10 - hi ⟨all, s, h10, inv, kept, hd1, hd2, hal⟩ J m hJ
  by_cases hlt : i < xs.length
  · have hx := List.getElem?_eq_getElem hlt
    have hmem := List.getElem_mem hlt
    generalize xs[i] = x at hx hmem
    have ha10 := ha.fr h10.frame
    have o1 := encA_one ha10 hmem
    have hs1 := hsm _ hmem
    have hnum := ha.num _ hmem
    obtain ⟨a, b, t⟩ := x
    simp only at o1 hs1 hnum
    obtain ⟨bb, oo, ia, ln, _, _⟩ := ha10.arr.spot (x := a) (by rw [List.getElem?_map, hx]; rfl) rfl .i64
    (repeat (first | refine BND_step ia ?_ | refine BND_step ln ?_ | refine stp ?_ | (apply BND_inc; omega) | (apply BND_dec; omega) | refine BND_step (rfl : some _ = some _) ?_ | (apply cyes; first | assumption | omega) | (apply cno; first | assumption | omega) | refine (COND_true _ _).2 ?_ | refine (COND_false _ _).2 ?_ | simp (disch := first | assumption | omega) only [gs1, gs2, decide_true, decide_false, eq_self, beq_self_eq_true, Bool.not_true, Bool.not_false]))
    refine box_step (n := 6) (zs := [_, _, _, _, _, _]) (vs := encA a) rfl rfl o1 (by simp [encA]) fun w12 b12 f12 z12 => ?_
    have h12 := h10.fr0 f12
    have skip : J o (.int .i64 ((i + 1 : Nat) : Int)) w12 ∧ m o (.int .i64 ((i + 1 : Nat) : Int)) w12 < m o (.int .i64 (i : Int)) w10 :=
      hJ _ w12 hlt ⟨all, s, h12, inv, kept, by omega, by omega, by omega⟩
    have goon : a.dn ≠ 8 → (a.dn ≠ 1 → a.nm ≠ nm ∧ a.to ≠ nm) → (BND (loadn 6 w12 (.pointer (some ⟨hsz w10, 0, none⟩))) fun t91_109 =>
        CALL PR F_tumbrellaw06_do [ptrTo d, t91_109] w12 fun t92_110 w13 =>
        BND (extractv t92_110 0) fun t93_111 =>
        BND (extractv t92_110 1) fun t94_112 =>
        BND (faddr 0 (.pointer (some ⟨hsz w10, 0, none⟩))) fun t95_113 =>
        BND (load1 w13 t95_113) fun t96_114 =>
        BND (binv .int .eql t96_114 (Value.int .i64 1)) fun t97_115 =>
        BND (grd (isB t97_115 true) (faddr 2 (.pointer (some ⟨hsz w10, 0, none⟩)))) fun t99_116 =>
        BND (grd (isB t97_115 true) (load1 w13 t99_116)) fun t100_117 =>
        BND (grd (isB t97_115 true) (some (.string nm))) fun t101_118 =>
        BND (grd (isB t97_115 true) (binv .str .eql t100_117 t101_118)) fun t102_119 =>
        BND (pickv t97_115 t102_119 (Value.bool false)) fun t103_120 =>
        BND (grd (isB t103_120 true) (some t94_112)) fun t105_121 =>
        BND (grd (isB t103_120 true) (binv .int .eql t105_121 (Value.int .i64 0))) fun t106_122 =>
        BND (pickv t103_120 t106_122 (Value.bool false)) fun t107_123 =>
        JOIN (α := Value → World → Prop) (fun k_130 => COND t107_123
        (BND (faddr 4 (.pointer (some ⟨hsz w10, 0, none⟩))) fun t109_131 =>
        BND (load1 w13 t109_131) fun t110_132 =>
        APPEND 5 1 1 (Value.int .u8 0) o t110_132 w13 fun t111_133 w15 =>
        k_130 t111_133 w15)
        (k_130 o w13))
        (fun t13_124 w14 => BND (binv .int .add (.int .i64 (i : Int)) (Value.int .i64 1)) fun t112_129 =>
        (J t13_124 t112_129 w14 ∧ m t13_124 t112_129 w14 < m o (.int .i64 (i : Int)) w10))) := by
      intro q8 ho
      (repeat (first | refine BND_step (loadn_all b12 rfl) ?_ | refine stp ?_ | (apply BND_inc; omega) | (apply BND_dec; omega) | refine BND_step (rfl : some _ = some _) ?_ | (apply cyes; first | assumption | omega) | (apply cno; first | assumption | omega) | refine (COND_true _ _).2 ?_ | refine (COND_false _ _).2 ?_ | simp (disch := first | assumption | omega) only [gs1, gs2, decide_true, decide_false, eq_self, beq_self_eq_true, Bool.not_true, Bool.not_false]))
      obtain ⟨A, hz, hA, hA2, back⟩ := At.zoom3 h10 f12 1 rfl
      have f012 := h12.frame
      have hins : ∀ w', Fr [] w w' → Arr encB 1 w' a.bv b ∧ Arr encI 1 w' a.tv t := fun w' f => (ha.fr f).ins _ hmem
      refine dk_do hz inv.wf (by omega) (by omega) a (b := b) (tails := t) (by omega) (fun w' f => (hins w' (f012.trans f hA2)).1) (fun w' f => (hins w' (f012.trans f hA2)).2) fun w13 v13 G13 h13 s13 g13 => ?_
      have b13 := h13.frame.keep (hsz w10) (blk_lt b12) (fun hb => by have := hA _ hb; omega)
      rw [b12] at b13
      have inv' := inv_act inv a b t hnum
      have kept' := kept_act inv kept a b t q8 ho
      have hmore := more_act s a b t inv.wf.ne
      have h13' := back _ _ h13
      have fin : ∀ v w', At w [] (stars [slc encB 1 v (allAt nm s a b t all), diskHP d (act s a b t).1]) w' → J v (.int .i64 ((i + 1 : Nat) : Int)) w' ∧ m v (.int .i64 ((i + 1 : Nat) : Int)) w' < m o (.int .i64 (i : Int)) w10 := fun v w' h =>
        hJ _ _ hlt ⟨_, _, h, inv', kept', by omega, by omega, by unfold allAt; split <;> (try rw [List.length_append]) <;> omega⟩
      generalize hal' : allAt nm s a b t all = all' at fin
      unfold allAt at hal'
      clear kept'
      generalize act s a b t = y at h13 h13' s13 fin hal'
      obtain ⟨s', rd, e'⟩ := y
      simp only at h13 h13' s13 fin hal' ⊢
      (repeat (first | (apply BND_ld b13; exact rfl) | refine stp ?_ | (apply BND_inc; omega) | (apply BND_dec; omega) | refine BND_step (rfl : some _ = some _) ?_ | (apply cyes; first | assumption | omega) | (apply cno; first | assumption | omega) | refine (COND_true _ _).2 ?_ | refine (COND_false _ _).2 ?_ | simp (disch := first | assumption | omega) only [gs1, gs2, decide_true, decide_false, eq_self, beq_self_eq_true, Bool.not_true, Bool.not_false]))
      by_cases q1 : a.dn = 1
      · (repeat (first | (apply BND_ld b13; exact rfl) | refine BND_step (steq _ _) ?_ | refine stp ?_ | (apply BND_inc; omega) | (apply BND_dec; omega) | refine BND_step (rfl : some _ = some _) ?_ | (apply cyes; first | assumption | omega) | (apply cno; first | assumption | omega) | refine (COND_true _ _).2 ?_ | refine (COND_false _ _).2 ?_ | simp (disch := first | assumption | omega) only [gs1, gs2, decide_true, decide_false, eq_self, beq_self_eq_true, Bool.not_true, Bool.not_false]))
        by_cases hn : a.nm = nm
        · (repeat (first | refine stp ?_ | (apply BND_inc; omega) | (apply BND_dec; omega) | refine BND_step (rfl : some _ = some _) ?_ | (apply cyes; first | assumption | omega) | (apply cno; first | assumption | omega) | refine (COND_true _ _).2 ?_ | refine (COND_false _ _).2 ?_ | simp (disch := first | assumption | omega) only [gs1, gs2, decide_true, decide_false, eq_self, beq_self_eq_true, Bool.not_true, Bool.not_false]))
          by_cases e0 : e' = 0
          · rw [if_pos ⟨q1, hn, e0⟩] at hal'
            subst hal'
            (repeat (first | (apply BND_ld b13; exact rfl) | refine stp ?_ | (apply BND_inc; omega) | (apply BND_dec; omega) | refine BND_step (rfl : some _ = some _) ?_ | (apply cyes; first | assumption | omega) | (apply cno; first | assumption | omega) | refine (COND_true _ _).2 ?_ | refine (COND_false _ _).2 ?_ | simp (disch := first | assumption | omega) only [gs1, gs2, decide_true, decide_false, eq_self, beq_self_eq_true, Bool.not_true, Bool.not_false]))
            refine join_v (Q := fun v w' => At w [] (stars [slc encB 1 v (all ++ b), diskHP d s']) w') (fun k hk => ?_) (fun v w' h => ?_)
            · (repeat (first | (apply BND_ld b13; exact rfl) | refine stp ?_ | (apply BND_inc; omega) | (apply BND_dec; omega) | refine BND_step (rfl : some _ = some _) ?_ | (apply cyes; first | assumption | omega) | (apply cno; first | assumption | omega) | refine (COND_true _ _).2 ?_ | refine (COND_false _ _).2 ?_ | simp (disch := first | assumption | omega) only [gs1, gs2, decide_true, decide_false, eq_self, beq_self_eq_true, Bool.not_true, Bool.not_false]))
              refine h13'.append (i := 0) rfl (((hins w13 h13'.frame).1).src encB_len (by omega)) encB_len encB_one rfl (by omega) (by omega) fun v15 w15 h15 _ => ?_
              (repeat (first | refine stp ?_ | (apply BND_inc; omega) | (apply BND_dec; omega) | refine BND_step (rfl : some _ = some _) ?_ | (apply cyes; first | assumption | omega) | (apply cno; first | assumption | omega) | refine (COND_true _ _).2 ?_ | refine (COND_false _ _).2 ?_ | simp (disch := first | assumption | omega) only [gs1, gs2, decide_true, decide_false, eq_self, beq_self_eq_true, Bool.not_true, Bool.not_false]))
              exact hk _ _ h15
            · (repeat (first | refine stp ?_ | (apply BND_inc; omega) | (apply BND_dec; omega) | refine BND_step (rfl : some _ = some _) ?_ | (apply cyes; first | assumption | omega) | (apply cno; first | assumption | omega) | refine (COND_true _ _).2 ?_ | refine (COND_false _ _).2 ?_ | simp (disch := first | assumption | omega) only [gs1, gs2, decide_true, decide_false, eq_self, beq_self_eq_true, Bool.not_true, Bool.not_false]))
              exact fin _ _ h
          · rw [if_neg (fun h => e0 h.2.2)] at hal'
            subst hal'
            (repeat (first | refine stp ?_ | (apply BND_inc; omega) | (apply BND_dec; omega) | refine BND_step (rfl : some _ = some _) ?_ | (apply cyes; first | assumption | omega) | (apply cno; first | assumption | omega) | refine (COND_true _ _).2 ?_ | refine (COND_false _ _).2 ?_ | simp (disch := first | assumption | omega) only [gs1, gs2, decide_true, decide_false, eq_self, beq_self_eq_true, Bool.not_true, Bool.not_false]))
            refine join_v (Q := fun v w' => v = o ∧ w' = w13) (fun k hk => ?_) ?_
            · (repeat (first | refine stp ?_ | (apply BND_inc; omega) | (apply BND_dec; omega) | refine BND_step (rfl : some _ = some _) ?_ | (apply cyes; first | assumption | omega) | (apply cno; first | assumption | omega) | refine (COND_true _ _).2 ?_ | refine (COND_false _ _).2 ?_ | simp (disch := first | assumption | omega) only [gs1, gs2, decide_true, decide_false, eq_self, beq_self_eq_true, Bool.not_true, Bool.not_false]))
              exact hk _ _ ⟨rfl, rfl⟩
            · rintro v w' ⟨rfl, rfl⟩
              (repeat (first | refine stp ?_ | (apply BND_inc; omega) | (apply BND_dec; omega) | refine BND_step (rfl : some _ = some _) ?_ | (apply cyes; first | assumption | omega) | (apply cno; first | assumption | omega) | refine (COND_true _ _).2 ?_ | refine (COND_false _ _).2 ?_ | simp (disch := first | assumption | omega) only [gs1, gs2, decide_true, decide_false, eq_self, beq_self_eq_true, Bool.not_true, Bool.not_false]))
              exact fin _ _ h13'
        · rw [if_neg (fun h => hn h.2.1)] at hal'
          subst hal'
          (repeat (first | refine stp ?_ | (apply BND_inc; omega) | (apply BND_dec; omega) | refine BND_step (rfl : some _ = some _) ?_ | (apply cyes; first | assumption | omega) | (apply cno; first | assumption | omega) | refine (COND_true _ _).2 ?_ | refine (COND_false _ _).2 ?_ | simp (disch := first | assumption | omega) only [gs1, gs2, decide_true, decide_false, eq_self, beq_self_eq_true, Bool.not_true, Bool.not_false]))
          refine join_v (Q := fun v w' => v = o ∧ w' = w13) (fun k hk => ?_) ?_
          · (repeat (first | refine stp ?_ | (apply BND_inc; omega) | (apply BND_dec; omega) | refine BND_step (rfl : some _ = some _) ?_ | (apply cyes; first | assumption | omega) | (apply cno; first | assumption | omega) | refine (COND_true _ _).2 ?_ | refine (COND_false _ _).2 ?_ | simp (disch := first | assumption | omega) only [gs1, gs2, decide_true, decide_false, eq_self, beq_self_eq_true, Bool.not_true, Bool.not_false]))
            exact hk _ _ ⟨rfl, rfl⟩
          · rintro v w' ⟨rfl, rfl⟩
            (repeat (first | refine stp ?_ | (apply BND_inc; omega) | (apply BND_dec; omega) | refine BND_step (rfl : some _ = some _) ?_ | (apply cyes; first | assumption | omega) | (apply cno; first | assumption | omega) | refine (COND_true _ _).2 ?_ | refine (COND_false _ _).2 ?_ | simp (disch := first | assumption | omega) only [gs1, gs2, decide_true, decide_false, eq_self, beq_self_eq_true, Bool.not_true, Bool.not_false]))
            exact fin _ _ h13'
      · rw [if_neg (fun h => q1 h.1)] at hal'
        subst hal'
        (repeat (first | refine stp ?_ | (apply BND_inc; omega) | (apply BND_dec; omega) | refine BND_step (rfl : some _ = some _) ?_ | (apply cyes; first | assumption | omega) | (apply cno; first | assumption | omega) | refine (COND_true _ _).2 ?_ | refine (COND_false _ _).2 ?_ | simp (disch := first | assumption | omega) only [gs1, gs2, decide_true, decide_false, eq_self, beq_self_eq_true, Bool.not_true, Bool.not_false]))
        refine join_v (Q := fun v w' => v = o ∧ w' = w13) (fun k hk => ?_) ?_
        · (repeat (first | refine stp ?_ | (apply BND_inc; omega) | (apply BND_dec; omega) | refine BND_step (rfl : some _ = some _) ?_ | (apply cyes; first | assumption | omega) | (apply cno; first | assumption | omega) | refine (COND_true _ _).2 ?_ | refine (COND_false _ _).2 ?_ | simp (disch := first | assumption | omega) only [gs1, gs2, decide_true, decide_false, eq_self, beq_self_eq_true, Bool.not_true, Bool.not_false]))
          exact hk _ _ ⟨rfl, rfl⟩
        · rintro v w' ⟨rfl, rfl⟩
          (repeat (first | refine stp ?_ | (apply BND_inc; omega) | (apply BND_dec; omega) | refine BND_step (rfl : some _ = some _) ?_ | (apply cyes; first | assumption | omega) | (apply cno; first | assumption | omega) | refine (COND_true _ _).2 ?_ | refine (COND_false _ _).2 ?_ | simp (disch := first | assumption | omega) only [gs1, gs2, decide_true, decide_false, eq_self, beq_self_eq_true, Bool.not_true, Bool.not_false]))
          exact fin _ _ h13'
    (repeat (first | (apply BND_ld b12; exact rfl) | refine stp ?_ | (apply BND_inc; omega) | (apply BND_dec; omega) | refine BND_step (rfl : some _ = some _) ?_ | (apply cyes; first | assumption | omega) | (apply cno; first | assumption | omega) | refine (COND_true _ _).2 ?_ | refine (COND_false _ _).2 ?_ | simp (disch := first | assumption | omega) only [gs1, gs2, decide_true, decide_false, eq_self, beq_self_eq_true, Bool.not_true, Bool.not_false]))
    by_cases q8 : a.dn = 8
    · (repeat (first | refine stp ?_ | (apply BND_inc; omega) | (apply BND_dec; omega) | refine BND_step (rfl : some _ = some _) ?_ | (apply cyes; first | assumption | omega) | (apply cno; first | assumption | omega) | refine (COND_true _ _).2 ?_ | refine (COND_false _ _).2 ?_ | simp (disch := first | assumption | omega) only [gs1, gs2, decide_true, decide_false, eq_self, beq_self_eq_true, Bool.not_true, Bool.not_false]))
      exact skip
    (repeat (first | (apply BND_ld b12; exact rfl) | refine BND_step (steq _ _) ?_ | refine stp ?_ | (apply BND_inc; omega) | (apply BND_dec; omega) | refine BND_step (rfl : some _ = some _) ?_ | (apply cyes; first | assumption | omega) | (apply cno; first | assumption | omega) | refine (COND_true _ _).2 ?_ | refine (COND_false _ _).2 ?_ | simp (disch := first | assumption | omega) only [gs1, gs2, decide_true, decide_false, eq_self, beq_self_eq_true, Bool.not_true, Bool.not_false]))
    by_cases hn : a.nm = nm
    · (repeat (first | (apply BND_ld b12; exact rfl) | refine stp ?_ | (apply BND_inc; omega) | (apply BND_dec; omega) | refine BND_step (rfl : some _ = some _) ?_ | (apply cyes; first | assumption | omega) | (apply cno; first | assumption | omega) | refine (COND_true _ _).2 ?_ | refine (COND_false _ _).2 ?_ | simp (disch := first | assumption | omega) only [gs1, gs2, decide_true, decide_false, eq_self, beq_self_eq_true, Bool.not_true, Bool.not_false]))
      by_cases q1 : a.dn = 1
      · (repeat (first | refine stp ?_ | (apply BND_inc; omega) | (apply BND_dec; omega) | refine BND_step (rfl : some _ = some _) ?_ | (apply cyes; first | assumption | omega) | (apply cno; first | assumption | omega) | refine (COND_true _ _).2 ?_ | refine (COND_false _ _).2 ?_ | simp (disch := first | assumption | omega) only [gs1, gs2, decide_true, decide_false, eq_self, beq_self_eq_true, Bool.not_true, Bool.not_false]))
        exact goon q8 fun h => absurd q1 h
      · (repeat (first | refine stp ?_ | (apply BND_inc; omega) | (apply BND_dec; omega) | refine BND_step (rfl : some _ = some _) ?_ | (apply cyes; first | assumption | omega) | (apply cno; first | assumption | omega) | refine (COND_true _ _).2 ?_ | refine (COND_false _ _).2 ?_ | simp (disch := first | assumption | omega) only [gs1, gs2, decide_true, decide_false, eq_self, beq_self_eq_true, Bool.not_true, Bool.not_false]))
        exact skip
    · (repeat (first | (apply BND_ld b12; exact rfl) | refine BND_step (steq _ _) ?_ | refine stp ?_ | (apply BND_inc; omega) | (apply BND_dec; omega) | refine BND_step (rfl : some _ = some _) ?_ | (apply cyes; first | assumption | omega) | (apply cno; first | assumption | omega) | refine (COND_true _ _).2 ?_ | refine (COND_false _ _).2 ?_ | simp (disch := first | assumption | omega) only [gs1, gs2, decide_true, decide_false, eq_self, beq_self_eq_true, Bool.not_true, Bool.not_false]))
      by_cases hto : a.to = nm
      · (repeat (first | (apply BND_ld b12; exact rfl) | refine stp ?_ | (apply BND_inc; omega) | (apply BND_dec; omega) | refine BND_step (rfl : some _ = some _) ?_ | (apply cyes; first | assumption | omega) | (apply cno; first | assumption | omega) | refine (COND_true _ _).2 ?_ | refine (COND_false _ _).2 ?_ | simp (disch := first | assumption | omega) only [gs1, gs2, decide_true, decide_false, eq_self, beq_self_eq_true, Bool.not_true, Bool.not_false]))
        by_cases q1 : a.dn = 1
        · (repeat (first | refine stp ?_ | (apply BND_inc; omega) | (apply BND_dec; omega) | refine BND_step (rfl : some _ = some _) ?_ | (apply cyes; first | assumption | omega) | (apply cno; first | assumption | omega) | refine (COND_true _ _).2 ?_ | refine (COND_false _ _).2 ?_ | simp (disch := first | assumption | omega) only [gs1, gs2, decide_true, decide_false, eq_self, beq_self_eq_true, Bool.not_true, Bool.not_false]))
          exact goon q8 fun h => absurd q1 h
        · (repeat (first | refine stp ?_ | (apply BND_inc; omega) | (apply BND_dec; omega) | refine BND_step (rfl : some _ = some _) ?_ | (apply cyes; first | assumption | omega) | (apply cno; first | assumption | omega) | refine (COND_true _ _).2 ?_ | refine (COND_false _ _).2 ?_ | simp (disch := first | assumption | omega) only [gs1, gs2, decide_true, decide_false, eq_self, beq_self_eq_true, Bool.not_true, Bool.not_false]))
          exact skip
      · (repeat (first | refine stp ?_ | (apply BND_inc; omega) | (apply BND_dec; omega) | refine BND_step (rfl : some _ = some _) ?_ | (apply cyes; first | assumption | omega) | (apply cno; first | assumption | omega) | refine (COND_true _ _).2 ?_ | refine (COND_false _ _).2 ?_ | simp (disch := first | assumption | omega) only [gs1, gs2, decide_true, decide_false, eq_self, beq_self_eq_true, Bool.not_true, Bool.not_false]))
        exact goon q8 fun _ => ⟨hn, hto⟩
  · (repeat (first | refine stp ?_ | (apply BND_inc; omega) | (apply BND_dec; omega) | refine BND_step (rfl : some _ = some _) ?_ | (apply cyes; first | assumption | omega) | (apply cno; first | assumption | omega) | refine (COND_true _ _).2 ?_ | refine (COND_false _ _).2 ?_ | simp (disch := first | assumption | omega) only [gs1, gs2, decide_true, decide_false, eq_self, beq_self_eq_true, Bool.not_true, Bool.not_false]))
    obtain ⟨A, hz, hA, hA2, back⟩ := At.zoom3 h10 (Fr.refl _ _) 1 rfl
    refine dk_Crash hz inv.wf (by omega) op (tails := ts) (fun w' f => ht.fr (h10.frame.trans f hA2) (by simp)) fun w11 h11 => ?_
    obtain ⟨k, hk1, hk2, hrd⟩ := kept_crash inv kept op ts
    have ic := inv_crash inv op ts
    have hl1 : (crash s op ts).dirs.length = 1 := rfl
    have h11' := back _ _ h11
    (repeat (first | refine stp ?_ | (apply BND_inc; omega) | (apply BND_dec; omega) | refine BND_step (rfl : some _ = some _) ?_ | (apply cyes; first | assumption | omega) | (apply cno; first | assumption | omega) | refine (COND_true _ _).2 ?_ | refine (COND_false _ _).2 ?_ | simp (disch := first | assumption | omega) only [gs1, gs2, decide_true, decide_false, eq_self, beq_self_eq_true, Bool.not_true, Bool.not_false]))
    obtain ⟨A2, hz2, hB, hB2, back2⟩ := At.zoom3 h11' (Fr.refl _ _) 1 rfl
    refine dk_Read hz2 ic.wf (by omega) nm fun w12 v12 G12 h12 s12 g12 f12 => ?_
    have h12' := h11'.fr0 f12
    rw [hrd] at s12 ⊢
    obtain ⟨Fa, sa, _⟩ := h12'.slc1 (i := 0) rfl
    have el := s12.len
    simp only [List.length_take] at el
    rw [show min k all.length = k by omega] at el
    obtain ⟨v', e', ar'⟩ := sa.pre (n := k) (by omega)
    (repeat (first | refine BND_step el ?_ | refine BND_step hf.len ?_ | refine BND_step sa.len ?_ | refine BND_step e' ?_ | refine stp ?_ | (apply BND_inc; omega) | (apply BND_dec; omega) | refine BND_step (rfl : some _ = some _) ?_ | (apply cyes; first | assumption | omega) | (apply cno; first | assumption | omega) | refine (COND_true _ _).2 ?_ | refine (COND_false _ _).2 ?_ | simp (disch := first | assumption | omega) only [gs1, gs2, decide_true, decide_false, eq_self, beq_self_eq_true, Bool.not_true, Bool.not_false]))
    refine r1_Same s12.arr ar' (by simp; omega) fun w13 f13 => ?_
    rw [decide_eq_true rfl]
    (repeat (first | refine stp ?_ | (apply BND_inc; omega) | (apply BND_dec; omega) | refine BND_step (rfl : some _ = some _) ?_ | (apply cyes; first | assumption | omega) | (apply cno; first | assumption | omega) | refine (COND_true _ _).2 ?_ | refine (COND_false _ _).2 ?_ | simp (disch := first | assumption | omega) only [gs1, gs2, decide_true, decide_false, eq_self, beq_self_eq_true, Bool.not_true, Bool.not_false]))
    exact hR _ (h12'.fr0 f13).frame
end
end Go.Proofs.Ytpefokoiioeomaa
