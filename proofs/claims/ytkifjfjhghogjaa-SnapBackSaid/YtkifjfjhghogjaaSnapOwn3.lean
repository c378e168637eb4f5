/- A snapshot made the document's own: the walk. No condition but sizes. -/
import Derived.Test.YtkifjfjhghogjaaSnapOwn2
namespace Go.Proofs.Ytkifjfjhghogjaa
open Go.Den
set_option linter.unusedSimpArgs false
set_option linter.unusedVariables false
set_option maxRecDepth 20000
set_option maxHeartbeats 4000000
attribute [local congr] BND_cg COND_cg GEF_cg
attribute [local irreducible] load1 loadn iaddr iaddra faddr storev newslice binv lookv mupd mdel mlenv mentry mestore slicev slicev3 slices indexs indexav textv rangev nexts clearv shiftv eqaggv convi buildv pickv lens lenl unv nilchk extractv partn JOIN
def ownL (T2 X O : Nat) (s s' : SnapL) (iv dv cv iv' dv' cv' : Value) : List HP := [slc encC 2 cv' s'.curs, slc encRow 2 dv' s'.dead, slc encI 10 iv' s'.items, pts O (snC s' iv' dv' cv'), pts X (stC s iv dv cv), pts T2 zSn]
theorem snC_set (s : SnapL) (iv dv cv : Value) : ∀ v, (snC s iv dv cv).set 6 v = snC s iv v cv ∧ (snC s iv dv cv).set 7 v = snC s iv dv v := fun v => ⟨rfl, rfl⟩
def halfS (s : SnapL) (i j : Nat) : SnapL := { s with dead := s.dead.take i, curs := s.curs.take j }
section
variable {w : World} {R : Value → World → Prop}
theorem lw_own {s : SnapL} {iv dv cv : Value} (h : SnV w s iv dv cv) (hi : s.items.length * 80 ≤ 140737488351232) (hd : s.dead.length * 16 ≤ 140737488351232) (hc : s.curs.length * 24 ≤ 140737488351232)
    (hR : ∀ w' iv' dv' cv', SnV w' s iv' dv' cv' → Fr [] w w' → R (.agg (snC s iv' dv' cv').toArray) w') : CALL PR F_tumbrellaw13_own [.agg (snC s iv dv cv).toArray] w R := by
  refine C_tumbrellaw13_own ?_
  unfold M_tumbrellaw13_own
  refine NEW_intro fun w1 b1 f1 z1 => NEW_intro fun w2 b2 f2 z2 => ?_
  have bS : blk w2 (hsz w) = some (.cells (snC s iv dv cv).toArray _ (0, 0)) := f2.some (by simp) b1
  have hl8 : loadn 8 w2 (.pointer (some ⟨hsz w, 0 + 0, none⟩)) = some (.agg (stC s iv dv cv).toArray) := by
    rw [loadn_blk bS (by simp [snC, stC])]
    rfl
  (repeat (first | refine BND_step hl8 ?_ | refine stp ?_ | (apply BND_inc; omega) | (apply BND_dec; omega) | refine BND_step rfl ?_ | (apply cyes; first | assumption | omega) | (apply cno; first | assumption | omega) | refine (COND_true _ _).2 ?_ | refine (COND_false _ _).2 ?_ | simp (disch := first | assumption | omega) only [gs1, gs2, decide_true, decide_false, eq_self, beq_self_eq_true, Bool.not_true, Bool.not_false]))
  have f02 := f1.trans' f2
  refine box_step rfl (vs := stC s iv dv cv) rfl (stC_one (h.fr0 f02)) (by simp [stC]) fun w4 b4 f4 z4 => ?_
  have st4 : At w [] (stars [pts (hsz w2) (stC s iv dv cv), pts (hsz w1) zSn]) w4 := ((((At.nothing w).fr0 f1).add f2 (P := pts (hsz w1) zSn) ⟨⟨_, b2⟩, rfl⟩ (by simp)).add f4 (P := pts (hsz w2) (stC s iv dv cv)) ⟨⟨_, b4⟩, rfl⟩ (by simp))
  have st5 := st4.fr0 (Fr.drew [] w4)
  obtain ⟨TX, bX⟩ : ∃ T, blk w4.drew (hsz w2) = some (.cells (stC s iv dv cv).toArray T (0, 0)) := ⟨_, b4⟩
  have bS4 : blk w4.drew (hsz w) = some (.cells (snC s iv dv cv).toArray _ (0, 0)) := f4.some (by simp) bS
  have h5 : SnV w4.drew s iv dv cv := h.fr0 st5.frame
  generalize w4.drew = w5 at st5 bX bS4 h5
  have e0 : halfS s 0 0 = halfS s 0 0 := rfl
  refine ⟨fun k w' => blk w' (hsz w2) = some (.cells (stC s iv dv cv).toArray TX (0, 0)) ∧ blk w' (hsz w) = some (.cells (snC s iv dv cv).toArray _ (0, 0)), ⟨bX, bS4⟩, ⟨bX, bS4⟩, ⟨bX, bS4⟩, ⟨bX, bS4⟩, ⟨bX, bS4⟩, ⟨bX, bS4⟩, ⟨bX, bS4⟩, ⟨bX, bS4⟩, ?_⟩
  (repeat (first | (apply FLT_ld (fun _ h_ => h_.1); exact rfl) | (apply FLT_ld (fun _ h_ => h_.2); exact rfl) | refine stp ?_ | (apply BND_inc; omega) | (apply BND_dec; omega) | refine BND_step rfl ?_ | (apply cyes; first | assumption | omega) | (apply cno; first | assumption | omega) | refine (COND_true _ _).2 ?_ | refine (COND_false _ _).2 ?_ | simp (disch := first | assumption | omega) only [gs1, gs2, decide_true, decide_false, eq_self, beq_self_eq_true, Bool.not_true, Bool.not_false]))
  refine join_v (fun out w' => ∃ O iv', out = .pointer (some ⟨O, 0, none⟩) ∧ At w [] (stars (ownL (hsz w1) (hsz w2) O s (halfS s 0 0) iv dv cv iv' (.slice none 0 0) (.slice none 0 0))) w') (fun K hK => ⟨?_, ?_⟩) ?_
  · refine lw_items h5.i hi fun v w6 F s6 hF f6 => ?_
    have S6 := And.intro (f6.some (by simp) bX) (f6.some (by simp) bS4)
    refine ⟨S6, S6, S6, S6, S6, S6, S6, ?_⟩
    have hv := s6.one.1
    obtain ⟨a, c, ev⟩ := s6.arr.le
    subst ev
    (repeat (first | (apply BND_build ([.int .u64 s.now, .int .u64 s.next, .int .u64 s.leases, .int .u64 s.turns, .int .u64 s.deaths, .slice a s.items.length c, .slice none 0 0, .slice none 0 0]); exact rfl) | (apply BND_build (snC (halfS s 0 0) (.slice a s.items.length c) (.slice none 0 0) (.slice none 0 0)); exact rfl) | refine stp ?_ | (apply BND_inc; omega) | (apply BND_dec; omega) | refine BND_step rfl ?_ | (apply cyes; first | assumption | omega) | (apply cno; first | assumption | omega) | refine (COND_true _ _).2 ?_ | refine (COND_false _ _).2 ?_ | simp (disch := first | assumption | omega) only [gs1, gs2, decide_true, decide_false, eq_self, beq_self_eq_true, Bool.not_true, Bool.not_false]))
    refine NEW_intro fun w7 b7 f7 z7 => ?_
    have S7 := And.intro (f7.some (by simp) S6.1) (f7.some (by simp) S6.2)
    refine ⟨S7, S7, S7, S7, S7, S7, S7, S7, ?_⟩
    have st7 := (st5.add f6 (P := slc encI 10 (.slice a s.items.length c) s.items) s6 hF).add f7 (P := pts (hsz w6) zSn) ⟨⟨_, b7⟩, rfl⟩ (by simp)
    refine st7.put (i := 0) rfl rfl rfl ?_ (by simp [snC, stC]) fun w8 st8 f8 => hK _ w8 ⟨hsz w6, .slice a s.items.length c, rfl, ?_⟩
    · intro u hu
      simp only [snC, stC, List.mem_append, List.mem_cons, List.not_mem_nil, or_false] at hu
      rcases hu with (rfl | rfl | rfl | rfl | rfl | rfl | rfl | rfl) | rfl | rfl <;> rfl
    · exact ((st8.swap).add0 (P := slc encRow 2 (.slice none 0 0) []) (Slc.nil _ _ _)).add0 (P := slc encC 2 (.slice none 0 0) []) (Slc.nil _ _ _)
  · refine NEW_intro fun w6 b6 f6 z6 => ?_
    have S6 := And.intro (f6.some (by simp) bX) (f6.some (by simp) bS4)
    refine ⟨S6, S6, S6, S6, S6, S6, S6, S6, ?_⟩
    have st6 := st5.add f6 (P := pts (hsz w5) zSn) ⟨⟨_, b6⟩, rfl⟩ (by simp)
    refine lw_items (h5.fr0 f6).i hi fun v w7 F s7 hF f7 => ?_
    have S7 := And.intro (f7.some (by simp) S6.1) (f7.some (by simp) S6.2)
    refine ⟨S7, S7, S7, S7, S7, S7, S7, ?_⟩
    obtain ⟨a, c, ev⟩ := s7.arr.le
    subst ev
    (repeat (first | (apply BND_build ([.int .u64 s.now, .int .u64 s.next, .int .u64 s.leases, .int .u64 s.turns, .int .u64 s.deaths, .slice a s.items.length c, .slice none 0 0, .slice none 0 0]); exact rfl) | (apply BND_build (snC (halfS s 0 0) (.slice a s.items.length c) (.slice none 0 0) (.slice none 0 0)); exact rfl) | refine stp ?_ | (apply BND_inc; omega) | (apply BND_dec; omega) | refine BND_step rfl ?_ | (apply cyes; first | assumption | omega) | (apply cno; first | assumption | omega) | refine (COND_true _ _).2 ?_ | refine (COND_false _ _).2 ?_ | simp (disch := first | assumption | omega) only [gs1, gs2, decide_true, decide_false, eq_self, beq_self_eq_true, Bool.not_true, Bool.not_false]))
    have st7 := st6.add f7 (P := slc encI 10 (.slice a s.items.length c) s.items) s7 hF
    refine st7.put (i := 1) rfl rfl rfl ?_ (by simp [snC, stC]) fun w8 st8 f8 => hK _ w8 ⟨hsz w5, .slice a s.items.length c, rfl, ?_⟩
    · intro u hu
      simp only [snC, stC, List.mem_append, List.mem_cons, List.not_mem_nil, or_false] at hu
      rcases hu with (rfl | rfl | rfl | rfl | rfl | rfl | rfl | rfl) | rfl | rfl <;> rfl
    · exact (st8.add0 (P := slc encRow 2 (.slice none 0 0) []) (Slc.nil _ _ _)).add0 (P := slc encC 2 (.slice none 0 0) []) (Slc.nil _ _ _)
  · rintro _ w6 ⟨O, iv', rfl, st6⟩
    obtain ⟨TX6, c6⟩ := st6.cell (i := 4) rfl
    have h6 := h.fr0 st6.frame
    (repeat (first | (apply BND_ld c6; exact rfl) | refine BND_step h6.d.len ?_ | refine stp ?_ | (apply BND_inc; omega) | (apply BND_dec; omega) | refine BND_step rfl ?_ | (apply cyes; first | assumption | omega) | (apply cno; first | assumption | omega) | refine (COND_true _ _).2 ?_ | refine (COND_false _ _).2 ?_ | simp (disch := first | assumption | omega) only [gs1, gs2, decide_true, decide_false, eq_self, beq_self_eq_true, Bool.not_true, Bool.not_false]))
    refine loop_up 0 s.dead.length (fun i w' => ∃ dv', At w [] (stars (ownL (hsz w1) (hsz w2) O s (halfS s i 0) iv dv cv iv' dv' (.slice none 0 0))) w') ⟨_, st6⟩ (by omega) ?_
    rintro i w7 - hil ⟨dv', st7⟩ J m hJ
    by_cases hlt : i < s.dead.length
    · have hx := List.getElem?_eq_getElem hlt
      generalize s.dead[i] = x at hx
      obtain ⟨b, oo, ia, ln, _, _⟩ := (h.fr0 st7.frame).d.spot hx rfl .i64
      (repeat (first | refine BND_step ia ?_ | refine BND_step ln ?_ | refine stp ?_ | (apply BND_inc; omega) | (apply BND_dec; omega) | refine BND_step rfl ?_ | (apply cyes; first | assumption | omega) | (apply cno; first | assumption | omega) | refine (COND_true _ _).2 ?_ | refine (COND_false _ _).2 ?_ | simp (disch := first | assumption | omega) only [gs1, gs2, decide_true, decide_false, eq_self, beq_self_eq_true, Bool.not_true, Bool.not_false]))
      refine box_step rfl rfl (encRow_one x) (by simp [encRow]) fun w8 b8 f8 z8 => ?_
      have st8 := st7.fr0 f8
      obtain ⟨TO, cO⟩ := st8.cell (i := 3) rfl
      (repeat (first | (apply BND_ld cO; exact rfl) | (apply BND_step; exact (loadn_all b8 rfl)) | refine stp ?_ | (apply BND_inc; omega) | (apply BND_dec; omega) | refine BND_step rfl ?_ | (apply cyes; first | assumption | omega) | (apply cno; first | assumption | omega) | refine (COND_true _ _).2 ?_ | refine (COND_false _ _).2 ?_ | simp (disch := first | assumption | omega) only [gs1, gs2, decide_true, decide_false, eq_self, beq_self_eq_true, Bool.not_true, Bool.not_false]))
      refine newone_step encRow_len rfl fun u w9 s9 f9 z9 => ?_
      refine (st8.fr0 f9).append2 (i := 1) rfl (s9.loads encRow_len) encRow_len encRow_one rfl (by simp [halfS]; omega) (by simp [halfS]; omega) fun v' w10 st10 one10 => ?_
      (repeat (first | refine stp ?_ | (apply BND_inc; omega) | (apply BND_dec; omega) | refine BND_step rfl ?_ | (apply cyes; first | assumption | omega) | (apply cno; first | assumption | omega) | refine (COND_true _ _).2 ?_ | refine (COND_false _ _).2 ?_ | simp (disch := first | assumption | omega) only [gs1, gs2, decide_true, decide_false, eq_self, beq_self_eq_true, Bool.not_true, Bool.not_false]))
      refine st10.store (i := 3) rfl one10 (by simp [snC, stC]) fun w11 st11 f11 => ?_
      (repeat (first | refine stp ?_ | (apply BND_inc; omega) | (apply BND_dec; omega) | refine BND_step rfl ?_ | (apply cyes; first | assumption | omega) | (apply cno; first | assumption | omega) | refine (COND_true _ _).2 ?_ | refine (COND_false _ _).2 ?_ | simp (disch := first | assumption | omega) only [gs1, gs2, decide_true, decide_false, eq_self, beq_self_eq_true, Bool.not_true, Bool.not_false]))
      refine hJ _ hlt ⟨v', ?_⟩
      have e : halfS s (i + 1) 0 = { halfS s i 0 with dead := (halfS s i 0).dead ++ [x] } := by
        simp only [halfS, List.take_add_one, hx]; rfl
      rw [e]; exact st11
    · obtain ⟨TX7, c7⟩ := st7.cell (i := 4) rfl
      have h7 := h.fr0 st7.frame
      have e1 : halfS s i 0 = halfS s s.dead.length 0 := by unfold halfS; rw [List.take_of_length_le (l := s.dead) (i := i) (by omega), List.take_length]
      rw [e1] at st7
      (repeat (first | (apply BND_ld c7; exact rfl) | refine BND_step h7.c.len ?_ | refine stp ?_ | (apply BND_inc; omega) | (apply BND_dec; omega) | refine BND_step rfl ?_ | (apply cyes; first | assumption | omega) | (apply cno; first | assumption | omega) | refine (COND_true _ _).2 ?_ | refine (COND_false _ _).2 ?_ | simp (disch := first | assumption | omega) only [gs1, gs2, decide_true, decide_false, eq_self, beq_self_eq_true, Bool.not_true, Bool.not_false]))
      refine loop_up 0 s.curs.length (fun i w' => ∃ cv', At w [] (stars (ownL (hsz w1) (hsz w2) O s (halfS s s.dead.length i) iv dv cv iv' dv' cv')) w') ⟨_, st7⟩ (by omega) ?_
      rintro i w8 - hil2 ⟨cv', st8⟩ J m hJ
      by_cases hlt2 : i < s.curs.length
      · have hx := List.getElem?_eq_getElem hlt2
        generalize s.curs[i] = x at hx
        obtain ⟨b, oo, ia, ln, _, _⟩ := (h.fr0 st8.frame).c.spot hx rfl .i64
        (repeat (first | refine BND_step ia ?_ | refine BND_step ln ?_ | refine stp ?_ | (apply BND_inc; omega) | (apply BND_dec; omega) | refine BND_step rfl ?_ | (apply cyes; first | assumption | omega) | (apply cno; first | assumption | omega) | refine (COND_true _ _).2 ?_ | refine (COND_false _ _).2 ?_ | simp (disch := first | assumption | omega) only [gs1, gs2, decide_true, decide_false, eq_self, beq_self_eq_true, Bool.not_true, Bool.not_false]))
        refine box_step rfl rfl (encC_one x) (by simp [encC]) fun w9 b9 f9 z9 => ?_
        have st9 := st8.fr0 f9
        obtain ⟨TO, cO⟩ := st9.cell (i := 3) rfl
        (repeat (first | (apply BND_ld cO; exact rfl) | (apply BND_step; exact (loadn_all b9 rfl)) | refine stp ?_ | (apply BND_inc; omega) | (apply BND_dec; omega) | refine BND_step rfl ?_ | (apply cyes; first | assumption | omega) | (apply cno; first | assumption | omega) | refine (COND_true _ _).2 ?_ | refine (COND_false _ _).2 ?_ | simp (disch := first | assumption | omega) only [gs1, gs2, decide_true, decide_false, eq_self, beq_self_eq_true, Bool.not_true, Bool.not_false]))
        refine newone_step encC_len rfl fun u w10 s10 f10 z10 => ?_
        refine (st9.fr0 f10).append2 (i := 0) rfl (s10.loads encC_len) encC_len encC_one rfl (by simp [halfS]; omega) (by simp [halfS]; omega) fun v' w11 st11 one11 => ?_
        (repeat (first | refine stp ?_ | (apply BND_inc; omega) | (apply BND_dec; omega) | refine BND_step rfl ?_ | (apply cyes; first | assumption | omega) | (apply cno; first | assumption | omega) | refine (COND_true _ _).2 ?_ | refine (COND_false _ _).2 ?_ | simp (disch := first | assumption | omega) only [gs1, gs2, decide_true, decide_false, eq_self, beq_self_eq_true, Bool.not_true, Bool.not_false]))
        refine st11.store (i := 3) rfl one11 (by simp [snC, stC]) fun w12 st12 f12 => ?_
        (repeat (first | refine stp ?_ | (apply BND_inc; omega) | (apply BND_dec; omega) | refine BND_step rfl ?_ | (apply cyes; first | assumption | omega) | (apply cno; first | assumption | omega) | refine (COND_true _ _).2 ?_ | refine (COND_false _ _).2 ?_ | simp (disch := first | assumption | omega) only [gs1, gs2, decide_true, decide_false, eq_self, beq_self_eq_true, Bool.not_true, Bool.not_false]))
        refine hJ _ hlt2 ⟨v', ?_⟩
        have e : halfS s s.dead.length (i + 1) = { halfS s s.dead.length i with curs := (halfS s s.dead.length i).curs ++ [x] } := by
          simp only [halfS, List.take_add_one, hx]; rfl
        rw [e]; exact st12
      · have e2 : halfS s s.dead.length i = s := by
          unfold halfS
          rw [List.take_of_length_le (l := s.dead) (by omega), List.take_of_length_le (l := s.curs) (by omega)]
        rw [e2] at st8
        obtain ⟨TO, cO⟩ := st8.cell (i := 3) rfl
        (repeat (first | (apply BND_step; exact (loadn_all cO rfl)) | refine stp ?_ | (apply BND_inc; omega) | (apply BND_dec; omega) | refine BND_step rfl ?_ | (apply cyes; first | assumption | omega) | (apply cno; first | assumption | omega) | refine (COND_true _ _).2 ?_ | refine (COND_false _ _).2 ?_ | simp (disch := first | assumption | omega) only [gs1, gs2, decide_true, decide_false, eq_self, beq_self_eq_true, Bool.not_true, Bool.not_false]))
        obtain ⟨_, q1, _⟩ := st8.slc1 (i := 0) rfl
        obtain ⟨_, q2, _⟩ := st8.slc1 (i := 1) rfl
        obtain ⟨_, q3, _⟩ := st8.slc1 (i := 2) rfl
        have sv : SnV w8 s iv' dv' cv' := ⟨q3.arr, q2.arr, q1.arr⟩
        refine st8.put (i := 5) rfl rfl rfl (snC_one sv) (by simp [snC, stC]) fun w9 st9 f9 => ?_
        obtain ⟨TT, cT⟩ := st9.cell (i := 5) rfl
        (repeat (first | (apply BND_step; exact (loadn_all cT rfl)) | refine stp ?_ | (apply BND_inc; omega) | (apply BND_dec; omega) | refine BND_step rfl ?_ | (apply cyes; first | assumption | omega) | (apply cno; first | assumption | omega) | refine (COND_true _ _).2 ?_ | refine (COND_false _ _).2 ?_ | simp (disch := first | assumption | omega) only [gs1, gs2, decide_true, decide_false, eq_self, beq_self_eq_true, Bool.not_true, Bool.not_false]))
        exact hR w9 _ _ _ ⟨st9.arr (i := 2) rfl, st9.arr (i := 1) rfl, st9.arr (i := 0) rfl⟩ st9.frame
end
end Go.Proofs.Ytkifjfjhghogjaa
