/- Segs, by the document. No condition but sizes. -/
import Derived.Test.YtkifjfjhghogjaaSnapSegs
namespace Go.Proofs.Ytkifjfjhghogjaa
open Go.Den
/-- a number put where it stands among others that rise. -/
theorem rise_ins {ys : List Int} {n : Nat} {x : Int} (hr : ys.Pairwise (· < ·)) (h1 : ∀ y ∈ ys.take n, y < x) (h2 : ∀ y ∈ ys.drop n, x < y) : (ys.take n ++ [x] ++ ys.drop n).Pairwise (· < ·) := by
  have hp : (ys.take n ++ ys.drop n).Pairwise (· < ·) := by rwa [List.take_append_drop]
  obtain ⟨p1, p2, p3⟩ := List.pairwise_append.1 hp
  rw [List.append_assoc]
  refine List.pairwise_append.2 ⟨p1, ?_, fun a ha b hb => ?_⟩
  · exact List.pairwise_cons.2 ⟨h2, p2⟩
  · rcases List.mem_cons.1 hb with rfl | hb
    · exact h1 a ha
    · exact p3 a ha b hb
theorem mem_ins {ys : List Int} {n : Nat} {x z : Int} : z ∈ ys.take n ++ [x] ++ ys.drop n ↔ z = x ∨ z ∈ ys := by
  have : z ∈ ys ↔ z ∈ ys.take n ∨ z ∈ ys.drop n := by rw [← List.mem_append, List.take_append_drop]
  rw [this]
  simp only [List.mem_append, List.mem_cons, List.not_mem_nil, or_false]
  constructor
  · rintro ((h | h) | h)
    · exact .inr (.inl h)
    · exact .inl h
    · exact .inr (.inr h)
  · rintro (h | h | h)
    · exact .inl (.inr h)
    · exact .inl (.inl h)
    · exact .inr h
theorem map_take_mem {xs : List Itm} {i : Nat} {x : Itm} (hx : xs[i]? = some x) (z : Int) : z ∈ (xs.take (i + 1)).map Itm.seg ↔ z = x.seg ∨ z ∈ (xs.take i).map Itm.seg := by
  rw [take_map hx]; simp [or_comm]
set_option linter.unusedSimpArgs false
set_option linter.unusedVariables false
set_option maxRecDepth 20000
set_option maxHeartbeats 4000000
attribute [local congr] BND_cg COND_cg GEF_cg
attribute [local irreducible] load1 loadn iaddr iaddra faddr storev newslice binv lookv mupd mdel mlenv mentry mestore slicev slicev3 slices indexs indexav textv rangev nexts clearv shiftv eqaggv convi buildv pickv lens lenl unv nilchk extractv partn JOIN
section
variable {w : World} {R : Value → World → Prop}
theorem r13_Segs {a : Value} {xs : List Itm} (h : Arr encI 10 w a xs) (hn : xs.length < 1000000) (hR : ∀ w' v' ys, Arr encU 1 w' v' ys → ys.Pairwise (· < ·) → (∀ x, x ∈ ys ↔ x ∈ xs.map Itm.seg) → Fr [] w w' → R v' w') :
    CALL PR F_tumbrelref13_Segs [a] w R := by
  refine C_tumbrelref13_Segs ?_
  unfold M_tumbrelref13_Segs
  refine newnil_step encU fun v0 w1 s1 f1 z1 => ?_
  have st1 : At w [] (stars [slc encU 1 v0 []]) w1 := (At.nothing w).add f1 (P := slc encU 1 v0 []) s1 (by simp)
  refine loop_up2 0 xs.length (fun o i w' => ∃ ys, At w [] (stars [slc encU 1 o ys]) w' ∧ ys.Pairwise (· < ·) ∧ (∀ x, x ∈ ys ↔ x ∈ (xs.take i).map Itm.seg) ∧ ys.length ≤ i) ⟨[], st1, List.Pairwise.nil, by simp, by simp⟩ (by omega) ?_
  rintro o i w2 - hi ⟨ys, st2, hr, hm, hl⟩ J m hJ
  (repeat (first | refine BND_step h.len ?_ | refine stp ?_ | (apply BND_inc; omega) | (apply BND_dec; omega) | refine BND_step rfl ?_ | (apply cyes; first | assumption | omega) | (apply cno; first | assumption | omega) | refine (COND_true _ _).2 ?_ | refine (COND_false _ _).2 ?_ | simp (disch := first | assumption | omega) only [gs1, gs2, decide_true, decide_false, eq_self, beq_self_eq_true, Bool.not_true, Bool.not_false]))
  by_cases hlt : i < xs.length
  rotate_left
  · (repeat (first | refine stp ?_ | (apply BND_inc; omega) | (apply BND_dec; omega) | refine BND_step rfl ?_ | (apply cyes; first | assumption | omega) | (apply cno; first | assumption | omega) | refine (COND_true _ _).2 ?_ | refine (COND_false _ _).2 ?_ | simp (disch := first | assumption | omega) only [gs1, gs2, decide_true, decide_false, eq_self, beq_self_eq_true, Bool.not_true, Bool.not_false]))
    rw [List.take_of_length_le (by omega)] at hm
    exact hR _ _ ys (st2.arr (i := 0) rfl) hr hm st2.frame
  (repeat (first | refine stp ?_ | (apply BND_inc; omega) | (apply BND_dec; omega) | refine BND_step rfl ?_ | (apply cyes; first | assumption | omega) | (apply cno; first | assumption | omega) | refine (COND_true _ _).2 ?_ | refine (COND_false _ _).2 ?_ | simp (disch := first | assumption | omega) only [gs1, gs2, decide_true, decide_false, eq_self, beq_self_eq_true, Bool.not_true, Bool.not_false]))
  have hx := List.getElem?_eq_getElem hlt
  generalize xs[i] = x at hx
  refine loop_up 0 ys.length (fun k w' => Fr [] w2 w' ∧ ∀ y ∈ ys.take k, y < x.seg) ⟨Fr.refl _ _, by simp⟩ (by omega) ?_
  rintro k w3 - hk ⟨f3, hb⟩ J2 m2 hJ2
  have st3 := st2.fr0 (f3.trans' (Fr.drew [] w3))
  have f3d : Fr [] w w3.drew := st3.frame
  obtain ⟨F, sF, hF⟩ := st3.slc1 (i := 0) rfl
  have hlen := sF.len
  obtain ⟨bx, ox, ix, _, hbx, lx⟩ := (h.fr f3d (by simp)).spot hx rfl .i64
  have lx1 := lx (w' := w3.drew) rfl (j := 7) rfl
  have lx2 := lx (w' := w3.drew.drew) rfl (j := 7) rfl
  -- behind the look: there, or put in
  have go2 : (∀ y ∈ ys.drop k, x.seg ≤ y) → (ys[k]? = none ∨ ∃ y, ys[k]? = some y ∧ y ≠ x.seg) → ∀ (K : Value → World → Prop), (∀ o' w', (∃ ys', At w [] (stars [slc encU 1 o' ys']) w' ∧ ys'.Pairwise (· < ·) ∧ (∀ z, z ∈ ys' ↔ z ∈ (xs.take (i + 1)).map Itm.seg) ∧ ys'.length ≤ i + 1) → K o' w') →
      ∀ o' w', At w3.drew.drew.drew [] (stars [slc encU 1 o' (ys.take k ++ [x.seg] ++ ys.drop k)]) w' → K o' w' := by
    intro hge hne K hK o' w' hst
    refine hK o' w' ⟨_, hst.base (f3d.trans' ((Fr.drew _ _).trans' (Fr.drew _ _))), rise_ins hr hb fun y hy => ?_, fun z => ?_, ?_⟩
    · have h1 := hge y hy
      rcases hne with h0 | ⟨y0, h0, h0'⟩
      · have : ys.length ≤ k := List.getElem?_eq_none_iff.1 h0
        rw [List.drop_of_length_le this] at hy; simp at hy
      · have hk' : k < ys.length := (List.getElem?_eq_some_iff.1 h0).1
        have e : ys.drop k = y0 :: ys.drop (k + 1) := by
          rw [List.drop_eq_getElem_cons hk']; congr 1
          rw [List.getElem?_eq_getElem hk'] at h0; exact Option.some.inj h0
        have hy0 : y0 ∈ ys.drop k := by rw [e]; simp
        have h2 := hge y0 hy0
        rw [e] at hy
        rcases List.mem_cons.1 hy with rfl | hy'
        · omega
        · have hp : (ys.drop k).Pairwise (· < ·) := hr.sublist (List.drop_sublist _ _)
          rw [e] at hp
          have := (List.pairwise_cons.1 hp).1 y hy'
          omega
    · rw [mem_ins, map_take_mem hx, hm]
    · simp; omega
  have ins : ∀ (K : Value → World → Prop), (∀ o' w', At w3.drew.drew.drew [] (stars [slc encU 1 o' (ys.take k ++ [x.seg] ++ ys.drop k)]) w' → K o' w') → ∀ (t52 t64 : Value), (∀ w', (∀ b ∈ F, blk w' b = blk w3.drew.drew.drew b) → cellsOfArg w' 1 t52 = some (flat encU (ys.take k), (ys.take k).length)) →
      (∀ w', (∀ b ∈ F, blk w' b = blk w3.drew.drew.drew b) → cellsOfArg w' 1 t64 = some (flat encU (ys.drop k), (ys.drop k).length)) →
      ∀ (S : Nat → World → Prop), (∀ w', blk w' bx = blk w3.drew.drew.drew bx → S 10 w') →
      (BND (newslice 22 #[(Value.int .u64 0)] 1 0 [] w3.drew.drew.drew) fun p_ => NEW p_ fun t49 w6 => S 10 w6 ∧ APPEND 22 1 8 (Value.int .u64 0) t49 t52 w6 fun t53 w7 => S 10 w7 ∧ BND (newslice 22 #[(Value.int .u64 0)] 1 1 [(0, 1, .int .u64 x.seg)] w7) fun p_ => NEW p_ fun t60 w8 =>
        APPEND 22 1 8 (Value.int .u64 0) t53 t60 w8 fun t61 w9 => APPEND 22 1 8 (Value.int .u64 0) t61 t64 w9 fun t65 w10 => K t65 w10) ∧
      (BND (newslice 22 #[(Value.int .u64 0)] 1 0 [] w3.drew.drew.drew) fun p_ => NEW p_ fun t49 w11 => S 10 w11 ∧ BND (newslice 22 #[(Value.int .u64 0)] 1 1 [(0, 1, .int .u64 x.seg)] w11) fun p_ => NEW p_ fun t60 w12 => APPEND 22 1 8 (Value.int .u64 0) t49 t52 w12 fun t53 w13 => S 10 w13 ∧
        APPEND 22 1 8 (Value.int .u64 0) t53 t60 w13 fun t61 w14 => APPEND 22 1 8 (Value.int .u64 0) t61 t64 w14 fun t65 w15 => K t65 w15) ∧
      (BND (newslice 22 #[(Value.int .u64 0)] 1 1 [(0, 1, .int .u64 x.seg)] w3.drew.drew.drew) fun p_ => NEW p_ fun t60 w16 => BND (newslice 22 #[(Value.int .u64 0)] 1 0 [] w16) fun p_ => NEW p_ fun t49 w17 => S 10 w17 ∧ APPEND 22 1 8 (Value.int .u64 0) t49 t52 w17 fun t53 w18 => S 10 w18 ∧
        APPEND 22 1 8 (Value.int .u64 0) t53 t60 w18 fun t61 w19 => APPEND 22 1 8 (Value.int .u64 0) t61 t64 w19 fun t65 w20 => K t65 w20) := by
    intro K hK t52 t64 c52 c64 S hS
    have hFl : ∀ b ∈ F, b < hsz w3.drew.drew.drew := sF.lt
    have hbx3 : bx < hsz w3.drew.drew.drew := hbx
    generalize w3.drew.drew.drew = wd at *
    have hFlt : ∀ {w'}, Fr [] wd w' → (∀ b ∈ F, blk w' b = blk wd b) ∧ S 10 w' := fun f => ⟨fun b hb => f.keep b (hFl b hb) (by simp), hS _ (f.keep _ hbx3 (by simp))⟩
    have l1 : (ys.take k).length ≤ 1000000 := by rw [List.length_take]; omega
    have l2 : (ys.drop k).length ≤ 1000000 := by rw [List.length_drop]; omega
    refine ⟨?_, ?_, ?_⟩
    · refine newnil_step encU fun t49 w6 s6 f6 z6 => ⟨(hFlt f6).2, ?_⟩
      have a6 : At wd [] (stars [slc encU 1 t49 []]) w6 := (At.nothing wd).add f6 (P := slc encU 1 t49 []) s6 (by simp)
      refine a6.append (i := 0) rfl (c52 _ (hFlt a6.frame).1) encU_len encU_one rfl (by omega) (by simp only [List.length_nil]; omega) fun t53 w7 a7 _ => ⟨(hFlt a7.frame).2, ?_⟩
      refine newone_step (enc := encU) (x := x.seg) encU_len rfl fun t60 w8 s8 f8 z8 => ?_
      refine (a7.fr0 f8).append (i := 0) rfl (s8.loads encU_len) encU_len encU_one rfl (by omega) (by simp; omega) fun t61 w9 a9 _ => ?_
      refine a9.append (i := 0) rfl (c64 _ (hFlt a9.frame).1) encU_len encU_one rfl (by omega) (by simp; omega) fun t65 w10 a10 _ => hK _ _ a10
    · refine newnil_step encU fun t49 w6 s6 f6 z6 => ⟨(hFlt f6).2, ?_⟩
      have a6 : At wd [] (stars [slc encU 1 t49 []]) w6 := (At.nothing wd).add f6 (P := slc encU 1 t49 []) s6 (by simp)
      refine newone_step (enc := encU) (x := x.seg) encU_len rfl fun t60 w8 s8 f8 z8 => ?_
      have a8 := a6.add f8 (P := slc encU 1 t60 [x.seg]) s8 (by simp)
      refine a8.append (i := 1) rfl (c52 _ (hFlt a8.frame).1) encU_len encU_one rfl (by omega) (by simp only [List.length_nil]; omega) fun t53 w7 a7 _ => ⟨(hFlt a7.frame).2, ?_⟩
      obtain ⟨F60, s60, _⟩ := a7.slc1 (i := 0) rfl
      refine a7.append (i := 1) rfl (s60.loads encU_len) encU_len encU_one rfl (by omega) (by simp; omega) fun t61 w9 a9 _ => ?_
      refine a9.append (i := 1) rfl (c64 _ (hFlt a9.frame).1) encU_len encU_one rfl (by omega) (by simp; omega) fun t65 w10 a10 _ => hK _ _ a10.tail
    · refine newone_step (enc := encU) (x := x.seg) encU_len rfl fun t60 w8 s8 f8 z8 => ?_
      have a8 : At wd [] (stars [slc encU 1 t60 [x.seg]]) w8 := (At.nothing wd).add f8 (P := slc encU 1 t60 [x.seg]) s8 (by simp)
      refine newnil_step encU fun t49 w6 s6 f6 z6 => ?_
      have a6 := a8.add f6 (P := slc encU 1 t49 []) s6 (by simp)
      refine ⟨(hFlt a6.frame).2, ?_⟩
      refine a6.append (i := 0) rfl (c52 _ (hFlt a6.frame).1) encU_len encU_one rfl (by omega) (by simp only [List.length_nil]; omega) fun t53 w7 a7 _ => ⟨(hFlt a7.frame).2, ?_⟩
      obtain ⟨F60, s60, _⟩ := a7.slc1 (i := 1) rfl
      refine a7.append (i := 0) rfl (s60.loads encU_len) encU_len encU_one rfl (by omega) (by simp; omega) fun t61 w9 a9 _ => ?_
      refine a9.append (i := 0) rfl (c64 _ (hFlt a9.frame).1) encU_len encU_one rfl (by omega) (by simp; omega) fun t65 w10 a10 _ => hK _ _ a10.swap.tail
  have fin : (∀ y ∈ ys.drop k, x.seg ≤ y) → ∀ y, ys[k]? = some y → y = x.seg → (∃ ys', At w [] (stars [slc encU 1 o ys']) w3.drew.drew ∧ ys'.Pairwise (· < ·) ∧ (∀ z, z ∈ ys' ↔ z ∈ (xs.take (i + 1)).map Itm.seg) ∧ ys'.length ≤ i + 1) := fun _ y hy he =>
    ⟨ys, st3.fr0 (Fr.drew _ _), hr, fun z => by
      rw [map_take_mem hx, ← hm]
      constructor
      · exact .inr
      · rintro (h | h)
        · rw [h, ← he]; exact List.mem_of_getElem? hy
        · exact h, by omega⟩
  have put : ∀ (K : Value → World → Prop), (∀ o' w', At w3.drew.drew.drew [] (stars [slc encU 1 o' (ys.take k ++ [x.seg] ++ ys.drop k)]) w' → K o' w') → True := fun _ _ => trivial
  (repeat (first | refine BND_step hlen ?_ | refine stp ?_ | (apply BND_inc; omega) | (apply BND_dec; omega) | refine BND_step rfl ?_ | (apply cyes; first | assumption | omega) | (apply cno; first | assumption | omega) | refine (COND_true _ _).2 ?_ | refine (COND_false _ _).2 ?_ | simp (disch := first | assumption | omega) only [gs1, gs2, decide_true, decide_false, eq_self, beq_self_eq_true, Bool.not_true, Bool.not_false]))
  by_cases hkl : k < ys.length
  · have hy := List.getElem?_eq_getElem hkl
    generalize hyk : ys[k] = y at hy
    obtain ⟨by_, oy, iy, _, _, ly⟩ := sF.arr.spot hy rfl .i64
    have ly1 := ly (w' := w3.drew) rfl (j := 0) rfl
    have ly2 := ly (w' := w3.drew.drew) rfl (j := 0) rfl
    (repeat (first | refine BND_step iy ?_ | refine BND_step ix ?_ | (apply BND_step; exact ly1) | (apply BND_step; exact lx1) | refine stp ?_ | (apply BND_inc; omega) | (apply BND_dec; omega) | refine BND_step rfl ?_ | (apply cyes; first | assumption | omega) | (apply cno; first | assumption | omega) | refine (COND_true _ _).2 ?_ | refine (COND_false _ _).2 ?_ | simp (disch := first | assumption | omega) only [gs1, gs2, decide_true, decide_false, eq_self, beq_self_eq_true, Bool.not_true, Bool.not_false]))
    by_cases hlt2 : y < x.seg
    · (repeat (first | refine stp ?_ | (apply BND_inc; omega) | (apply BND_dec; omega) | refine BND_step rfl ?_ | (apply cyes; first | assumption | omega) | (apply cno; first | assumption | omega) | refine (COND_true _ _).2 ?_ | refine (COND_false _ _).2 ?_ | simp (disch := first | assumption | omega) only [gs1, gs2, decide_true, decide_false, eq_self, beq_self_eq_true, Bool.not_true, Bool.not_false]))
      refine hJ2 _ hkl ⟨f3.trans' (Fr.drew _ _), fun z hz => ?_⟩
      rw [List.take_add_one, hy] at hz
      rcases List.mem_append.1 hz with hz | hz
      · exact hb z hz
      · simp at hz; subst hz; exact hlt2
    · have hge : ∀ z ∈ ys.drop k, x.seg ≤ z := by
        intro z hz
        rw [List.drop_eq_getElem_cons hkl, hyk] at hz
        rcases List.mem_cons.1 hz with rfl | hz
        · omega
        · have hp : (ys.drop k).Pairwise (· < ·) := hr.sublist (List.drop_sublist _ _)
          rw [List.drop_eq_getElem_cons hkl, hyk] at hp
          have := (List.pairwise_cons.1 hp).1 z hz
          omega
      (repeat (first | refine BND_step hlen ?_ | refine BND_step iy ?_ | refine BND_step ix ?_ | (apply BND_step; exact ly2) | (apply BND_step; exact lx2) | refine stp ?_ | (apply BND_inc; omega) | (apply BND_dec; omega) | refine BND_step rfl ?_ | (apply cyes; first | assumption | omega) | (apply cno; first | assumption | omega) | refine (COND_true _ _).2 ?_ | refine (COND_false _ _).2 ?_ | simp (disch := first | assumption | omega) only [gs1, gs2, decide_true, decide_false, eq_self, beq_self_eq_true, Bool.not_true, Bool.not_false]))
      refine join_v (fun o' w' => ∃ ys', At w [] (stars [slc encU 1 o' ys']) w' ∧ ys'.Pairwise (· < ·) ∧ (∀ z, z ∈ ys' ↔ z ∈ (xs.take (i + 1)).map Itm.seg) ∧ ys'.length ≤ i + 1) (fun K hK => ?_) (fun o' w' hg => ?_)
      · by_cases hne : y = x.seg
        · (repeat (first | refine stp ?_ | (apply BND_inc; omega) | (apply BND_dec; omega) | refine BND_step rfl ?_ | (apply cyes; first | assumption | omega) | (apply cno; first | assumption | omega) | refine (COND_true _ _).2 ?_ | refine (COND_false _ _).2 ?_ | simp (disch := first | assumption | omega) only [gs1, gs2, decide_true, decide_false, eq_self, beq_self_eq_true, Bool.not_true, Bool.not_false]))
          exact hK _ _ (fin hge y hy hne)
        · (repeat (first | refine stp ?_ | (apply BND_inc; omega) | (apply BND_dec; omega) | refine BND_step rfl ?_ | (apply cyes; first | assumption | omega) | (apply cno; first | assumption | omega) | refine (COND_true _ _).2 ?_ | refine (COND_false _ _).2 ?_ | simp (disch := first | assumption | omega) only [gs1, gs2, decide_true, decide_false, eq_self, beq_self_eq_true, Bool.not_true, Bool.not_false]))
          obtain ⟨v1, e1, c1⟩ := sF.upto encU_len (n := k) (by omega) .i64
          obtain ⟨v2, e2, c2⟩ := sF.from encU_len (n := k) (by omega) .i64
          have lx3 := lx (w' := w3.drew.drew.drew) rfl (j := 7) rfl
          refine ⟨fun _ w' => blk w' bx = blk w3.drew.drew.drew bx, rfl, ?_⟩
          refine BND_step e1 <| BND_step ix <| BND_step (faddr_ptr _ _ _) <| BND_step (faddr_ptr _ _ _) <| FLT.mk (.int .u64 x.seg) (fun w' hw => lx hw (j := 7) rfl) <| BND_step e2 ?_
          refine join_v (fun o' w' => At w3.drew.drew.drew [] (stars [slc encU 1 o' (ys.take k ++ [x.seg] ++ ys.drop k)]) w') (fun K2 hK2 => ?_) (fun o' w' hst => ?_)
          · exact ins K2 hK2 v1 v2 (fun w' hw => c1 w' hw) (fun w' hw => c2 w' hw) (fun _ w' => blk w' bx = blk w3.drew.drew.drew bx) (fun _ h => h)
          · exact go2 hge (.inr ⟨y, hy, hne⟩) K hK o' w' hst
      · (repeat (first | refine stp ?_ | (apply BND_inc; omega) | (apply BND_dec; omega) | refine BND_step rfl ?_ | (apply cyes; first | assumption | omega) | (apply cno; first | assumption | omega) | refine (COND_true _ _).2 ?_ | refine (COND_false _ _).2 ?_ | simp (disch := first | assumption | omega) only [gs1, gs2, decide_true, decide_false, eq_self, beq_self_eq_true, Bool.not_true, Bool.not_false]))
        exact hJ _ _ hlt hg
  · have hk0 : ys[k]? = none := List.getElem?_eq_none (by omega)
    have hge : ∀ z ∈ ys.drop k, x.seg ≤ z := by
      intro z hz
      rw [List.drop_of_length_le (by omega)] at hz; simp at hz
    (repeat (first | refine BND_step hlen ?_ | refine stp ?_ | (apply BND_inc; omega) | (apply BND_dec; omega) | refine BND_step rfl ?_ | (apply cyes; first | assumption | omega) | (apply cno; first | assumption | omega) | refine (COND_true _ _).2 ?_ | refine (COND_false _ _).2 ?_ | simp (disch := first | assumption | omega) only [gs1, gs2, decide_true, decide_false, eq_self, beq_self_eq_true, Bool.not_true, Bool.not_false]))
    refine join_v (fun o' w' => ∃ ys', At w [] (stars [slc encU 1 o' ys']) w' ∧ ys'.Pairwise (· < ·) ∧ (∀ z, z ∈ ys' ↔ z ∈ (xs.take (i + 1)).map Itm.seg) ∧ ys'.length ≤ i + 1) (fun K hK => ?_) (fun o' w' hg => ?_)
    · (repeat (first | refine stp ?_ | (apply BND_inc; omega) | (apply BND_dec; omega) | refine BND_step rfl ?_ | (apply cyes; first | assumption | omega) | (apply cno; first | assumption | omega) | refine (COND_true _ _).2 ?_ | refine (COND_false _ _).2 ?_ | simp (disch := first | assumption | omega) only [gs1, gs2, decide_true, decide_false, eq_self, beq_self_eq_true, Bool.not_true, Bool.not_false]))
      obtain ⟨v1, e1, c1⟩ := sF.upto encU_len (n := k) (by omega) .i64
      obtain ⟨v2, e2, c2⟩ := sF.from encU_len (n := k) (by omega) .i64
      refine ⟨fun _ w' => blk w' bx = blk w3.drew.drew.drew bx, rfl, ?_⟩
      refine BND_step e1 <| BND_step ix <| BND_step (faddr_ptr _ _ _) <| BND_step (faddr_ptr _ _ _) <| FLT.mk (.int .u64 x.seg) (fun w' hw => lx hw (j := 7) rfl) <| BND_step e2 ?_
      refine join_v (fun o' w' => At w3.drew.drew.drew [] (stars [slc encU 1 o' (ys.take k ++ [x.seg] ++ ys.drop k)]) w') (fun K2 hK2 => ?_) (fun o' w' hst => ?_)
      · exact ins K2 hK2 v1 v2 (fun w' hw => c1 w' hw) (fun w' hw => c2 w' hw) (fun _ w' => blk w' bx = blk w3.drew.drew.drew bx) (fun _ h => h)
      · exact go2 hge (.inl hk0) K hK o' w' hst
    · (repeat (first | refine stp ?_ | (apply BND_inc; omega) | (apply BND_dec; omega) | refine BND_step rfl ?_ | (apply cyes; first | assumption | omega) | (apply cno; first | assumption | omega) | refine (COND_true _ _).2 ?_ | refine (COND_false _ _).2 ?_ | simp (disch := first | assumption | omega) only [gs1, gs2, decide_true, decide_false, eq_self, beq_self_eq_true, Bool.not_true, Bool.not_false]))
      exact hJ _ _ hlt hg
end
end Go.Proofs.Ytkifjfjhghogjaa
