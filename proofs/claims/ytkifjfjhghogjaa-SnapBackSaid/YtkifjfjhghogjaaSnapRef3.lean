/- By the document: Load: the snapshot of any records, or that there is none; it's the program's. No condition but sizes. -/
import Derived.Test.YtkifjfjhghogjaaSnapRef2
import Derived.Test.YtkifjfjhghogjaaMa
namespace Go.Proofs.Ytkifjfjhghogjaa
open Go.Den
set_option linter.unusedSimpArgs false
set_option linter.unusedVariables false
set_option maxRecDepth 20000
set_option maxHeartbeats 4000000
attribute [local congr] BND_cg COND_cg GEF_cg
attribute [local irreducible] load1 loadn iaddr iaddra faddr storev newslice binv lookv mupd mdel mlenv mentry mestore slicev slicev3 slices indexs indexav textv rangev nexts clearv shiftv eqaggv convi buildv pickv lens lenl unv nilchk extractv partn JOIN
/-! ## Plain -/
def kAt (ls : List LRec) (i : Nat) : Int := ((ls[i]?).map LRec.k).getD 0
def goodAt (ls : List LRec) (i : Nat) : Prop := 14 ≤ kAt ls i ∧ kAt ls i ≤ 16 ∧ kAt ls (i - 1) ≤ kAt ls i
def lastL (ls : List LRec) : LRec := ls.getD (ls.length - 1) ⟨0, [], ⟨#[]⟩⟩
def refOk (ls : List LRec) : Prop := preL ls ∧ (lastL ls).k = 17 ∧ (lastL ls).ns.getD 0 0 = ((ls.length - 1 : Nat) : Int) ∧ (∀ i, 1 ≤ i → i < ls.length - 1 → goodAt ls i) ∧ (midL ls).all tightL = true
theorem kAt_get {ls : List LRec} {i : Nat} {l : LRec} (h : ls[i]? = some l) : kAt ls i = l.k := by unfold kAt; rw [h]; rfl
section
variable {w : World} {R : Value → World → Prop}
theorem r13_Load {a : Value} {ls : List LRec} (h : RecsR w a ls) (hn : ls.length < 100000) (hu : NsU ls)
    (hno : ∀ w', Fr [] w w' → ¬ refOk ls → R (.tuple #[.agg zSn.toArray, .int .i64 2]) w') (hyes : ∀ w' iv dv cv, Fr [] w w' → refOk ls → SnV w' (gotL ls) iv dv cv → R (.tuple #[.agg (snC (gotL ls) iv dv cv).toArray, .int .i64 0]) w') :
    CALL PR F_tumbrelref13_Load [a] w R := by
  refine C_tumbrelref13_Load ?_
  unfold M_tumbrelref13_Load
  refine NEW_intro fun w1 b1 f1 z1 => ?_
  obtain ⟨TS, b1⟩ : ∃ T, blk w1 (hsz w) = some (.cells zSn.toArray T (0, 0)) := ⟨_, b1⟩
  have err : ∀ w2, Fr [] w w2 → (∃ TS, blk w2 (hsz w) = some (.cells zSn.toArray TS (0, 0))) → ¬ refOk ls →
      BND (buildv #[(Value.int .u64 0), (Value.int .u64 0), (Value.int .u64 0), (Value.int .u64 0), (Value.int .u64 0), (Value.slice none 0 0), (Value.slice none 0 0), (Value.slice none 0 0), (Value.int .u64 0), (Value.int .u64 0)] []) fun t25_13 =>
      BND (storev 10 w2 (.pointer (some ⟨hsz w, 0, none⟩)) t25_13) fun w3 => BND (loadn 10 w3 (.pointer (some ⟨hsz w, 0, none⟩))) fun r_14 => R (.tuple #[r_14, (Value.int .i64 2)]) w3 := by
    rintro w2 f2 ⟨TS, b2⟩ hx
    refine BND_step (build_at (vs := zSn) rfl) <| put_step b2 rfl (vs := zSn) rfl zSn_one (by simp [zSn, snC, stC]) fun w3 b3 f3 z3 => BND_step (loadn_all b3 rfl) ?_
    exact hno w3 (f2.trans f3 fun b hb => by simp at hb; subst hb; exact .inr (Nat.le_refl _)) hx
  have mid_get : ∀ {i : Nat}, i < ls.length - 2 → (midL ls)[i]? = ls[i + 1]? := fun h => midL_get h
  -- may each record be?
  refine loop_up 0 ls.length (fun i w' => Fr [] w1 w' ∧ (ls.take i).all rightL = true) ⟨Fr.refl _ _, rfl⟩ (by omega) ?_
  rintro i w2 - hi ⟨f2, e2⟩ J m hJ
  have f02 := f1.trans' f2
  have b2 := f2.some (by simp) b1
  by_cases hlt : i < ls.length
  · have hx := List.getElem?_eq_getElem hlt
    generalize ls[i] = l at hx
    obtain ⟨r, B, o, g, i1, n1, _, _⟩ := (h.fr0 f02).spot hx
    (repeat (first | refine BND_step h.len ?_ | refine BND_step i1 ?_ | refine BND_step n1 ?_ | refine stp ?_ | (apply BND_inc; omega) | (apply BND_dec; omega) | refine BND_step rfl ?_ | (apply cyes; first | assumption | omega) | (apply cno; first | assumption | omega) | refine (COND_true _ _).2 ?_ | refine (COND_false _ _).2 ?_ | simp (disch := first | assumption | omega) only [gs1, gs2, decide_true, decide_false, eq_self, beq_self_eq_true, Bool.not_true, Bool.not_false]))
    refine r5_Right r fun w3 f3 => ?_
    rw [g.right]
    cases hr : rightL l with
    | true =>
      (repeat (first | refine stp ?_ | (apply BND_inc; omega) | (apply BND_dec; omega) | refine BND_step rfl ?_ | (apply cyes; first | assumption | omega) | (apply cno; first | assumption | omega) | refine (COND_true _ _).2 ?_ | refine (COND_false _ _).2 ?_ | simp (disch := first | assumption | omega) only [gs1, gs2, decide_true, decide_false, eq_self, beq_self_eq_true, Bool.not_true, Bool.not_false]))
      exact hJ _ hlt ⟨f2.trans' f3, take_all hx e2 hr⟩
    | false =>
      (repeat (first | refine stp ?_ | (apply BND_inc; omega) | (apply BND_dec; omega) | refine BND_step rfl ?_ | (apply cyes; first | assumption | omega) | (apply cno; first | assumption | omega) | refine (COND_true _ _).2 ?_ | refine (COND_false _ _).2 ?_ | simp (disch := first | assumption | omega) only [gs1, gs2, decide_true, decide_false, eq_self, beq_self_eq_true, Bool.not_true, Bool.not_false]))
      exact err w3 (f02.trans' f3) ⟨_, f3.some (by simp) b2⟩ fun hk => by have := hk.1.2.1; rw [not_all hx hr] at this; cases this
  rw [List.take_of_length_le (by omega)] at e2
  (repeat (first | refine BND_step h.len ?_ | refine stp ?_ | (apply BND_inc; omega) | (apply BND_dec; omega) | refine BND_step rfl ?_ | (apply cyes; first | assumption | omega) | (apply cno; first | assumption | omega) | refine (COND_true _ _).2 ?_ | refine (COND_false _ _).2 ?_ | simp (disch := first | assumption | omega) only [gs1, gs2, decide_true, decide_false, eq_self, beq_self_eq_true, Bool.not_true, Bool.not_false]))
  by_cases h2 : ls.length < 2
  · (repeat (first | refine stp ?_ | (apply BND_inc; omega) | (apply BND_dec; omega) | refine BND_step rfl ?_ | (apply cyes; first | assumption | omega) | (apply cno; first | assumption | omega) | refine (COND_true _ _).2 ?_ | refine (COND_false _ _).2 ?_ | simp (disch := first | assumption | omega) only [gs1, gs2, decide_true, decide_false, eq_self, beq_self_eq_true, Bool.not_true, Bool.not_false]))
    exact err w2 f02 ⟨_, b2⟩ fun hk => by have := hk.1.1; omega
  have h0 : ls[0]? = some (baseL ls) := by
    unfold baseL
    rw [List.getD_eq_getElem?_getD, List.getElem?_eq_getElem (by omega)]; rfl
  have hL : ls[ls.length - 1]? = some (lastL ls) := by
    unfold lastL
    rw [List.getD_eq_getElem?_getD, List.getElem?_eq_getElem (by omega)]; rfl
  obtain ⟨r0, B0, o0, g0, i0, _, _, l0⟩ := (h.fr0 f02).spot h0
  obtain ⟨rl, BL, oL, gl, iL, _, _, lL⟩ := (h.fr0 f02).spot hL
  (repeat (first | refine BND_step i0 ?_ | refine BND_step (l0 rfl (j := 0) rfl) ?_ | refine stp ?_ | (apply BND_inc; omega) | (apply BND_dec; omega) | refine BND_step rfl ?_ | (apply cyes; first | assumption | omega) | (apply cno; first | assumption | omega) | refine (COND_true _ _).2 ?_ | refine (COND_false _ _).2 ?_ | simp (disch := first | assumption | omega) only [gs1, gs2, decide_true, decide_false, eq_self, beq_self_eq_true, Bool.not_true, Bool.not_false]))
  by_cases hk0 : r0.k = 13
  rotate_left
  · (repeat (first | refine stp ?_ | (apply BND_inc; omega) | (apply BND_dec; omega) | refine BND_step rfl ?_ | (apply cyes; first | assumption | omega) | (apply cno; first | assumption | omega) | refine (COND_true _ _).2 ?_ | refine (COND_false _ _).2 ?_ | simp (disch := first | assumption | omega) only [gs1, gs2, decide_true, decide_false, eq_self, beq_self_eq_true, Bool.not_true, Bool.not_false]))
    exact err w2 f02 ⟨_, b2⟩ fun hk => hk0 (by rw [g0.1]; exact hk.1.2.2)
  (repeat (first | refine BND_step iL ?_ | refine BND_step (lL rfl (j := 0) rfl) ?_ | refine stp ?_ | (apply BND_inc; omega) | (apply BND_dec; omega) | refine BND_step rfl ?_ | (apply cyes; first | assumption | omega) | (apply cno; first | assumption | omega) | refine (COND_true _ _).2 ?_ | refine (COND_false _ _).2 ?_ | simp (disch := first | assumption | omega) only [gs1, gs2, decide_true, decide_false, eq_self, beq_self_eq_true, Bool.not_true, Bool.not_false]))
  by_cases hkl : rl.k = 17
  rotate_left
  · (repeat (first | refine stp ?_ | (apply BND_inc; omega) | (apply BND_dec; omega) | refine BND_step rfl ?_ | (apply cyes; first | assumption | omega) | (apply cno; first | assumption | omega) | refine (COND_true _ _).2 ?_ | refine (COND_false _ _).2 ?_ | simp (disch := first | assumption | omega) only [gs1, gs2, decide_true, decide_false, eq_self, beq_self_eq_true, Bool.not_true, Bool.not_false]))
    exact err w2 f02 ⟨_, b2⟩ fun hk => hkl (by rw [gl.1]; exact hk.2.1)
  have hbk : (baseL ls).k = 13 := by rw [← g0.1, hk0]
  have hlk : (lastL ls).k = 17 := by rw [← gl.1, hkl]
  have hpre : preL ls := ⟨by omega, e2, hbk⟩
  have hr0 : rightL (baseL ls) = true := List.all_eq_true.1 e2 _ (List.mem_of_getElem? h0)
  have hrl : rightL (lastL ls) = true := List.all_eq_true.1 e2 _ (List.mem_of_getElem? hL)
  have hl1 : (lastL ls).ns.length = 1 := by
    unfold rightL rightR at hrl
    rw [hlk] at hrl
    simp only [Bool.and_eq_true, decide_eq_true_eq] at hrl
    simpa [numsT] using hrl.1.2
  obtain ⟨e0, _, n0⟩ := g0
  obtain ⟨eL, _, nL⟩ := gl
  obtain ⟨q, hq⟩ := one hl1
  rw [hq] at nL
  have hcv : convi .u64 (.int .i64 ((ls.length - 1 : Nat) : Int)) = some (.int .u64 ((ls.length - 1 : Nat) : Int)) := by
    unfold convi
    simp only
    rw [wrap_u64 (by omega) (by omega)]
  (repeat (first | refine BND_step iL ?_ | refine BND_step (lL rfl (j := 1) rfl) ?_ | (apply Arr.bui nL; exact ⟨by decide, rfl⟩) | (apply Arr.bul nL; exact rfl) | refine BND_step hcv ?_ | refine stp ?_ | (apply BND_inc; omega) | (apply BND_dec; omega) | refine BND_step rfl ?_ | (apply cyes; first | assumption | omega) | (apply cno; first | assumption | omega) | refine (COND_true _ _).2 ?_ | refine (COND_false _ _).2 ?_ | simp (disch := first | assumption | omega) only [gs1, gs2, decide_true, decide_false, eq_self, beq_self_eq_true, Bool.not_true, Bool.not_false]))
  by_cases hql : q = ((ls.length - 1 : Nat) : Int)
  rotate_left
  · (repeat (first | refine stp ?_ | (apply BND_inc; omega) | (apply BND_dec; omega) | refine BND_step rfl ?_ | (apply cyes; first | assumption | omega) | (apply cno; first | assumption | omega) | refine (COND_true _ _).2 ?_ | refine (COND_false _ _).2 ?_ | simp (disch := first | assumption | omega) only [gs1, gs2, decide_true, decide_false, eq_self, beq_self_eq_true, Bool.not_true, Bool.not_false]))
    exact err w2 f02 ⟨_, b2⟩ fun hk => hql (by have := hk.2.2.1; rw [hq] at this; exact this)
  (repeat (first | refine BND_step i0 ?_ | refine BND_step (l0 rfl (j := 1) rfl) ?_ | refine stp ?_ | (apply BND_inc; omega) | (apply BND_dec; omega) | refine BND_step rfl ?_ | (apply cyes; first | assumption | omega) | (apply cno; first | assumption | omega) | refine (COND_true _ _).2 ?_ | refine (COND_false _ _).2 ?_ | simp (disch := first | assumption | omega) only [gs1, gs2, decide_true, decide_false, eq_self, beq_self_eq_true, Bool.not_true, Bool.not_false]))
  generalize hbn : (baseL ls).ns = bn at n0
  obtain ⟨m0, m1, m2, m3, m4, m5, m6, rfl⟩ := seven (ns := bn) (by rw [← hbn]; exact NsU.len7 hr0 hbk)
  have nd : Arr encU 1 w2.drew r0.nv _ := n0.fr (Fr.drew [] _) (by simp)
  refine ⟨fun _ w' => Arr encU 1 w' r0.nv [m0, m1, m2, m3, m4, m5, m6], nd, nd, nd, nd, nd, nd, nd, ?_⟩
  (repeat (first | (apply Arr.bui n0; exact ⟨by decide, rfl⟩) | (apply FLT_ul (fun _ h_ => h_); exact rfl) | (apply BND_build ([.int .u64 m0, .int .u64 m1, .int .u64 m2, .int .u64 m3, .int .u64 m4, .slice none 0 0, .slice none 0 0, .slice none 0 0]); exact rfl) | (apply BND_build (snC (gath [m0, m1, m2, m3, m4, m5, m6] []) (.slice none 0 0) (.slice none 0 0) (.slice none 0 0)); exact rfl) | refine stp ?_ | (apply BND_inc; omega) | (apply BND_dec; omega) | refine BND_step rfl ?_ | (apply cyes; first | assumption | omega) | (apply cno; first | assumption | omega) | refine (COND_true _ _).2 ?_ | refine (COND_false _ _).2 ?_ | simp (disch := first | assumption | omega) only [gs1, gs2, decide_true, decide_false, eq_self, beq_self_eq_true, Bool.not_true, Bool.not_false]))
  have fd : Fr [] w2 w2.drew := Fr.drew [] w2
  generalize w2.drew = w3 at nd fd
  refine NEW_intro fun w4 b4 f4 z4 => ?_
  have n4 : Arr encU 1 w4 r0.nv _ := nd.fr f4 (by simp)
  refine ⟨n4, n4, n4, n4, n4, n4, n4, ?_⟩
  have st0 : At w [] (stars [pts (hsz w) zSn]) w2 := (At.nothing w).add f02 ⟨⟨_, b2⟩, rfl⟩ (by simp)
  have st1 := (st0.fr0 fd).add f4 (P := pts (hsz w3) zSn) ⟨⟨_, b4⟩, rfl⟩ (by simp)
  have z0 : (gath [m0, m1, m2, m3, m4, m5, m6] []).items = [] := rfl
  refine st1.put (i := 0) rfl rfl (vs := snC (gath [m0, m1, m2, m3, m4, m5, m6] []) (.slice none 0 0) (.slice none 0 0) (.slice none 0 0)) rfl ?_ (by simp [snC, stC]) fun w5 st5 f5 => ?_
  · intro u hu
    simp only [snC, stC, List.mem_append, List.mem_cons, List.not_mem_nil, or_false] at hu
    rcases hu with (rfl | rfl | rfl | rfl | rfl | rfl | rfl | rfl) | rfl | rfl <;> rfl
  generalize hbm : [m0, m1, m2, m3, m4, m5, m6] = bn at *
  have hml := midL_len ls
  have st5' : LdSt w w5 (hsz w) (hsz w3) (gath bn ((midL ls).take (1 - 1))) := ⟨_, _, _, ((st5.add0 (P := slc encI 10 (.slice none 0 0) []) (Slc.nil _ _ _)).add0 (P := slc encRow 2 (.slice none 0 0) []) (Slc.nil _ _ _)).add0 (P := slc encC 2 (.slice none 0 0) []) (Slc.nil _ _ _)⟩
  refine loop_up 1 (ls.length - 1) (fun i w' => LdSt w w' (hsz w) (hsz w3) (gath bn ((midL ls).take (i - 1))) ∧ ((midL ls).take (i - 1)).all tightL = true ∧ ∀ j, 1 ≤ j → j < i → goodAt ls j) ⟨st5', rfl, fun j h1 h2 => by omega⟩ (by omega) ?_
  rintro i w8 hi1 hi ⟨g8, t8, k8⟩ J m hJ
  (repeat (first | refine stp ?_ | (apply BND_inc; omega) | (apply BND_dec; omega) | refine BND_step rfl ?_ | (apply cyes; first | assumption | omega) | (apply cno; first | assumption | omega) | refine (COND_true _ _).2 ?_ | refine (COND_false _ _).2 ?_ | simp (disch := first | assumption | omega) only [gs1, gs2, decide_true, decide_false, eq_self, beq_self_eq_true, Bool.not_true, Bool.not_false]))
  by_cases hlt : i < ls.length - 1
  · have hx := List.getElem?_eq_getElem (l := ls) (i := i) (by omega)
    generalize ls[i] = l at hx
    have hp := List.getElem?_eq_getElem (l := ls) (i := i - 1) (by omega)
    generalize ls[i - 1] = lp at hp
    have hmx : (midL ls)[i - 1]? = some l := by rw [mid_get (by omega), ← hx]; congr 1; omega
    have hlin : l ∈ ls := List.mem_of_getElem? hx
    have hrl := List.all_eq_true.1 e2 l hlin
    have htake : (midL ls).take (i + 1 - 1) = (midL ls).take (i - 1) ++ [l] := by rw [show i + 1 - 1 = (i - 1) + 1 by omega, List.take_add_one, hmx]; rfl
    have hcnt : ((midL ls).take (i - 1)).length ≤ 100000 := by rw [List.length_take]; omega
    have f8 := g8.frame
    obtain ⟨r, B1, o1, ⟨rk, rt, rn⟩, i1, _, hB1, l1⟩ := (h.fr0 f8).spot hx
    obtain ⟨rp, B2, o2, ⟨pk, pt, pn⟩, i2, _, _, l2⟩ := (h.fr0 f8).spot hp
    have rnd : Arr encU 1 w8.drew r.nv l.ns := rn.fr (Fr.drew [] _) (by simp)
    have kA := kAt_get hx
    have kP := kAt_get hp
    have bad : ¬ goodAt ls i → ∀ w', Fr [] w8 w' → BND (buildv #[(Value.int .u64 0), (Value.int .u64 0), (Value.int .u64 0), (Value.int .u64 0), (Value.int .u64 0), (Value.slice none 0 0), (Value.slice none 0 0), (Value.slice none 0 0), (Value.int .u64 0), (Value.int .u64 0)] []) fun t25_13 =>
      BND (storev 10 w' (.pointer (some ⟨hsz w, 0, none⟩)) t25_13) fun w3 => BND (loadn 10 w3 (.pointer (some ⟨hsz w, 0, none⟩))) fun r_14 => R (.tuple #[r_14, (Value.int .i64 2)]) w3 :=
      fun hb w' f => err w' (f8.trans' f) (g8.fr0 f).cellS fun hk => hb (hk.2.2.2.1 i hi1 hlt)
    (repeat (first | refine BND_step i1 ?_ | refine BND_step (l1 rfl (j := 0) rfl) ?_ | refine BND_step (l1 rfl (j := 1) rfl) ?_ | refine stp ?_ | (apply BND_inc; omega) | (apply BND_dec; omega) | refine BND_step rfl ?_ | (apply cyes; first | assumption | omega) | (apply cno; first | assumption | omega) | refine (COND_true _ _).2 ?_ | refine (COND_false _ _).2 ?_ | simp (disch := first | assumption | omega) only [gs1, gs2, decide_true, decide_false, eq_self, beq_self_eq_true, Bool.not_true, Bool.not_false]))
    by_cases k1 : r.k < 14
    · (repeat (first | refine stp ?_ | (apply BND_inc; omega) | (apply BND_dec; omega) | refine BND_step rfl ?_ | (apply cyes; first | assumption | omega) | (apply cno; first | assumption | omega) | refine (COND_true _ _).2 ?_ | refine (COND_false _ _).2 ?_ | simp (disch := first | assumption | omega) only [gs1, gs2, decide_true, decide_false, eq_self, beq_self_eq_true, Bool.not_true, Bool.not_false]))
      exact bad (fun hg => by have := hg.1; omega) _ (Fr.refl _ _)
    (repeat (first | refine stp ?_ | (apply BND_inc; omega) | (apply BND_dec; omega) | refine BND_step rfl ?_ | (apply cyes; first | assumption | omega) | (apply cno; first | assumption | omega) | refine (COND_true _ _).2 ?_ | refine (COND_false _ _).2 ?_ | simp (disch := first | assumption | omega) only [gs1, gs2, decide_true, decide_false, eq_self, beq_self_eq_true, Bool.not_true, Bool.not_false]))
    by_cases k2 : 16 < r.k
    · (repeat (first | refine stp ?_ | (apply BND_inc; omega) | (apply BND_dec; omega) | refine BND_step rfl ?_ | (apply cyes; first | assumption | omega) | (apply cno; first | assumption | omega) | refine (COND_true _ _).2 ?_ | refine (COND_false _ _).2 ?_ | simp (disch := first | assumption | omega) only [gs1, gs2, decide_true, decide_false, eq_self, beq_self_eq_true, Bool.not_true, Bool.not_false]))
      exact bad (fun hg => by have := hg.2.1; omega) _ (Fr.refl _ _)
    (repeat (first | refine BND_step i2 ?_ | refine BND_step (l2 rfl (j := 0) rfl) ?_ | refine stp ?_ | (apply BND_inc; omega) | (apply BND_dec; omega) | refine BND_step rfl ?_ | (apply cyes; first | assumption | omega) | (apply cno; first | assumption | omega) | refine (COND_true _ _).2 ?_ | refine (COND_false _ _).2 ?_ | simp (disch := first | assumption | omega) only [gs1, gs2, decide_true, decide_false, eq_self, beq_self_eq_true, Bool.not_true, Bool.not_false]))
    by_cases k3 : r.k < rp.k
    · (repeat (first | refine stp ?_ | (apply BND_inc; omega) | (apply BND_dec; omega) | refine BND_step rfl ?_ | (apply cyes; first | assumption | omega) | (apply cno; first | assumption | omega) | refine (COND_true _ _).2 ?_ | refine (COND_false _ _).2 ?_ | simp (disch := first | assumption | omega) only [gs1, gs2, decide_true, decide_false, eq_self, beq_self_eq_true, Bool.not_true, Bool.not_false]))
      exact bad (fun hg => by have := hg.2.2; omega) _ (Fr.refl _ _)
    have hgood : goodAt ls i := ⟨by omega, by omega, by omega⟩
    have k9 : ∀ j, 1 ≤ j → j < i + 1 → goodAt ls j := fun j h1 h2 => by
      by_cases hji : j = i
      · subst hji; exact hgood
      · exact k8 j h1 (by omega)
    (repeat (first | refine stp ?_ | (apply BND_inc; omega) | (apply BND_dec; omega) | refine BND_step rfl ?_ | (apply cyes; first | assumption | omega) | (apply cno; first | assumption | omega) | refine (COND_true _ _).2 ?_ | refine (COND_false _ _).2 ?_ | simp (disch := first | assumption | omega) only [gs1, gs2, decide_true, decide_false, eq_self, beq_self_eq_true, Bool.not_true, Bool.not_false]))
    refine join_w (fun w' => LdSt w w' (hsz w) (hsz w3) (gath bn ((midL ls).take (i + 1 - 1))) ∧ ((midL ls).take (i + 1 - 1)).all tightL = true) (fun K hK => ?_) (fun w9 hg9 => ?_)
    rotate_left
    · (repeat (first | refine stp ?_ | (apply BND_inc; omega) | (apply BND_dec; omega) | refine BND_step rfl ?_ | (apply cyes; first | assumption | omega) | (apply cno; first | assumption | omega) | refine (COND_true _ _).2 ?_ | refine (COND_false _ _).2 ?_ | simp (disch := first | assumption | omega) only [gs1, gs2, decide_true, decide_false, eq_self, beq_self_eq_true, Bool.not_true, Bool.not_false]))
      exact hJ _ hlt ⟨hg9.1, hg9.2, k9⟩
    by_cases k14 : r.k = 14
    · have lk : l.k = 14 := by rw [← rk]; exact k14
      have eg : gath bn ((midL ls).take (i + 1 - 1)) = { gath bn ((midL ls).take (i - 1)) with items := (gath bn ((midL ls).take (i - 1))).items ++ [itemL l.ns] } := by
        rw [htake, gath_snoc]; simp [lk]; exact ⟨rfl, rfl, rfl⟩
      have hun := hu l hlin
      have h10 := NsU.len10 hrl lk
      generalize hns : l.ns = ns at *
      obtain ⟨n0, n1, n2, n3, n4, n5, n6, n7, n8, n9, rfl⟩ := ten h10
      have notight : ¬ (n1 ≤ 1000 ∧ n2 ≤ 1000 ∧ n3 ≤ 1000 ∧ n9 ≤ 1000) → ¬ refOk ls := fun hb hk => by
        have := List.all_eq_true.1 hk.2.2.2.2 l (List.mem_of_getElem? hmx)
        unfold tightL at this
        simp only [decide_eq_true_eq] at this
        have h := this lk
        rw [hns] at h
        exact hb h
      have err8 : ¬ (n1 ≤ 1000 ∧ n2 ≤ 1000 ∧ n3 ≤ 1000 ∧ n9 ≤ 1000) → BND (buildv #[(Value.int .u64 0), (Value.int .u64 0), (Value.int .u64 0), (Value.int .u64 0), (Value.int .u64 0), (Value.slice none 0 0), (Value.slice none 0 0), (Value.slice none 0 0), (Value.int .u64 0), (Value.int .u64 0)] []) fun t25_13 =>
        BND (storev 10 w8 (.pointer (some ⟨hsz w, 0, none⟩)) t25_13) fun w3 => BND (loadn 10 w3 (.pointer (some ⟨hsz w, 0, none⟩))) fun r_14 => R (.tuple #[r_14, (Value.int .i64 2)]) w3 := fun hb => err w8 f8 g8.cellS (notight hb)
      (repeat (first | (apply Arr.bui rn; exact ⟨by decide, rfl⟩) | (apply Arr.bul rn; exact rfl) | refine stp ?_ | (apply BND_inc; omega) | (apply BND_dec; omega) | refine BND_step rfl ?_ | (apply cyes; first | assumption | omega) | (apply cno; first | assumption | omega) | refine (COND_true _ _).2 ?_ | refine (COND_false _ _).2 ?_ | simp (disch := first | assumption | omega) only [gs1, gs2, decide_true, decide_false, eq_self, beq_self_eq_true, Bool.not_true, Bool.not_false]))
      by_cases q1 : 1000 < n1
      · (repeat (first | refine stp ?_ | (apply BND_inc; omega) | (apply BND_dec; omega) | refine BND_step rfl ?_ | (apply cyes; first | assumption | omega) | (apply cno; first | assumption | omega) | refine (COND_true _ _).2 ?_ | refine (COND_false _ _).2 ?_ | simp (disch := first | assumption | omega) only [gs1, gs2, decide_true, decide_false, eq_self, beq_self_eq_true, Bool.not_true, Bool.not_false]))
        exact err8 (by omega)
      (repeat (first | (apply Arr.bui rn; exact ⟨by decide, rfl⟩) | (apply Arr.bul rn; exact rfl) | refine stp ?_ | (apply BND_inc; omega) | (apply BND_dec; omega) | refine BND_step rfl ?_ | (apply cyes; first | assumption | omega) | (apply cno; first | assumption | omega) | refine (COND_true _ _).2 ?_ | refine (COND_false _ _).2 ?_ | simp (disch := first | assumption | omega) only [gs1, gs2, decide_true, decide_false, eq_self, beq_self_eq_true, Bool.not_true, Bool.not_false]))
      by_cases q2 : 1000 < n2
      · (repeat (first | refine stp ?_ | (apply BND_inc; omega) | (apply BND_dec; omega) | refine BND_step rfl ?_ | (apply cyes; first | assumption | omega) | (apply cno; first | assumption | omega) | refine (COND_true _ _).2 ?_ | refine (COND_false _ _).2 ?_ | simp (disch := first | assumption | omega) only [gs1, gs2, decide_true, decide_false, eq_self, beq_self_eq_true, Bool.not_true, Bool.not_false]))
        exact err8 (by omega)
      (repeat (first | (apply Arr.bui rn; exact ⟨by decide, rfl⟩) | (apply Arr.bul rn; exact rfl) | refine stp ?_ | (apply BND_inc; omega) | (apply BND_dec; omega) | refine BND_step rfl ?_ | (apply cyes; first | assumption | omega) | (apply cno; first | assumption | omega) | refine (COND_true _ _).2 ?_ | refine (COND_false _ _).2 ?_ | simp (disch := first | assumption | omega) only [gs1, gs2, decide_true, decide_false, eq_self, beq_self_eq_true, Bool.not_true, Bool.not_false]))
      by_cases q3 : 1000 < n3
      · (repeat (first | refine stp ?_ | (apply BND_inc; omega) | (apply BND_dec; omega) | refine BND_step rfl ?_ | (apply cyes; first | assumption | omega) | (apply cno; first | assumption | omega) | refine (COND_true _ _).2 ?_ | refine (COND_false _ _).2 ?_ | simp (disch := first | assumption | omega) only [gs1, gs2, decide_true, decide_false, eq_self, beq_self_eq_true, Bool.not_true, Bool.not_false]))
        exact err8 (by omega)
      (repeat (first | (apply Arr.bui rn; exact ⟨by decide, rfl⟩) | (apply Arr.bul rn; exact rfl) | refine stp ?_ | (apply BND_inc; omega) | (apply BND_dec; omega) | refine BND_step rfl ?_ | (apply cyes; first | assumption | omega) | (apply cno; first | assumption | omega) | refine (COND_true _ _).2 ?_ | refine (COND_false _ _).2 ?_ | simp (disch := first | assumption | omega) only [gs1, gs2, decide_true, decide_false, eq_self, beq_self_eq_true, Bool.not_true, Bool.not_false]))
      by_cases q9 : 1000 < n9
      · (repeat (first | refine stp ?_ | (apply BND_inc; omega) | (apply BND_dec; omega) | refine BND_step rfl ?_ | (apply cyes; first | assumption | omega) | (apply cno; first | assumption | omega) | refine (COND_true _ _).2 ?_ | refine (COND_false _ _).2 ?_ | simp (disch := first | assumption | omega) only [gs1, gs2, decide_true, decide_false, eq_self, beq_self_eq_true, Bool.not_true, Bool.not_false]))
        exact err8 (by omega)
      have u1 := (hun n1 (by simp)).1
      have u2 := (hun n2 (by simp)).1
      have u3 := (hun n3 (by simp)).1
      have u9 := (hun n9 (by simp)).1
      have c1 := conv_small u1 (by omega)
      have c2 := conv_small u2 (by omega)
      have c3 := conv_small u3 (by omega)
      have c9 := conv_small u9 (by omega)
      obtain ⟨iv, dv, cv, st⟩ := g8.fr0 (Fr.drew _ _)
      (repeat (first | refine stp ?_ | (apply BND_inc; omega) | (apply BND_dec; omega) | refine BND_step rfl ?_ | (apply cyes; first | assumption | omega) | (apply cno; first | assumption | omega) | refine (COND_true _ _).2 ?_ | refine (COND_false _ _).2 ?_ | simp (disch := first | assumption | omega) only [gs1, gs2, decide_true, decide_false, eq_self, beq_self_eq_true, Bool.not_true, Bool.not_false]))
      generalize w8.drew = wa at st rnd
      obtain ⟨TT, ct⟩ := st.cell (i := 3) rfl
      refine ⟨fun _ w' => blk w' (hsz w3) = some (.cells (snC (gath bn ((midL ls).take (i - 1))) iv dv cv).toArray TT (0, 0)), ct, ?_⟩
      (repeat (first | (apply FLT_ld (fun _ h_ => h_); exact rfl) | (apply Arr.bui rnd; exact ⟨by decide, rfl⟩) | (apply Arr.bul rnd; exact rfl) | refine BND_step c1 ?_ | refine BND_step c2 ?_ | refine BND_step c3 ?_ | refine BND_step c9 ?_ | (apply BND_build ([.int .i64 n2, .int .i64 n3, .int .u64 n4, .int .u64 n5]); exact rfl) | (apply BND_build ([.int .u64 n7, .int .u64 n8, .int .i64 n9]); exact rfl) | (apply BND_build (encI (itemL [n0, n1, n2, n3, n4, n5, n6, n7, n8, n9])); exact rfl) | refine stp ?_ | (apply BND_inc; omega) | (apply BND_dec; omega) | refine BND_step rfl ?_ | (apply cyes; first | assumption | omega) | (apply cno; first | assumption | omega) | refine (COND_true _ _).2 ?_ | refine (COND_false _ _).2 ?_ | simp (disch := first | assumption | omega) only [gs1, gs2, decide_true, decide_false, eq_self, beq_self_eq_true, Bool.not_true, Bool.not_false]))
      refine newone_step encI_len rfl fun t94 w12 s12 f12 z12 => ⟨f12.some (by simp) ct, ?_⟩
      refine (st.fr0 f12).append (i := 2) rfl (s12.loads encI_len) encI_len encI_one rfl (by omega) (by simp [gath, gathI]; have := List.length_filter_le (fun l => decide (l.k = 14)) ((midL ls).take (i - 1)); simp at this; omega) fun v1 w13 st13 one13 => ?_
      (repeat (first | refine stp ?_ | (apply BND_inc; omega) | (apply BND_dec; omega) | refine BND_step rfl ?_ | (apply cyes; first | assumption | omega) | (apply cno; first | assumption | omega) | refine (COND_true _ _).2 ?_ | refine (COND_false _ _).2 ?_ | simp (disch := first | assumption | omega) only [gs1, gs2, decide_true, decide_false, eq_self, beq_self_eq_true, Bool.not_true, Bool.not_false]))
      refine st13.store (i := 3) rfl one13 (by simp [snC, stC]) fun w14 st14 f14 => hK w14 ⟨⟨v1, dv, cv, ?_⟩, ?_⟩
      · rw [eg]; exact st14
      · rw [htake, List.all_append, t8]
        simp [tightL, lk, hns]; omega
    · have tl : tightL l = true := by
        have : ¬ l.k = 14 := by rw [← rk]; exact k14
        simp [tightL, this]
      have tt : ((midL ls).take (i + 1 - 1)).all tightL = true := by rw [htake, List.all_append, t8]; simp [tl]
      (repeat (first | refine stp ?_ | (apply BND_inc; omega) | (apply BND_dec; omega) | refine BND_step rfl ?_ | (apply cyes; first | assumption | omega) | (apply cno; first | assumption | omega) | refine (COND_true _ _).2 ?_ | refine (COND_false _ _).2 ?_ | simp (disch := first | assumption | omega) only [gs1, gs2, decide_true, decide_false, eq_self, beq_self_eq_true, Bool.not_true, Bool.not_false]))
      refine join_w (fun w' => LdSt w w' (hsz w) (hsz w3) (gath bn ((midL ls).take (i + 1 - 1)))) (fun K2 hK2 => ?_) (fun w9 hg9 => hK w9 ⟨hg9, tt⟩)
      obtain ⟨iv, dv, cv, st⟩ := g8.fr0 (Fr.drew _ _)
      by_cases k15 : r.k = 15
      · have lk : l.k = 15 := by rw [← rk]; exact k15
        have eg : gath bn ((midL ls).take (i + 1 - 1)) = { gath bn ((midL ls).take (i - 1)) with dead := (gath bn ((midL ls).take (i - 1))).dead ++ [(l.ns.getD 0 0, l.ns.getD 1 0)] } := by
          rw [htake, gath_snoc]; simp [lk]; exact ⟨rfl, rfl, rfl⟩
        have h10 := NsU.len2 hrl lk
        generalize hns : l.ns = ns at *
        obtain ⟨n0, n1, rfl⟩ := two h10
        (repeat (first | refine stp ?_ | (apply BND_inc; omega) | (apply BND_dec; omega) | refine BND_step rfl ?_ | (apply cyes; first | assumption | omega) | (apply cno; first | assumption | omega) | refine (COND_true _ _).2 ?_ | refine (COND_false _ _).2 ?_ | simp (disch := first | assumption | omega) only [gs1, gs2, decide_true, decide_false, eq_self, beq_self_eq_true, Bool.not_true, Bool.not_false]))
        generalize w8.drew = wa at st rnd
        obtain ⟨TT, ct⟩ := st.cell (i := 3) rfl
        refine ⟨fun _ w' => blk w' (hsz w3) = some (.cells (snC (gath bn ((midL ls).take (i - 1))) iv dv cv).toArray TT (0, 0)), ct, ?_⟩
        (repeat (first | (apply FLT_ld (fun _ h_ => h_); exact rfl) | (apply Arr.bui rnd; exact ⟨by decide, rfl⟩) | (apply Arr.bul rnd; exact rfl) | (apply BND_build (encRow (n0, n1)); exact rfl) | refine stp ?_ | (apply BND_inc; omega) | (apply BND_dec; omega) | refine BND_step rfl ?_ | (apply cyes; first | assumption | omega) | (apply cno; first | assumption | omega) | refine (COND_true _ _).2 ?_ | refine (COND_false _ _).2 ?_ | simp (disch := first | assumption | omega) only [gs1, gs2, decide_true, decide_false, eq_self, beq_self_eq_true, Bool.not_true, Bool.not_false]))
        refine newone_step encRow_len rfl fun t94 w12 s12 f12 z12 => ⟨f12.some (by simp) ct, ?_⟩
        refine (st.fr0 f12).append (i := 1) rfl (s12.loads encRow_len) encRow_len encRow_one rfl (by omega) (by simp [gath, gathD]; have := List.length_filter_le (fun l => decide (l.k = 15)) ((midL ls).take (i - 1)); simp at this; omega) fun v1 w13 st13 one13 => ?_
        (repeat (first | refine stp ?_ | (apply BND_inc; omega) | (apply BND_dec; omega) | refine BND_step rfl ?_ | (apply cyes; first | assumption | omega) | (apply cno; first | assumption | omega) | refine (COND_true _ _).2 ?_ | refine (COND_false _ _).2 ?_ | simp (disch := first | assumption | omega) only [gs1, gs2, decide_true, decide_false, eq_self, beq_self_eq_true, Bool.not_true, Bool.not_false]))
        refine st13.store (i := 3) rfl one13 (by simp [snC, stC]) fun w14 st14 f14 => hK2 w14 ⟨iv, v1, cv, ?_⟩
        rw [eg]; exact st14
      · have lk : l.k = 16 := by rw [← rk]; omega
        have eg : gath bn ((midL ls).take (i + 1 - 1)) = { gath bn ((midL ls).take (i - 1)) with curs := (gath bn ((midL ls).take (i - 1))).curs ++ [(l.t, l.ns.getD 0 0)] } := by
          rw [htake, gath_snoc]; simp [lk]; exact ⟨rfl, rfl, rfl⟩
        have h10 := NsU.len1 hrl lk
        generalize hns : l.ns = ns at *
        obtain ⟨n0, rfl⟩ := one h10
        have l1d : ∀ {j u}, (encR r)[j]? = some u → load1 w8.drew (Value.pointer (some { block := B1, off := o1 + j })) = some u := fun hj => l1 (w' := w8.drew) rfl hj
        (repeat (first | refine stp ?_ | (apply BND_inc; omega) | (apply BND_dec; omega) | refine BND_step rfl ?_ | (apply cyes; first | assumption | omega) | (apply cno; first | assumption | omega) | refine (COND_true _ _).2 ?_ | refine (COND_false _ _).2 ?_ | simp (disch := first | assumption | omega) only [gs1, gs2, decide_true, decide_false, eq_self, beq_self_eq_true, Bool.not_true, Bool.not_false]))
        generalize w8.drew = wa at st rnd l1d
        obtain ⟨TT, ct⟩ := st.cell (i := 3) rfl
        refine ⟨fun _ w' => blk w' (hsz w3) = some (.cells (snC (gath bn ((midL ls).take (i - 1))) iv dv cv).toArray TT (0, 0)), ct, ?_⟩
        have l1t := l1d (j := 2) (u := .string l.t) (by rw [← rt]; rfl)
        (repeat (first | refine BND_step i1 ?_ | refine BND_step l1t ?_ | (apply FLT_ld (fun _ h_ => h_); exact rfl) | (apply Arr.bui rnd; exact ⟨by decide, rfl⟩) | (apply Arr.bul rnd; exact rfl) | (apply BND_build (encC (l.t, n0)); exact rfl) | refine stp ?_ | (apply BND_inc; omega) | (apply BND_dec; omega) | refine BND_step rfl ?_ | (apply cyes; first | assumption | omega) | (apply cno; first | assumption | omega) | refine (COND_true _ _).2 ?_ | refine (COND_false _ _).2 ?_ | simp (disch := first | assumption | omega) only [gs1, gs2, decide_true, decide_false, eq_self, beq_self_eq_true, Bool.not_true, Bool.not_false]))
        refine newone_step encC_len rfl fun t94 w12 s12 f12 z12 => ⟨f12.some (by simp) ct, ?_⟩
        refine (st.fr0 f12).append (i := 0) rfl (s12.loads encC_len) encC_len encC_one rfl (by omega) (by simp [gath, gathC]; have := List.length_filter_le (fun l => decide (l.k = 16)) ((midL ls).take (i - 1)); simp at this; omega) fun v1 w13 st13 one13 => ?_
        (repeat (first | refine stp ?_ | (apply BND_inc; omega) | (apply BND_dec; omega) | refine BND_step rfl ?_ | (apply cyes; first | assumption | omega) | (apply cno; first | assumption | omega) | refine (COND_true _ _).2 ?_ | refine (COND_false _ _).2 ?_ | simp (disch := first | assumption | omega) only [gs1, gs2, decide_true, decide_false, eq_self, beq_self_eq_true, Bool.not_true, Bool.not_false]))
        refine st13.store (i := 3) rfl one13 (by simp [snC, stC]) fun w14 st14 f14 => hK2 w14 ⟨iv, dv, v1, ?_⟩
        rw [eg]; exact st14
  · rw [List.take_of_length_le (by omega)] at g8 t8
    obtain ⟨iv, dv, cv, st, sv⟩ := g8.snV
    obtain ⟨TT, ct⟩ := st.cell (i := 3) rfl
    have egot : gath bn (midL ls) = gotL ls := by unfold gotL; rw [hbn]
    rw [egot] at st ct sv
    (repeat (first | refine BND_step (loadn_all ct rfl) ?_ | refine stp ?_ | (apply BND_inc; omega) | (apply BND_dec; omega) | refine BND_step rfl ?_ | (apply cyes; first | assumption | omega) | (apply cno; first | assumption | omega) | refine (COND_true _ _).2 ?_ | refine (COND_false _ _).2 ?_ | simp (disch := first | assumption | omega) only [gs1, gs2, decide_true, decide_false, eq_self, beq_self_eq_true, Bool.not_true, Bool.not_false]))
    refine st.put (i := 4) rfl rfl rfl (snC_one sv) (by simp [snC, stC]) fun w9 st9 f9 => ?_
    obtain ⟨TS9, c9⟩ := st9.cell (i := 4) rfl
    (repeat (first | refine BND_step (loadn_all c9 rfl) ?_ | refine stp ?_ | (apply BND_inc; omega) | (apply BND_dec; omega) | refine BND_step rfl ?_ | (apply cyes; first | assumption | omega) | (apply cno; first | assumption | omega) | refine (COND_true _ _).2 ?_ | refine (COND_false _ _).2 ?_ | simp (disch := first | assumption | omega) only [gs1, gs2, decide_true, decide_false, eq_self, beq_self_eq_true, Bool.not_true, Bool.not_false]))
    obtain ⟨_, h1, _⟩ := st9.get 0 rfl
    obtain ⟨_, h2, _⟩ := st9.get 1 rfl
    obtain ⟨_, h3, _⟩ := st9.get 2 rfl
    exact hyes w9 iv dv cv st9.frame ⟨hpre, hlk, by rw [hq]; exact hql, fun j h1 h2 => k8 j h1 (by omega), t8⟩ ⟨Slc.arr h3, Slc.arr h2, Slc.arr h1⟩
end
end Go.Proofs.Ytkifjfjhghogjaa
