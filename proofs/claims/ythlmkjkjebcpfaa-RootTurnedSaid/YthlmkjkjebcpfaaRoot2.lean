/- A root read, walked. No condition but sizes. -/
import Derived.Test.YthlmkjkjebcpfaaRoot
import Derived.Test.YthlmkjkjebcpfaaMa
namespace Go.Proofs.Ythlmkjkjebcpfaa
open Go.Den Go.Disk Go.Vint Go.Crc Go.Frame Go.Rec Go.Root
theorem recAllF_good : ∀ (fs : List Fra) (k : Nat) (e : Int), ∀ x ∈ (recAllF fs k e).1, rightB x.kind x.n.length x.text.length = true ∧ ∀ n ∈ x.n, n < 18446744073709551616
  | [], _, _, x, hx => by simp [recAllF] at hx
  | y :: r, k, e, x, hx => by
    rw [recAllF_cons] at hx
    by_cases h : (recRead y).2 = 0
    · rw [if_pos h] at hx
      rcases List.mem_cons.1 hx with rfl | hx
      · exact recRead_good h
      · exact recAllF_good r _ e x hx
    · rw [if_neg h] at hx; simp at hx
def arr5 (ns : List Nat) (i : Nat) : List Value := (List.range 5).map fun j => .int .i64 (if j < i then small (ns.getD j 0) else 0)
theorem arr5_set {ns : List Nat} {i n : Nat} (hx : ns[i]? = some n) : (arr5 ns i).set i (.int .i64 (small n)) = arr5 ns (i + 1) := by
  apply List.ext_getElem (by simp [arr5])
  intro k h1 h2
  rw [List.getElem_set]
  by_cases e : i = k
  · subst e
    simp only [if_true, arr5, List.getElem_map, List.getElem_range]
    rw [if_pos (by omega), List.getD_eq_getElem?_getD, hx]; rfl
  · simp only [e, if_false, arr5, List.getElem_map, List.getElem_range]
    congr 1
    by_cases hn : k < i
    · rw [if_pos hn, if_pos (by omega)]
    · rw [if_neg hn, if_neg (by omega)]
theorem small_v (n : Nat) : min2v (.int .u64 (n : Int)) (.int .u64 1048576) = some (.int .u64 (small n)) := by
  show some (Value.int .u64 (if (1048576 : Int) < (n : Int) then 1048576 else (n : Int))) = _
  unfold small
  congr 2
  split <;> omega
theorem small_c (n : Nat) : convi .i64 (.int .u64 (small n)) = some (.int .i64 (small n)) := by
  unfold small
  exact convi64 (by omega)
set_option linter.unusedSimpArgs false
set_option linter.unusedVariables false
set_option maxRecDepth 20000
set_option maxHeartbeats 4000000
attribute [local congr] BND_cg COND_cg GEF_cg
attribute [local irreducible] capl slicea load1 loadn iaddr iaddra faddr storev newslice binv lookv mupd mdel mlenv mentry mestore slicev slicev3 slices indexs indexav textv rangev nexts clearv shiftv eqaggv convi buildv pickv lens lenl unv nilchk extractv partn JOIN
section
variable {w0 w : World} {F0 : List Nat} {d : Nat} {s : Dk} {R : Value → World → Prop}
theorem rt_Read (h : At w0 F0 (diskHP d s) w) (hi : Inv s) (hn : s.dirs.length < 100000000) (hR : ∀ w', Fr [] w w' → R (.tuple #[.agg (encT (readT s).1).toArray, .int .i64 (readT s).2]) w') : CALL PR F_root_Read [ptrTo d] w R := by
  refine C_root_Read ?_
  unfold M_root_Read
  refine NEW_intro fun w1 b1 f1 z1 => ?_
  replace b1 : blk w1 (hsz w) = some (.cells (encT zeroT).toArray 26 (0, 0)) := b1
  -- what comes of an error
  have bad : ∀ (w6 : World) (e : Int), Fr [] w w6 → blk w6 (hsz w) = some (.cells (encT zeroT).toArray 26 (0, 0)) → readT s = (zeroT, e) →
      (BND (buildv #[(Value.int .u64 0), (Value.int .i64 0), (Value.int .i64 0), (Value.int .i64 0), (Value.int .i64 0)] []) fun t => BND (storev 5 w6 (.pointer (some ⟨hsz w, 0, none⟩)) t) fun w7 => BND (loadn 5 w7 (.pointer (some ⟨hsz w, 0, none⟩))) fun r => R (.tuple #[r, (Value.int .i64 e)]) w7) := by
    intro w6 e f6 b6 he
    rw [he] at hR
    (repeat (first | (apply BND_build (encT zeroT); exact rfl) | refine stp ?_ | (apply BND_inc; omega) | (apply BND_dec; omega) | refine BND_step (rfl : some _ = some _) ?_ | (apply cyes; first | assumption | omega) | (apply cno; first | assumption | omega) | refine (COND_true _ _).2 ?_ | refine (COND_false _ _).2 ?_ | simp (disch := first | assumption | omega) only [gs1, gs2, decide_true, decide_false, eq_self, beq_self_eq_true, Bool.not_true, Bool.not_false]))
    refine put_step (n := 5) (vs := encT zeroT) b6 rfl rfl (encT_one _) (by simp [encT]) fun w7 b7 f7 _ => ?_
    (repeat (first | refine BND_step (loadn_all' b7 rfl) ?_ | refine stp ?_ | (apply BND_inc; omega) | (apply BND_dec; omega) | refine BND_step (rfl : some _ = some _) ?_ | (apply cyes; first | assumption | omega) | (apply cno; first | assumption | omega) | refine (COND_true _ _).2 ?_ | refine (COND_false _ _).2 ?_ | simp (disch := first | assumption | omega) only [gs1, gs2, decide_true, decide_false, eq_self, beq_self_eq_true, Bool.not_true, Bool.not_false]))
    exact hR w7 (f6.trans f7 fun b hb => .inr (by simp at hb; omega))
  refine dk_Read (h.fr0 f1) hi.wf (by omega) nf fun w2 v2 G2 _ s2 g2 f2 => ?_
  have b2 := f2.some (by simp) b1
  have f02 := f1.trans' f2
  by_cases he' : ¬ ((Disk.read s nf).2 = 0)
  · (repeat (first | refine stp ?_ | (apply BND_inc; omega) | (apply BND_dec; omega) | refine BND_step (rfl : some _ = some _) ?_ | (apply cyes; first | assumption | omega) | (apply cno; first | assumption | omega) | refine (COND_true _ _).2 ?_ | refine (COND_false _ _).2 ?_ | simp (disch := first | assumption | omega) only [gs1, gs2, decide_true, decide_false, eq_self, beq_self_eq_true, Bool.not_true, Bool.not_false]))
    exact bad w2 _ f02 b2 (by unfold readT; rw [if_pos he'])
  have he : (Disk.read s nf).2 = 0 := Decidable.of_not_not he'
  have hrd : readT s = fromB (Disk.read s nf).1 := by unfold readT; rw [if_neg (fun h => h he)]
  have hlen : (Disk.read s nf).1.length < 10000000 := by
    unfold Disk.read
    split
    · simp
    · split
      · simp
      · rename_i f hf
        have := hi.wf.small _ (List.mem_of_getElem? (wf_pick hi.wf hf))
        have := hi.wf.room
        show (fileAt s f).b.length < _
        omega
  generalize (Disk.read s nf).1 = bs at s2 hrd hlen
  rw [he]
  (repeat (first | refine stp ?_ | (apply BND_inc; omega) | (apply BND_dec; omega) | refine BND_step (rfl : some _ = some _) ?_ | (apply cyes; first | assumption | omega) | (apply cno; first | assumption | omega) | refine (COND_true _ _).2 ?_ | refine (COND_false _ _).2 ?_ | simp (disch := first | assumption | omega) only [gs1, gs2, decide_true, decide_false, eq_self, beq_self_eq_true, Bool.not_true, Bool.not_false]))
  refine rec_All s2.arrC hlen fun w4 v ev G B E h4 _ gG gB _ f4 => ?_
  have b4 := f4.some (by simp) b2
  have f04 := f02.trans' f4
  have hgood := recAllF_good (frAll bs 0).1 0 (frAll bs 0).2.2
  rw [show recAllF (frAll bs 0).1 0 (frAll bs 0).2.2 = recAll bs from rfl] at hgood
  unfold fromB at hrd
  (repeat (first | refine stp ?_ | (apply BND_inc; omega) | (apply BND_dec; omega) | refine BND_step (rfl : some _ = some _) ?_ | (apply cyes; first | assumption | omega) | (apply cno; first | assumption | omega) | refine (COND_true _ _).2 ?_ | refine (COND_false _ _).2 ?_ | simp (disch := first | assumption | omega) only [gs1, gs2, decide_true, decide_false, eq_self, beq_self_eq_true, Bool.not_true, Bool.not_false]))
  by_cases he2' : ¬ ((recAll bs).2.2 = 0)
  · (repeat (first | refine stp ?_ | (apply BND_inc; omega) | (apply BND_dec; omega) | refine BND_step (rfl : some _ = some _) ?_ | (apply cyes; first | assumption | omega) | (apply cno; first | assumption | omega) | refine (COND_true _ _).2 ?_ | refine (COND_false _ _).2 ?_ | simp (disch := first | assumption | omega) only [gs1, gs2, decide_true, decide_false, eq_self, beq_self_eq_true, Bool.not_true, Bool.not_false]))
    exact bad w4 _ f04 b4 (by rw [hrd, if_pos he2'])
  have he2 : (recAll bs).2.2 = 0 := Decidable.of_not_not he2'
  rw [if_neg (fun h => h he2)] at hrd
  (repeat (first | refine BND_step h4.len ?_ | refine stp ?_ | (apply BND_inc; omega) | (apply BND_dec; omega) | refine BND_step (rfl : some _ = some _) ?_ | (apply cyes; first | assumption | omega) | (apply cno; first | assumption | omega) | refine (COND_true _ _).2 ?_ | refine (COND_false _ _).2 ?_ | simp (disch := first | assumption | omega) only [gs1, gs2, decide_true, decide_false, eq_self, beq_self_eq_true, Bool.not_true, Bool.not_false]))
  by_cases hl' : ¬ (((recAll bs).1.length : Int) = 1)
  · (repeat (first | refine stp ?_ | (apply BND_inc; omega) | (apply BND_dec; omega) | refine BND_step (rfl : some _ = some _) ?_ | (apply cyes; first | assumption | omega) | (apply cno; first | assumption | omega) | refine (COND_true _ _).2 ?_ | refine (COND_false _ _).2 ?_ | simp (disch := first | assumption | omega) only [gs1, gs2, decide_true, decide_false, eq_self, beq_self_eq_true, Bool.not_true, Bool.not_false]))
    refine bad w4 2 f04 b4 ?_
    rw [hrd]
    match hq : (recAll bs).1 with
    | [x] => rw [hq] at hl'; exact absurd rfl hl'
    | [] => rfl
    | _ :: _ :: _ => rfl
  have hl : ((recAll bs).1.length : Int) = 1 := Decidable.of_not_not hl'
  obtain ⟨x, hx⟩ : ∃ x, (recAll bs).1 = [x] := by
    match hq : (recAll bs).1 with
    | [x] => exact ⟨x, rfl⟩
    | [] => rw [hq] at hl; simp at hl
    | _ :: _ :: _ => rw [hq] at hl; simp at hl; omega
  rw [hx] at hrd h4 hgood
  simp only at hrd
  obtain ⟨hg1, hg2⟩ := hgood x (by simp)
  obtain ⟨⟨cs, c1, c2, c3⟩, _⟩ := h4
  obtain ⟨sn, H, d1, d2, d3⟩ := c3 0 x rfl
  obtain ⟨bp, op, ia, _, hbp, l1⟩ := c1.arr.spot d1 rfl .i64
  have l1k : ∀ w', Fr [] w4 w' → load1 w' (.pointer (some ⟨bp, op + 1, none⟩)) = some sn.v := fun w' fr => l1 (fr.keep bp hbp (by simp)) (j := 1) rfl
  have hll : lenl v = some (.int .i64 1) := by rw [c1.len, c2]; rfl
  (repeat (first | refine BND_step ia ?_ | (apply BND_step; exact (l1 (w' := w4) rfl (j := 0) rfl)) | refine stp ?_ | (apply BND_inc; omega) | (apply BND_dec; omega) | refine BND_step (rfl : some _ = some _) ?_ | (apply cyes; first | assumption | omega) | (apply cno; first | assumption | omega) | refine (COND_true _ _).2 ?_ | refine (COND_false _ _).2 ?_ | simp (disch := first | assumption | omega) only [gs1, gs2, decide_true, decide_false, eq_self, beq_self_eq_true, Bool.not_true, Bool.not_false]))
  by_cases hk' : ¬ ((x.kind : Int) = 12)
  · (repeat (first | refine stp ?_ | (apply BND_inc; omega) | (apply BND_dec; omega) | refine BND_step (rfl : some _ = some _) ?_ | (apply cyes; first | assumption | omega) | (apply cno; first | assumption | omega) | refine (COND_true _ _).2 ?_ | refine (COND_false _ _).2 ?_ | simp (disch := first | assumption | omega) only [gs1, gs2, decide_true, decide_false, eq_self, beq_self_eq_true, Bool.not_true, Bool.not_false]))
    exact bad w4 2 f04 b4 (by rw [hrd, if_pos (by omega)])
  have hk : (x.kind : Int) = 12 := Decidable.of_not_not hk'
  have hk' : x.kind = 12 := by omega
  rw [if_neg (fun h => h hk')] at hrd
  have h5 : x.n.length = 5 := by
    obtain ⟨_, _, h, _⟩ := right_known hg1
    rw [h, hk']; rfl
  (repeat (first | refine stp ?_ | (apply BND_inc; omega) | (apply BND_dec; omega) | refine BND_step (rfl : some _ = some _) ?_ | (apply cyes; first | assumption | omega) | (apply cno; first | assumption | omega) | refine (COND_true _ _).2 ?_ | refine (COND_false _ _).2 ?_ | simp (disch := first | assumption | omega) only [gs1, gs2, decide_true, decide_false, eq_self, beq_self_eq_true, Bool.not_true, Bool.not_false]))
  refine NEW_intro fun w7 b7 f7 z7 => ?_
  replace b7 : blk w7 (hsz w4) = some (.cells (arr5 x.n 0).toArray 72 (0, 0)) := b7
  have sn7 := d2.fr f7 (by simp)
  (repeat (first | refine BND_step ia ?_ | refine BND_step (l1k w7 f7) ?_ | refine BND_step sn7.len ?_ | refine stp ?_ | (apply BND_inc; omega) | (apply BND_dec; omega) | refine BND_step (rfl : some _ = some _) ?_ | (apply cyes; first | assumption | omega) | (apply cno; first | assumption | omega) | refine (COND_true _ _).2 ?_ | refine (COND_false _ _).2 ?_ | simp (disch := first | assumption | omega) only [gs1, gs2, decide_true, decide_false, eq_self, beq_self_eq_true, Bool.not_true, Bool.not_false]))
  refine loop_up 0 x.n.length (fun i w' => blk w' (hsz w4) = some (.cells (arr5 x.n i).toArray 72 (0, 0)) ∧ Fr [hsz w4] w7 w') ⟨b7, Fr.refl _ _⟩ (by omega) ?_
  rintro i w8 - hi8 ⟨b8, f8⟩ J m hJ
  have sn8 := sn7.fr f8 (fun b hb hb' => by have := d2.lt b hb; simp at hb'; omega)
  by_cases hlt : i < x.n.length
  · have hxi := List.getElem?_eq_getElem hlt
    generalize x.n[i] = n at hxi
    obtain ⟨bq, oq, iq, _, _, lq⟩ := sn8.arr.spot hxi rfl .i64
    (repeat (first | refine BND_step iq ?_ | (apply BND_step; exact (lq (w' := w8) rfl (j := 0) rfl)) | refine BND_step (small_v n) ?_ | refine BND_step (small_c n) ?_ | refine BND_step (iaddra_at (len := 5) (b := hsz w4) (k := .i64) (i := i) (by omega)) ?_ | refine stp ?_ | (apply BND_inc; omega) | (apply BND_dec; omega) | refine BND_step (rfl : some _ = some _) ?_ | (apply cyes; first | assumption | omega) | (apply cno; first | assumption | omega) | refine (COND_true _ _).2 ?_ | refine (COND_false _ _).2 ?_ | simp (disch := first | assumption | omega) only [gs1, gs2, decide_true, decide_false, eq_self, beq_self_eq_true, Bool.not_true, Bool.not_false]))
    refine fstore_step b8 ⟨rfl, rfl⟩ (by simp [arr5]; omega) fun w9 b9 f9 _ => ?_
    rw [arr5_set hxi] at b9
    (repeat (first | refine stp ?_ | (apply BND_inc; omega) | (apply BND_dec; omega) | refine BND_step (rfl : some _ = some _) ?_ | (apply cyes; first | assumption | omega) | (apply cno; first | assumption | omega) | refine (COND_true _ _).2 ?_ | refine (COND_false _ _).2 ?_ | simp (disch := first | assumption | omega) only [gs1, gs2, decide_true, decide_false, eq_self, beq_self_eq_true, Bool.not_true, Bool.not_false]))
    exact hJ _ hlt ⟨b9, f8.trans' f9⟩
  · have hi5 : i = 5 := by omega
    subst hi5
    (repeat (first | refine stp ?_ | (apply BND_inc; omega) | (apply BND_dec; omega) | refine BND_step (rfl : some _ = some _) ?_ | (apply cyes; first | assumption | omega) | (apply cno; first | assumption | omega) | refine (COND_true _ _).2 ?_ | refine (COND_false _ _).2 ?_ | simp (disch := first | assumption | omega) only [gs1, gs2, decide_true, decide_false, eq_self, beq_self_eq_true, Bool.not_true, Bool.not_false]))
    have f48 : Fr [] w4 w8 := f7.trans f8 fun b hb => .inr (by simp at hb; omega)
    have f48d := f48.trans' (Fr.drew [] w8)
    have f08d := f04.trans' f48d
    have e8 : hsz w8.drew = hsz w8 := rfl
    have gr0 := f08d.grow
    have gr4 := f48d.grow
    have gb4 := blk_lt b4
    obtain ⟨n0, n1, n2, n3, n4, hns⟩ : ∃ a b c d e, x.n = [a, b, c, d, e] := by
      match hq : x.n, h5 with
      | [a, b, c, d, e], _ => exact ⟨a, b, c, d, e, rfl⟩
    rw [hns] at b8 sn8
    have b8d : blk w8.drew (hsz w4) = some (.cells [Value.int .i64 (small n0), .int .i64 (small n1), .int .i64 (small n2), .int .i64 (small n3), .int .i64 (small n4)].toArray 72 (0, 0)) := b8
    have sn8d : Slc encU 1 w8.drew sn.v [n0, n1, n2, n3, n4] H := sn8.congr fun _ _ => rfl
    obtain ⟨bq, oq, iq, _, hbq, lq⟩ := sn8d.arr.spot (i := 0) (x := n0) rfl rfl .i64
    have lqk : ∀ w', Fr [] w8.drew w' → load1 w' (.pointer (some ⟨bq, oq, none⟩)) = some (.int .u64 (n0 : Int)) := fun w' fr => lq (fr.keep bq hbq (by simp)) (j := 0) rfl
    have ra : ∀ w', Fr [] w8.drew w' → ∀ j u, [Value.int .i64 (small n0), .int .i64 (small n1), .int .i64 (small n2), .int .i64 (small n3), .int .i64 (small n4)][j]? = some u → load1 w' (.pointer (some ⟨hsz w4, j, none⟩)) = some u := fun w' fr j u hu => load1_at (fr.some (by simp) b8d) hu
    have i1 := iaddra_at (len := 5) (b := hsz w4) (k := .i64) (i := 1) (by omega)
    have i2 := iaddra_at (len := 5) (b := hsz w4) (k := .i64) (i := 2) (by omega)
    have i3 := iaddra_at (len := 5) (b := hsz w4) (k := .i64) (i := 3) (by omega)
    have i4 := iaddra_at (len := 5) (b := hsz w4) (k := .i64) (i := 4) (by omega)
    have hof : ofRec x = ⟨n0, small n1, small n2, small n3, small n4⟩ := by unfold ofRec; rw [hns]; rfl
    rw [hof] at hrd
    refine ⟨fun _ w' => Fr [] w8.drew w', Fr.refl _ _, Fr.refl _ _, Fr.refl _ _, Fr.refl _ _, Fr.refl _ _, Fr.refl _ _, ?_⟩
    (repeat (first | refine BND_step ia ?_ | refine FLT.mk _ (fun _ hw_ => (l1k _ (f48d.trans' hw_))) ?_ | refine BND_step iq ?_ | refine FLT.mk _ (fun _ hw_ => (lqk _ hw_)) ?_ | refine BND_step i1 ?_ | refine FLT.mk _ (fun _ hw_ => (ra _ hw_ 1 _ rfl)) ?_ | refine BND_step i2 ?_ | refine FLT.mk _ (fun _ hw_ => (ra _ hw_ 2 _ rfl)) ?_ | refine BND_step i3 ?_ | refine FLT.mk _ (fun _ hw_ => (ra _ hw_ 3 _ rfl)) ?_ | (apply BND_build ([.int .i64 (small n1), .int .i64 (small n2), .int .i64 (small n3)]); exact rfl) | refine BND_step i4 ?_ | refine FLT.mk _ (fun _ hw_ => (ra _ hw_ 4 _ rfl)) ?_ | (apply BND_build (encT ⟨n0, small n1, small n2, small n3, small n4⟩); exact rfl) | refine stp ?_ | (apply BND_inc; omega) | (apply BND_dec; omega) | refine BND_step (rfl : some _ = some _) ?_ | (apply cyes; first | assumption | omega) | (apply cno; first | assumption | omega) | refine (COND_true _ _).2 ?_ | refine (COND_false _ _).2 ?_ | simp (disch := first | assumption | omega) only [gs1, gs2, decide_true, decide_false, eq_self, beq_self_eq_true, Bool.not_true, Bool.not_false]))
    refine NEW_intro fun w10 b10 f10 z10 => ?_
    refine ⟨f10, f10, f10, f10, f10, f10, ?_⟩
    refine put_step (n := 5) (vs := encT ⟨n0, small n1, small n2, small n3, small n4⟩) b10 rfl rfl (encT_one _) (by simp [encT]) fun w11 b11 f11 _ => ?_
    have f011 : Fr [] w w11 := (f08d.trans' f10).trans f11 fun b hb => .inr (by have := f08d.grow; simp at hb; omega)
    (repeat (first | refine BND_step (loadn_all' b11 rfl) ?_ | refine stp ?_ | (apply BND_inc; omega) | (apply BND_dec; omega) | refine BND_step (rfl : some _ = some _) ?_ | (apply cyes; first | assumption | omega) | (apply cno; first | assumption | omega) | refine (COND_true _ _).2 ?_ | refine (COND_false _ _).2 ?_ | simp (disch := first | assumption | omega) only [gs1, gs2, decide_true, decide_false, eq_self, beq_self_eq_true, Bool.not_true, Bool.not_false]))
    refine rt_Right _ fun w12 f12 => ?_
    have b12 := f12.some (by simp) b11
    have bz : blk w12 (hsz w) = some (.cells (encT zeroT).toArray 26 (0, 0)) := by
      have q1 := f48d.some (by simp) b4
      have q2 := f10.some (by simp) q1
      have q3 := f11.some (by have := blk_lt q1; simp; omega) q2
      exact f12.some (by simp) q3
    have f012 := f011.trans' f12
    cases hr : rightT ⟨n0, small n1, small n2, small n3, small n4⟩ with
    | false =>
      rw [hr] at hrd
      (repeat (first | refine stp ?_ | (apply BND_inc; omega) | (apply BND_dec; omega) | refine BND_step (rfl : some _ = some _) ?_ | (apply cyes; first | assumption | omega) | (apply cno; first | assumption | omega) | refine (COND_true _ _).2 ?_ | refine (COND_false _ _).2 ?_ | simp (disch := first | assumption | omega) only [gs1, gs2, decide_true, decide_false, eq_self, beq_self_eq_true, Bool.not_true, Bool.not_false]))
      exact bad w12 2 f012 bz (by rw [hrd]; rfl)
    | true =>
      rw [hr] at hrd
      simp only [if_true] at hrd
      rw [hrd] at hR
      (repeat (first | refine BND_step (loadn_all' b12 rfl) ?_ | refine stp ?_ | (apply BND_inc; omega) | (apply BND_dec; omega) | refine BND_step (rfl : some _ = some _) ?_ | (apply cyes; first | assumption | omega) | (apply cno; first | assumption | omega) | refine (COND_true _ _).2 ?_ | refine (COND_false _ _).2 ?_ | simp (disch := first | assumption | omega) only [gs1, gs2, decide_true, decide_false, eq_self, beq_self_eq_true, Bool.not_true, Bool.not_false]))
      refine put_step (n := 5) (vs := encT ⟨n0, small n1, small n2, small n3, small n4⟩) bz rfl rfl (encT_one _) (by simp [encT]) fun w14 b14 f14 _ => ?_
      (repeat (first | refine BND_step (loadn_all' b14 rfl) ?_ | refine stp ?_ | (apply BND_inc; omega) | (apply BND_dec; omega) | refine BND_step (rfl : some _ = some _) ?_ | (apply cyes; first | assumption | omega) | (apply cno; first | assumption | omega) | refine (COND_true _ _).2 ?_ | refine (COND_false _ _).2 ?_ | simp (disch := first | assumption | omega) only [gs1, gs2, decide_true, decide_false, eq_self, beq_self_eq_true, Bool.not_true, Bool.not_false]))
      exact hR w14 (f012.trans f14 fun b hb => .inr (by simp at hb; omega))
end
end Go.Proofs.Ythlmkjkjebcpfaa
