/- The law of a root that is written and read, walked. No condition. -/
import Derived.Test.YthlmkjkjebcpfaaRoot2
import Derived.Test.YthlmkjkjebcpfaaMa
namespace Go.Proofs.Ythlmkjkjebcpfaa
open Go.Den Go.Disk Go.Vint Go.Crc Go.Frame Go.Rec Go.Root
theorem eqT_cells (x y : Rt) : eqCells [(0, (.int .u64)), (1, (.int .i64)), (2, (.int .i64)), (3, (.int .i64)), (4, (.int .i64))] (encT x).toArray (encT y).toArray = some (decide (x = y)) := by
  rw [eqCells_int (xs := encT x) (ys := encT y) rfl rfl, eqCells_int (xs := encT x) (ys := encT y) rfl rfl, eqCells_int (xs := encT x) (ys := encT y) rfl rfl, eqCells_int (xs := encT x) (ys := encT y) rfl rfl, eqCells_int (xs := encT x) (ys := encT y) rfl rfl, eqCells_nil]
  obtain ⟨a, b, c, d, e⟩ := x
  obtain ⟨a', b', c', d', e'⟩ := y
  simp only [Rt.mk.injEq, Int.ofNat_inj]
  by_cases h1 : a = a' <;> by_cases h2 : b = b' <;> by_cases h3 : c = c' <;> by_cases h4 : d = d' <;> by_cases h5 : e = e' <;> simp [h1, h2, h3, h4, h5]
theorem eqT (x y : Rt) : eqaggv [(0, (.int .u64)), (1, (.int .i64)), (2, (.int .i64)), (3, (.int .i64)), (4, (.int .i64))] .eql (.agg (encT x).toArray) (.agg (encT y).toArray) = some (.bool (decide (x = y))) := eqagg_eq (eqT_cells x y)
theorem neT (x y : Rt) : eqaggv [(0, (.int .u64)), (1, (.int .i64)), (2, (.int .i64)), (3, (.int .i64)), (4, (.int .i64))] .neq (.agg (encT x).toArray) (.agg (encT y).toArray) = some (.bool (!decide (x = y))) := eqagg_ne (eqT_cells x y)
/-- what a write makes, and answers. -/
theorem write_any {s : Dk} {o : Option Rt} (h : StT s o) (hroom : 100 ≤ s.room) (r : Rt) : ∃ o', StT (writeT s r).1 o' ∧ (writeT s r).1.room = s.room ∧ ((rightT r = true ∧ (writeT s r).2 = 0 ∧ o' = some r) ∨ (rightT r = false ∧ (writeT s r).2 = 1 ∧ o' = o)) := by
  cases hr : rightT r with
  | true =>
    obtain ⟨h1, h2, h3⟩ := write_st h (rightT_iff.1 hr) hroom
    exact ⟨some r, h2, h3, .inl ⟨rfl, h1, rfl⟩⟩
  | false =>
    rw [write_no hr]
    exact ⟨o, h, rfl, .inr ⟨rfl, rfl, rfl⟩⟩
theorem st_lens {s : Dk} {o : Option Rt} (h : StT s o) : s.dirs.length = 1 := by
  have := h.at_
  cases o with
  | none => simp only at this; rw [this]; rfl
  | some r => obtain ⟨_, f, h1, _⟩ := this; rw [h1]; rfl
theorem write_files (s : Dk) (r : Rt) : (writeT s r).1.files.length ≤ s.files.length + 1 := by
  have keep : ∀ (x : Dk × Int) (f : Dk → Dk × Int), (∀ s, (f s).1.files.length = s.files.length) → (thenT x f).1.files.length = x.1.files.length := fun x f hf => by
    unfold thenT; split
    · exact hf _
    · rfl
  have kd : ∀ s n, (delete s n).1.files.length = s.files.length := fun s n => by unfold delete; simp only; split <;> exact congrArg _ (can_keep s _).1
  have ka : ∀ s n b, (append s n b).1.files.length = s.files.length := fun s n b => by
    unfold append setF; simp only; split
    · simp only [List.length_set]; exact congrArg _ (can_keep s _).1
    · exact congrArg _ (can_keep s _).1
  have ks : ∀ s n, (sync s n).1.files.length = s.files.length := fun s n => by
    unfold sync setF; simp only; split
    · simp only [List.length_set]; exact congrArg _ (can_keep s _).1
    · exact congrArg _ (can_keep s _).1
  have kr : ∀ s a b, (rename s a b).1.files.length = s.files.length := fun s a b => by unfold rename; simp only; split <;> exact congrArg _ (can_keep s _).1
  have ky : ∀ s, (dirsync s).1.files.length = s.files.length := fun s => by unfold dirsync; simp only; split <;> exact congrArg _ (can_keep s _).1
  unfold writeT
  split
  · simp only; omega
  · rw [keep _ _ ky, keep _ _ (fun s => kr s nd nf), keep _ _ (fun s => ks s nd), keep _ _ (fun s => ka s nd _)]
    have h1 : (step1 s).1.files.length = s.files.length := by unfold step1; split; exact kd s nd; rfl
    unfold thenT
    split
    · rw [← h1]
      unfold create; simp only; split
      · simp
      · exact Nat.le_trans (Nat.le_of_eq (congrArg _ (can_keep _ _).1)) (by omega)
    · omega
theorem crash_st {s : Dk} {o : Option Rt} (h : StT s o) : StT (crash s 0 []) o := by
  have hi := inv_crash h.inv 0 []
  refine ⟨hi, rfl, rfl, ?_⟩
  have ha := h.at_
  cases o with
  | none =>
    simp only at ha ⊢
    unfold crash; rw [ha]; rfl
  | some r =>
    obtain ⟨hr, f, h1, h2⟩ := ha
    refine ⟨hr, f, ?_, ?_⟩
    · unfold crash; rw [h1]; rfl
    · unfold crash
      rw [h1]
      have hf := (List.getElem?_eq_some_iff.1 h2).1
      have hg : s.files.getD f ⟨[], 0⟩ = ⟨bytesT r, (bytesT r).length⟩ := by rw [List.getD_eq_getElem?_getD, h2]; rfl
      show (crashF [] [(nf, f)] 0 s.files)[f]? = _
      simp only [crashF, hg, tailOf]
      rw [List.getElem?_set_self hf]
      simp
def awT : Rt := ⟨3, 2, 5, 1, 64⟩
theorem aw_right : rightT awT = true := by decide +kernel
theorem zero_right : rightT zeroT = false := by decide +kernel
theorem arr_nilI {w : World} : Arr encI 1 w (.slice none 0 0) [] := ⟨none, 0, rfl, .inl rfl⟩
set_option linter.unusedSimpArgs false
set_option linter.unusedVariables false
set_option maxRecDepth 20000
set_option maxHeartbeats 4000000
attribute [local congr] BND_cg COND_cg GEF_cg
attribute [local irreducible] capl slicea load1 loadn iaddr iaddra faddr storev newslice binv lookv mupd mdel mlenv mentry mestore slicev slicev3 slices indexs indexav textv rangev nexts clearv shiftv eqaggv convi buildv pickv lens lenl unv nilchk extractv partn JOIN
section
variable {w : World} {R : Value → World → Prop}
theorem rt_awake (hR : ∀ w', Fr [] w w' → R (.bool true) w') : CALL PR F_tumbrellaw16_awake [] w R := by
  refine C_tumbrellaw16_awake ?_
  unfold M_tumbrellaw16_awake
  refine dk_New 200 (fun h => by omega) fun hroom w1 d h1 => ?_
  (repeat (first | refine BND_step ptr_nil ?_ | refine stp ?_ | (apply BND_inc; omega) | (apply BND_dec; omega) | refine BND_step (rfl : some _ = some _) ?_ | (apply cyes; first | assumption | omega) | (apply cno; first | assumption | omega) | refine (COND_true _ _).2 ?_ | refine (COND_false _ _).2 ?_ | simp (disch := first | assumption | omega) only [gs1, gs2, decide_true, decide_false, eq_self, beq_self_eq_true, Bool.not_true, Bool.not_false]))
  have t0 : StT (empty 200) none := st_empty hroom
  have r0 := read_st t0
  simp only at r0
  refine rt_Read h1 t0.inv (by simp [empty]) fun w2 f2 => ?_
  have h2 := h1.fr0 f2
  rw [r0]
  (repeat (first | refine stp ?_ | (apply BND_inc; omega) | (apply BND_dec; omega) | refine BND_step (rfl : some _ = some _) ?_ | (apply cyes; first | assumption | omega) | (apply cno; first | assumption | omega) | refine (COND_true _ _).2 ?_ | refine (COND_false _ _).2 ?_ | simp (disch := first | assumption | omega) only [gs1, gs2, decide_true, decide_false, eq_self, beq_self_eq_true, Bool.not_true, Bool.not_false]))
  refine box_step (n := 5) (zs := [_, _, _, _, _]) (vs := encT zeroT) rfl rfl (encT_one _) (by simp [encT]) fun w4 b4 f4 z4 => ?_
  (repeat (first | (apply BND_build ([.int .i64 2, .int .i64 5, .int .i64 1]); exact rfl) | (apply BND_build (encT awT); exact rfl) | refine stp ?_ | (apply BND_inc; omega) | (apply BND_dec; omega) | refine BND_step (rfl : some _ = some _) ?_ | (apply cyes; first | assumption | omega) | (apply cno; first | assumption | omega) | refine (COND_true _ _).2 ?_ | refine (COND_false _ _).2 ?_ | simp (disch := first | assumption | omega) only [gs1, gs2, decide_true, decide_false, eq_self, beq_self_eq_true, Bool.not_true, Bool.not_false]))
  refine box_step (n := 5) (zs := [_, _, _, _, _]) (vs := encT awT) rfl rfl (encT_one _) (by simp [encT]) fun w6 b6 f6 z6 => ?_
  have f26 := f4.trans' f6
  obtain ⟨A, ha, hA, back⟩ := At.re2 h2 f26
  obtain ⟨u1, u2, u3⟩ := write_st t0 (rightT_iff.1 aw_right) (r := awT) (by show (100 : Int) ≤ 200; omega)
  have ud := st_lens u2
  have uf := write_files (empty 200) awT
  have uf0 : (empty 200).files.length = 0 := rfl
  (repeat (first | refine BND_step (loadn_all' b6 rfl) ?_ | refine stp ?_ | (apply BND_inc; omega) | (apply BND_dec; omega) | refine BND_step (rfl : some _ = some _) ?_ | (apply cyes; first | assumption | omega) | (apply cno; first | assumption | omega) | refine (COND_true _ _).2 ?_ | refine (COND_false _ _).2 ?_ | simp (disch := first | assumption | omega) only [gs1, gs2, decide_true, decide_false, eq_self, beq_self_eq_true, Bool.not_true, Bool.not_false]))
  refine rt_Write ha t0.inv (by simp [empty]) (by simp [empty]) awT fun w7 h7 => ?_
  have b7 := h7.frame.some (fun hb => by have := hA _ hb; have := f4.grow; omega) b6
  rw [u1]
  generalize (writeT (empty 200) awT).1 = s1 at h7 u2 u3 ud uf
  (repeat (first | refine stp ?_ | (apply BND_inc; omega) | (apply BND_dec; omega) | refine BND_step (rfl : some _ = some _) ?_ | (apply cyes; first | assumption | omega) | (apply cno; first | assumption | omega) | refine (COND_true _ _).2 ?_ | refine (COND_false _ _).2 ?_ | simp (disch := first | assumption | omega) only [gs1, gs2, decide_true, decide_false, eq_self, beq_self_eq_true, Bool.not_true, Bool.not_false]))
  refine dk_Crash h7 u2.inv.wf (by omega) 0 (tails := []) (fun _ _ => arr_nilI) fun w8 h8 => ?_
  have b8 := h8.frame.some (fun hb => by have := hA _ hb; have := f4.grow; omega) b6
  have t8 := crash_st u2
  have r8 := read_st t8
  have d8 := st_lens t8
  have f8 : (crash s1 0 []).files.length = s1.files.length := crashF_len [] _ 0 s1.files
  simp only at r8
  (repeat (first | refine stp ?_ | (apply BND_inc; omega) | (apply BND_dec; omega) | refine BND_step (rfl : some _ = some _) ?_ | (apply cyes; first | assumption | omega) | (apply cno; first | assumption | omega) | refine (COND_true _ _).2 ?_ | refine (COND_false _ _).2 ?_ | simp (disch := first | assumption | omega) only [gs1, gs2, decide_true, decide_false, eq_self, beq_self_eq_true, Bool.not_true, Bool.not_false]))
  refine rt_Read h8 t8.inv (by omega) fun w9 f9 => ?_
  rw [r8]
  have b9 := f9.some (by simp) b8
  (repeat (first | refine stp ?_ | (apply BND_inc; omega) | (apply BND_dec; omega) | refine BND_step (rfl : some _ = some _) ?_ | (apply cyes; first | assumption | omega) | (apply cno; first | assumption | omega) | refine (COND_true _ _).2 ?_ | refine (COND_false _ _).2 ?_ | simp (disch := first | assumption | omega) only [gs1, gs2, decide_true, decide_false, eq_self, beq_self_eq_true, Bool.not_true, Bool.not_false]))
  refine box_step (n := 5) (zs := [_, _, _, _, _]) (vs := encT awT) rfl rfl (encT_one _) (by simp [encT]) fun w11 b11 f11 z11 => ?_
  have b61 := f11.some (by simp) b9
  have ee := eqT awT awT
  rw [decide_eq_true rfl] at ee
  (repeat (first | refine BND_step (loadn_all' b11 rfl) ?_ | refine BND_step (loadn_all' b61 rfl) ?_ | refine BND_step ee ?_ | refine stp ?_ | (apply BND_inc; omega) | (apply BND_dec; omega) | refine BND_step (rfl : some _ = some _) ?_ | (apply cyes; first | assumption | omega) | (apply cno; first | assumption | omega) | refine (COND_true _ _).2 ?_ | refine (COND_false _ _).2 ?_ | simp (disch := first | assumption | omega) only [gs1, gs2, decide_true, decide_false, eq_self, beq_self_eq_true, Bool.not_true, Bool.not_false]))
  refine rt_Right _ fun w12 f12 => ?_
  rw [aw_right]
  have h12 := ((h8.fr0 f9).fr0 f11).fr0 f12
  (repeat (first | (apply BND_build (encT zeroT); exact rfl) | refine stp ?_ | (apply BND_inc; omega) | (apply BND_dec; omega) | refine BND_step (rfl : some _ = some _) ?_ | (apply cyes; first | assumption | omega) | (apply cno; first | assumption | omega) | refine (COND_true _ _).2 ?_ | refine (COND_false _ _).2 ?_ | simp (disch := first | assumption | omega) only [gs1, gs2, decide_true, decide_false, eq_self, beq_self_eq_true, Bool.not_true, Bool.not_false]))
  refine rt_Write h12 t8.inv (by omega) (by omega) zeroT fun w13 h13 => ?_
  rw [write_no zero_right]
  (repeat (first | refine stp ?_ | (apply BND_inc; omega) | (apply BND_dec; omega) | refine BND_step (rfl : some _ = some _) ?_ | (apply cyes; first | assumption | omega) | (apply cno; first | assumption | omega) | refine (COND_true _ _).2 ?_ | refine (COND_false _ _).2 ?_ | simp (disch := first | assumption | omega) only [gs1, gs2, decide_true, decide_false, eq_self, beq_self_eq_true, Bool.not_true, Bool.not_false]))
  exact hR _ (back _ _ h13).frame
theorem rt_RootBack (a b : Rt) (hR : ∀ w', Fr [] w w' → R (.bool true) w') : CALL PR F_tumbrellaw16_RootBack [.agg (encT a).toArray, .agg (encT b).toArray] w R := by
  refine C_tumbrellaw16_RootBack ?_
  unfold M_tumbrellaw16_RootBack
  refine NEW_intro fun w1 ba f1 z1 => ?_
  replace ba : blk w1 (hsz w) = some (.cells (encT a).toArray 26 (0, 0)) := ba
  refine NEW_intro fun w2 bb f2 z2 => ?_
  replace bb : blk w2 (hsz w1) = some (.cells (encT b).toArray 26 (0, 0)) := bb
  refine rt_awake fun w3 f3 => ?_
  have ba3 := (f2.trans' f3).some (by simp) ba
  have bb3 := f3.some (by simp) bb
  have f03 := (f1.trans' f2).trans' f3
  (repeat (first | refine stp ?_ | (apply BND_inc; omega) | (apply BND_dec; omega) | refine BND_step (rfl : some _ = some _) ?_ | (apply cyes; first | assumption | omega) | (apply cno; first | assumption | omega) | refine (COND_true _ _).2 ?_ | refine (COND_false _ _).2 ?_ | simp (disch := first | assumption | omega) only [gs1, gs2, decide_true, decide_false, eq_self, beq_self_eq_true, Bool.not_true, Bool.not_false]))
  refine dk_New 1024 (fun h => by omega) fun hroom w4 d h4 => ?_
  (repeat (first | refine BND_step ptr_nil ?_ | refine BND_step (loadn_all' (h4.frame.some (by simp) ba3) rfl) ?_ | refine stp ?_ | (apply BND_inc; omega) | (apply BND_dec; omega) | refine BND_step (rfl : some _ = some _) ?_ | (apply cyes; first | assumption | omega) | (apply cno; first | assumption | omega) | refine (COND_true _ _).2 ?_ | refine (COND_false _ _).2 ?_ | simp (disch := first | assumption | omega) only [gs1, gs2, decide_true, decide_false, eq_self, beq_self_eq_true, Bool.not_true, Bool.not_false]))
  have t0 : StT (empty 1024) none := st_empty hroom
  have ra : (100 : Int) ≤ (empty 1024).room := by show (100 : Int) ≤ 1024; omega
  obtain ⟨o1, t1, r1, c1⟩ := write_any t0 ra a
  have fl0 : (empty 1024).files.length = 0 := rfl
  have fl1 := write_files (empty 1024) a
  refine rt_Write h4 t0.inv (by simp [empty]) (by simp [empty]) a fun w5 h5 => ?_
  generalize hx1 : writeT (empty 1024) a = x1 at h5 t1 r1 c1 fl1
  have dl1 := st_lens t1
  have rd1 := read_st t1
  (repeat (first | refine stp ?_ | (apply BND_inc; omega) | (apply BND_dec; omega) | refine BND_step (rfl : some _ = some _) ?_ | (apply cyes; first | assumption | omega) | (apply cno; first | assumption | omega) | refine (COND_true _ _).2 ?_ | refine (COND_false _ _).2 ?_ | simp (disch := first | assumption | omega) only [gs1, gs2, decide_true, decide_false, eq_self, beq_self_eq_true, Bool.not_true, Bool.not_false]))
  refine rt_Read h5 t1.inv (by omega) fun w6 f6 => ?_
  (repeat (first | refine stp ?_ | (apply BND_inc; omega) | (apply BND_dec; omega) | refine BND_step (rfl : some _ = some _) ?_ | (apply cyes; first | assumption | omega) | (apply cno; first | assumption | omega) | refine (COND_true _ _).2 ?_ | refine (COND_false _ _).2 ?_ | simp (disch := first | assumption | omega) only [gs1, gs2, decide_true, decide_false, eq_self, beq_self_eq_true, Bool.not_true, Bool.not_false]))
  refine box_step (n := 5) (zs := [_, _, _, _, _]) (vs := encT (readT x1.1).1) rfl rfl (encT_one _) (by simp [encT]) fun w8 b8 f8 z8 => ?_
  have h8 := (h5.fr0 f6).fr0 f8
  (repeat (first | refine BND_step (loadn_all' (h8.frame.some (by simp) bb3) rfl) ?_ | refine stp ?_ | (apply BND_inc; omega) | (apply BND_dec; omega) | refine BND_step (rfl : some _ = some _) ?_ | (apply cyes; first | assumption | omega) | (apply cno; first | assumption | omega) | refine (COND_true _ _).2 ?_ | refine (COND_false _ _).2 ?_ | simp (disch := first | assumption | omega) only [gs1, gs2, decide_true, decide_false, eq_self, beq_self_eq_true, Bool.not_true, Bool.not_false]))
  obtain ⟨A, hz, hA, back⟩ := At.re2 h5 (f6.trans' f8)
  obtain ⟨o2, t2, r2, c2⟩ := write_any t1 (by rw [r1]; exact ra) b
  have fl2 := write_files x1.1 b
  refine rt_Write hz t1.inv (by omega) (by omega) b fun w9 h9 => ?_
  generalize hx2 : writeT x1.1 b = x2 at h9 t2 r2 c2 fl2
  have dl2 := st_lens t2
  have rd2 := read_st t2
  have b89 := h9.frame.some (fun hb => by have := hA _ hb; have := f6.grow; omega) b8
  (repeat (first | refine stp ?_ | (apply BND_inc; omega) | (apply BND_dec; omega) | refine BND_step (rfl : some _ = some _) ?_ | (apply cyes; first | assumption | omega) | (apply cno; first | assumption | omega) | refine (COND_true _ _).2 ?_ | refine (COND_false _ _).2 ?_ | simp (disch := first | assumption | omega) only [gs1, gs2, decide_true, decide_false, eq_self, beq_self_eq_true, Bool.not_true, Bool.not_false]))
  refine rt_Read h9 t2.inv (by omega) fun w10 f10 => ?_
  (repeat (first | refine stp ?_ | (apply BND_inc; omega) | (apply BND_dec; omega) | refine BND_step (rfl : some _ = some _) ?_ | (apply cyes; first | assumption | omega) | (apply cno; first | assumption | omega) | refine (COND_true _ _).2 ?_ | refine (COND_false _ _).2 ?_ | simp (disch := first | assumption | omega) only [gs1, gs2, decide_true, decide_false, eq_self, beq_self_eq_true, Bool.not_true, Bool.not_false]))
  refine box_step (n := 5) (zs := [_, _, _, _, _]) (vs := encT (readT x2.1).1) rfl rfl (encT_one _) (by simp [encT]) fun w12 b12 f12 z12 => ?_
  have f912 := f10.trans' f12
  have h12 := back _ _ (h9.fr0 f912)
  have ba12 := h12.frame.some (by simp) ba3
  have bb12 := h12.frame.some (by simp) bb3
  have b812 := f912.some (by simp) b89
  (repeat (first | refine BND_step (loadn_all' ba12 rfl) ?_ | refine stp ?_ | (apply BND_inc; omega) | (apply BND_dec; omega) | refine BND_step (rfl : some _ = some _) ?_ | (apply cyes; first | assumption | omega) | (apply cno; first | assumption | omega) | refine (COND_true _ _).2 ?_ | refine (COND_false _ _).2 ?_ | simp (disch := first | assumption | omega) only [gs1, gs2, decide_true, decide_false, eq_self, beq_self_eq_true, Bool.not_true, Bool.not_false]))
  refine rt_Right a fun w13 f13 => ?_
  have e1 : decide (x1.2 = 0) = rightT a := by rcases c1 with ⟨q1, q2, _⟩ | ⟨q1, q2, _⟩ <;> rw [q1, q2] <;> rfl
  have e2 : decide (x2.2 = 0) = rightT b := by rcases c2 with ⟨q1, q2, _⟩ | ⟨q1, q2, _⟩ <;> rw [q1, q2] <;> rfl
  have eb1 : binv .bool .neq (.bool (rightT a)) (.bool (rightT a)) = some (.bool false) := (binv_neb _ _).trans (by simp)
  have eb2 : binv .bool .neq (.bool (rightT b)) (.bool (rightT b)) = some (.bool false) := (binv_neb _ _).trans (by simp)
  have eb1' : binv .bool .neq (.bool (decide (x1.2 = 0))) (.bool (rightT a)) = some (.bool false) := by rw [e1]; exact eb1
  have eb2' : binv .bool .neq (.bool (decide (x2.2 = 0))) (.bool (rightT b)) = some (.bool false) := by rw [e2]; exact eb2
  (repeat (first | refine BND_step eb1' ?_ | refine BND_step (loadn_all' (f13.some (by simp) bb12) rfl) ?_ | refine stp ?_ | (apply BND_inc; omega) | (apply BND_dec; omega) | refine BND_step (rfl : some _ = some _) ?_ | (apply cyes; first | assumption | omega) | (apply cno; first | assumption | omega) | refine (COND_true _ _).2 ?_ | refine (COND_false _ _).2 ?_ | simp (disch := first | assumption | omega) only [gs1, gs2, decide_true, decide_false, eq_self, beq_self_eq_true, Bool.not_true, Bool.not_false]))
  refine rt_Right b fun w14 f14 => ?_
  have f1214 := f13.trans' f14
  have fin := hR w14 (f03.trans' (h12.frame.trans' f1214))
  have ba14 := f1214.some (by simp) ba12
  have bb14 := f1214.some (by simp) bb12
  have b814 := f1214.some (by simp) b812
  have b1214 := f1214.some (by simp) b12
  have n1 := neT (readT x1.1).1 a
  have n2 := eqT (readT x2.1).1 b
  have n3 := eqT (readT x2.1).1 (readT x1.1).1
  (repeat (first | refine BND_step eb2' ?_ | refine stp ?_ | (apply BND_inc; omega) | (apply BND_dec; omega) | refine BND_step (rfl : some _ = some _) ?_ | (apply cyes; first | assumption | omega) | (apply cno; first | assumption | omega) | refine (COND_true _ _).2 ?_ | refine (COND_false _ _).2 ?_ | simp (disch := first | assumption | omega) only [gs1, gs2, decide_true, decide_false, eq_self, beq_self_eq_true, Bool.not_true, Bool.not_false]))
  rcases c1 with ⟨q1, q2, q3⟩ | ⟨q1, q2, q3⟩
  · subst q3
    simp only at rd1
    rw [rd1] at n1 n3 b814 ⊢
    rw [decide_eq_true rfl] at n1
    simp only at n1
    rcases c2 with ⟨p1, p2, p3⟩ | ⟨p1, p2, p3⟩
    · subst p3
      simp only at rd2
      rw [rd2] at n2 n3 b1214 ⊢
      rw [decide_eq_true rfl] at n2
      (repeat (first | refine BND_step (loadn_all' b814 rfl) ?_ | refine BND_step (loadn_all' ba14 rfl) ?_ | refine BND_step n1 ?_ | refine BND_step (loadn_all' b1214 rfl) ?_ | refine BND_step (loadn_all' bb14 rfl) ?_ | refine BND_step n2 ?_ | refine stp ?_ | (apply BND_inc; omega) | (apply BND_dec; omega) | refine BND_step (rfl : some _ = some _) ?_ | (apply cyes; first | assumption | omega) | (apply cno; first | assumption | omega) | refine (COND_true _ _).2 ?_ | refine (COND_false _ _).2 ?_ | simp (disch := first | assumption | omega) only [gs1, gs2, decide_true, decide_false, eq_self, beq_self_eq_true, Bool.not_true, Bool.not_false]))
      exact fin
    · subst p3
      simp only at rd2
      rw [rd2] at n2 n3 b1214 ⊢
      rw [decide_eq_true rfl] at n3
      (repeat (first | refine BND_step (loadn_all' b814 rfl) ?_ | refine BND_step (loadn_all' ba14 rfl) ?_ | refine BND_step n1 ?_ | refine BND_step (loadn_all' b1214 rfl) ?_ | refine BND_step n3 ?_ | refine stp ?_ | (apply BND_inc; omega) | (apply BND_dec; omega) | refine BND_step (rfl : some _ = some _) ?_ | (apply cyes; first | assumption | omega) | (apply cno; first | assumption | omega) | refine (COND_true _ _).2 ?_ | refine (COND_false _ _).2 ?_ | simp (disch := first | assumption | omega) only [gs1, gs2, decide_true, decide_false, eq_self, beq_self_eq_true, Bool.not_true, Bool.not_false]))
      exact fin
  · subst q3
    simp only at rd1
    rw [rd1] at n1 n3 b814 ⊢
    rcases c2 with ⟨p1, p2, p3⟩ | ⟨p1, p2, p3⟩
    · subst p3
      simp only at rd2
      rw [rd2] at n2 n3 b1214 ⊢
      rw [decide_eq_true rfl] at n2
      (repeat (first | refine BND_step (loadn_all' b814 rfl) ?_ | refine BND_step (loadn_all' b1214 rfl) ?_ | refine BND_step (loadn_all' bb14 rfl) ?_ | refine BND_step n2 ?_ | refine stp ?_ | (apply BND_inc; omega) | (apply BND_dec; omega) | refine BND_step (rfl : some _ = some _) ?_ | (apply cyes; first | assumption | omega) | (apply cno; first | assumption | omega) | refine (COND_true _ _).2 ?_ | refine (COND_false _ _).2 ?_ | simp (disch := first | assumption | omega) only [gs1, gs2, decide_true, decide_false, eq_self, beq_self_eq_true, Bool.not_true, Bool.not_false]))
      exact fin
    · subst p3
      simp only at rd2
      rw [rd2] at n2 n3 b1214 ⊢
      rw [decide_eq_true rfl] at n3
      (repeat (first | refine BND_step (loadn_all' b814 rfl) ?_ | refine BND_step (loadn_all' b1214 rfl) ?_ | refine BND_step n3 ?_ | refine stp ?_ | (apply BND_inc; omega) | (apply BND_dec; omega) | refine BND_step (rfl : some _ = some _) ?_ | (apply cyes; first | assumption | omega) | (apply cno; first | assumption | omega) | refine (COND_true _ _).2 ?_ | refine (COND_false _ _).2 ?_ | simp (disch := first | assumption | omega) only [gs1, gs2, decide_true, decide_false, eq_self, beq_self_eq_true, Bool.not_true, Bool.not_false]))
      exact fin
end
end Go.Proofs.Ythlmkjkjebcpfaa
