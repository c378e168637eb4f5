/- A root written and read, walked. No condition but sizes. -/
import Derived.Test.YthlmkjkjebcpfaaRootP
import Derived.Test.YthlmkjkjebcpfaaDiskMk
import Derived.Test.YthlmkjkjebcpfaaDiskWf
import Derived.Test.YthlmkjkjebcpfaaMa
namespace Go.Proofs.Ythlmkjkjebcpfaa
open Go.Den Go.Disk Go.Vint Go.Crc Go.Frame Go.Rec Go.Root
def encT (r : Rt) : List Value := [.int .u64 (r.gen : Int), .int .i64 r.lanes, .int .i64 r.pay, .int .i64 r.del, .int .i64 r.seg]
theorem encT_len (r : Rt) : (encT r).length = 5 := rfl
theorem encT_one (r : Rt) : ∀ u ∈ encT r, u.oneCell' = true := by intro u hu; simp [encT] at hu; rcases hu with rfl | rfl | rfl | rfl | rfl <;> rfl
structure Fn where
  f : Nat
  a : List Value
  b : List Value
def Fn.v (x : Fn) : Value := .func (.func x.f) x.a.toArray x.b.toArray
def encFn (x : Fn) : List Value := [x.v]
theorem encFn_len (x : Fn) : (encFn x).length = 1 := rfl
theorem conv_i64u {n : Int} (h : 0 ≤ n ∧ n < 9223372036854775808) : convi .u64 (.int .i64 n) = some (.int .u64 ((n.toNat : Nat) : Int)) := by
  obtain ⟨k, rfl⟩ : ∃ k : Nat, n = (k : Int) := ⟨n.toNat, by omega⟩
  simpa using convu64 (k := .i64) (x := k) (by omega)
set_option linter.unusedSimpArgs false
set_option linter.unusedVariables false
set_option maxRecDepth 20000
set_option maxHeartbeats 4000000
attribute [local congr] BND_cg COND_cg GEF_cg
attribute [local irreducible] capl slicea load1 loadn iaddr iaddra faddr storev newslice binv lookv mupd mdel mlenv mentry mestore slicev slicev3 slices indexs indexav textv rangev nexts clearv shiftv eqaggv convi buildv pickv lens lenl unv nilchk extractv partn JOIN
section
variable {w0 w : World} {F0 : List Nat} {d : Nat} {s : Dk} {R : Value → World → Prop}
theorem ix_Right (a b c : Int) (hR : ∀ w', Fr [] w w' → R (.bool (cfgB a b c)) w') : CALL PR F_index_Right [.agg [.int .i64 a, .int .i64 b, .int .i64 c].toArray] w R := by
  refine C_index_Right ?_
  unfold M_index_Right
  refine NEW_intro fun w1 b1 f1 z1 => ?_
  replace b1 : blk w1 (hsz w) = some (.cells [Value.int .i64 a, .int .i64 b, .int .i64 c].toArray 24 (0, 0)) := b1
  have hR' := hR w1 f1
  unfold cfgB at hR'
  by_cases h1 : 1 ≤ a
  · by_cases h2 : a ≤ 8
    · by_cases h3 : 0 ≤ b
      · by_cases h4 : b ≤ 64
        · by_cases h5 : 1 ≤ c
          · (repeat (first | (apply BND_ld b1; exact rfl) | refine stp ?_ | (apply BND_inc; omega) | (apply BND_dec; omega) | refine BND_step (rfl : some _ = some _) ?_ | (apply cyes; first | assumption | omega) | (apply cno; first | assumption | omega) | refine (COND_true _ _).2 ?_ | refine (COND_false _ _).2 ?_ | simp (disch := first | assumption | omega) only [gs1, gs2, decide_true, decide_false, eq_self, beq_self_eq_true, Bool.not_true, Bool.not_false]))
            simpa [h1, h2, h3, h4, h5] using hR'
          · (repeat (first | (apply BND_ld b1; exact rfl) | refine stp ?_ | (apply BND_inc; omega) | (apply BND_dec; omega) | refine BND_step (rfl : some _ = some _) ?_ | (apply cyes; first | assumption | omega) | (apply cno; first | assumption | omega) | refine (COND_true _ _).2 ?_ | refine (COND_false _ _).2 ?_ | simp (disch := first | assumption | omega) only [gs1, gs2, decide_true, decide_false, eq_self, beq_self_eq_true, Bool.not_true, Bool.not_false]))
            simpa [h1, h2, h3, h4, h5] using hR'
        · (repeat (first | (apply BND_ld b1; exact rfl) | refine stp ?_ | (apply BND_inc; omega) | (apply BND_dec; omega) | refine BND_step (rfl : some _ = some _) ?_ | (apply cyes; first | assumption | omega) | (apply cno; first | assumption | omega) | refine (COND_true _ _).2 ?_ | refine (COND_false _ _).2 ?_ | simp (disch := first | assumption | omega) only [gs1, gs2, decide_true, decide_false, eq_self, beq_self_eq_true, Bool.not_true, Bool.not_false]))
          simpa [h1, h2, h3, h4] using hR'
      · (repeat (first | (apply BND_ld b1; exact rfl) | refine stp ?_ | (apply BND_inc; omega) | (apply BND_dec; omega) | refine BND_step (rfl : some _ = some _) ?_ | (apply cyes; first | assumption | omega) | (apply cno; first | assumption | omega) | refine (COND_true _ _).2 ?_ | refine (COND_false _ _).2 ?_ | simp (disch := first | assumption | omega) only [gs1, gs2, decide_true, decide_false, eq_self, beq_self_eq_true, Bool.not_true, Bool.not_false]))
        simpa [h1, h2, h3] using hR'
    · (repeat (first | (apply BND_ld b1; exact rfl) | refine stp ?_ | (apply BND_inc; omega) | (apply BND_dec; omega) | refine BND_step (rfl : some _ = some _) ?_ | (apply cyes; first | assumption | omega) | (apply cno; first | assumption | omega) | refine (COND_true _ _).2 ?_ | refine (COND_false _ _).2 ?_ | simp (disch := first | assumption | omega) only [gs1, gs2, decide_true, decide_false, eq_self, beq_self_eq_true, Bool.not_true, Bool.not_false]))
      simpa [h1, h2] using hR'
  · (repeat (first | (apply BND_ld b1; exact rfl) | refine stp ?_ | (apply BND_inc; omega) | (apply BND_dec; omega) | refine BND_step (rfl : some _ = some _) ?_ | (apply cyes; first | assumption | omega) | (apply cno; first | assumption | omega) | refine (COND_true _ _).2 ?_ | refine (COND_false _ _).2 ?_ | simp (disch := first | assumption | omega) only [gs1, gs2, decide_true, decide_false, eq_self, beq_self_eq_true, Bool.not_true, Bool.not_false]))
    simpa [h1] using hR'
theorem rt_Right (r : Rt) (hR : ∀ w', Fr [] w w' → R (.bool (rightT r)) w') : CALL PR F_root_Right [.agg (encT r).toArray] w R := by
  refine C_root_Right ?_
  unfold M_root_Right
  refine NEW_intro fun w1 b1 f1 z1 => ?_
  replace b1 : blk w1 (hsz w) = some (.cells (encT r).toArray 26 (0, 0)) := b1
  have el : loadn 3 w1 (.pointer (some ⟨hsz w, 0 + 1, none⟩)) = some (.agg [Value.int .i64 r.lanes, .int .i64 r.pay, .int .i64 r.del].toArray) := by
    rw [loadn_blk b1 (by simp [encT])]; rfl
  (repeat (first | refine BND_step el ?_ | refine stp ?_ | (apply BND_inc; omega) | (apply BND_dec; omega) | refine BND_step (rfl : some _ = some _) ?_ | (apply cyes; first | assumption | omega) | (apply cno; first | assumption | omega) | refine (COND_true _ _).2 ?_ | refine (COND_false _ _).2 ?_ | simp (disch := first | assumption | omega) only [gs1, gs2, decide_true, decide_false, eq_self, beq_self_eq_true, Bool.not_true, Bool.not_false]))
  refine ix_Right _ _ _ fun w2 f2 => ?_
  have b2 := f2.some (by simp) b1
  have hR' := hR w2 (f1.trans' f2)
  unfold rightT at hR'
  cases hc : cfgB r.lanes r.pay r.del with
  | false =>
    rw [hc] at hR'
    (repeat (first | refine stp ?_ | (apply BND_inc; omega) | (apply BND_dec; omega) | refine BND_step (rfl : some _ = some _) ?_ | (apply cyes; first | assumption | omega) | (apply cno; first | assumption | omega) | refine (COND_true _ _).2 ?_ | refine (COND_false _ _).2 ?_ | simp (disch := first | assumption | omega) only [gs1, gs2, decide_true, decide_false, eq_self, beq_self_eq_true, Bool.not_true, Bool.not_false]))
    simpa using hR'
  | true =>
    rw [hc] at hR'
    by_cases h1 : (1 : Int) ≤ (r.gen : Int)
    · have p1 : decide (1 ≤ r.gen) = true := decide_eq_true (by omega)
      obtain ⟨L, hL⟩ : ∃ L : Int, L = 10000000000 := ⟨_, rfl⟩
      rw [← hL]
      by_cases h2 : (r.gen : Int) < L
      · have p2 : decide (r.gen < 10000000000) = true := decide_eq_true (by omega)
        by_cases h3 : 64 ≤ r.seg
        · have p3 : decide (64 ≤ r.seg) = true := decide_eq_true h3
          rw [p1, p2, p3] at hR'
          (repeat (first | (apply BND_ld b2; exact rfl) | refine stp ?_ | (apply BND_inc; omega) | (apply BND_dec; omega) | refine BND_step (rfl : some _ = some _) ?_ | (apply cyes; first | assumption | omega) | (apply cno; first | assumption | omega) | refine (COND_true _ _).2 ?_ | refine (COND_false _ _).2 ?_ | simp (disch := first | assumption | omega) only [gs1, gs2, decide_true, decide_false, eq_self, beq_self_eq_true, Bool.not_true, Bool.not_false]))
          simpa only [Bool.true_and, Bool.and_true] using hR'
        · have p3 : decide (64 ≤ r.seg) = false := decide_eq_false h3
          rw [p1, p2, p3] at hR'
          (repeat (first | (apply BND_ld b2; exact rfl) | refine stp ?_ | (apply BND_inc; omega) | (apply BND_dec; omega) | refine BND_step (rfl : some _ = some _) ?_ | (apply cyes; first | assumption | omega) | (apply cno; first | assumption | omega) | refine (COND_true _ _).2 ?_ | refine (COND_false _ _).2 ?_ | simp (disch := first | assumption | omega) only [gs1, gs2, decide_true, decide_false, eq_self, beq_self_eq_true, Bool.not_true, Bool.not_false]))
          simpa only [Bool.true_and, Bool.and_true, Bool.false_and, Bool.and_false] using hR'
      · have p2 : decide (r.gen < 10000000000) = false := decide_eq_false (by omega)
        rw [p1, p2] at hR'
        (repeat (first | (apply BND_ld b2; exact rfl) | refine stp ?_ | (apply BND_inc; omega) | (apply BND_dec; omega) | refine BND_step (rfl : some _ = some _) ?_ | (apply cyes; first | assumption | omega) | (apply cno; first | assumption | omega) | refine (COND_true _ _).2 ?_ | refine (COND_false _ _).2 ?_ | simp (disch := first | assumption | omega) only [gs1, gs2, decide_true, decide_false, eq_self, beq_self_eq_true, Bool.not_true, Bool.not_false]))
        simpa only [Bool.true_and, Bool.and_true, Bool.false_and, Bool.and_false] using hR'
    · have p1 : decide (1 ≤ r.gen) = false := decide_eq_false (by omega)
      rw [p1] at hR'
      (repeat (first | (apply BND_ld b2; exact rfl) | refine stp ?_ | (apply BND_inc; omega) | (apply BND_dec; omega) | refine BND_step (rfl : some _ = some _) ?_ | (apply cyes; first | assumption | omega) | (apply cno; first | assumption | omega) | refine (COND_true _ _).2 ?_ | refine (COND_false _ _).2 ?_ | simp (disch := first | assumption | omega) only [gs1, gs2, decide_true, decide_false, eq_self, beq_self_eq_true, Bool.not_true, Bool.not_false]))
      simpa only [Bool.true_and, Bool.and_true, Bool.false_and, Bool.and_false] using hR'
theorem sl_Index {sv : Value} {xs : List ByteArray} (n : ByteArray) (hs : Arr encN 1 w sv xs) (hn : xs.length < 1000000) (hR : ∀ k : Int, (0 ≤ k ↔ xs.any (fun x => decide (x = n)) = true) → R (.int .i64 k) w) : CALL PR F_slices_Index_string_string [sv, .string n] w R := by
  refine C_slices_Index_string_string ?_
  unfold M_slices_Index_string_string
  (repeat (first | refine BND_step hs.len ?_ | refine stp ?_ | (apply BND_inc; omega) | (apply BND_dec; omega) | refine BND_step (rfl : some _ = some _) ?_ | (apply cyes; first | assumption | omega) | (apply cno; first | assumption | omega) | refine (COND_true _ _).2 ?_ | refine (COND_false _ _).2 ?_ | simp (disch := first | assumption | omega) only [gs1, gs2, decide_true, decide_false, eq_self, beq_self_eq_true, Bool.not_true, Bool.not_false]))
  refine loop_up 0 xs.length (fun i w' => w' = w ∧ ∀ x ∈ xs.take i, x ≠ n) ⟨rfl, by simp⟩ (by omega) ?_
  rintro i w1 - hi ⟨rfl, e⟩ J m hJ
  by_cases hlt : i < xs.length
  · have hx := List.getElem?_eq_getElem hlt
    have hm := List.getElem_mem hlt
    generalize xs[i] = x at hx hm
    obtain ⟨b, o, ia, _, _, l1⟩ := hs.spot hx rfl .i64
    (repeat (first | refine BND_step ia ?_ | (apply BND_step; exact (l1 (w' := w1) rfl (j := 0) rfl)) | refine stp ?_ | (apply BND_inc; omega) | (apply BND_dec; omega) | refine BND_step (rfl : some _ = some _) ?_ | (apply cyes; first | assumption | omega) | (apply cno; first | assumption | omega) | refine (COND_true _ _).2 ?_ | refine (COND_false _ _).2 ?_ | simp (disch := first | assumption | omega) only [gs1, gs2, decide_true, decide_false, eq_self, beq_self_eq_true, Bool.not_true, Bool.not_false]))
    by_cases hn2 : n = x
    · (repeat (first | refine stp ?_ | (apply BND_inc; omega) | (apply BND_dec; omega) | refine BND_step (rfl : some _ = some _) ?_ | (apply cyes; first | assumption | omega) | (apply cno; first | assumption | omega) | refine (COND_true _ _).2 ?_ | refine (COND_false _ _).2 ?_ | simp (disch := first | assumption | omega) only [gs1, gs2, decide_true, decide_false, eq_self, beq_self_eq_true, Bool.not_true, Bool.not_false]))
      exact hR _ ⟨fun _ => List.any_eq_true.2 ⟨x, hm, decide_eq_true hn2.symm⟩, fun _ => by omega⟩
    · (repeat (first | refine stp ?_ | (apply BND_inc; omega) | (apply BND_dec; omega) | refine BND_step (rfl : some _ = some _) ?_ | (apply cyes; first | assumption | omega) | (apply cno; first | assumption | omega) | refine (COND_true _ _).2 ?_ | refine (COND_false _ _).2 ?_ | simp (disch := first | assumption | omega) only [gs1, gs2, decide_true, decide_false, eq_self, beq_self_eq_true, Bool.not_true, Bool.not_false]))
      refine hJ _ hlt ⟨rfl, fun y hy => ?_⟩
      rw [List.take_add_one, hx] at hy
      rcases List.mem_append.1 hy with hy | hy
      · exact e y hy
      · simp at hy; subst hy; exact fun h => hn2 h.symm
  · (repeat (first | refine stp ?_ | (apply BND_inc; omega) | (apply BND_dec; omega) | refine BND_step (rfl : some _ = some _) ?_ | (apply cyes; first | assumption | omega) | (apply cno; first | assumption | omega) | refine (COND_true _ _).2 ?_ | refine (COND_false _ _).2 ?_ | simp (disch := first | assumption | omega) only [gs1, gs2, decide_true, decide_false, eq_self, beq_self_eq_true, Bool.not_true, Bool.not_false]))
    rw [List.take_of_length_le (by omega)] at e
    exact hR _ ⟨fun h => by omega, fun h => by obtain ⟨x, hx, hd⟩ := List.any_eq_true.1 h; exact absurd (of_decide_eq_true hd) (e x hx)⟩
theorem sl_Contains {sv : Value} {xs : List ByteArray} (n : ByteArray) (hs : Arr encN 1 w sv xs) (hn : xs.length < 1000000) (hR : R (.bool (xs.any fun x => decide (x = n))) w) : CALL PR F_slices_Contains_string_string [sv, .string n] w R := by
  refine C_slices_Contains_string_string ?_
  unfold M_slices_Contains_string_string
  refine sl_Index n hs hn fun k hk => ?_
  (repeat (first | refine stp ?_ | (apply BND_inc; omega) | (apply BND_dec; omega) | refine BND_step (rfl : some _ = some _) ?_ | (apply cyes; first | assumption | omega) | (apply cno; first | assumption | omega) | refine (COND_true _ _).2 ?_ | refine (COND_false _ _).2 ?_ | simp (disch := first | assumption | omega) only [gs1, gs2, decide_true, decide_false, eq_self, beq_self_eq_true, Bool.not_true, Bool.not_false]))
  have e : decide (0 ≤ k) = xs.any (fun x => decide (x = n)) := by rw [Bool.eq_iff_iff, decide_eq_true_eq]; exact hk
  rw [e]
  exact hR
/-- acts one behind the other, up to the first error. -/
theorem rt_each {lv : Value} {fs : List Fn} (P : Nat → World → Prop) (Q : Int → World → Prop) (hl : ∀ i w', P i w' → ∃ G, Slc encFn 1 w' lv fs G) (hn : fs.length < 1000) (h0 : P 0 w)
    (hs : ∀ i f w', fs[i]? = some f → P i w' → ∀ K : Value → World → Prop, (∀ w2 e, e ≠ 0 → Q e w2 → K (.int .i64 e) w2) → (∀ w2, P (i + 1) w2 → K (.int .i64 0) w2) → CALLV PR f.v [] w' K)
    (hR0 : ∀ w' e, Q e w' → R (.int .i64 e) w') (hR : ∀ w', P fs.length w' → R (.int .i64 0) w') : CALL PR F_root_each [lv] w R := by
  refine C_root_each ?_
  unfold M_root_each
  obtain ⟨G0, s0⟩ := hl 0 w h0
  (repeat (first | refine BND_step s0.len ?_ | refine stp ?_ | (apply BND_inc; omega) | (apply BND_dec; omega) | refine BND_step (rfl : some _ = some _) ?_ | (apply cyes; first | assumption | omega) | (apply cno; first | assumption | omega) | refine (COND_true _ _).2 ?_ | refine (COND_false _ _).2 ?_ | simp (disch := first | assumption | omega) only [gs1, gs2, decide_true, decide_false, eq_self, beq_self_eq_true, Bool.not_true, Bool.not_false]))
  refine loop_up 0 fs.length (fun i w' => P i w') h0 (by omega) ?_
  rintro i w1 - hi hP J m hJ
  by_cases hlt : i < fs.length
  · have hx := List.getElem?_eq_getElem hlt
    generalize fs[i] = f at hx
    obtain ⟨G, s⟩ := hl i w1 hP
    obtain ⟨b, o, ia, _, _, l1⟩ := s.arr.spot hx rfl .i64
    (repeat (first | refine BND_step ia ?_ | (apply BND_step; exact (l1 (w' := w1) rfl (j := 0) rfl)) | refine stp ?_ | (apply BND_inc; omega) | (apply BND_dec; omega) | refine BND_step (rfl : some _ = some _) ?_ | (apply cyes; first | assumption | omega) | (apply cno; first | assumption | omega) | refine (COND_true _ _).2 ?_ | refine (COND_false _ _).2 ?_ | simp (disch := first | assumption | omega) only [gs1, gs2, decide_true, decide_false, eq_self, beq_self_eq_true, Bool.not_true, Bool.not_false]))
    refine hs i f w1 hx hP _ (fun w2 e he hq => ?_) fun w2 hp => ?_
    · (repeat (first | refine stp ?_ | (apply BND_inc; omega) | (apply BND_dec; omega) | refine BND_step (rfl : some _ = some _) ?_ | (apply cyes; first | assumption | omega) | (apply cno; first | assumption | omega) | refine (COND_true _ _).2 ?_ | refine (COND_false _ _).2 ?_ | simp (disch := first | assumption | omega) only [gs1, gs2, decide_true, decide_false, eq_self, beq_self_eq_true, Bool.not_true, Bool.not_false]))
      exact hR0 _ _ hq
    · (repeat (first | refine stp ?_ | (apply BND_inc; omega) | (apply BND_dec; omega) | refine BND_step (rfl : some _ = some _) ?_ | (apply cyes; first | assumption | omega) | (apply cno; first | assumption | omega) | refine (COND_true _ _).2 ?_ | refine (COND_false _ _).2 ?_ | simp (disch := first | assumption | omega) only [gs1, gs2, decide_true, decide_false, eq_self, beq_self_eq_true, Bool.not_true, Bool.not_false]))
      exact hJ _ hlt hp
  · obtain rfl : i = fs.length := by omega
    (repeat (first | refine stp ?_ | (apply BND_inc; omega) | (apply BND_dec; omega) | refine BND_step (rfl : some _ = some _) ?_ | (apply cyes; first | assumption | omega) | (apply cno; first | assumption | omega) | refine (COND_true _ _).2 ?_ | refine (COND_false _ _).2 ?_ | simp (disch := first | assumption | omega) only [gs1, gs2, decide_true, decide_false, eq_self, beq_self_eq_true, Bool.not_true, Bool.not_false]))
    exact hR _ hP
theorem mem_names {n : ByteArray} (hr : riseD s.now) : (s.now.map (·.1)).any (fun x => decide (x = n)) = (s.find n).isSome := by
  unfold Dk.find
  rw [Bool.eq_iff_iff, List.any_eq_true]
  constructor
  · rintro ⟨y, h, hd⟩
    obtain ⟨⟨k, f⟩, hx, rfl⟩ := List.mem_map.1 h
    obtain rfl := of_decide_eq_true hd
    rw [findD_of_mem hr hx]; rfl
  · intro h
    cases hq : findD s.now n with
    | none => rw [hq] at h; simp at h
    | some f => exact ⟨n, List.mem_map.2 ⟨(n, f), findD_mem hq, rfl⟩, decide_eq_true rfl⟩
theorem rt_Write (h : At w0 F0 (diskHP d s) w) (hi : Inv s) (hn : s.dirs.length < 100000000) (hn2 : s.files.length < 100000000) (r : Rt) (hR : ∀ w', At w0 F0 (diskHP d (writeT s r).1) w' → R (.int .i64 (writeT s r).2) w') : CALL PR F_root_Write [ptrTo d, .agg (encT r).toArray] w R := by
  refine C_root_Write ?_
  unfold M_root_Write
  refine NEW_intro fun w1 b1 f1 z1 => ?_
  replace b1 : blk w1 (hsz w) = some (.cells [ptrTo d].toArray 28 (0, 0)) := b1
  refine NEW_intro fun w2 b2 f2 z2 => ?_
  replace b2 : blk w2 (hsz w1) = some (.cells (encT r).toArray 26 (0, 0)) := b2
  have f02 := f1.trans' f2
  (repeat (first | refine BND_step (loadn_all' b2 (encT_len r)) ?_ | refine stp ?_ | (apply BND_inc; omega) | (apply BND_dec; omega) | refine BND_step (rfl : some _ = some _) ?_ | (apply cyes; first | assumption | omega) | (apply cno; first | assumption | omega) | refine (COND_true _ _).2 ?_ | refine (COND_false _ _).2 ?_ | simp (disch := first | assumption | omega) only [gs1, gs2, decide_true, decide_false, eq_self, beq_self_eq_true, Bool.not_true, Bool.not_false]))
  refine rt_Right r fun w3 f3 => ?_
  cases hr : rightT r with
  | false =>
    simp only [write_no hr] at hR
    (repeat (first | refine stp ?_ | (apply BND_inc; omega) | (apply BND_dec; omega) | refine BND_step (rfl : some _ = some _) ?_ | (apply cyes; first | assumption | omega) | (apply cno; first | assumption | omega) | refine (COND_true _ _).2 ?_ | refine (COND_false _ _).2 ?_ | simp (disch := first | assumption | omega) only [gs1, gs2, decide_true, decide_false, eq_self, beq_self_eq_true, Bool.not_true, Bool.not_false]))
    exact hR w3 (h.fr0 (f02.trans' f3))
  | true =>
    have hT := rightT_iff.1 hr
    obtain ⟨q1, q2, q3, q4, q5⟩ := hT
    have b23 := f3.some (by simp) b2
    have el : loadn 3 w3 (.pointer (some ⟨hsz w1, 0 + 1, none⟩)) = some (.agg [Value.int .i64 r.lanes, .int .i64 r.pay, .int .i64 r.del].toArray) := by
      rw [loadn_blk b23 (by simp [encT])]; rfl
    (repeat (first | refine BND_step el ?_ | refine stp ?_ | (apply BND_inc; omega) | (apply BND_dec; omega) | refine BND_step (rfl : some _ = some _) ?_ | (apply cyes; first | assumption | omega) | (apply cno; first | assumption | omega) | refine (COND_true _ _).2 ?_ | refine (COND_false _ _).2 ?_ | simp (disch := first | assumption | omega) only [gs1, gs2, decide_true, decide_false, eq_self, beq_self_eq_true, Bool.not_true, Bool.not_false]))
    refine box_step (n := 3) (zs := [_, _, _]) (vs := [Value.int .i64 r.lanes, .int .i64 r.pay, .int .i64 r.del]) rfl rfl (by intro u hu; simp at hu; rcases hu with rfl | rfl | rfl <;> rfl) (by simp) fun w5 b5 f5 z5 => ?_
    have b25 := f5.some (by simp) b23
    (repeat (first | (apply BND_ld b25; exact rfl) | (apply BND_ld b5; exact rfl) | refine BND_step (conv_i64u ⟨by omega, by omega⟩) ?_ | refine stp ?_ | (apply BND_inc; omega) | (apply BND_dec; omega) | refine BND_step (rfl : some _ = some _) ?_ | (apply cyes; first | assumption | omega) | (apply cno; first | assumption | omega) | refine (COND_true _ _).2 ?_ | refine (COND_false _ _).2 ?_ | simp (disch := first | assumption | omega) only [gs1, gs2, decide_true, decide_false, eq_self, beq_self_eq_true, Bool.not_true, Bool.not_false]))
    refine newparts_step encU_len (val := fun x : Nat => Value.int .u64 (x : Int)) (fun _ => rfl) (numsT r) rfl rfl fun t w6 s6 f6 z6 => ?_
    obtain ⟨x6, rfl⟩ := slc_sv s6
    (repeat (first | (apply BND_build ([.int .i64 12, x6.v, .string .empty]); exact rfl) | refine stp ?_ | (apply BND_inc; omega) | (apply BND_dec; omega) | refine BND_step (rfl : some _ = some _) ?_ | (apply cyes; first | assumption | omega) | (apply cno; first | assumption | omega) | refine (COND_true _ _).2 ?_ | refine (COND_false _ _).2 ?_ | simp (disch := first | assumption | omega) only [gs1, gs2, decide_true, decide_false, eq_self, beq_self_eq_true, Bool.not_true, Bool.not_false]))
    refine rec_Bytes (nv := x6) (ns := numsT r) 12 .empty s6.arr (nums_small (rightT_iff.1 hr)) (fun w7 h7 _ => ?_) fun w7 v7 G7 _ s7 g7 f7 => ?_
    · exfalso
      have := right12 (numsT r) rfl
      have e : (ByteArray.empty).size = ([] : List UInt8).length := rfl
      rw [e, this] at h7
      cases h7
    replace s7 : Slc encB 1 w7 v7 (bytesT r) G7 := s7
    obtain ⟨x7, rfl⟩ := slc_sv s7
    (repeat (first | refine stp ?_ | (apply BND_inc; omega) | (apply BND_dec; omega) | refine BND_step (rfl : some _ = some _) ?_ | (apply cyes; first | assumption | omega) | (apply cno; first | assumption | omega) | refine (COND_true _ _).2 ?_ | refine (COND_false _ _).2 ?_ | simp (disch := first | assumption | omega) only [gs1, gs2, decide_true, decide_false, eq_self, beq_self_eq_true, Bool.not_true, Bool.not_false]))
    refine NEW_intro fun w8 b8 f8 z8 => ?_
    replace b8 : blk w8 (hsz w7) = some (.cells [Value.slice none 0 0].toArray 39 (0, 0)) := b8
    refine fstore_step b8 (sv_one x7) (by simp) fun w9 b9 f9 _ => ?_
    replace b9 : blk w9 (hsz w7) = some (.cells [x7.v].toArray 39 (0, 0)) := b9
    have f37 := (f3.trans' f5).trans' (f6.trans' f7)
    have f08 := (f02.trans' f37).trans' f8
    have gr2 := f02.grow
    have gr37 := f37.grow
    have f09 : Fr [] w w9 := f08.trans f9 fun b hb => .inr (by simp at hb; omega)
    have b19 : blk w9 (hsz w) = some (.cells [ptrTo d].toArray 28 (0, 0)) := f9.some (by have := blk_lt b1; simp; omega) (((f2.trans' f37).trans' f8).some (by simp) b1)
    have s79 := (s7.fr f8 (by simp)).fr f9 (fun b hb hb' => by have := s7.lt b hb; simp at hb'; omega)
    (repeat (first | (apply BND_ld b19; exact rfl) | refine stp ?_ | (apply BND_inc; omega) | (apply BND_dec; omega) | refine BND_step (rfl : some _ = some _) ?_ | (apply cyes; first | assumption | omega) | (apply cno; first | assumption | omega) | refine (COND_true _ _).2 ?_ | refine (COND_false _ _).2 ?_ | simp (disch := first | assumption | omega) only [gs1, gs2, decide_true, decide_false, eq_self, beq_self_eq_true, Bool.not_true, Bool.not_false]))
    refine newparts_step encFn_len (val := Fn.v) (fun _ => rfl) [⟨F_root_Write_1, [], [.pointer (some ⟨hsz w, 0, none⟩)]⟩, ⟨F_root_Write_2, [], [.pointer (some ⟨hsz w, 0, none⟩)]⟩, ⟨F_root_Write_3, [], [.pointer (some ⟨hsz w, 0, none⟩), .pointer (some ⟨hsz w7, 0, none⟩)]⟩,
      ⟨F_root_Write_4, [], [.pointer (some ⟨hsz w, 0, none⟩)]⟩, ⟨F_root_Write_5, [], [.pointer (some ⟨hsz w, 0, none⟩)]⟩, ⟨F_disk_Disk_DirSync, [ptrTo d], []⟩] rfl rfl fun t w10 s10 f10 z10 => ?_
    obtain ⟨A, ha, hA, back⟩ := At.re2 h (f09.trans' f10)
    have hbl := (bytesT_len (rightT_iff.1 hr)).2
    have b110 := f10.some (by simp) b19
    have b910 := f10.some (by simp) b9
    have s710 := s79.fr f10 (by simp)
    have gr9 := f09.grow
    have gr3 := f3.grow
    have hA7 : hsz w ≤ hsz w7 := by omega
    have g710 : ∀ b ∈ G7, b ∉ A := fun b hb hb' => by have := g7 b hb; have := hA b hb'; have := (f02.trans' ((f3.trans' f5).trans' f6)).grow; omega
    -- what the six acts make of the disk
    have hW : writeT s r = thenT (thenT (thenT (thenT (thenT (step1 s) fun s => create s nd) fun s => append s nd (bytesT r)) fun s => sync s nd) fun s => rename s nd nf) dirsync := by
      unfold writeT; rw [if_neg (by rw [hr]; simp)]
    obtain ⟨m1a, m1b⟩ : (step1 s).1.dirs.length ≤ s.dirs.length + 1 ∧ (step1 s).1.files.length ≤ s.files.length + 1 := by
      unfold step1; split
      · have := more_act s ⟨5, 0, nd, nd, .slice none 0 0, .slice none 0 0⟩ [] [] hi.wf.ne
        simpa only [act, Int.reduceEq, if_false, if_true] using this
      · simp only; omega
    have i1 : Inv (step1 s).1 := by
      unfold step1; split
      · exact inv_delete hi _
      · exact hi
    generalize hx1 : step1 s = x1 at hW m1a m1b i1
    have i2 := inv_create i1 nd
    obtain ⟨m2a, m2b⟩ := more_act x1.1 ⟨0, 0, nd, nd, .slice none 0 0, .slice none 0 0⟩ [] [] i1.wf.ne
    simp only [act, if_true] at m2a m2b
    have hc2 : ∀ x : Dk × Int, thenT x1 (fun s => create s nd) = if x1.2 = 0 then create x1.1 nd else x1 := fun _ => rfl
    generalize hx2 : create x1.1 nd = x2 at i2 m2a m2b
    have i3 := inv_append i2 nd (bytesT r)
    obtain ⟨m3a, m3b⟩ := more_act x2.1 ⟨1, 0, nd, nd, .slice none 0 0, .slice none 0 0⟩ (bytesT r) [] i2.wf.ne
    simp only [act, Int.reduceEq, if_false, if_true] at m3a m3b
    generalize hx3 : append x2.1 nd (bytesT r) = x3 at i3 m3a m3b
    have i4 := inv_sync i3 nd
    obtain ⟨m4a, m4b⟩ := more_act x3.1 ⟨2, 0, nd, nd, .slice none 0 0, .slice none 0 0⟩ [] [] i3.wf.ne
    simp only [act, Int.reduceEq, if_false, if_true] at m4a m4b
    generalize hx4 : sync x3.1 nd = x4 at i4 m4a m4b
    have i5 := inv_rename i4 nd nf
    obtain ⟨m5a, m5b⟩ := more_act x4.1 ⟨4, 0, nd, nf, .slice none 0 0, .slice none 0 0⟩ [] [] i4.wf.ne
    simp only [act, Int.reduceEq, if_false, if_true] at m5a m5b
    generalize hx5 : rename x4.1 nd nf = x5 at i5 m5a m5b
    generalize hx6 : dirsync x5.1 = x6'
    have hfail : (x1.2 ≠ 0 → writeT s r = x1) ∧ (x1.2 = 0 → x2.2 ≠ 0 → writeT s r = x2) ∧ (x1.2 = 0 → x2.2 = 0 → x3.2 ≠ 0 → writeT s r = x3) ∧ (x1.2 = 0 → x2.2 = 0 → x3.2 = 0 → x4.2 ≠ 0 → writeT s r = x4) ∧
        (x1.2 = 0 → x2.2 = 0 → x3.2 = 0 → x4.2 = 0 → x5.2 ≠ 0 → writeT s r = x5) ∧ (x1.2 = 0 → x2.2 = 0 → x3.2 = 0 → x4.2 = 0 → x5.2 = 0 → writeT s r = x6') := by
      rw [hW]
      refine ⟨fun h1 => ?_, fun h1 h2 => ?_, fun h1 h2 h3 => ?_, fun h1 h2 h3 h4 => ?_, fun h1 h2 h3 h4 h5 => ?_, fun h1 h2 h3 h4 h5 => ?_⟩ <;> simp only [thenT, *, if_true, if_false]
    clear hW hc2
    obtain ⟨k1, k2, k3, k4, k5, k6⟩ := hfail
    refine rt_each (fs := [⟨F_root_Write_1, [], [.pointer (some ⟨hsz w, 0, none⟩)]⟩, ⟨F_root_Write_2, [], [.pointer (some ⟨hsz w, 0, none⟩)]⟩, ⟨F_root_Write_3, [], [.pointer (some ⟨hsz w, 0, none⟩), .pointer (some ⟨hsz w7, 0, none⟩)]⟩, ⟨F_root_Write_4, [], [.pointer (some ⟨hsz w, 0, none⟩)]⟩, ⟨F_root_Write_5, [], [.pointer (some ⟨hsz w, 0, none⟩)]⟩, ⟨F_disk_Disk_DirSync, [ptrTo d], []⟩]) (fun i w' => match i with
        | 0 => At w10 A (diskHP d s) w'
        | 1 => At w10 A (diskHP d x1.1) w' ∧ x1.2 = 0
        | 2 => At w10 A (diskHP d x2.1) w' ∧ x1.2 = 0 ∧ x2.2 = 0
        | 3 => At w10 A (diskHP d x3.1) w' ∧ x1.2 = 0 ∧ x2.2 = 0 ∧ x3.2 = 0
        | 4 => At w10 A (diskHP d x4.1) w' ∧ x1.2 = 0 ∧ x2.2 = 0 ∧ x3.2 = 0 ∧ x4.2 = 0
        | 5 => At w10 A (diskHP d x5.1) w' ∧ x1.2 = 0 ∧ x2.2 = 0 ∧ x3.2 = 0 ∧ x4.2 = 0 ∧ x5.2 = 0
        | _ => At w10 A (diskHP d (writeT s r).1) w' ∧ (writeT s r).2 = 0) (fun e w' => At w10 A (diskHP d (writeT s r).1) w' ∧ e = (writeT s r).2) (fun i w' hP => ?_) (by simp) ha ?_ (fun w' e hq => by rw [hq.2]; exact hR w' (back _ _ hq.1)) (fun w' hq => by have q := hR w' (back _ _ (show At w10 A (diskHP d (writeT s r).1) w' ∧ (writeT s r).2 = 0 from hq).1); rw [(show At w10 A (diskHP d (writeT s r).1) w' ∧ (writeT s r).2 = 0 from hq).2] at q; exact q)
    · have fr : Fr A w10 w' := by
        match i, hP with
        | 0, h => exact h.frame
        | 1, h => exact h.1.frame
        | 2, h => exact h.1.frame
        | 3, h => exact h.1.frame
        | 4, h => exact h.1.frame
        | 5, h => exact h.1.frame
        | _ + 6, h => exact h.1.frame
      exact ⟨_, s10.fr fr fun b hb hb' => by have := hA b hb'; simp at hb; omega⟩
    · intro i f w' hf hP K hK1 hK2
      have ld1 : ∀ {w'}, Fr A w10 w' → blk w' (hsz w) = some (.cells [ptrTo d].toArray 28 (0, 0)) := fun fr => fr.some (fun hb => by have := hA _ hb; omega) b110
      match i, hf, hP with
      | 0, hf, hP =>
        cases hf
        refine (CALLV_func (by kernel_rfl)).2 ?_
        show CALL PR F_root_Write_1 [.pointer (some ⟨hsz w, 0, none⟩)] w' K
        refine C_root_Write_1 ?_
        unfold M_root_Write_1
        have bb := ld1 hP.frame
        (repeat (first | (apply BND_ld bb; exact rfl) | refine stp ?_ | (apply BND_inc; omega) | (apply BND_dec; omega) | refine BND_step (rfl : some _ = some _) ?_ | (apply cyes; first | assumption | omega) | (apply cno; first | assumption | omega) | refine (COND_true _ _).2 ?_ | refine (COND_false _ _).2 ?_ | simp (disch := first | assumption | omega) only [gs1, gs2, decide_true, decide_false, eq_self, beq_self_eq_true, Bool.not_true, Bool.not_false]))
        refine dk_Names hP hi.wf (by omega) fun w2 v2 G2 h2 s2 g2 f2 => ?_
        have h60 := hi.wf.many _ (now_mem hi.wf)
        refine sl_Contains nd s2.arr (by simp; omega) ?_
        rw [mem_names (hi.wf.rise _ (now_mem hi.wf))]
        have bb2 := ld1 h2.frame
        unfold step1 at hx1
        cases hfd : (s.find nd).isSome with
        | false =>
          rw [hfd] at hx1
          subst hx1
          (repeat (first | refine stp ?_ | (apply BND_inc; omega) | (apply BND_dec; omega) | refine BND_step (rfl : some _ = some _) ?_ | (apply cyes; first | assumption | omega) | (apply cno; first | assumption | omega) | refine (COND_true _ _).2 ?_ | refine (COND_false _ _).2 ?_ | simp (disch := first | assumption | omega) only [gs1, gs2, decide_true, decide_false, eq_self, beq_self_eq_true, Bool.not_true, Bool.not_false]))
          exact hK2 _ ⟨h2, rfl⟩
        | true =>
          rw [hfd] at hx1
          simp only [if_true] at hx1
          (repeat (first | (apply BND_ld bb2; exact rfl) | refine stp ?_ | (apply BND_inc; omega) | (apply BND_dec; omega) | refine BND_step (rfl : some _ = some _) ?_ | (apply cyes; first | assumption | omega) | (apply cno; first | assumption | omega) | refine (COND_true _ _).2 ?_ | refine (COND_false _ _).2 ?_ | simp (disch := first | assumption | omega) only [gs1, gs2, decide_true, decide_false, eq_self, beq_self_eq_true, Bool.not_true, Bool.not_false]))
          refine dk_Delete h2 hi.wf (by omega) nd fun w3 h3 => ?_
          rw [hx1] at h3 ⊢
          (repeat (first | refine stp ?_ | (apply BND_inc; omega) | (apply BND_dec; omega) | refine BND_step (rfl : some _ = some _) ?_ | (apply cyes; first | assumption | omega) | (apply cno; first | assumption | omega) | refine (COND_true _ _).2 ?_ | refine (COND_false _ _).2 ?_ | simp (disch := first | assumption | omega) only [gs1, gs2, decide_true, decide_false, eq_self, beq_self_eq_true, Bool.not_true, Bool.not_false]))
          by_cases he : x1.2 = 0
          · rw [he]; exact hK2 _ ⟨h3, he⟩
          · exact hK1 _ _ he ⟨by rw [k1 he]; exact h3, by rw [k1 he]⟩
      | 1, hf, ⟨hP, e1⟩ =>
        cases hf
        refine (CALLV_func (by kernel_rfl)).2 ?_
        show CALL PR F_root_Write_2 [.pointer (some ⟨hsz w, 0, none⟩)] w' K
        refine C_root_Write_2 ?_
        unfold M_root_Write_2
        have bb := ld1 hP.frame
        (repeat (first | (apply BND_ld bb; exact rfl) | refine stp ?_ | (apply BND_inc; omega) | (apply BND_dec; omega) | refine BND_step (rfl : some _ = some _) ?_ | (apply cyes; first | assumption | omega) | (apply cno; first | assumption | omega) | refine (COND_true _ _).2 ?_ | refine (COND_false _ _).2 ?_ | simp (disch := first | assumption | omega) only [gs1, gs2, decide_true, decide_false, eq_self, beq_self_eq_true, Bool.not_true, Bool.not_false]))
        refine dk_Create hP i1.wf (by omega) nd fun w3 h3 => ?_
        rw [hx2] at h3 ⊢
        (repeat (first | refine stp ?_ | (apply BND_inc; omega) | (apply BND_dec; omega) | refine BND_step (rfl : some _ = some _) ?_ | (apply cyes; first | assumption | omega) | (apply cno; first | assumption | omega) | refine (COND_true _ _).2 ?_ | refine (COND_false _ _).2 ?_ | simp (disch := first | assumption | omega) only [gs1, gs2, decide_true, decide_false, eq_self, beq_self_eq_true, Bool.not_true, Bool.not_false]))
        by_cases he : x2.2 = 0
        · rw [he]; exact hK2 _ ⟨h3, e1, he⟩
        · exact hK1 _ _ he ⟨by rw [k2 e1 he]; exact h3, by rw [k2 e1 he]⟩
      | 2, hf, ⟨hP, e1, e2⟩ =>
        cases hf
        refine (CALLV_func (by kernel_rfl)).2 ?_
        show CALL PR F_root_Write_3 [.pointer (some ⟨hsz w, 0, none⟩), .pointer (some ⟨hsz w7, 0, none⟩)] w' K
        refine C_root_Write_3 ?_
        unfold M_root_Write_3
        have bb := ld1 hP.frame
        have bb9 := hP.frame.some (fun hb => by have := hA _ hb; omega) b910
        (repeat (first | (apply BND_ld bb; exact rfl) | (apply BND_ld bb9; exact rfl) | refine stp ?_ | (apply BND_inc; omega) | (apply BND_dec; omega) | refine BND_step (rfl : some _ = some _) ?_ | (apply cyes; first | assumption | omega) | (apply cno; first | assumption | omega) | refine (COND_true _ _).2 ?_ | refine (COND_false _ _).2 ?_ | simp (disch := first | assumption | omega) only [gs1, gs2, decide_true, decide_false, eq_self, beq_self_eq_true, Bool.not_true, Bool.not_false]))
        refine dk_Append hP i2.wf (by omega) (by omega) nd (bs := bytesT r) (by omega) (s710.len) (fun w2 f2 => (s710.fr f2 g710).loads encB_len) fun w3 h3 => ?_
        rw [hx3] at h3 ⊢
        (repeat (first | refine stp ?_ | (apply BND_inc; omega) | (apply BND_dec; omega) | refine BND_step (rfl : some _ = some _) ?_ | (apply cyes; first | assumption | omega) | (apply cno; first | assumption | omega) | refine (COND_true _ _).2 ?_ | refine (COND_false _ _).2 ?_ | simp (disch := first | assumption | omega) only [gs1, gs2, decide_true, decide_false, eq_self, beq_self_eq_true, Bool.not_true, Bool.not_false]))
        by_cases he : x3.2 = 0
        · rw [he]; exact hK2 _ ⟨h3, e1, e2, he⟩
        · exact hK1 _ _ he ⟨by rw [k3 e1 e2 he]; exact h3, by rw [k3 e1 e2 he]⟩
      | 3, hf, ⟨hP, e1, e2, e3⟩ =>
        cases hf
        refine (CALLV_func (by kernel_rfl)).2 ?_
        show CALL PR F_root_Write_4 [.pointer (some ⟨hsz w, 0, none⟩)] w' K
        refine C_root_Write_4 ?_
        unfold M_root_Write_4
        have bb := ld1 hP.frame
        (repeat (first | (apply BND_ld bb; exact rfl) | refine stp ?_ | (apply BND_inc; omega) | (apply BND_dec; omega) | refine BND_step (rfl : some _ = some _) ?_ | (apply cyes; first | assumption | omega) | (apply cno; first | assumption | omega) | refine (COND_true _ _).2 ?_ | refine (COND_false _ _).2 ?_ | simp (disch := first | assumption | omega) only [gs1, gs2, decide_true, decide_false, eq_self, beq_self_eq_true, Bool.not_true, Bool.not_false]))
        refine dk_Sync hP i3.wf (by omega) nd fun w3 h3 => ?_
        rw [hx4] at h3 ⊢
        (repeat (first | refine stp ?_ | (apply BND_inc; omega) | (apply BND_dec; omega) | refine BND_step (rfl : some _ = some _) ?_ | (apply cyes; first | assumption | omega) | (apply cno; first | assumption | omega) | refine (COND_true _ _).2 ?_ | refine (COND_false _ _).2 ?_ | simp (disch := first | assumption | omega) only [gs1, gs2, decide_true, decide_false, eq_self, beq_self_eq_true, Bool.not_true, Bool.not_false]))
        by_cases he : x4.2 = 0
        · rw [he]; exact hK2 _ ⟨h3, e1, e2, e3, he⟩
        · exact hK1 _ _ he ⟨by rw [k4 e1 e2 e3 he]; exact h3, by rw [k4 e1 e2 e3 he]⟩
      | 4, hf, ⟨hP, e1, e2, e3, e4⟩ =>
        cases hf
        refine (CALLV_func (by kernel_rfl)).2 ?_
        show CALL PR F_root_Write_5 [.pointer (some ⟨hsz w, 0, none⟩)] w' K
        refine C_root_Write_5 ?_
        unfold M_root_Write_5
        have bb := ld1 hP.frame
        (repeat (first | (apply BND_ld bb; exact rfl) | refine stp ?_ | (apply BND_inc; omega) | (apply BND_dec; omega) | refine BND_step (rfl : some _ = some _) ?_ | (apply cyes; first | assumption | omega) | (apply cno; first | assumption | omega) | refine (COND_true _ _).2 ?_ | refine (COND_false _ _).2 ?_ | simp (disch := first | assumption | omega) only [gs1, gs2, decide_true, decide_false, eq_self, beq_self_eq_true, Bool.not_true, Bool.not_false]))
        refine dk_Rename hP i4.wf (by omega) nd nf fun w3 h3 => ?_
        rw [hx5] at h3 ⊢
        (repeat (first | refine stp ?_ | (apply BND_inc; omega) | (apply BND_dec; omega) | refine BND_step (rfl : some _ = some _) ?_ | (apply cyes; first | assumption | omega) | (apply cno; first | assumption | omega) | refine (COND_true _ _).2 ?_ | refine (COND_false _ _).2 ?_ | simp (disch := first | assumption | omega) only [gs1, gs2, decide_true, decide_false, eq_self, beq_self_eq_true, Bool.not_true, Bool.not_false]))
        by_cases he : x5.2 = 0
        · rw [he]; exact hK2 _ ⟨h3, e1, e2, e3, e4, he⟩
        · exact hK1 _ _ he ⟨by rw [k5 e1 e2 e3 e4 he]; exact h3, by rw [k5 e1 e2 e3 e4 he]⟩
      | 5, hf, ⟨hP, e1, e2, e3, e4, e5⟩ =>
        cases hf
        refine (CALLV_func (by kernel_rfl)).2 ?_
        show CALL PR F_disk_Disk_DirSync [ptrTo d] w' K
        have kk := k6 e1 e2 e3 e4 e5
        refine dk_DirSync hP i5.wf (by omega) fun w3 h3 => ?_
        rw [hx6] at h3 ⊢
        by_cases he : x6'.2 = 0
        · rw [he]; exact hK2 _ ⟨by rw [kk]; exact h3, by rw [kk]; exact he⟩
        · exact hK1 _ _ he ⟨by rw [kk]; exact h3, by rw [kk]⟩
      | k + 6, hf, _ => exact absurd hf (by simp)
end
end Go.Proofs.Ythlmkjkjebcpfaa
