/- The document's disk: Create, Rename, Delete, DirSync. No condition but sizes. -/
import Derived.Test.YtpefokoiioeomaaDiskRef2
namespace Go.Proofs.Ytpefokoiioeomaa
open Go.Den Go.Disk
theorem numOf_neg {o : Option Nat} : numOf o < 0 ↔ o = none := by
  cases o with
  | none => simp [numOf]
  | some f => simp [numOf]
theorem there_num (s : Dk) (n : ByteArray) : there s n = if numOf (s.find n) < 0 then 5 else 0 := by
  unfold there
  cases h : s.find n with
  | none => simp [numOf]
  | some f =>
    have : ¬ ((f : Int) < 0) := by omega
    simp [numOf, this]
set_option linter.unusedSimpArgs false
set_option linter.unusedVariables false
set_option maxRecDepth 20000
set_option maxHeartbeats 4000000
attribute [local congr] BND_cg COND_cg GEF_cg
attribute [local irreducible] load1 loadn iaddr iaddra faddr storev newslice binv lookv mupd mdel mlenv mentry mestore slicev slicev3 slices indexs indexav textv rangev nexts clearv shiftv eqaggv convi buildv pickv lens lenl unv nilchk extractv partn JOIN
section
variable {w0 w w' : World} {F0 : List Nat} {d : Nat} {s : Dk} {fv dv v : Value} {fc : List (SV × Nat)} {es : List SV} {l : Dir} {G : List Nat} {R : Value → World → Prop}
/-- the row of directories, copied. -/
theorem rf_dcopy {E E' bytes : Nat} {zero : Array Value} {zero' : Value} {k : Value → World → Prop} (h : At w0 F0 (stars (rfL d s fv dv fc es)) w) (hn : s.dirs.length < 1000000000) (hz : zero'.cells.size = 1) (hb : bytes ≤ 1000)
    (K : ∀ v' w' G, Slc encV 1 w' v' es G → (∀ b ∈ G, hsz w ≤ b) → Fr [] w w' → k v' w') : BND (newslice E zero 1 0 [] w) fun p_ => NEW p_ fun t w1 => BND (nilchk (ptrTo d)) fun a => BND (faddr 2 a) fun c => BND (load1 w1 c) fun u => APPEND E' 1 bytes zero' t u w1 k := by
  obtain ⟨T, c⟩ := h.cell (i := 0) rfl
  obtain ⟨F, ⟨_, ⟨G, sd, _⟩, ⟨hl, hE⟩, _⟩, _⟩ := h.get 2 rfl
  refine newnil_step encV fun t w1 s1 f1 z1 => ?_
  have c1 := f1.some (by simp) c
  unfold ptrTo
  (repeat (first | (apply BND_ld c1; exact rfl) | refine stp ?_ | (apply BND_inc; omega) | (apply BND_dec; omega) | refine BND_step (rfl : some _ = some _) ?_ | (apply cyes; first | assumption | omega) | (apply cno; first | assumption | omega) | refine (COND_true _ _).2 ?_ | refine (COND_false _ _).2 ?_ | simp (disch := first | assumption | omega) only [gs1, gs2, decide_true, decide_false, eq_self, beq_self_eq_true, Bool.not_true, Bool.not_false]))
  refine APPEND_slc s1 ((sd.fr f1 (by simp)).loads encV_len) encV_len encV_one hz (by simp only [List.length_nil, Nat.zero_add]; exact Nat.le_trans (Nat.mul_le_mul_left _ hb) (by omega)) (by simp; omega) fun v' w' F' s' f' sub => ?_
  refine K v' w' F' (by simpa using s') (fun b hb => ?_) (f1.trans f' fun b hb => .inr (by simp at hb; omega))
  rcases sub b hb with h | h
  · simp at h; omega
  · omega
theorem rf_Delete (h : At w0 F0 (rfHP d s) w) (hw : s.Wf) (hn : s.dirs.length < 1000000000) (n : ByteArray) (hR : ∀ w', At w0 F0 (rfHP d (delete s n).1) w' → R (.int .i64 (delete s n).2) w') : CALL PR F_tumbrelref06_Disk_Delete [ptrTo d, .string n] w R := by
  refine C_tumbrelref06_Disk_Delete ?_
  unfold M_tumbrelref06_Disk_Delete
  refine rf_find h hw hn n fun w1 f1 => ?_
  have h1 := h.fr0 f1
  (repeat (first | refine stp ?_ | (apply BND_inc; omega) | (apply BND_dec; omega) | refine BND_step (rfl : some _ = some _) ?_ | (apply cyes; first | assumption | omega) | (apply cno; first | assumption | omega) | refine (COND_true _ _).2 ?_ | refine (COND_false _ _).2 ?_ | simp (disch := first | assumption | omega) only [gs1, gs2, decide_true, decide_false, eq_self, beq_self_eq_true, Bool.not_true, Bool.not_false]))
  refine join_v (Q := fun v w' => v = .int .i64 (there s n) ∧ w' = w1) (fun k hk => ?_) ?_
  · rw [there_num] at hk
    by_cases hf : numOf (s.find n) < 0
    · (repeat (first | refine stp ?_ | (apply BND_inc; omega) | (apply BND_dec; omega) | refine BND_step (rfl : some _ = some _) ?_ | (apply cyes; first | assumption | omega) | (apply cno; first | assumption | omega) | refine (COND_true _ _).2 ?_ | refine (COND_false _ _).2 ?_ | simp (disch := first | assumption | omega) only [gs1, gs2, decide_true, decide_false, eq_self, beq_self_eq_true, Bool.not_true, Bool.not_false]))
      exact hk _ _ ⟨by rw [if_pos hf], rfl⟩
    · (repeat (first | refine stp ?_ | (apply BND_inc; omega) | (apply BND_dec; omega) | refine BND_step (rfl : some _ = some _) ?_ | (apply cyes; first | assumption | omega) | (apply cno; first | assumption | omega) | refine (COND_true _ _).2 ?_ | refine (COND_false _ _).2 ?_ | simp (disch := first | assumption | omega) only [gs1, gs2, decide_true, decide_false, eq_self, beq_self_eq_true, Bool.not_true, Bool.not_false]))
      exact hk _ _ ⟨by rw [if_neg hf], rfl⟩
  rintro _ _ ⟨rfl, rfl⟩
  refine rf_can h1 _ hw.burn fun w3 h3 => ?_
  unfold delete at hR
  by_cases hc : (can s (there s n)).2 = 0
  · simp only [hc, if_true] at hR
    rw [hc]
    obtain ⟨k1, k2, k3⟩ := can_keep s (there s n)
    (repeat (first | refine stp ?_ | (apply BND_inc; omega) | (apply BND_dec; omega) | refine BND_step (rfl : some _ = some _) ?_ | (apply cyes; first | assumption | omega) | (apply cno; first | assumption | omega) | refine (COND_true _ _).2 ?_ | refine (COND_false _ _).2 ?_ | simp (disch := first | assumption | omega) only [gs1, gs2, decide_true, decide_false, eq_self, beq_self_eq_true, Bool.not_true, Bool.not_false]))
    refine join_w (fun w' => At w0 F0 (rfHP d { (can s (there s n)).1 with dirs := s.dirs ++ [without s.now n] }) w') (fun K hK => ?_) (fun w' hw' => hR w' hw')
    obtain ⟨fv, dv, fc, es, hs⟩ := rf_open h3
    (repeat (first | refine stp ?_ | (apply BND_inc; omega) | (apply BND_dec; omega) | refine BND_step (rfl : some _ = some _) ?_ | (apply cyes; first | assumption | omega) | (apply cno; first | assumption | omega) | refine (COND_true _ _).2 ?_ | refine (COND_false _ _).2 ?_ | simp (disch := first | assumption | omega) only [gs1, gs2, decide_true, decide_false, eq_self, beq_self_eq_true, Bool.not_true, Bool.not_false]))
    refine rf_dcopy hs (by rw [k2]; exact hn) rfl (by omega) fun v6 w6 G6 s6 g6 f6 => ?_
    have hnow : (can s (there s n)).1.now = s.now := by unfold Dk.now; rw [k2]
    refine rf_now (hs.fr0 f6) (by rw [k2]; exact hw.ne) (by rw [k2]; exact hn) fun e Ge _ se => ?_
    rw [hnow] at se
    have f7 := f6.trans' (Fr.drew [] w6)
    refine rf_without se n (by have := hw.many _ (now_mem hw); omega) fun w8 e8 G8 s8 g8 f8 => ?_
    have f78 := f7.trans' f8
    have s6' := (s6.fr (Fr.drew [] w6) (by simp)).fr f8 (by simp)
    refine push_step (enc := encV) (x := e8) s6' encV_len encV_one rfl rfl (by omega) (by have := hs.get 2 rfl; obtain ⟨F, ⟨_, _, ⟨hl, _⟩, _⟩, _⟩ := this; rw [k2] at hl; omega) fun v9 w9 G9 s9 g9 f9 => ?_
    have gr := f78.grow
    have g6' : ∀ b ∈ G6, b ∈ ([] : List Nat) ∨ hsz w3 ≤ b := fun b hb => .inr (g6 b hb)
    have s8' := s8.fr f9 (fun b hb hb' => by have := g8 b hb; have := s6.lt b hb'; have : hsz w6.drew = hsz w6 := rfl; omega)
    unfold ptrTo
    (repeat (first | refine stp ?_ | (apply BND_inc; omega) | (apply BND_dec; omega) | refine BND_step (rfl : some _ = some _) ?_ | (apply cyes; first | assumption | omega) | (apply cno; first | assumption | omega) | refine (COND_true _ _).2 ?_ | refine (COND_false _ _).2 ?_ | simp (disch := first | assumption | omega) only [gs1, gs2, decide_true, decide_false, eq_self, beq_self_eq_true, Bool.not_true, Bool.not_false]))
    refine rf_dirs hs (f78.trans f9 g6') s9 (fun b hb => ?_) s8' (fun b hb => ?_) fun w10 h10 => hK w10 ?_
    · rcases g9 b hb with h | h
      · exact g6 b h
      · omega
    · have := g8 b hb
      have := f7.grow
      omega
    · rw [k2] at h10; exact h10
  · simp only [hc, if_false] at hR
    (repeat (first | refine stp ?_ | (apply BND_inc; omega) | (apply BND_dec; omega) | refine BND_step (rfl : some _ = some _) ?_ | (apply cyes; first | assumption | omega) | (apply cno; first | assumption | omega) | refine (COND_true _ _).2 ?_ | refine (COND_false _ _).2 ?_ | simp (disch := first | assumption | omega) only [gs1, gs2, decide_true, decide_false, eq_self, beq_self_eq_true, Bool.not_true, Bool.not_false]))
    refine join_w (fun w' => At w0 F0 (rfHP d (can s (there s n)).1) w') (fun K hK => ?_) (fun w' hw' => hR w' hw')
    (repeat (first | refine stp ?_ | (apply BND_inc; omega) | (apply BND_dec; omega) | refine BND_step (rfl : some _ = some _) ?_ | (apply cyes; first | assumption | omega) | (apply cno; first | assumption | omega) | refine (COND_true _ _).2 ?_ | refine (COND_false _ _).2 ?_ | simp (disch := first | assumption | omega) only [gs1, gs2, decide_true, decide_false, eq_self, beq_self_eq_true, Bool.not_true, Bool.not_false]))
    exact hK _ h3
theorem rf_DirSync (h : At w0 F0 (rfHP d s) w) (hw : s.Wf) (hn : s.dirs.length < 1000000000) (hR : ∀ w', At w0 F0 (rfHP d (dirsync s).1) w' → R (.int .i64 (dirsync s).2) w') : CALL PR F_tumbrelref06_Disk_DirSync [ptrTo d] w R := by
  refine C_tumbrelref06_Disk_DirSync ?_
  unfold M_tumbrelref06_Disk_DirSync
  refine rf_can h _ hw.burn fun w1 h1 => ?_
  unfold dirsync at hR
  by_cases hc : (can s 0).2 = 0
  · simp only [hc, if_true] at hR
    rw [hc]
    obtain ⟨k1, k2, k3⟩ := can_keep s 0
    (repeat (first | refine stp ?_ | (apply BND_inc; omega) | (apply BND_dec; omega) | refine BND_step (rfl : some _ = some _) ?_ | (apply cyes; first | assumption | omega) | (apply cno; first | assumption | omega) | refine (COND_true _ _).2 ?_ | refine (COND_false _ _).2 ?_ | simp (disch := first | assumption | omega) only [gs1, gs2, decide_true, decide_false, eq_self, beq_self_eq_true, Bool.not_true, Bool.not_false]))
    refine join_w (fun w' => At w0 F0 (rfHP d { (can s 0).1 with dirs := [s.now] }) w') (fun K hK => ?_) (fun w' hw' => hR w' hw')
    obtain ⟨fv, dv, fc, es, hs⟩ := rf_open h1
    (repeat (first | refine stp ?_ | (apply BND_inc; omega) | (apply BND_dec; omega) | refine BND_step (rfl : some _ = some _) ?_ | (apply cyes; first | assumption | omega) | (apply cno; first | assumption | omega) | refine (COND_true _ _).2 ?_ | refine (COND_false _ _).2 ?_ | simp (disch := first | assumption | omega) only [gs1, gs2, decide_true, decide_false, eq_self, beq_self_eq_true, Bool.not_true, Bool.not_false]))
    refine rf_now hs (by rw [k2]; exact hw.ne) (by rw [k2]; exact hn) fun e Ge he se => ?_
    refine newone_step (enc := encV) (x := e) encV_len rfl fun u w4 s4 f4 z4 => ?_
    unfold ptrTo
    (repeat (first | refine stp ?_ | (apply BND_inc; omega) | (apply BND_dec; omega) | refine BND_step (rfl : some _ = some _) ?_ | (apply cyes; first | assumption | omega) | (apply cno; first | assumption | omega) | refine (COND_true _ _).2 ?_ | refine (COND_false _ _).2 ?_ | simp (disch := first | assumption | omega) only [gs1, gs2, decide_true, decide_false, eq_self, beq_self_eq_true, Bool.not_true, Bool.not_false]))
    refine rf_dir1 hs ((Fr.drew [] w1).trans' f4) s4 (fun b hb => by simp at hb; subst hb; exact Nat.le_refl _) he (l := s.now) (by rw [k2]; exact dk_now_get hw.ne) fun w5 h5 => hK w5 (rf_shut h5)
  · simp only [hc, if_false] at hR
    (repeat (first | refine stp ?_ | (apply BND_inc; omega) | (apply BND_dec; omega) | refine BND_step (rfl : some _ = some _) ?_ | (apply cyes; first | assumption | omega) | (apply cno; first | assumption | omega) | refine (COND_true _ _).2 ?_ | refine (COND_false _ _).2 ?_ | simp (disch := first | assumption | omega) only [gs1, gs2, decide_true, decide_false, eq_self, beq_self_eq_true, Bool.not_true, Bool.not_false]))
    refine join_w (fun w' => At w0 F0 (rfHP d (can s 0).1) w') (fun K hK => ?_) (fun w' hw' => hR w' hw')
    (repeat (first | refine stp ?_ | (apply BND_inc; omega) | (apply BND_dec; omega) | refine BND_step (rfl : some _ = some _) ?_ | (apply cyes; first | assumption | omega) | (apply cno; first | assumption | omega) | refine (COND_true _ _).2 ?_ | refine (COND_false _ _).2 ?_ | simp (disch := first | assumption | omega) only [gs1, gs2, decide_true, decide_false, eq_self, beq_self_eq_true, Bool.not_true, Bool.not_false]))
    exact hK _ h1
theorem rf_Rename (h : At w0 F0 (rfHP d s) w) (hw : s.Wf) (hn : s.dirs.length < 1000000000) (a b : ByteArray) (hb_ : b.size ≤ 9223372036854775807) (hR : ∀ w', At w0 F0 (rfHP d (rename s a b).1) w' → R (.int .i64 (rename s a b).2) w') : CALL PR F_tumbrelref06_Disk_Rename [ptrTo d, .string a, .string b] w R := by
  refine C_tumbrelref06_Disk_Rename ?_
  unfold M_tumbrelref06_Disk_Rename
  refine rf_find h hw hn a fun w1 f1 => ?_
  have h1 := h.fr0 f1
  (repeat (first | refine stp ?_ | (apply BND_inc; omega) | (apply BND_dec; omega) | refine BND_step (rfl : some _ = some _) ?_ | (apply cyes; first | assumption | omega) | (apply cno; first | assumption | omega) | refine (COND_true _ _).2 ?_ | refine (COND_false _ _).2 ?_ | simp (disch := first | assumption | omega) only [gs1, gs2, decide_true, decide_false, eq_self, beq_self_eq_true, Bool.not_true, Bool.not_false]))
  refine join_v (Q := fun v w' => v = .int .i64 (renameE s a b) ∧ Fr [] w1 w') (fun k hk => ?_) ?_
  · unfold renameE at hk
    by_cases hf : numOf (s.find a) < 0
    · rw [numOf_neg.1 hf] at hk
      (repeat (first | refine stp ?_ | (apply BND_inc; omega) | (apply BND_dec; omega) | refine BND_step (rfl : some _ = some _) ?_ | (apply cyes; first | assumption | omega) | (apply cno; first | assumption | omega) | refine (COND_true _ _).2 ?_ | refine (COND_false _ _).2 ?_ | simp (disch := first | assumption | omega) only [gs1, gs2, decide_true, decide_false, eq_self, beq_self_eq_true, Bool.not_true, Bool.not_false]))
      exact hk _ _ ⟨rfl, Fr.refl _ _⟩
    · obtain ⟨f, hfs⟩ : ∃ f, s.find a = some f := by
        cases hq : s.find a with
        | none => exact absurd (numOf_neg.2 hq) hf
        | some f => exact ⟨f, rfl⟩
      rw [hfs] at hk
      simp only [Option.isSome_some, if_true] at hk
      (repeat (first | refine stp ?_ | (apply BND_inc; omega) | (apply BND_dec; omega) | refine BND_step (rfl : some _ = some _) ?_ | (apply cyes; first | assumption | omega) | (apply cno; first | assumption | omega) | refine (COND_true _ _).2 ?_ | refine (COND_false _ _).2 ?_ | simp (disch := first | assumption | omega) only [gs1, gs2, decide_true, decide_false, eq_self, beq_self_eq_true, Bool.not_true, Bool.not_false]))
      refine rf_may b hb_ fun w14 f14 => ?_
      cases hm : named b with
      | false =>
        rw [hm] at hk
        (repeat (first | refine stp ?_ | (apply BND_inc; omega) | (apply BND_dec; omega) | refine BND_step (rfl : some _ = some _) ?_ | (apply cyes; first | assumption | omega) | (apply cno; first | assumption | omega) | refine (COND_true _ _).2 ?_ | refine (COND_false _ _).2 ?_ | simp (disch := first | assumption | omega) only [gs1, gs2, decide_true, decide_false, eq_self, beq_self_eq_true, Bool.not_true, Bool.not_false]))
        refine join_v (Q := fun v w' => v = .int .i64 1 ∧ w' = w14) (fun k2 hk2 => ?_) ?_
        · (repeat (first | refine stp ?_ | (apply BND_inc; omega) | (apply BND_dec; omega) | refine BND_step (rfl : some _ = some _) ?_ | (apply cyes; first | assumption | omega) | (apply cno; first | assumption | omega) | refine (COND_true _ _).2 ?_ | refine (COND_false _ _).2 ?_ | simp (disch := first | assumption | omega) only [gs1, gs2, decide_true, decide_false, eq_self, beq_self_eq_true, Bool.not_true, Bool.not_false]))
          exact hk2 _ _ ⟨rfl, rfl⟩
        · rintro _ _ ⟨rfl, rfl⟩
          exact hk _ _ ⟨rfl, f14⟩
      | true =>
        rw [hm] at hk
        (repeat (first | refine stp ?_ | (apply BND_inc; omega) | (apply BND_dec; omega) | refine BND_step (rfl : some _ = some _) ?_ | (apply cyes; first | assumption | omega) | (apply cno; first | assumption | omega) | refine (COND_true _ _).2 ?_ | refine (COND_false _ _).2 ?_ | simp (disch := first | assumption | omega) only [gs1, gs2, decide_true, decide_false, eq_self, beq_self_eq_true, Bool.not_true, Bool.not_false]))
        refine join_v (Q := fun v w' => v = .int .i64 0 ∧ w' = w14) (fun k2 hk2 => ?_) ?_
        · (repeat (first | refine stp ?_ | (apply BND_inc; omega) | (apply BND_dec; omega) | refine BND_step (rfl : some _ = some _) ?_ | (apply cyes; first | assumption | omega) | (apply cno; first | assumption | omega) | refine (COND_true _ _).2 ?_ | refine (COND_false _ _).2 ?_ | simp (disch := first | assumption | omega) only [gs1, gs2, decide_true, decide_false, eq_self, beq_self_eq_true, Bool.not_true, Bool.not_false]))
          exact hk2 _ _ ⟨rfl, rfl⟩
        · rintro _ _ ⟨rfl, rfl⟩
          exact hk _ _ ⟨rfl, f14⟩
  rintro _ w2 ⟨rfl, f2⟩
  refine rf_can (h1.fr0 f2) _ hw.burn fun w3 h3 => ?_
  unfold rename at hR
  by_cases hc : (can s (renameE s a b)).2 = 0
  · simp only [hc, if_true] at hR
    rw [hc]
    have h0 := can_zero hc
    obtain ⟨f, hfs⟩ : ∃ f, s.find a = some f := by
      unfold renameE at h0
      cases hq : s.find a with
      | none => rw [hq] at h0; simp at h0
      | some f => exact ⟨f, rfl⟩
    rw [hfs] at hR ⊢
    simp only [Option.getD_some] at hR
    obtain ⟨k1, k2, k3⟩ := can_keep s (renameE s a b)
    (repeat (first | refine stp ?_ | (apply BND_inc; omega) | (apply BND_dec; omega) | refine BND_step (rfl : some _ = some _) ?_ | (apply cyes; first | assumption | omega) | (apply cno; first | assumption | omega) | refine (COND_true _ _).2 ?_ | refine (COND_false _ _).2 ?_ | simp (disch := first | assumption | omega) only [gs1, gs2, decide_true, decide_false, eq_self, beq_self_eq_true, Bool.not_true, Bool.not_false]))
    refine join_w (fun w' => At w0 F0 (rfHP d { (can s (renameE s a b)).1 with dirs := s.dirs ++ [withD (without (without s.now a) b) (b, f)] }) w') (fun K hK => ?_) (fun w' hw' => hR w' hw')
    obtain ⟨fv, dv, fc, es, hs⟩ := rf_open h3
    have hel : es.length = s.dirs.length := by obtain ⟨F, ⟨_, _, ⟨hl, _⟩, _⟩, _⟩ := hs.get 2 rfl; rw [k2] at hl; exact hl
    (repeat (first | refine stp ?_ | (apply BND_inc; omega) | (apply BND_dec; omega) | refine BND_step (rfl : some _ = some _) ?_ | (apply cyes; first | assumption | omega) | (apply cno; first | assumption | omega) | refine (COND_true _ _).2 ?_ | refine (COND_false _ _).2 ?_ | simp (disch := first | assumption | omega) only [gs1, gs2, decide_true, decide_false, eq_self, beq_self_eq_true, Bool.not_true, Bool.not_false]))
    refine rf_dcopy hs (by rw [k2]; exact hn) rfl (by omega) fun v6 w6 G6 s6 g6 f6 => ?_
    have hnow : (can s (renameE s a b)).1.now = s.now := by unfold Dk.now; rw [k2]
    refine rf_now (hs.fr0 f6) (by rw [k2]; exact hw.ne) (by rw [k2]; exact hn) fun e Ge _ se => ?_
    rw [hnow] at se
    have h60 := hw.many _ (now_mem hw)
    have l1 := len_without s.now a
    have l2 := len_without (without s.now a) b
    have f7 := f6.trans' (Fr.drew [] w6)
    refine rf_without se a (by omega) fun w8 e8 G8 s8 g8 f8 => ?_
    refine rf_without s8 b (by omega) fun w9 e9 G9 s9 g9 f9 => ?_
    (repeat (first | (apply BND_build ([.string b, .int .i64 (f : Int)]); exact rfl) | refine stp ?_ | (apply BND_inc; omega) | (apply BND_dec; omega) | refine BND_step (rfl : some _ = some _) ?_ | (apply cyes; first | assumption | omega) | (apply cno; first | assumption | omega) | refine (COND_true _ _).2 ?_ | refine (COND_false _ _).2 ?_ | simp (disch := first | assumption | omega) only [gs1, gs2, decide_true, decide_false, eq_self, beq_self_eq_true, Bool.not_true, Bool.not_false]))
    refine rf_with s9 (b, f) (by omega) fun w10 e10 G10 s10 g10 f10 => ?_
    have f70 := (f8.trans' f9).trans' f10
    have f3 := f7.trans' f70
    have s6' := (s6.fr (Fr.drew [] w6) (by simp)).fr f70 (by simp)
    refine push_step (enc := encV) (x := e10) s6' encV_len encV_one rfl rfl (by omega) (by omega) fun v11 w11 G11 s11 g11 f11 => ?_
    have gr := f3.grow
    have gr7 := f7.grow
    have gr2 := (f8.trans' f9).grow
    have e6 : hsz w6.drew = hsz w6 := rfl
    have s10' := s10.fr f11 (fun b hb hb' => by have := g10 b hb; have := s6.lt b hb'; omega)
    unfold ptrTo
    (repeat (first | refine stp ?_ | (apply BND_inc; omega) | (apply BND_dec; omega) | refine BND_step (rfl : some _ = some _) ?_ | (apply cyes; first | assumption | omega) | (apply cno; first | assumption | omega) | refine (COND_true _ _).2 ?_ | refine (COND_false _ _).2 ?_ | simp (disch := first | assumption | omega) only [gs1, gs2, decide_true, decide_false, eq_self, beq_self_eq_true, Bool.not_true, Bool.not_false]))
    refine rf_dirs hs (f3.trans f11 fun b hb => .inr (g6 b hb)) s11 (fun b hb => ?_) s10' (fun b hb => ?_) fun w12 h12 => hK w12 ?_
    · rcases g11 b hb with h | h
      · exact g6 b h
      · omega
    · have := g10 b hb
      omega
    · rw [k2] at h12; exact h12
  · simp only [hc, if_false] at hR
    (repeat (first | refine stp ?_ | (apply BND_inc; omega) | (apply BND_dec; omega) | refine BND_step (rfl : some _ = some _) ?_ | (apply cyes; first | assumption | omega) | (apply cno; first | assumption | omega) | refine (COND_true _ _).2 ?_ | refine (COND_false _ _).2 ?_ | simp (disch := first | assumption | omega) only [gs1, gs2, decide_true, decide_false, eq_self, beq_self_eq_true, Bool.not_true, Bool.not_false]))
    refine join_w (fun w' => At w0 F0 (rfHP d (can s (renameE s a b)).1) w') (fun K hK => ?_) (fun w' hw' => hR w' hw')
    (repeat (first | refine stp ?_ | (apply BND_inc; omega) | (apply BND_dec; omega) | refine BND_step (rfl : some _ = some _) ?_ | (apply cyes; first | assumption | omega) | (apply cno; first | assumption | omega) | refine (COND_true _ _).2 ?_ | refine (COND_false _ _).2 ?_ | simp (disch := first | assumption | omega) only [gs1, gs2, decide_true, decide_false, eq_self, beq_self_eq_true, Bool.not_true, Bool.not_false]))
    exact hK _ h3
theorem rf_Create (h : At w0 F0 (rfHP d s) w) (hw : s.Wf) (hn : s.dirs.length < 1000000000) (hn2 : s.files.length < 1000000000) (n : ByteArray) (hn_ : n.size ≤ 9223372036854775807) (hR : ∀ w', At w0 F0 (rfHP d (create s n).1) w' → R (.int .i64 (create s n).2) w') : CALL PR F_tumbrelref06_Disk_Create [ptrTo d, .string n] w R := by
  refine C_tumbrelref06_Disk_Create ?_
  unfold M_tumbrelref06_Disk_Create
  have h60 := hw.many _ (now_mem hw)
  refine rf_may n hn_ fun w1 f1 => ?_
  have h1 := h.fr0 f1
  (repeat (first | refine stp ?_ | (apply BND_inc; omega) | (apply BND_dec; omega) | refine BND_step (rfl : some _ = some _) ?_ | (apply cyes; first | assumption | omega) | (apply cno; first | assumption | omega) | refine (COND_true _ _).2 ?_ | refine (COND_false _ _).2 ?_ | simp (disch := first | assumption | omega) only [gs1, gs2, decide_true, decide_false, eq_self, beq_self_eq_true, Bool.not_true, Bool.not_false]))
  refine join_v (Q := fun v w' => v = .int .i64 (createE s n) ∧ Fr [] w1 w') (fun k hk => ?_) ?_
  · unfold createE at hk
    cases hm : named n with
    | false =>
      rw [hm] at hk
      (repeat (first | refine stp ?_ | (apply BND_inc; omega) | (apply BND_dec; omega) | refine BND_step (rfl : some _ = some _) ?_ | (apply cyes; first | assumption | omega) | (apply cno; first | assumption | omega) | refine (COND_true _ _).2 ?_ | refine (COND_false _ _).2 ?_ | simp (disch := first | assumption | omega) only [gs1, gs2, decide_true, decide_false, eq_self, beq_self_eq_true, Bool.not_true, Bool.not_false]))
      exact hk _ _ ⟨rfl, Fr.refl _ _⟩
    | true =>
      rw [hm] at hk
      simp only [Bool.true_eq_false, if_false] at hk
      (repeat (first | refine stp ?_ | (apply BND_inc; omega) | (apply BND_dec; omega) | refine BND_step (rfl : some _ = some _) ?_ | (apply cyes; first | assumption | omega) | (apply cno; first | assumption | omega) | refine (COND_true _ _).2 ?_ | refine (COND_false _ _).2 ?_ | simp (disch := first | assumption | omega) only [gs1, gs2, decide_true, decide_false, eq_self, beq_self_eq_true, Bool.not_true, Bool.not_false]))
      refine rf_find h1 hw hn n fun w2 f2 => ?_
      by_cases hf : numOf (s.find n) < 0
      · rw [numOf_neg.1 hf] at hk
        simp only [Option.isSome_none, Bool.false_eq_true, if_false] at hk
        (repeat (first | refine stp ?_ | (apply BND_inc; omega) | (apply BND_dec; omega) | refine BND_step (rfl : some _ = some _) ?_ | (apply cyes; first | assumption | omega) | (apply cno; first | assumption | omega) | refine (COND_true _ _).2 ?_ | refine (COND_false _ _).2 ?_ | simp (disch := first | assumption | omega) only [gs1, gs2, decide_true, decide_false, eq_self, beq_self_eq_true, Bool.not_true, Bool.not_false]))
        refine join_v (Q := fun v w' => v = .int .i64 (if 60 ≤ s.now.length then 4 else 0) ∧ Fr [] w1 w') (fun k2 hk2 => ?_) ?_
        · (repeat (first | refine stp ?_ | (apply BND_inc; omega) | (apply BND_dec; omega) | refine BND_step (rfl : some _ = some _) ?_ | (apply cyes; first | assumption | omega) | (apply cno; first | assumption | omega) | refine (COND_true _ _).2 ?_ | refine (COND_false _ _).2 ?_ | simp (disch := first | assumption | omega) only [gs1, gs2, decide_true, decide_false, eq_self, beq_self_eq_true, Bool.not_true, Bool.not_false]))
          obtain ⟨fv, dv, fc, es, hs⟩ := rf_open (h1.fr0 f2)
          refine rf_now hs hw.ne hn fun e Ge _ se => ?_
          by_cases hq : 60 ≤ s.now.length
          · (repeat (first | refine BND_step se.len ?_ | refine stp ?_ | (apply BND_inc; omega) | (apply BND_dec; omega) | refine BND_step (rfl : some _ = some _) ?_ | (apply cyes; first | assumption | omega) | (apply cno; first | assumption | omega) | refine (COND_true _ _).2 ?_ | refine (COND_false _ _).2 ?_ | simp (disch := first | assumption | omega) only [gs1, gs2, decide_true, decide_false, eq_self, beq_self_eq_true, Bool.not_true, Bool.not_false]))
            refine join_v (Q := fun v w' => v = .int .i64 4 ∧ w' = w2.drew) (fun k3 hk3 => ?_) ?_
            · (repeat (first | refine stp ?_ | (apply BND_inc; omega) | (apply BND_dec; omega) | refine BND_step (rfl : some _ = some _) ?_ | (apply cyes; first | assumption | omega) | (apply cno; first | assumption | omega) | refine (COND_true _ _).2 ?_ | refine (COND_false _ _).2 ?_ | simp (disch := first | assumption | omega) only [gs1, gs2, decide_true, decide_false, eq_self, beq_self_eq_true, Bool.not_true, Bool.not_false]))
              exact hk3 _ _ ⟨rfl, rfl⟩
            · rintro _ _ ⟨rfl, rfl⟩
              exact hk2 _ _ ⟨by rw [if_pos hq], f2.trans' (Fr.drew _ _)⟩
          · (repeat (first | refine BND_step se.len ?_ | refine stp ?_ | (apply BND_inc; omega) | (apply BND_dec; omega) | refine BND_step (rfl : some _ = some _) ?_ | (apply cyes; first | assumption | omega) | (apply cno; first | assumption | omega) | refine (COND_true _ _).2 ?_ | refine (COND_false _ _).2 ?_ | simp (disch := first | assumption | omega) only [gs1, gs2, decide_true, decide_false, eq_self, beq_self_eq_true, Bool.not_true, Bool.not_false]))
            refine join_v (Q := fun v w' => v = .int .i64 0 ∧ w' = w2.drew) (fun k3 hk3 => ?_) ?_
            · (repeat (first | refine stp ?_ | (apply BND_inc; omega) | (apply BND_dec; omega) | refine BND_step (rfl : some _ = some _) ?_ | (apply cyes; first | assumption | omega) | (apply cno; first | assumption | omega) | refine (COND_true _ _).2 ?_ | refine (COND_false _ _).2 ?_ | simp (disch := first | assumption | omega) only [gs1, gs2, decide_true, decide_false, eq_self, beq_self_eq_true, Bool.not_true, Bool.not_false]))
              exact hk3 _ _ ⟨rfl, rfl⟩
            · rintro _ _ ⟨rfl, rfl⟩
              exact hk2 _ _ ⟨by rw [if_neg hq], f2.trans' (Fr.drew _ _)⟩
        · rintro v w' ⟨rfl, h⟩
          exact hk _ _ ⟨rfl, h⟩
      · obtain ⟨f, hfs⟩ : ∃ f, s.find n = some f := by
          cases hq : s.find n with
          | none => exact absurd (numOf_neg.2 hq) hf
          | some f => exact ⟨f, rfl⟩
        rw [hfs] at hk
        simp only [Option.isSome_some, if_true] at hk
        (repeat (first | refine stp ?_ | (apply BND_inc; omega) | (apply BND_dec; omega) | refine BND_step (rfl : some _ = some _) ?_ | (apply cyes; first | assumption | omega) | (apply cno; first | assumption | omega) | refine (COND_true _ _).2 ?_ | refine (COND_false _ _).2 ?_ | simp (disch := first | assumption | omega) only [gs1, gs2, decide_true, decide_false, eq_self, beq_self_eq_true, Bool.not_true, Bool.not_false]))
        refine join_v (Q := fun v w' => v = .int .i64 6 ∧ Fr [] w1 w') (fun k2 hk2 => ?_) ?_
        · (repeat (first | refine stp ?_ | (apply BND_inc; omega) | (apply BND_dec; omega) | refine BND_step (rfl : some _ = some _) ?_ | (apply cyes; first | assumption | omega) | (apply cno; first | assumption | omega) | refine (COND_true _ _).2 ?_ | refine (COND_false _ _).2 ?_ | simp (disch := first | assumption | omega) only [gs1, gs2, decide_true, decide_false, eq_self, beq_self_eq_true, Bool.not_true, Bool.not_false]))
          exact hk2 _ _ ⟨rfl, f2⟩
        · rintro v w' ⟨rfl, h⟩
          exact hk _ _ ⟨rfl, h⟩
  rintro _ w2 ⟨rfl, f2⟩
  refine rf_can (h1.fr0 f2) _ hw.burn fun w3 h3 => ?_
  unfold create at hR
  by_cases hc : (can s (createE s n)).2 = 0
  · simp only [hc, if_true] at hR
    rw [hc]
    obtain ⟨k1, k2, k3⟩ := can_keep s (createE s n)
    have hnow : (can s (createE s n)).1.now = s.now := by unfold Dk.now; rw [k2]
    generalize (can s (createE s n)).1 = s1 at hR h3 k1 k2 k3 hnow
    (repeat (first | refine stp ?_ | (apply BND_inc; omega) | (apply BND_dec; omega) | refine BND_step (rfl : some _ = some _) ?_ | (apply cyes; first | assumption | omega) | (apply cno; first | assumption | omega) | refine (COND_true _ _).2 ?_ | refine (COND_false _ _).2 ?_ | simp (disch := first | assumption | omega) only [gs1, gs2, decide_true, decide_false, eq_self, beq_self_eq_true, Bool.not_true, Bool.not_false]))
    refine join_w (fun w' => At w0 F0 (rfHP d { s1 with files := s.files ++ [⟨[], 0⟩], dirs := s.dirs ++ [withD s.now (n, s.files.length)] }) w') (fun K hK => ?_) (fun w' hw' => hR w' hw')
    obtain ⟨fv, dv, fc, es, hs⟩ := rf_open h3
    obtain ⟨T, c⟩ := hs.cell (i := 0) rfl
    obtain ⟨Ff, sf, _⟩ := hs.slc1 (i := 1) rfl
    obtain ⟨hel, hfl⟩ : es.length = s.dirs.length ∧ fc.length = s.files.length := by obtain ⟨F, ⟨_, _, ⟨hl, _⟩, ⟨hl2, _⟩⟩, _⟩ := hs.get 2 rfl; rw [k2] at hl; rw [k1] at hl2; exact ⟨hl, hl2⟩
    (repeat (first | refine stp ?_ | (apply BND_inc; omega) | (apply BND_dec; omega) | refine BND_step (rfl : some _ = some _) ?_ | (apply cyes; first | assumption | omega) | (apply cno; first | assumption | omega) | refine (COND_true _ _).2 ?_ | refine (COND_false _ _).2 ?_ | simp (disch := first | assumption | omega) only [gs1, gs2, decide_true, decide_false, eq_self, beq_self_eq_true, Bool.not_true, Bool.not_false]))
    refine newnil_step encG fun t5 w5 s5 f5 z5 => ?_
    have c5 := f5.some (by simp) c
    unfold ptrTo
    (repeat (first | (apply BND_ld c5; exact rfl) | refine stp ?_ | (apply BND_inc; omega) | (apply BND_dec; omega) | refine BND_step (rfl : some _ = some _) ?_ | (apply cyes; first | assumption | omega) | (apply cno; first | assumption | omega) | refine (COND_true _ _).2 ?_ | refine (COND_false _ _).2 ?_ | simp (disch := first | assumption | omega) only [gs1, gs2, decide_true, decide_false, eq_self, beq_self_eq_true, Bool.not_true, Bool.not_false]))
    refine APPEND_slc s5 ((sf.fr f5 (by simp)).loads encG_len) encG_len encG_one rfl (by simp; omega) (by simp; omega) fun v6 w6 G6 s6 f6 sub6 => ?_
    rw [List.nil_append] at s6
    have g6 : ∀ b ∈ G6, hsz w3 ≤ b := fun b hb => by
      rcases sub6 b hb with h | h
      · simp at h; omega
      · omega
    have f36 : Fr [] w3 w6 := f5.trans f6 fun b hb => .inr (by simp at hb; omega)
    (repeat (first | (apply BND_build ([.slice none 0 0, .int .i64 0]); exact rfl) | refine stp ?_ | (apply BND_inc; omega) | (apply BND_dec; omega) | refine BND_step (rfl : some _ = some _) ?_ | (apply cyes; first | assumption | omega) | (apply cno; first | assumption | omega) | refine (COND_true _ _).2 ?_ | refine (COND_false _ _).2 ?_ | simp (disch := first | assumption | omega) only [gs1, gs2, decide_true, decide_false, eq_self, beq_self_eq_true, Bool.not_true, Bool.not_false]))
    refine push_step (enc := encG) (x := (⟨none, 0, 0⟩, 0)) s6 encG_len encG_one rfl rfl (by omega) (by omega) fun v8 w8 G8 s8 g8 f8 => ?_
    have f38 : Fr [] w3 w8 := f36.trans f8 fun b hb => .inr (g6 b hb)
    have gr36 := f36.grow
    (repeat (first | refine stp ?_ | (apply BND_inc; omega) | (apply BND_dec; omega) | refine BND_step (rfl : some _ = some _) ?_ | (apply cyes; first | assumption | omega) | (apply cno; first | assumption | omega) | refine (COND_true _ _).2 ?_ | refine (COND_false _ _).2 ?_ | simp (disch := first | assumption | omega) only [gs1, gs2, decide_true, decide_false, eq_self, beq_self_eq_true, Bool.not_true, Bool.not_false]))
    refine rf_files (v := ⟨none, 0, 0⟩) (x := ⟨[], 0⟩) hs f38 s8 (fun b hb => ?_) (fun w => Slc.nil _ _ _) fun w9 h9 => ?_
    · rcases g8 b hb with h | h
      · exact g6 b h
      · omega
    obtain ⟨T9, c9⟩ := h9.cell (i := 0) rfl
    have cd : blk w9.drew d = some (.cells (rfC { s1 with files := s1.files ++ [⟨[], 0⟩] } v8 dv).toArray T9 (0, 0)) := c9
    obtain ⟨Ff9, sf9, _⟩ := h9.slc1 (i := 1) rfl
    obtain ⟨F9, ⟨_, ⟨Gd, sd, _⟩, _⟩, _⟩ := h9.get 2 rfl
    refine ⟨fun _ w' => blk w' d = some (.cells (rfC { s1 with files := s1.files ++ [⟨[], 0⟩] } v8 dv).toArray T9 (0, 0)), cd, cd, ?_⟩
    have hlen : lenl v8 = some (.int .i64 ((s.files.length + 1 : Nat) : Int)) := by rw [sf9.len]; simp [hfl]
    (repeat (first | (apply FLT_ld (fun _ h_ => h_); exact rfl) | refine BND_step hlen ?_ | refine BND_step (subn_ (n := s.files.length + 1) (m := 1) (by omega) (by omega)) ?_ | (apply BND_build ([.string n, .int .i64 ((s.files.length + 1 - 1 : Nat) : Int)]); exact rfl) | refine stp ?_ | (apply BND_inc; omega) | (apply BND_dec; omega) | refine BND_step (rfl : some _ = some _) ?_ | (apply cyes; first | assumption | omega) | (apply cno; first | assumption | omega) | refine (COND_true _ _).2 ?_ | refine (COND_false _ _).2 ?_ | simp (disch := first | assumption | omega) only [gs1, gs2, decide_true, decide_false, eq_self, beq_self_eq_true, Bool.not_true, Bool.not_false]))
    refine newnil_step encV fun t10 w10 s10 f10 z10 => ?_
    have c10 := f10.some (by simp) cd
    refine ⟨c10, c10, ?_⟩
    refine APPEND_slc s10 (((sd.fr (Fr.drew [] w9) (by simp)).fr f10 (by simp)).loads encV_len) encV_len encV_one rfl (by simp; omega) (by simp; omega) fun v11 w11 G11 s11 f11 sub11 => ?_
    rw [List.nil_append] at s11
    have e9 : hsz w9.drew = hsz w9 := rfl
    have g11 : ∀ b ∈ G11, hsz w9 ≤ b := fun b hb => by
      rcases sub11 b hb with h | h
      · simp at h; omega
      · omega
    have f911 : Fr [] w9 w11 := (Fr.drew [] w9).trans' (f10.trans f11 fun b hb => .inr (by simp at hb; omega))
    have c11 := f911.some (by simp) c9
    refine ⟨c11, ?_⟩
    refine rf_now (h9.fr0 f911) (by show s1.dirs ≠ []; rw [k2]; exact hw.ne) (by show s1.dirs.length < 1000000000; rw [k2]; exact hn) fun e Ge _ se => ?_
    replace se : Slc encE 2 w11.drew e.v s1.now Ge := se
    rw [hnow] at se
    refine ⟨c11, ?_⟩
    refine rf_with se (n, s.files.length + 1 - 1) (by omega) fun w13 e13 G13 s13 g13 f13 => ?_
    replace s13 : Slc encE 2 w13 e13.v (withD s.now (n, s.files.length)) G13 := s13
    have e11 : hsz w11.drew = hsz w11 := rfl
    have gr13 := f13.grow
    have gr911 := f911.grow
    have s11' := (s11.fr (Fr.drew [] w11) (by simp)).fr f13 (by simp)
    refine push_step (enc := encV) (x := e13) s11' encV_len encV_one rfl rfl (by omega) (by omega) fun v14 w14 G14 s14 g14 f14 => ?_
    have s13' := s13.fr f14 (fun b hb hb' => by have := g13 b hb; have := s11.lt b hb'; omega)
    (repeat (first | refine stp ?_ | (apply BND_inc; omega) | (apply BND_dec; omega) | refine BND_step (rfl : some _ = some _) ?_ | (apply cyes; first | assumption | omega) | (apply cno; first | assumption | omega) | refine (COND_true _ _).2 ?_ | refine (COND_false _ _).2 ?_ | simp (disch := first | assumption | omega) only [gs1, gs2, decide_true, decide_false, eq_self, beq_self_eq_true, Bool.not_true, Bool.not_false]))
    refine rf_dirs h9 (((f911.trans' (Fr.drew [] w11)).trans' f13).trans f14 fun b hb => .inr (g11 b hb)) s14 (fun b hb => ?_) s13' (fun b hb => ?_) fun w12 h12 => hK w12 ?_
    · rcases g14 b hb with h | h
      · exact g11 b h
      · omega
    · have := g13 b hb
      omega
    · rw [k1] at h12
      have h12' := h12
      simp only [k2] at h12'
      exact h12'
  · simp only [hc, if_false] at hR
    (repeat (first | refine stp ?_ | (apply BND_inc; omega) | (apply BND_dec; omega) | refine BND_step (rfl : some _ = some _) ?_ | (apply cyes; first | assumption | omega) | (apply cno; first | assumption | omega) | refine (COND_true _ _).2 ?_ | refine (COND_false _ _).2 ?_ | simp (disch := first | assumption | omega) only [gs1, gs2, decide_true, decide_false, eq_self, beq_self_eq_true, Bool.not_true, Bool.not_false]))
    refine join_w (fun w' => At w0 F0 (rfHP d (can s (createE s n)).1) w') (fun K hK => ?_) (fun w' hw' => hR w' hw')
    (repeat (first | refine stp ?_ | (apply BND_inc; omega) | (apply BND_dec; omega) | refine BND_step (rfl : some _ = some _) ?_ | (apply cyes; first | assumption | omega) | (apply cno; first | assumption | omega) | refine (COND_true _ _).2 ?_ | refine (COND_false _ _).2 ?_ | simp (disch := first | assumption | omega) only [gs1, gs2, decide_true, decide_false, eq_self, beq_self_eq_true, Bool.not_true, Bool.not_false]))
    exact hK _ h3
end
end Go.Proofs.Ytpefokoiioeomaa
