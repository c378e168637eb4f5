/- An act upon a disk. No condition but sizes. -/
import Derived.Test.YtpefokoiioeomaaDiskWf
import Derived.Test.YtpefokoiioeomaaMa
namespace Go.Proofs.Ytpefokoiioeomaa
open Go.Den Go.Disk
structure Act where
  dn : Int
  n : Int
  nm : ByteArray
  to : ByteArray
  bv : Value
  tv : Value
def encA (a : Act) : List Value := [.int .i64 a.dn, .int .i64 a.n, .string a.nm, .string a.to, a.bv, a.tv]
/-- an act's answer: the disk behind it, what is read, the error. -/
def act (s : Dk) (a : Act) (b : List UInt8) (tails : List Int) : Dk × List UInt8 × Int :=
  if a.dn = 0 then ((create s a.nm).1, [], (create s a.nm).2)
  else if a.dn = 1 then ((append s a.nm b).1, [], (append s a.nm b).2)
  else if a.dn = 2 then ((sync s a.nm).1, [], (sync s a.nm).2)
  else if a.dn = 3 then ((cut s a.nm a.n).1, [], (cut s a.nm a.n).2)
  else if a.dn = 4 then ((rename s a.nm a.to).1, [], (rename s a.nm a.to).2)
  else if a.dn = 5 then ((delete s a.nm).1, [], (delete s a.nm).2)
  else if a.dn = 6 then ((dirsync s).1, [], (dirsync s).2)
  else if a.dn = 7 then (fuse s a.n, [], 0)
  else if a.dn = 8 then (crash s a.n tails, [], 0)
  else (s, Disk.read s a.nm)
theorem wf_act {s : Dk} (h : s.Wf) (a : Act) (b : List UInt8) (tails : List Int) (hn : a.n ≤ 9223372036854775807) : (act s a b tails).1.Wf := by
  unfold act
  split; exact wf_create h _
  split; exact wf_append h _ _
  split; exact wf_sync h _
  split; exact wf_cut h _ _
  split; exact wf_rename h _ _
  split; exact wf_delete h _
  split; exact wf_dirsync h
  split; exact wf_fuse h hn
  split; exact wf_crash h _ _
  exact h
/-- how much a call adds. -/
theorem crashF_len (tails : List Int) : ∀ (l : Dir) (i : Nat) (fs : List Fl), (crashF tails l i fs).length = fs.length
  | [], _, _ => rfl
  | (k, f) :: r, i, fs => by
    have h2 := crash1_len tails f i fs
    rw [← h2]; exact crashF_len tails r (i + 1) (crash1 tails f i fs)
theorem more_act (s : Dk) (a : Act) (b : List UInt8) (tails : List Int) (h : s.dirs ≠ []) : (act s a b tails).1.dirs.length ≤ s.dirs.length + 1 ∧ (act s a b tails).1.files.length ≤ s.files.length + 1 := by
  have hp : 0 < s.dirs.length := List.length_pos_iff.2 h
  unfold act
  split
  · obtain ⟨k1, k2, k3⟩ := can_keep s (createE s a.nm)
    simp only [create]; split
    · simp
    · simp only [k1, k2]; omega
  split
  · obtain ⟨k1, k2, k3⟩ := can_keep s (appendE s a.nm b.length)
    simp only [append, setF]; split <;> simp only [List.length_set, k1, k2] <;> omega
  split
  · obtain ⟨k1, k2, k3⟩ := can_keep s (there s a.nm)
    simp only [sync, setF]; split <;> simp only [List.length_set, k1, k2] <;> omega
  split
  · obtain ⟨k1, k2, k3⟩ := can_keep s (cutE s a.nm a.n)
    simp only [cut, setF]; split <;> simp only [List.length_set, k1, k2] <;> omega
  split
  · obtain ⟨k1, k2, k3⟩ := can_keep s (renameE s a.nm a.to)
    simp only [rename]; split
    · simp [k1]
    · simp only [k1, k2]; omega
  split
  · obtain ⟨k1, k2, k3⟩ := can_keep s (there s a.nm)
    simp only [delete]; split
    · simp [k1]
    · simp only [k1, k2]; omega
  split
  · obtain ⟨k1, k2, k3⟩ := can_keep s 0
    simp only [dirsync]; split
    · simp [k1]
    · simp only [k1, k2]; omega
  split
  · simp [fuse]
  split
  · simp [crash, crashF_len]
  simp
set_option linter.unusedSimpArgs false
set_option linter.unusedVariables false
set_option maxRecDepth 20000
set_option maxHeartbeats 4000000
attribute [local congr] BND_cg COND_cg GEF_cg
attribute [local irreducible] load1 loadn iaddr iaddra faddr storev newslice binv lookv mupd mdel mlenv mentry mestore slicev slicev3 slices indexs indexav textv rangev nexts clearv shiftv eqaggv convi buildv pickv lens lenl unv nilchk extractv partn JOIN
section
variable {w0 w : World} {F0 : List Nat} {d : Nat} {s : Dk} {R : Value → World → Prop}
theorem dk_do (h : At w0 F0 (diskHP d s) w) (hw : s.Wf) (hn : s.dirs.length < 1000000000) (hn2 : s.files.length < 1000000000) (a : Act) {b : List UInt8} {tails : List Int} (hb : b.length < 1000000000)
    (hib : ∀ w', Fr F0 w0 w' → Arr encB 1 w' a.bv b) (hit : ∀ w', Fr F0 w0 w' → Arr encI 1 w' a.tv tails)
    (hR : ∀ w' v G, At w0 F0 (diskHP d (act s a b tails).1) w' → Slc encB 1 w' v (act s a b tails).2.1 G → (∀ b ∈ G, hsz w ≤ b) → R (.tuple #[v, .int .i64 (act s a b tails).2.2]) w') :
    CALL PR F_tumbrellaw06_do [ptrTo d, .agg (encA a).toArray] w R := by
  refine C_tumbrellaw06_do ?_
  unfold M_tumbrellaw06_do
  refine NEW_intro fun w1 b1 f1 z1 => ?_
  have h1 := h.fr0 f1
  have b2 : blk w1 (hsz w) = some (.cells (encA a).toArray 35 (0, 0)) := b1
  unfold act at hR
  (repeat (first | (apply BND_ld b2; exact rfl) | refine stp ?_ | (apply BND_inc; omega) | (apply BND_dec; omega) | refine BND_step (rfl : some _ = some _) ?_ | (apply cyes; first | assumption | omega) | (apply cno; first | assumption | omega) | refine (COND_true _ _).2 ?_ | refine (COND_false _ _).2 ?_ | simp (disch := first | assumption | omega) only [gs1, gs2, decide_true, decide_false, eq_self, beq_self_eq_true, Bool.not_true, Bool.not_false]))
  by_cases q0 : a.dn = 0
  · simp only [q0, if_true] at hR
    (repeat (first | (apply BND_ld b2; exact rfl) | refine stp ?_ | (apply BND_inc; omega) | (apply BND_dec; omega) | refine BND_step (rfl : some _ = some _) ?_ | (apply cyes; first | assumption | omega) | (apply cno; first | assumption | omega) | refine (COND_true _ _).2 ?_ | refine (COND_false _ _).2 ?_ | simp (disch := first | assumption | omega) only [gs1, gs2, decide_true, decide_false, eq_self, beq_self_eq_true, Bool.not_true, Bool.not_false]))
    exact dk_Create h1 hw hn _ fun w2 h2 => hR w2 _ [] h2 (Slc.nil _ _ _) (by simp)
  simp only [q0, if_false] at hR
  (repeat (first | refine stp ?_ | (apply BND_inc; omega) | (apply BND_dec; omega) | refine BND_step (rfl : some _ = some _) ?_ | (apply cyes; first | assumption | omega) | (apply cno; first | assumption | omega) | refine (COND_true _ _).2 ?_ | refine (COND_false _ _).2 ?_ | simp (disch := first | assumption | omega) only [gs1, gs2, decide_true, decide_false, eq_self, beq_self_eq_true, Bool.not_true, Bool.not_false]))
  by_cases q1 : a.dn = 1
  · simp only [q1, if_true] at hR
    (repeat (first | (apply BND_ld b2; exact rfl) | refine stp ?_ | (apply BND_inc; omega) | (apply BND_dec; omega) | refine BND_step (rfl : some _ = some _) ?_ | (apply cyes; first | assumption | omega) | (apply cno; first | assumption | omega) | refine (COND_true _ _).2 ?_ | refine (COND_false _ _).2 ?_ | simp (disch := first | assumption | omega) only [gs1, gs2, decide_true, decide_false, eq_self, beq_self_eq_true, Bool.not_true, Bool.not_false]))
    exact dk_Append h1 hw hn hn2 _ hb (hib w1 h1.frame).len (fun w' f => (hib w' f).src encB_len (by omega)) fun w2 h2 => hR w2 _ [] h2 (Slc.nil _ _ _) (by simp)
  simp only [q1, if_false] at hR
  (repeat (first | refine stp ?_ | (apply BND_inc; omega) | (apply BND_dec; omega) | refine BND_step (rfl : some _ = some _) ?_ | (apply cyes; first | assumption | omega) | (apply cno; first | assumption | omega) | refine (COND_true _ _).2 ?_ | refine (COND_false _ _).2 ?_ | simp (disch := first | assumption | omega) only [gs1, gs2, decide_true, decide_false, eq_self, beq_self_eq_true, Bool.not_true, Bool.not_false]))
  by_cases q2 : a.dn = 2
  · simp only [q2, if_true] at hR
    (repeat (first | (apply BND_ld b2; exact rfl) | refine stp ?_ | (apply BND_inc; omega) | (apply BND_dec; omega) | refine BND_step (rfl : some _ = some _) ?_ | (apply cyes; first | assumption | omega) | (apply cno; first | assumption | omega) | refine (COND_true _ _).2 ?_ | refine (COND_false _ _).2 ?_ | simp (disch := first | assumption | omega) only [gs1, gs2, decide_true, decide_false, eq_self, beq_self_eq_true, Bool.not_true, Bool.not_false]))
    exact dk_Sync h1 hw hn _ fun w2 h2 => hR w2 _ [] h2 (Slc.nil _ _ _) (by simp)
  simp only [q2, if_false] at hR
  (repeat (first | refine stp ?_ | (apply BND_inc; omega) | (apply BND_dec; omega) | refine BND_step (rfl : some _ = some _) ?_ | (apply cyes; first | assumption | omega) | (apply cno; first | assumption | omega) | refine (COND_true _ _).2 ?_ | refine (COND_false _ _).2 ?_ | simp (disch := first | assumption | omega) only [gs1, gs2, decide_true, decide_false, eq_self, beq_self_eq_true, Bool.not_true, Bool.not_false]))
  by_cases q3 : a.dn = 3
  · simp only [q3, if_true] at hR
    (repeat (first | (apply BND_ld b2; exact rfl) | refine stp ?_ | (apply BND_inc; omega) | (apply BND_dec; omega) | refine BND_step (rfl : some _ = some _) ?_ | (apply cyes; first | assumption | omega) | (apply cno; first | assumption | omega) | refine (COND_true _ _).2 ?_ | refine (COND_false _ _).2 ?_ | simp (disch := first | assumption | omega) only [gs1, gs2, decide_true, decide_false, eq_self, beq_self_eq_true, Bool.not_true, Bool.not_false]))
    exact dk_Cut h1 hw hn _ _ fun w2 h2 => hR w2 _ [] h2 (Slc.nil _ _ _) (by simp)
  simp only [q3, if_false] at hR
  (repeat (first | refine stp ?_ | (apply BND_inc; omega) | (apply BND_dec; omega) | refine BND_step (rfl : some _ = some _) ?_ | (apply cyes; first | assumption | omega) | (apply cno; first | assumption | omega) | refine (COND_true _ _).2 ?_ | refine (COND_false _ _).2 ?_ | simp (disch := first | assumption | omega) only [gs1, gs2, decide_true, decide_false, eq_self, beq_self_eq_true, Bool.not_true, Bool.not_false]))
  by_cases q4 : a.dn = 4
  · simp only [q4, if_true] at hR
    (repeat (first | (apply BND_ld b2; exact rfl) | refine stp ?_ | (apply BND_inc; omega) | (apply BND_dec; omega) | refine BND_step (rfl : some _ = some _) ?_ | (apply cyes; first | assumption | omega) | (apply cno; first | assumption | omega) | refine (COND_true _ _).2 ?_ | refine (COND_false _ _).2 ?_ | simp (disch := first | assumption | omega) only [gs1, gs2, decide_true, decide_false, eq_self, beq_self_eq_true, Bool.not_true, Bool.not_false]))
    exact dk_Rename h1 hw hn _ _ fun w2 h2 => hR w2 _ [] h2 (Slc.nil _ _ _) (by simp)
  simp only [q4, if_false] at hR
  (repeat (first | refine stp ?_ | (apply BND_inc; omega) | (apply BND_dec; omega) | refine BND_step (rfl : some _ = some _) ?_ | (apply cyes; first | assumption | omega) | (apply cno; first | assumption | omega) | refine (COND_true _ _).2 ?_ | refine (COND_false _ _).2 ?_ | simp (disch := first | assumption | omega) only [gs1, gs2, decide_true, decide_false, eq_self, beq_self_eq_true, Bool.not_true, Bool.not_false]))
  by_cases q5 : a.dn = 5
  · simp only [q5, if_true] at hR
    (repeat (first | (apply BND_ld b2; exact rfl) | refine stp ?_ | (apply BND_inc; omega) | (apply BND_dec; omega) | refine BND_step (rfl : some _ = some _) ?_ | (apply cyes; first | assumption | omega) | (apply cno; first | assumption | omega) | refine (COND_true _ _).2 ?_ | refine (COND_false _ _).2 ?_ | simp (disch := first | assumption | omega) only [gs1, gs2, decide_true, decide_false, eq_self, beq_self_eq_true, Bool.not_true, Bool.not_false]))
    exact dk_Delete h1 hw hn _ fun w2 h2 => hR w2 _ [] h2 (Slc.nil _ _ _) (by simp)
  simp only [q5, if_false] at hR
  (repeat (first | refine stp ?_ | (apply BND_inc; omega) | (apply BND_dec; omega) | refine BND_step (rfl : some _ = some _) ?_ | (apply cyes; first | assumption | omega) | (apply cno; first | assumption | omega) | refine (COND_true _ _).2 ?_ | refine (COND_false _ _).2 ?_ | simp (disch := first | assumption | omega) only [gs1, gs2, decide_true, decide_false, eq_self, beq_self_eq_true, Bool.not_true, Bool.not_false]))
  by_cases q6 : a.dn = 6
  · simp only [q6, if_true] at hR
    (repeat (first | refine stp ?_ | (apply BND_inc; omega) | (apply BND_dec; omega) | refine BND_step (rfl : some _ = some _) ?_ | (apply cyes; first | assumption | omega) | (apply cno; first | assumption | omega) | refine (COND_true _ _).2 ?_ | refine (COND_false _ _).2 ?_ | simp (disch := first | assumption | omega) only [gs1, gs2, decide_true, decide_false, eq_self, beq_self_eq_true, Bool.not_true, Bool.not_false]))
    exact dk_DirSync h1 hw hn fun w2 h2 => hR w2 _ [] h2 (Slc.nil _ _ _) (by simp)
  simp only [q6, if_false] at hR
  (repeat (first | refine stp ?_ | (apply BND_inc; omega) | (apply BND_dec; omega) | refine BND_step (rfl : some _ = some _) ?_ | (apply cyes; first | assumption | omega) | (apply cno; first | assumption | omega) | refine (COND_true _ _).2 ?_ | refine (COND_false _ _).2 ?_ | simp (disch := first | assumption | omega) only [gs1, gs2, decide_true, decide_false, eq_self, beq_self_eq_true, Bool.not_true, Bool.not_false]))
  by_cases q7 : a.dn = 7
  · simp only [q7, if_true] at hR
    (repeat (first | (apply BND_ld b2; exact rfl) | refine stp ?_ | (apply BND_inc; omega) | (apply BND_dec; omega) | refine BND_step (rfl : some _ = some _) ?_ | (apply cyes; first | assumption | omega) | (apply cno; first | assumption | omega) | refine (COND_true _ _).2 ?_ | refine (COND_false _ _).2 ?_ | simp (disch := first | assumption | omega) only [gs1, gs2, decide_true, decide_false, eq_self, beq_self_eq_true, Bool.not_true, Bool.not_false]))
    exact dk_Fuse h1 _ fun w2 h2 => hR w2 _ [] h2 (Slc.nil _ _ _) (by simp)
  simp only [q7, if_false] at hR
  (repeat (first | refine stp ?_ | (apply BND_inc; omega) | (apply BND_dec; omega) | refine BND_step (rfl : some _ = some _) ?_ | (apply cyes; first | assumption | omega) | (apply cno; first | assumption | omega) | refine (COND_true _ _).2 ?_ | refine (COND_false _ _).2 ?_ | simp (disch := first | assumption | omega) only [gs1, gs2, decide_true, decide_false, eq_self, beq_self_eq_true, Bool.not_true, Bool.not_false]))
  by_cases q8 : a.dn = 8
  · simp only [q8, if_true] at hR
    (repeat (first | (apply BND_ld b2; exact rfl) | refine stp ?_ | (apply BND_inc; omega) | (apply BND_dec; omega) | refine BND_step (rfl : some _ = some _) ?_ | (apply cyes; first | assumption | omega) | (apply cno; first | assumption | omega) | refine (COND_true _ _).2 ?_ | refine (COND_false _ _).2 ?_ | simp (disch := first | assumption | omega) only [gs1, gs2, decide_true, decide_false, eq_self, beq_self_eq_true, Bool.not_true, Bool.not_false]))
    exact dk_Crash h1 hw hn _ hit fun w2 h2 => hR w2 _ [] h2 (Slc.nil _ _ _) (by simp)
  simp only [q8, if_false] at hR
  (repeat (first | (apply BND_ld b2; exact rfl) | refine stp ?_ | (apply BND_inc; omega) | (apply BND_dec; omega) | refine BND_step (rfl : some _ = some _) ?_ | (apply cyes; first | assumption | omega) | (apply cno; first | assumption | omega) | refine (COND_true _ _).2 ?_ | refine (COND_false _ _).2 ?_ | simp (disch := first | assumption | omega) only [gs1, gs2, decide_true, decide_false, eq_self, beq_self_eq_true, Bool.not_true, Bool.not_false]))
  refine dk_Read h1 hw hn _ fun w2 v G h2 s2 g2 f2 => ?_
  (repeat (first | refine stp ?_ | (apply BND_inc; omega) | (apply BND_dec; omega) | refine BND_step (rfl : some _ = some _) ?_ | (apply cyes; first | assumption | omega) | (apply cno; first | assumption | omega) | refine (COND_true _ _).2 ?_ | refine (COND_false _ _).2 ?_ | simp (disch := first | assumption | omega) only [gs1, gs2, decide_true, decide_false, eq_self, beq_self_eq_true, Bool.not_true, Bool.not_false]))
  exact hR w2 v G h2 s2 fun b hb => by have := g2 b hb; omega
end
end Go.Proofs.Ytpefokoiioeomaa
