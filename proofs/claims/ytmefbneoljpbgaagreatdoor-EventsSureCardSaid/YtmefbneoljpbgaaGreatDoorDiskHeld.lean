
/- A disk's bytes held: each file once. No condition but sizes. -/
import Derived.Test.YtmefbneoljpbgaaGreatDoorDiskDo4
import Derived.Test.YtmefbneoljpbgaaGreatDoorGb
import Derived.Test.YtmefbneoljpbgaaGreatDoorMa
namespace Go.Proofs.YtmefbneoljpbgaaGreatDoor
open Go.Den Go.Disk
def encF (fb : List Nat) (f : Nat) : List Value := [ptrTo (fb.getD f 0)]
theorem encF_len (fb : List Nat) (x : Nat) : (encF fb x).length = 1 := rfl
theorem encF_one (fb : List Nat) (x : Nat) : ∀ u ∈ encF fb x, u.oneCell' = true := by intro u hu; simp [encF, ptrTo] at hu; subst hu; rfl
/-- files lie apart. -/
theorem files_apart : ∀ (fb : List Nat) (fs : List Fl) {w : World} {F : List Nat}, fb.length = fs.length → (stars (fileHPs fb fs)).p w F → fb.Nodup ∧ ∀ b ∈ fb, b ∈ F
  | [], _, w, F, _, _ => by simp
  | b :: fb, [], w, F, h, _ => by simp at h
  | b :: fb, x :: fs, w, F, hl, h => by
    obtain ⟨A, B, ⟨bv, A1, B1, ⟨_, rfl⟩, _, rfl, _⟩, h2, rfl, h3⟩ := h
    obtain ⟨n1, n2⟩ := files_apart fb fs (by simpa using hl) h2
    refine ⟨List.nodup_cons.2 ⟨fun hb => h3 b (by simp) (n2 b hb), n1⟩, fun c hc => ?_⟩
    rcases List.mem_cons.1 hc with rfl | hc
    · simp
    · exact List.mem_append.2 (.inr (n2 c hc))
theorem getD_inj {fb : List Nat} (hn : fb.Nodup) {f g : Nat} (hf : f < fb.length) (hg : g < fb.length) (h : fb.getD f 0 = fb.getD g 0) : f = g := by
  rw [List.getD_eq_getElem?_getD, List.getD_eq_getElem?_getD, List.getElem?_eq_getElem hf, List.getElem?_eq_getElem hg] at h
  exact (List.getElem_inj hn).1 h
/-- the sum over files, each once. -/
theorem sum_held {s : Dk} {fs : List Nat} (hn : fs.Nodup) (h : ∀ f, f ∈ fs ↔ isHeld s f = true) (hlt : ∀ f ∈ fs, f < s.files.length) : (fs.map fun f => (fileAt s f).b.length).sum = held s := by
  have hp : fs.Perm ((List.range s.files.length).filter fun f => isHeld s f) := by
    refine (List.perm_ext_iff_of_nodup hn ((List.nodup_range).filter _)).2 fun f => ?_
    rw [List.mem_filter, List.mem_range, h]
    exact ⟨fun hh => ⟨hlt f ((h f).2 hh), hh⟩, fun hh => hh.2⟩
  rw [(hp.map _).sum_nat]
  unfold held
  generalize List.range s.files.length = l
  induction l with
  | nil => rfl
  | cons a l ih =>
    by_cases ha : isHeld s a = true
    · rw [List.filter_cons_of_pos ha]; simp [ha, ih]
    · rw [List.filter_cons_of_neg ha]; simp [ha, ih]
theorem sum_small {fs : List Nat} {g : Nat → Nat} {b : Nat} (h : ∀ f ∈ fs, g f ≤ b) : (fs.map g).sum ≤ fs.length * b := by
  induction fs with
  | nil => simp
  | cons a l ih =>
    have h1 := h a (by simp)
    have h2 := ih fun f hf => h f (by simp [hf])
    simp only [List.map_cons, List.sum_cons, List.length_cons, Nat.add_mul]
    omega
theorem nodup_len {fs : List Nat} {n : Nat} (hn : fs.Nodup) (h : ∀ f ∈ fs, f < n) : fs.length ≤ n := by
  have hp : fs.Perm ((List.range n).filter fun f => decide (f ∈ fs)) := by
    refine (List.perm_ext_iff_of_nodup hn ((List.nodup_range).filter _)).2 fun f => ?_
    rw [List.mem_filter, List.mem_range]
    simp only [decide_eq_true_eq]
    exact ⟨fun hh => ⟨h f hh, hh⟩, fun hh => hh.2⟩
  rw [hp.length_eq]
  exact Nat.le_trans (List.length_filter_le _ _) (by simp)
theorem join_go {α : Type} {f : α → Prop} {k : α} (h : f k) : JOIN f k := h
theorem ents_mem {es : Array MapEntry} {L : List (ByteArray × Value)} (h : MapL (fun s : ByteArray => Value.string s) es L) {e : MapEntry} (he : e ∈ es.toList) : ∃ p ∈ L, e.key = .string p.1 ∧ e.val = p.2 := by
  have : (e.key, e.val) ∈ es.toList.map (fun e => (e.key, e.val)) := List.mem_map.2 ⟨e, he, rfl⟩
  rw [h.ents] at this
  obtain ⟨p, hp, e2⟩ := List.mem_map.1 this
  simp only [Prod.mk.injEq] at e2
  exact ⟨p, hp, e2.1.symm, e2.2.symm⟩
theorem mem_ents {es : Array MapEntry} {L : List (ByteArray × Value)} (h : MapL (fun s : ByteArray => Value.string s) es L) {p : ByteArray × Value} (hp : p ∈ L) : ∃ e ∈ es.toList, e.key = .string p.1 ∧ e.val = p.2 := by
  have : (Value.string p.1, p.2) ∈ L.map (fun p => (Value.string p.1, p.2)) := List.mem_map.2 ⟨p, hp, rfl⟩
  rw [← h.ents] at this
  obtain ⟨e, he, e2⟩ := List.mem_map.1 this
  simp only [Prod.mk.injEq] at e2
  exact ⟨e, he, e2.1, e2.2⟩
theorem ents_len {es : Array MapEntry} {L : List (ByteArray × Value)} (h : MapL (fun s : ByteArray => Value.string s) es L) : es.toList.length = L.length := by
  have := congrArg List.length h.ents
  simpa using this
set_option linter.unusedSimpArgs false
set_option linter.unusedVariables false
set_option maxRecDepth 20000
set_option maxHeartbeats 4000000
attribute [local congr] BND_cg COND_cg GEF_cg
attribute [local irreducible] capl slicea load1 loadn iaddr iaddra faddr storev newslice binv lookv mupd mdel mlenv mentry mestore slicev slicev3 slices indexs indexav textv rangev nexts clearv shiftv eqaggv convi buildv pickv lens lenl unv nilchk extractv partn JOIN
section
variable {w0 w : World} {F0 : List Nat} {d : Nat} {s : Dk} {R : Value → World → Prop}
theorem dk_Index {fb fs : List Nat} {v : Value} {f : Nat} (hn : fb.Nodup) (ha : Arr (encF fb) 1 w v fs) (hf : f < fb.length) (hfs : ∀ g ∈ fs, g < fb.length) (hl : fs.length < 1000000000000) (hc : ∀ b ∈ fb, ∃ c T, blk w b = some (.cells c T (0, 0)))
    (hR : ∀ k : Int, (0 ≤ k ↔ f ∈ fs) → R (.int .i64 k) w) : CALL PR F_slices_Index_disk_file_disk_file [v, ptrTo (fb.getD f 0)] w R := by
  refine C_slices_Index_disk_file_disk_file ?_
  unfold M_slices_Index_disk_file_disk_file
  have hcell : ∀ g, g < fb.length → ∃ c T, blk w (fb.getD g 0) = some (.cells c T (0, 0)) := fun g hg => hc _ (by rw [List.getD_eq_getElem?_getD, List.getElem?_eq_getElem hg]; exact List.getElem_mem hg)
  (repeat (first | refine BND_step ha.len ?_ | refine stp ?_ | (apply BND_inc; omega) | (apply BND_dec; omega) | refine BND_step (rfl : some _ = some _) ?_ | (apply cyes; first | assumption | omega) | (apply cno; first | assumption | omega) | refine (COND_true _ _).2 ?_ | refine (COND_false _ _).2 ?_ | simp (disch := first | assumption | omega) only [gs1, gs2, decide_true, decide_false, eq_self, beq_self_eq_true, Bool.not_true, Bool.not_false]))
  refine loop_up 0 fs.length (fun i w' => w' = w ∧ ∀ g ∈ fs.take i, g ≠ f) ⟨rfl, by simp⟩ (by omega) ?_
  rintro i w1 - hi ⟨rfl, e⟩ J m hJ
  by_cases hlt : i < fs.length
  · have hx := List.getElem?_eq_getElem hlt
    have hmem := List.getElem_mem hlt
    generalize fs[i] = g at hx hmem
    obtain ⟨b, o, ia, _, _, l1⟩ := ha.spot hx rfl .i64
    have l1' := l1 (w' := w1) rfl (j := 0) rfl
    obtain ⟨c1, T1, k1⟩ := hcell f hf
    obtain ⟨c2, T2, k2⟩ := hcell g (hfs g hmem)
    have pv := ptrv_blk k1 k2
    unfold ptrTo at l1' ⊢
    by_cases heq : fb.getD f 0 = fb.getD g 0
    · have hfg := getD_inj hn hf (hfs g hmem) heq
      rw [decide_eq_true heq] at pv
      (repeat (first | refine BND_step ia ?_ | refine BND_step l1' ?_ | refine BND_step pv ?_ | refine stp ?_ | (apply BND_inc; omega) | (apply BND_dec; omega) | refine BND_step (rfl : some _ = some _) ?_ | (apply cyes; first | assumption | omega) | (apply cno; first | assumption | omega) | refine (COND_true _ _).2 ?_ | refine (COND_false _ _).2 ?_ | simp (disch := first | assumption | omega) only [gs1, gs2, decide_true, decide_false, eq_self, beq_self_eq_true, Bool.not_true, Bool.not_false]))
      exact hR _ (by subst hfg; simp [hmem])
    · rw [decide_eq_false heq] at pv
      (repeat (first | refine BND_step ia ?_ | refine BND_step l1' ?_ | refine BND_step pv ?_ | refine stp ?_ | (apply BND_inc; omega) | (apply BND_dec; omega) | refine BND_step (rfl : some _ = some _) ?_ | (apply cyes; first | assumption | omega) | (apply cno; first | assumption | omega) | refine (COND_true _ _).2 ?_ | refine (COND_false _ _).2 ?_ | simp (disch := first | assumption | omega) only [gs1, gs2, decide_true, decide_false, eq_self, beq_self_eq_true, Bool.not_true, Bool.not_false]))
      refine hJ w1 hlt ⟨rfl, fun g' hg' => ?_⟩
      rw [List.take_add_one, hx] at hg'
      rcases List.mem_append.1 hg' with hg' | hg'
      · exact e g' hg'
      · simp at hg'; subst hg'; exact fun h => heq (by rw [h])
  · (repeat (first | refine stp ?_ | (apply BND_inc; omega) | (apply BND_dec; omega) | refine BND_step (rfl : some _ = some _) ?_ | (apply cyes; first | assumption | omega) | (apply cno; first | assumption | omega) | refine (COND_true _ _).2 ?_ | refine (COND_false _ _).2 ?_ | simp (disch := first | assumption | omega) only [gs1, gs2, decide_true, decide_false, eq_self, beq_self_eq_true, Bool.not_true, Bool.not_false]))
    rw [List.take_of_length_le (by omega)] at e
    exact hR (-1) (by simp; exact fun h => e f h rfl)
theorem dk_Contains {fb fs : List Nat} {v : Value} {f : Nat} (hn : fb.Nodup) (ha : Arr (encF fb) 1 w v fs) (hf : f < fb.length) (hfs : ∀ g ∈ fs, g < fb.length) (hl : fs.length < 1000000000000) (hc : ∀ b ∈ fb, ∃ c T, blk w b = some (.cells c T (0, 0)))
    (hR : R (.bool (decide (f ∈ fs))) w) : CALL PR F_slices_Contains_disk_file_disk_file [v, ptrTo (fb.getD f 0)] w R := by
  refine C_slices_Contains_disk_file_disk_file ?_
  unfold M_slices_Contains_disk_file_disk_file
  refine dk_Index hn ha hf hfs hl hc fun k hk => ?_
  (repeat (first | refine stp ?_ | (apply BND_inc; omega) | (apply BND_dec; omega) | refine BND_step (rfl : some _ = some _) ?_ | (apply cyes; first | assumption | omega) | (apply cno; first | assumption | omega) | refine (COND_true _ _).2 ?_ | refine (COND_false _ _).2 ?_ | simp (disch := first | assumption | omega) only [gs1, gs2, decide_true, decide_false, eq_self, beq_self_eq_true, Bool.not_true, Bool.not_false]))
  have : decide (0 ≤ k) = decide (f ∈ fs) := decide_eq_decide.2 hk
  rw [this]; exact hR
theorem isHeld_iff (s : Dk) (f : Nat) : isHeld s f = true ↔ ∃ l ∈ s.dirs, ∃ x ∈ l, x.2 = f := by unfold isHeld; simp [List.any_eq_true]
theorem dk_Held (h : At w0 F0 (diskHP d s) w) (hw : s.Wf) (hn : s.dirs.length < 1000000000) (hn2 : s.files.length < 1000000000) (hR : ∀ w', Fr [] w w' → R (.int .i64 (held s : Nat)) w') :
    CALL PR F_disk_Disk_Held [ptrTo d] w R := by
  obtain ⟨sv, ms, fb, hs, hm, hf⟩ := dk_open h
  obtain ⟨T, c⟩ := hs.cell (i := 1) rfl
  obtain ⟨Fs, ss, _⟩ := hs.slc1 (i := 2) rfl
  refine C_disk_Disk_Held ?_
  unfold M_disk_Disk_Held
  refine ⟨fun _ w' => blk w' d = some (.cells (dkC s (ms.headD 0) sv).toArray T (0, 0)), c, ?_⟩
  have htl : ms.tail.length = ms.length - 1 := by simp
  unfold ptrTo
  have c0 : blk w.drew d = some (.cells (dkC s (ms.headD 0) sv).toArray T (0, 0)) := c
  (repeat (first | (apply BND_ld c0; exact rfl) | (apply FLT_ld (fun _ h_ => h_); exact rfl) | refine stp ?_ | (apply BND_inc; omega) | (apply BND_dec; omega) | refine BND_step (rfl : some _ = some _) ?_ | (apply cyes; first | assumption | omega) | (apply cno; first | assumption | omega) | refine (COND_true _ _).2 ?_ | refine (COND_false _ _).2 ?_ | simp (disch := first | assumption | omega) only [gs1, gs2, decide_true, decide_false, eq_self, beq_self_eq_true, Bool.not_true, Bool.not_false]))
  refine newone_step (enc := encM) (x := ms.headD 0) encM_len rfl fun t13 w1 s3 f3 z3 => ?_
  have f3' : Fr [] w w1 := (Fr.drew [] w).trans' f3
  refine ⟨f3'.some (by simp) c, ?_⟩
  refine APPEND_slc s3 (ys := ms.tail) ((ss.fr f3' (by simp)).loads encM_len) encM_len encM_one rfl (by rw [htl]; simp; omega) (by rw [htl]; simp; omega) fun t18 w2 FT s5 f4 sub => ?_
  have f2 : Fr [] w w2 := f3'.trans f4 (by simp)
  have hne : ms ≠ [] := by
    intro e; subst e
    have := List.length_pos_iff.2 hw.ne
    simp at hm; omega
  have ems : [ms.headD 0] ++ ms.tail = ms := by cases ms with
    | nil => exact absurd rfl hne
    | cons a r => rfl
  rw [ems] at s5
  have hs2 := hs.fr0 f2
  obtain ⟨_, hfl, _⟩ := hs2.get 4 rfl
  obtain ⟨fbn, _⟩ := files_apart fb s.files hf hfl
  have hcells : ∀ w', Fr [] w2 w' → ∀ b ∈ fb, ∃ c T, blk w' b = some (.cells c T (0, 0)) := fun w' f b hb => by
    obtain ⟨i, hi, e⟩ := List.mem_iff_getElem.1 hb
    have hi2 : i < s.files.length := by omega
    obtain ⟨bv, T, G, c2, _⟩ := dk_file (hs2.fr0 f) (List.getElem?_eq_getElem hi) (List.getElem?_eq_getElem hi2)
    rw [e] at c2
    exact ⟨_, _, c2⟩
  have hlen : ∀ f, f < s.files.length → (fileAt s f).b.length ≤ 1048576 := fun f hf => by
    have hx : fileAt s f ∈ s.files := by
      unfold fileAt; rw [List.getD_eq_getElem?_getD, List.getElem?_eq_getElem hf]; exact List.getElem_mem hf
    have := hw.small _ hx
    have := hw.room
    omega
  (repeat (first | refine BND_step s5.len ?_ | refine stp ?_ | (apply BND_inc; omega) | (apply BND_dec; omega) | refine BND_step (rfl : some _ = some _) ?_ | (apply cyes; first | assumption | omega) | (apply cno; first | assumption | omega) | refine (COND_true _ _).2 ?_ | refine (COND_false _ _).2 ?_ | simp (disch := first | assumption | omega) only [gs1, gs2, decide_true, decide_false, eq_self, beq_self_eq_true, Bool.not_true, Bool.not_false]))
  refine loop_up3 0 ms.length (fun seen n i w' => ∃ fs : List Nat, At w2 [] (stars [slc (encF fb) 1 seen fs]) w' ∧ fs.Nodup ∧ (∀ f, f ∈ fs ↔ ∃ l ∈ s.dirs.take i, ∃ x ∈ l, x.2 = f) ∧ n = .int .i64 (((fs.map fun f => (fileAt s f).b.length).sum : Nat) : Int))
    ⟨[], (At.nothing w2).add0 (P := slc (encF fb) 1 (.slice none 0 0) []) (Slc.nil _ _ _), List.nodup_nil, by simp, rfl⟩ (by omega) ?_
  rintro seen n i w3 - hi ⟨fs, ha, nd, hfs, rfl⟩ J m hJ
  have f23 : Fr [] w2 w3 := ha.frame
  have hltd : ∀ f, (∃ l ∈ s.dirs, ∃ x ∈ l, x.2 = f) → f < s.files.length := by
    rintro f ⟨l, hl, x, hx, rfl⟩
    exact hw.idx l hl x hx
  by_cases hlt : i < ms.length
  · have hx := List.getElem?_eq_getElem hlt
    have hl := List.getElem?_eq_getElem (show i < s.dirs.length by omega)
    generalize ms[i] = mm at hx
    generalize s.dirs[i]'(by omega) = l at hl
    have hlm : l ∈ s.dirs := List.mem_of_getElem? hl
    have htk : s.dirs.take (i + 1) = s.dirs.take i ++ [l] := by rw [List.take_add_one, hl]; rfl
    obtain ⟨b, o, ia, _, _, l1⟩ := (s5.fr f23 (by simp)).arr.spot hx rfl .i64
    obtain ⟨es, ck, L, b1, b2, b3⟩ := dk_dir hs2 hx hl
    have hLs := ents_len b2.l
    (repeat (first | refine BND_step ia ?_ | (apply BND_step; exact (l1 (w' := w3) rfl (j := 0) rfl)) | refine stp ?_ | (apply BND_inc; omega) | (apply BND_dec; omega) | refine BND_step (rfl : some _ = some _) ?_ | (apply cyes; first | assumption | omega) | (apply cno; first | assumption | omega) | refine (COND_true _ _).2 ?_ | refine (COND_false _ _).2 ?_ | simp (disch := first | assumption | omega) only [gs1, gs2, decide_true, decide_false, eq_self, beq_self_eq_true, Bool.not_true, Bool.not_false]))
    refine RANGEM_step (f23.some (by simp) b1) fun w4 it4 f4 z4 => ?_
    have ha4 := ha.add f4 (P := itHP (hsz w3) mm ck #[]) (A := [hsz w3]) ⟨it4, rfl⟩ (by simp)
    refine loop_it2 (hsz w3) L.length (fun seen n w' => ∃ fs A B sn, At w2 [] (stars [itHP (hsz w3) mm ck sn, slc (encF fb) 1 seen fs]) w' ∧ ItAt es sn A B ∧ fs.Nodup ∧ (∀ f ∈ fs, ∃ l ∈ s.dirs.take (i + 1), ∃ x ∈ l, x.2 = f) ∧
      (∀ l' ∈ s.dirs.take i, ∀ x ∈ l', x.2 ∈ fs) ∧ (∀ e ∈ A, ∃ f ∈ fs, e.val = ptrTo (fb.getD f 0)) ∧ n = .int .i64 (((fs.map fun f => (fileAt s f).b.length).sum : Nat) : Int))
      ⟨fs, [], es.toList, #[], ha4, ItAt.start es, nd, fun f hf => by
        obtain ⟨l', hl', r⟩ := (hfs f).1 hf
        exact ⟨l', by rw [htk]; simp [hl'], r⟩, fun l' hl' x hx => (hfs _).2 ⟨l', hl', x, hx, rfl⟩, by simp, rfl⟩ ?_
    rintro seen2 n2 w5 ⟨fs2, A, B, sn, ha5, hit, nd2, q1, q2, q3, rfl⟩ J2 m2 hJ2
    have f25 : Fr [] w2 w5 := ha5.frame
    have hlt2 : ∀ f ∈ fs2, f < s.files.length := fun f hf => hltd f (by
      obtain ⟨l', hl', r⟩ := q1 f hf
      exact ⟨l', List.mem_of_mem_take hl', r⟩)
    have hlt2' : ∀ f ∈ fs2, f < fb.length := fun f hff => by rw [hf]; exact hlt2 f hff
    have hfl2 := nodup_len nd2 hlt2
    have hsum := sum_small (g := fun f => (fileAt s f).b.length) fun f hf => hlen f (hlt2 f hf)
    have hsum2 : (fs2.map fun f => (fileAt s f).b.length).sum ≤ 1000000000 * 1048576 := Nat.le_trans hsum (Nat.mul_le_mul_right _ (by omega))
    obtain ⟨_, ⟨it5, _⟩, _⟩ := ha5.get 0 rfl
    refine NEXTM_step (f25.some (by simp) b1) b2.lt b2.nd it5 hit (fun hB => ?_) (fun e B1 B2 w6 hB f6 it6 hit6 en => ?_)
    · (repeat (first | refine stp ?_ | (apply BND_inc; omega) | (apply BND_dec; omega) | refine BND_step (rfl : some _ = some _) ?_ | (apply cyes; first | assumption | omega) | (apply cno; first | assumption | omega) | refine (COND_true _ _).2 ?_ | refine (COND_false _ _).2 ?_ | simp (disch := first | assumption | omega) only [gs1, gs2, decide_true, decide_false, eq_self, beq_self_eq_true, Bool.not_true, Bool.not_false]))
      refine hJ seen2 _ w5 hlt ⟨fs2, ha5.tail, nd2, fun f => ⟨q1 f, ?_⟩, rfl⟩
      rintro ⟨l', hl', x, hx, rfl⟩
      rw [htk] at hl'
      rcases List.mem_append.1 hl' with hl' | hl'
      · exact q2 l' hl' x hx
      · simp at hl'; subst hl'
        have hp : (x.1, ptrTo (fb.getD x.2 0)) ∈ L := b3.mem_iff.2 (List.mem_map.2 ⟨x, hx, rfl⟩)
        obtain ⟨e, he, _, ev⟩ := mem_ents b2.l hp
        have heA : e ∈ A := by
          have := hit.all.mem_iff.2 he
          rw [hB] at this; simpa using this
        obtain ⟨g, hg, ev2⟩ := q3 e heA
        rw [ev] at ev2
        have e3 : fb.getD x.2 0 = fb.getD g 0 := by unfold ptrTo at ev2; injection ev2 with e4; injection e4 with e5; injection e5
        have := getD_inj fbn (by rw [hf]; exact hw.idx _ hlm x hx) (hlt2' g hg) e3
        rw [this]; exact hg
    · have he : e ∈ es.toList := hit.all.mem_iff.1 (by rw [hB]; simp)
      obtain ⟨p, hp, _, ev⟩ := ents_mem b2.l he
      obtain ⟨x, hx, rfl⟩ := List.mem_map.1 (b3.mem_iff.1 hp)
      simp only at ev
      have hxf : x.2 < s.files.length := hw.idx _ hlm x hx
      have hxb : x.2 < fb.length := by rw [hf]; exact hxf
      obtain ⟨_, _, upd⟩ := ha5.upd 0 rfl
      have ha6 : At w2 [] (stars [itHP (hsz w3) mm ck (sn.push e.born), slc (encF fb) 1 seen2 fs2]) w6 := by
        obtain ⟨A5, ⟨_, hA5⟩, upd⟩ := ha5.upd 0 rfl
        subst hA5
        exact upd w6 [hsz w3] (itHP (hsz w3) mm ck (sn.push e.born)) it6 f6 (fun b hb => .inl hb)
      have f26 : Fr [] w2 w6 := ha6.frame
      have hcnt : seenN (hsz w3) w5 = sn.size := seenN_it it5
      have hcnt6 : seenN (hsz w3) w6 = sn.size + 1 := by rw [seenN_it it6.1]; simp
      have hsz2 : sn.size = A.length := by have := congrArg List.length hit.seen; simpa using this
      have hall := hit.all.length_eq
      rw [hB] at hall
      simp only [List.length_append, List.length_cons] at hall
      rw [ev] at en ⊢
      (repeat (first | refine BND_step en ?_ | refine stp ?_ | (apply BND_inc; omega) | (apply BND_dec; omega) | refine BND_step (rfl : some _ = some _) ?_ | (apply cyes; first | assumption | omega) | (apply cno; first | assumption | omega) | refine (COND_true _ _).2 ?_ | refine (COND_false _ _).2 ?_ | simp (disch := first | assumption | omega) only [gs1, gs2, decide_true, decide_false, eq_self, beq_self_eq_true, Bool.not_true, Bool.not_false]))
      refine dk_Contains fbn (ha6.arr (i := 1) rfl) hxb hlt2' (by omega) (hcells w6 f26) ?_
      by_cases hin : x.2 ∈ fs2
      · rw [decide_eq_true hin]
        (repeat (first | refine stp ?_ | (apply BND_inc; omega) | (apply BND_dec; omega) | refine BND_step (rfl : some _ = some _) ?_ | (apply cyes; first | assumption | omega) | (apply cno; first | assumption | omega) | refine (COND_true _ _).2 ?_ | refine (COND_false _ _).2 ?_ | simp (disch := first | assumption | omega) only [gs1, gs2, decide_true, decide_false, eq_self, beq_self_eq_true, Bool.not_true, Bool.not_false]))
        refine join_go ?_
        (repeat (first | refine stp ?_ | (apply BND_inc; omega) | (apply BND_dec; omega) | refine BND_step (rfl : some _ = some _) ?_ | (apply cyes; first | assumption | omega) | (apply cno; first | assumption | omega) | refine (COND_true _ _).2 ?_ | refine (COND_false _ _).2 ?_ | simp (disch := first | assumption | omega) only [gs1, gs2, decide_true, decide_false, eq_self, beq_self_eq_true, Bool.not_true, Bool.not_false]))
        refine hJ2 seen2 _ w6 (by omega) (by omega) ⟨fs2, A ++ [e], B1 ++ B2, sn.push e.born, ha6, hit6, nd2, q1, q2, fun e' he' => ?_, rfl⟩
        rcases List.mem_append.1 he' with he' | he'
        · exact q3 e' he'
        · simp at he'; subst he'; exact ⟨x.2, hin, ev⟩
      · rw [decide_eq_false hin]
        (repeat (first | refine stp ?_ | (apply BND_inc; omega) | (apply BND_dec; omega) | refine BND_step (rfl : some _ = some _) ?_ | (apply cyes; first | assumption | omega) | (apply cno; first | assumption | omega) | refine (COND_true _ _).2 ?_ | refine (COND_false _ _).2 ?_ | simp (disch := first | assumption | omega) only [gs1, gs2, decide_true, decide_false, eq_self, beq_self_eq_true, Bool.not_true, Bool.not_false]))
        refine join_go ?_
        (repeat (first | refine stp ?_ | (apply BND_inc; omega) | (apply BND_dec; omega) | refine BND_step (rfl : some _ = some _) ?_ | (apply cyes; first | assumption | omega) | (apply cno; first | assumption | omega) | refine (COND_true _ _).2 ?_ | refine (COND_false _ _).2 ?_ | simp (disch := first | assumption | omega) only [gs1, gs2, decide_true, decide_false, eq_self, beq_self_eq_true, Bool.not_true, Bool.not_false]))
        refine newone_step (enc := encF fb) (x := x.2) (encF_len fb) rfl fun t w9 s9 f9 z9 => ?_
        refine (ha6.fr0 f9).append (i := 1) rfl (s9.loads (encF_len fb)) (encF_len fb) (encF_one fb) rfl (by omega) (by simp; omega) fun v' w10 h10 one10 => ?_
        have hb := List.getElem?_eq_getElem hxb
        have hgd : fb.getD x.2 0 = fb[x.2] := by rw [List.getD_eq_getElem?_getD, hb]; rfl
        have hfx : s.files[x.2]? = some (fileAt s x.2) := by
          unfold fileAt; rw [List.getD_eq_getElem?_getD, List.getElem?_eq_getElem hxf]; rfl
        obtain ⟨bv, T2, G, c2, ss2⟩ := dk_file (hs2.fr0 h10.frame) hb hfx
        have hl2 := hlen _ hxf
        rw [← hgd] at c2
        unfold ptrTo
        (repeat (first | (apply BND_ld c2; exact rfl) | refine BND_step ss2.len ?_ | refine BND_step (addn_ (by omega)) ?_ | refine stp ?_ | (apply BND_inc; omega) | (apply BND_dec; omega) | refine BND_step (rfl : some _ = some _) ?_ | (apply cyes; first | assumption | omega) | (apply cno; first | assumption | omega) | refine (COND_true _ _).2 ?_ | refine (COND_false _ _).2 ?_ | simp (disch := first | assumption | omega) only [gs1, gs2, decide_true, decide_false, eq_self, beq_self_eq_true, Bool.not_true, Bool.not_false]))
        refine hJ2 v' _ w10 (by omega) ?_ ⟨fs2 ++ [x.2], A ++ [e], B1 ++ B2, sn.push e.born, h10, hit6, ?_, ?_, ?_, ?_, ?_⟩
        · obtain ⟨_, ⟨it10, _⟩, _⟩ := h10.get 0 rfl
          rw [seenN_it it10, hcnt]; simp
        · rw [List.nodup_append]
          exact ⟨nd2, by simp, fun a ha b hb => by simp at hb; subst hb; exact fun e => hin (e ▸ ha)⟩
        · intro f hf
          rcases List.mem_append.1 hf with hf | hf
          · exact q1 f hf
          · simp at hf; subst hf; exact ⟨l, by rw [htk]; simp, x, hx, rfl⟩
        · intro l' hl' y hy
          exact List.mem_append.2 (.inl (q2 l' hl' y hy))
        · intro e' he'
          rcases List.mem_append.1 he' with he' | he'
          · obtain ⟨g, hg, r⟩ := q3 e' he'
            exact ⟨g, List.mem_append.2 (.inl hg), r⟩
          · simp at he'; subst he'; exact ⟨x.2, by simp, ev⟩
        · simp
  · (repeat (first | refine stp ?_ | (apply BND_inc; omega) | (apply BND_dec; omega) | refine BND_step (rfl : some _ = some _) ?_ | (apply cyes; first | assumption | omega) | (apply cno; first | assumption | omega) | refine (COND_true _ _).2 ?_ | refine (COND_false _ _).2 ?_ | simp (disch := first | assumption | omega) only [gs1, gs2, decide_true, decide_false, eq_self, beq_self_eq_true, Bool.not_true, Bool.not_false]))
    have hheld := sum_held nd (fun f => by rw [hfs, isHeld_iff, List.take_of_length_le (by omega)]) (fun f hf => hltd f (by
      obtain ⟨l', hl', r⟩ := (hfs f).1 hf
      exact ⟨l', List.mem_of_mem_take hl', r⟩))
    rw [hheld]
    exact hR w3 (f2.trans' f23)
end
end Go.Proofs.YtmefbneoljpbgaaGreatDoor
