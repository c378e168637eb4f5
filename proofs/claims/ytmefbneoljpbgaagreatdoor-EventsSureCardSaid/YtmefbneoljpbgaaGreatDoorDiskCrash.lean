
/- A disk's calls: Crash. No condition but sizes. -/
import Derived.Test.YtmefbneoljpbgaaGreatDoorDiskApp
import Derived.Test.YtmefbneoljpbgaaGreatDoorMa
namespace Go.Proofs.YtmefbneoljpbgaaGreatDoor
open Go.Den Go.Disk
def names (l : Dir) : List ByteArray := l.map (·.1)
theorem At.wrap {w0 w : World} {F0 : List Nat} {P : HP} (h : At w0 F0 P w) : At w0 F0 (stars [P]) w := by
  obtain ⟨F, g1, g2, g3⟩ := h
  exact ⟨F, ⟨F, [], g1, ⟨trivial, rfl⟩, by simp, by simp⟩, g2, g3⟩
theorem At.unwrap {w0 w : World} {F0 : List Nat} {P : HP} (h : At w0 F0 (stars [P]) w) : At w0 F0 P w := by
  obtain ⟨F, ⟨A, B, g1, ⟨_, rfl⟩, rfl, _⟩, g2, g3⟩ := h
  exact ⟨A, g1, by simpa using g2, g3⟩
theorem At.zoom {w0 w : World} {F0 : List Nat} {ps : List HP} (h : At w0 F0 (stars ps) w) (i : Nat) {P : HP} (hi : ps[i]? = some P) : ∃ A, At w A P w ∧ ∀ w' P', At w A P' w' → At w0 F0 (stars (ps.set i P')) w' := by
  obtain ⟨A, a1, upd⟩ := h.upd i hi
  exact ⟨A, At.start a1, fun w' P' ⟨F', p1, p2, p3⟩ => upd w' F' P' p1 p3 p2⟩
def encI (x : Int) : List Value := [.int .i64 x]
def crash1 (tails : List Int) (f i : Nat) (fs : List Fl) : List Fl :=
  let x := fs.getD f ⟨[], 0⟩
  fs.set f ⟨x.b.take (x.sure + tailOf x tails i), x.sure + tailOf x tails i⟩
theorem crashF_snoc (tails : List Int) (k : ByteArray) (f : Nat) : ∀ (l : Dir) (i : Nat) (fs : List Fl), crashF tails (l ++ [(k, f)]) i fs = crash1 tails f (i + l.length) (crashF tails l i fs)
  | [], i, fs => rfl
  | (k', f') :: l, i, fs => by
    simp only [List.cons_append, crashF, List.length_cons]
    rw [crashF_snoc tails k f l (i + 1), show i + 1 + l.length = i + (l.length + 1) by omega]
theorem crash1_len (tails : List Int) (f i : Nat) (fs : List Fl) : (crash1 tails f i fs).length = fs.length := by unfold crash1; simp
theorem tailOf_le (x : Fl) (tails : List Int) (i : Nat) : tailOf x tails i ≤ x.b.length - x.sure := by
  unfold tailOf
  split
  · omega
  · exact Nat.min_le_right _ _
/-- what holds of files. -/
def FilesOk (m : Nat) (fs : List Fl) : Prop := ∀ x ∈ fs, x.sure ≤ x.b.length ∧ x.b.length ≤ m
theorem crash1_ok {tails : List Int} {f i m : Nat} {fs : List Fl} (h : FilesOk m fs) (hf : f < fs.length) : FilesOk m (crash1 tails f i fs) := by
  intro x hx
  unfold crash1 at hx
  rcases List.mem_or_eq_of_mem_set hx with hx | rfl
  · exact h x hx
  · have hm : fs.getD f ⟨[], 0⟩ ∈ fs := by rw [List.getD_eq_getElem?_getD, List.getElem?_eq_getElem hf]; exact List.getElem_mem hf
    have h1 := h _ hm
    have h2 := tailOf_le (fs.getD f ⟨[], 0⟩) tails i
    simp only [List.length_take]
    omega
set_option linter.unusedSimpArgs false
set_option linter.unusedVariables false
set_option maxRecDepth 20000
set_option maxHeartbeats 4000000
attribute [local congr] BND_cg COND_cg GEF_cg
attribute [local irreducible] capl slicea load1 loadn iaddr iaddra faddr storev newslice binv lookv mupd mdel mlenv mentry mestore slicev slicev3 slices indexs indexav textv rangev nexts clearv shiftv eqaggv convi buildv pickv lens lenl unv nilchk extractv partn JOIN
section
variable {w0 w : World} {F0 : List Nat} {d : Nat} {s : Dk} {R : Value → World → Prop}
theorem dk_Crash (h : At w0 F0 (diskHP d s) w) (hw : s.Wf) (hn : s.dirs.length < 1000000000) (op : Int) {tv : Value} {tails : List Int} (hta : ∀ w', Fr F0 w0 w' → Arr encI 1 w' tv tails) (hR : ∀ w', At w0 F0 (diskHP d (crash s op tails)) w' → R (.tuple #[]) w') :
    CALL PR F_disk_Disk_Crash [ptrTo d, .int .i64 op, tv] w R := by
  obtain ⟨sv, ms, fb, hs, hm, hf⟩ := dk_open h
  obtain ⟨T, c⟩ := hs.cell (i := 1) rfl
  obtain ⟨Fs, ss, _⟩ := hs.slc1 (i := 2) rfl
  refine C_disk_Disk_Crash ?_
  unfold M_disk_Disk_Crash
  have htl : ms.tail.length = ms.length - 1 := by simp
  have hpos : 0 < s.dirs.length := List.length_pos_iff.2 hw.ne
  obtain ⟨j, hj⟩ : ∃ j, j = min op.toNat (s.dirs.length - 1) := ⟨_, rfl⟩
  have hjl : j < s.dirs.length := by omega
  have hjm : j < ms.length := by omega
  have hl := List.getElem?_eq_getElem hjl
  have hmj := List.getElem?_eq_getElem hjm
  generalize s.dirs[j] = l at hl
  generalize ms[j] = mj at hmj
  have hlm : l ∈ s.dirs := List.mem_of_getElem? hl
  have hld : s.dirs.getD (min op.toNat (s.dirs.length - 1)) [] = l := by rw [← hj, List.getD_eq_getElem?_getD, hl]; rfl
  unfold crash at hR
  rw [hld] at hR
  have em : min2v (.int .i64 op) (.int .i64 (ms.tail.length : Int)) = some (.int .i64 (if (ms.tail.length : Int) < op then (ms.tail.length : Int) else op)) := rfl
  unfold ptrTo
  (repeat (first | (apply BND_ld c; exact rfl) | refine BND_step ss.len ?_ | refine BND_step em ?_ | refine stp ?_ | (apply BND_inc; omega) | (apply BND_dec; omega) | refine BND_step (rfl : some _ = some _) ?_ | (apply cyes; first | assumption | omega) | (apply cno; first | assumption | omega) | refine (COND_true _ _).2 ?_ | refine (COND_false _ _).2 ?_ | simp (disch := first | assumption | omega) only [gs1, gs2, decide_true, decide_false, eq_self, beq_self_eq_true, Bool.not_true, Bool.not_false]))
  refine join_w (fun w' => At w0 F0 (stars [pure_ (ms.length = s.dirs.length ∧ fb.length = s.files.length), pts d (dkC s mj sv), slc encM 1 sv ms.tail, stars (dirHPs fb ms s.dirs), stars (fileHPs fb s.files)]) w') (fun K hK => ?_) (fun w1 h1 => ?_)
  · by_cases h0 : 0 < (if (ms.tail.length : Int) < op then (ms.tail.length : Int) else op)
    · have hj1 : (if (ms.tail.length : Int) < op then (ms.tail.length : Int) else op) = (j : Int) := by split <;> omega
      rw [hj1] at h0
      rw [hj1]
      have hx : ms.tail[j - 1]? = some mj := by rw [List.getElem?_tail, show j - 1 + 1 = j by omega, hmj]
      obtain ⟨bb, oo, ia, _, _, l1⟩ := ss.arr.spot hx rfl .i64
      (repeat (first | (apply BND_ld c; exact rfl) | refine BND_step ia ?_ | (apply BND_step; exact (l1 (w' := w) rfl (j := 0) rfl)) | refine stp ?_ | (apply BND_inc; omega) | (apply BND_dec; omega) | refine BND_step (rfl : some _ = some _) ?_ | (apply cyes; first | assumption | omega) | (apply cno; first | assumption | omega) | refine (COND_true _ _).2 ?_ | refine (COND_false _ _).2 ?_ | simp (disch := first | assumption | omega) only [gs1, gs2, decide_true, decide_false, eq_self, beq_self_eq_true, Bool.not_true, Bool.not_false]))
      refine hs.store (i := 1) rfl ⟨rfl, rfl⟩ (by simp [dkC]) fun w1 h1 f1 => hK w1 h1
    · have hj0 : j = 0 := by
        split at h0 <;> omega
      (repeat (first | refine stp ?_ | (apply BND_inc; omega) | (apply BND_dec; omega) | refine BND_step (rfl : some _ = some _) ?_ | (apply cyes; first | assumption | omega) | (apply cno; first | assumption | omega) | refine (COND_true _ _).2 ?_ | refine (COND_false _ _).2 ?_ | simp (disch := first | assumption | omega) only [gs1, gs2, decide_true, decide_false, eq_self, beq_self_eq_true, Bool.not_true, Bool.not_false]))
      refine hK w ?_
      have : ms.headD 0 = mj := by
        subst hj0
        cases ms with
        | nil => simp at hjm
        | cons a r => simpa using hmj
      rw [← this]; exact hs
  · (repeat (first | refine stp ?_ | (apply BND_inc; omega) | (apply BND_dec; omega) | refine BND_step (rfl : some _ = some _) ?_ | (apply cyes; first | assumption | omega) | (apply cno; first | assumption | omega) | refine (COND_true _ _).2 ?_ | refine (COND_false _ _).2 ?_ | simp (disch := first | assumption | omega) only [gs1, gs2, decide_true, decide_false, eq_self, beq_self_eq_true, Bool.not_true, Bool.not_false]))
    refine h1.store (i := 1) rfl ⟨rfl, rfl⟩ (by simp [dkC]) fun w2 h2 _ => ?_
    (repeat (first | refine stp ?_ | (apply BND_inc; omega) | (apply BND_dec; omega) | refine BND_step (rfl : some _ = some _) ?_ | (apply cyes; first | assumption | omega) | (apply cno; first | assumption | omega) | refine (COND_true _ _).2 ?_ | refine (COND_false _ _).2 ?_ | simp (disch := first | assumption | omega) only [gs1, gs2, decide_true, decide_false, eq_self, beq_self_eq_true, Bool.not_true, Bool.not_false]))
    refine h2.store (i := 1) rfl ⟨rfl, rfl⟩ (by simp [dkC]) fun w3 h3 _ => ?_
    (repeat (first | refine stp ?_ | (apply BND_inc; omega) | (apply BND_dec; omega) | refine BND_step (rfl : some _ = some _) ?_ | (apply cyes; first | assumption | omega) | (apply cno; first | assumption | omega) | refine (COND_true _ _).2 ?_ | refine (COND_false _ _).2 ?_ | simp (disch := first | assumption | omega) only [gs1, gs2, decide_true, decide_false, eq_self, beq_self_eq_true, Bool.not_true, Bool.not_false]))
    refine h3.store (i := 1) rfl ⟨rfl, rfl⟩ (by simp [dkC]) fun w4 h4 _ => ?_
    have hA : At w0 F0 (stars (dkL d { s with dirs := [l], burn := -1, gone := false } (.slice none 0 0) [mj] fb)) w4 := by
      obtain ⟨A, a1, upd⟩ := h4.upd 2 rfl
      have h5 := upd w4 [] (slc encM 1 (.slice none 0 0) []) (Slc.nil _ _ _) (Fr.refl _ _) (by simp)
      obtain ⟨A3, a3, upd3⟩ := h5.upd 3 rfl
      obtain ⟨B, ⟨b4, rfl⟩, hmA⟩ := stars_get (dirHPs fb ms s.dirs) j (dirHP fb mj l) (by unfold dirHPs; rw [List.getElem?_zipWith, hmj, hl]) a3
      have h6 := upd3 w4 [mj] (stars [dirHP fb mj l]) ⟨[mj], [], ⟨b4, rfl⟩, ⟨trivial, rfl⟩, rfl, by simp⟩ (Fr.refl _ _) (fun c hc => .inl (hmA c hc))
      exact At.pure0 (b := [mj].length = [l].length ∧ fb.length = s.files.length) h6 ⟨rfl, hf⟩
    obtain ⟨T4, c4⟩ := hA.cell (i := 1) rfl
    obtain ⟨es, ck, L, b1, b2, b3⟩ := dk_dir hA (i := 0) (m := mj) (l := l) rfl rfl
    have hr : riseD l := hw.rise _ hlm
    (repeat (first | (apply BND_ld c4; exact rfl) | refine stp ?_ | (apply BND_inc; omega) | (apply BND_dec; omega) | refine BND_step (rfl : some _ = some _) ?_ | (apply cyes; first | assumption | omega) | (apply cno; first | assumption | omega) | refine (COND_true _ _).2 ?_ | refine (COND_false _ _).2 ?_ | simp (disch := first | assumption | omega) only [gs1, gs2, decide_true, decide_false, eq_self, beq_self_eq_true, Bool.not_true, Bool.not_false]))
    refine dk_keys b1 b2 b3 hr (hw.many _ hlm) (hw.nm _ hlm) fun w6 nv G sN hG f6 => ?_
    replace sN : Slc encN 1 w6 nv (names l) G := sN
    have hB := (At.wrap hA).add f6 (P := slc encN 1 nv (names l)) (A := G) sN hG
    have h60 := hw.many _ hlm
    (repeat (first | refine BND_step sN.len ?_ | refine stp ?_ | (apply BND_inc; omega) | (apply BND_dec; omega) | refine BND_step (rfl : some _ = some _) ?_ | (apply cyes; first | assumption | omega) | (apply cno; first | assumption | omega) | refine (COND_true _ _).2 ?_ | refine (COND_false _ _).2 ?_ | simp (disch := first | assumption | omega) only [gs1, gs2, decide_true, decide_false, eq_self, beq_self_eq_true, Bool.not_true, Bool.not_false]))
    have hok0 : FilesOk 1048576 s.files := fun x hx => ⟨hw.sure x hx, by have := hw.small x hx; have := hw.room; omega⟩
    refine loop_up 0 (names l).length (fun i w' => At w0 F0 (stars [slc encN 1 nv (names l), stars (dkL d { s with files := crashF tails (l.take i) 0 s.files, dirs := [l], burn := -1, gone := false } (.slice none 0 0) [mj] fb)]) w' ∧ FilesOk 1048576 (crashF tails (l.take i) 0 s.files) ∧ (crashF tails (l.take i) 0 s.files).length = s.files.length)
      ⟨hB, hok0, rfl⟩ (by omega) ?_
    rintro i w7 - hi ⟨h7, hok, hlen⟩ J m hJ
    have hll : (names l).length = l.length := by simp [names]
    by_cases hlt : i < (names l).length
    · have hlt' : i < l.length := by omega
      have hxi := List.getElem?_eq_getElem hlt'
      obtain ⟨⟨k, f⟩, hp⟩ : ∃ p, p = l[i] := ⟨_, rfl⟩
      rw [← hp] at hxi
      have hni : (names l)[i]? = some k := by unfold names; rw [List.getElem?_map, hxi]; rfl
      have hmem : (k, f) ∈ l := List.mem_of_getElem? hxi
      have hfd := findD_of_mem hr hmem
      have hfl : f < s.files.length := hw.idx _ hlm _ hmem
      generalize hfs : crashF tails (l.take i) 0 s.files = fs at h7 hok hlen
      have hstep : crashF tails (l.take (i + 1)) 0 s.files = crash1 tails f i fs := by
        rw [List.take_add_one, hxi]
        show crashF tails (l.take i ++ [(k, f)]) 0 s.files = _
        rw [crashF_snoc, hfs]
        congr 1
        rw [List.length_take]; omega
      have hfl2 : f < fs.length := by omega
      have hx : fs[f]? = some (fs.getD f ⟨[], 0⟩) := by rw [List.getD_eq_getElem?_getD, List.getElem?_eq_getElem hfl2]; rfl
      have hxo := hok _ (List.mem_of_getElem? hx)
      have hok2 := crash1_ok (tails := tails) (i := i) hok hfl2
      have hlen2 := crash1_len tails f i fs
      have htail := tailOf_le (fs.getD f ⟨[], 0⟩) tails i
      have hc1 : crash1 tails f i fs = fs.set f ⟨(fs.getD f ⟨[], 0⟩).b.take ((fs.getD f ⟨[], 0⟩).sure + tailOf (fs.getD f ⟨[], 0⟩) tails i), (fs.getD f ⟨[], 0⟩).sure + tailOf (fs.getD f ⟨[], 0⟩) tails i⟩ := rfl
      generalize fs.getD f ⟨[], 0⟩ = x at hx hxo htail hc1
      obtain ⟨Fn, sn, _⟩ := h7.slc1 (i := 0) rfl
      obtain ⟨bn, on, ian, _, _, ln⟩ := sn.arr.spot hni rfl .i64
      obtain ⟨A1, hz, backz⟩ := At.zoom h7 1 rfl
      obtain ⟨T7, c7⟩ := hz.cell (i := 1) rfl
      obtain ⟨es7, ck7, L7, b17, b27, b37⟩ := dk_dir hz (i := 0) (m := mj) (l := l) rfl rfl
      have lk1 := dk_lookup b17 b27 b37 hr k
      rw [hfd] at lk1
      have hib : f < fb.length := by omega
      have hb := List.getElem?_eq_getElem hib
      have hgd : fb.getD f 0 = fb[f] := by rw [List.getD_eq_getElem?_getD, hb]; rfl
      simp only [hgd] at lk1
      generalize fb[f] = b at hb lk1
      simp only [ptrTo] at lk1
      obtain ⟨A, bv, ha, back⟩ := dk_fupd hz hb hx
      obtain ⟨T8, c8⟩ := ha.cell (i := 0) rfl
      have c8' : blk w7.drew b = some (.cells [bv, .int .i64 (x.sure : Int)].toArray T8 (0, 0)) := c8
      obtain ⟨Fb, sb, _⟩ := ha.slc1 (i := 1) rfl
      have hta7 := hta w7 h7.frame
      (repeat (first | refine BND_step ian ?_ | (apply BND_step; exact (ln (w' := w7) rfl (j := 0) rfl)) | (apply BND_ld c7; exact rfl) | refine BND_step lk1 ?_ | refine BND_step hta7.len ?_ | refine stp ?_ | (apply BND_inc; omega) | (apply BND_dec; omega) | refine BND_step (rfl : some _ = some _) ?_ | (apply cyes; first | assumption | omega) | (apply cno; first | assumption | omega) | refine (COND_true _ _).2 ?_ | refine (COND_false _ _).2 ?_ | simp (disch := first | assumption | omega) only [gs1, gs2, decide_true, decide_false, eq_self, beq_self_eq_true, Bool.not_true, Bool.not_false]))
      refine join_v (fun v w' => v = .int .i64 ((tailOf x tails i : Nat) : Int) ∧ Fr [] w7 w') (fun K hK => ?_) ?_
      · by_cases hit : i < tails.length
        · have htx := List.getElem?_eq_getElem hit
          generalize htv : tails[i] = t at htx
          obtain ⟨bt, ot, iat, _, _, lt⟩ := hta7.spot htx rfl .i64
          have e1 : max2v (.int .i64 t) (.int .i64 0) = some (.int .i64 (if t < 0 then 0 else t)) := rfl
          have e2 : binv .int .sub (.int .i64 (x.b.length : Int)) (.int .i64 (x.sure : Int)) = some (.int .i64 ((x.b.length - x.sure : Nat) : Int)) := by
            rw [binv_sub, wrap_i64 (by omega) (by omega)]; congr 2; omega
          have e3 : min2v (.int .i64 (if t < 0 then 0 else t)) (.int .i64 ((x.b.length - x.sure : Nat) : Int)) = some (.int .i64 ((tailOf x tails i : Nat) : Int)) := by
            show some (Value.int .i64 (if ((x.b.length - x.sure : Nat) : Int) < (if t < 0 then 0 else t) then ((x.b.length - x.sure : Nat) : Int) else (if t < 0 then 0 else t))) = _
            unfold tailOf
            rw [htx]
            congr 2
            simp only
            split <;> split <;> omega
          (repeat (first | refine BND_step iat ?_ | (apply BND_step; exact (lt (w' := w7.drew) rfl (j := 0) rfl)) | refine BND_step e1 ?_ | (apply BND_ld c8'; exact rfl) | refine BND_step sb.len ?_ | refine BND_step e2 ?_ | refine BND_step e3 ?_ | refine stp ?_ | (apply BND_inc; omega) | (apply BND_dec; omega) | refine BND_step (rfl : some _ = some _) ?_ | (apply cyes; first | assumption | omega) | (apply cno; first | assumption | omega) | refine (COND_true _ _).2 ?_ | refine (COND_false _ _).2 ?_ | simp (disch := first | assumption | omega) only [gs1, gs2, decide_true, decide_false, eq_self, beq_self_eq_true, Bool.not_true, Bool.not_false]))
          exact hK _ _ ⟨rfl, Fr.drew [] _⟩
        · (repeat (first | refine stp ?_ | (apply BND_inc; omega) | (apply BND_dec; omega) | refine BND_step (rfl : some _ = some _) ?_ | (apply cyes; first | assumption | omega) | (apply cno; first | assumption | omega) | refine (COND_true _ _).2 ?_ | refine (COND_false _ _).2 ?_ | simp (disch := first | assumption | omega) only [gs1, gs2, decide_true, decide_false, eq_self, beq_self_eq_true, Bool.not_true, Bool.not_false]))
          have e0 : tailOf x tails i = 0 := by unfold tailOf; rw [List.getElem?_eq_none (by omega)]
          exact hK _ _ ⟨by rw [e0]; rfl, Fr.refl _ _⟩
      · rintro _ w8 ⟨rfl, f8⟩
        have f8' : Fr [] w7 w8.drew := f8.trans' (Fr.drew [] _)
        have ha8 := ha.fr0 f8'
        obtain ⟨T9, c9⟩ := ha8.cell (i := 0) rfl
        obtain ⟨Fs9, ss9, upd9⟩ := ha8.upd 1 rfl
        obtain ⟨bv', et, s1⟩ := Slc.take0 ss9 (n := x.sure + tailOf x tails i) (by omega) .i64
        have ha9 := upd9 _ Fs9 (slc encB 1 bv' (x.b.take (x.sure + tailOf x tails i))) s1 (Fr.refl _ _) (fun c hc => .inl hc)
        (repeat (first | (apply BND_ld c9; exact rfl) | refine BND_step (addn_ (by omega)) ?_ | refine BND_step et ?_ | refine stp ?_ | (apply BND_inc; omega) | (apply BND_dec; omega) | refine BND_step (rfl : some _ = some _) ?_ | (apply cyes; first | assumption | omega) | (apply cno; first | assumption | omega) | refine (COND_true _ _).2 ?_ | refine (COND_false _ _).2 ?_ | simp (disch := first | assumption | omega) only [gs1, gs2, decide_true, decide_false, eq_self, beq_self_eq_true, Bool.not_true, Bool.not_false]))
        refine ha9.store (i := 0) rfl s1.one (by simp) fun w9 h9 f9 => ?_
        obtain ⟨T10, c10⟩ := h9.cell (i := 0) rfl
        obtain ⟨Fs10, ss10, _⟩ := h9.slc1 (i := 1) rfl
        have eln : (x.b.take (x.sure + tailOf x tails i)).length = x.sure + tailOf x tails i := by rw [List.length_take]; omega
        have el := ss10.len
        rw [eln] at el
        (repeat (first | (apply BND_ld c10; exact rfl) | refine BND_step el ?_ | refine stp ?_ | (apply BND_inc; omega) | (apply BND_dec; omega) | refine BND_step (rfl : some _ = some _) ?_ | (apply cyes; first | assumption | omega) | (apply cno; first | assumption | omega) | refine (COND_true _ _).2 ?_ | refine (COND_false _ _).2 ?_ | simp (disch := first | assumption | omega) only [gs1, gs2, decide_true, decide_false, eq_self, beq_self_eq_true, Bool.not_true, Bool.not_false]))
        refine h9.store (i := 0) rfl ⟨rfl, rfl⟩ (by simp) fun w10 h10 f10 => ?_
        (repeat (first | refine stp ?_ | (apply BND_inc; omega) | (apply BND_dec; omega) | refine BND_step (rfl : some _ = some _) ?_ | (apply cyes; first | assumption | omega) | (apply cno; first | assumption | omega) | refine (COND_true _ _).2 ?_ | refine (COND_false _ _).2 ?_ | simp (disch := first | assumption | omega) only [gs1, gs2, decide_true, decide_false, eq_self, beq_self_eq_true, Bool.not_true, Bool.not_false]))
        refine hJ w10 hlt ?_
        rw [hstep]
        refine ⟨?_, hok2, by omega⟩
        have hz10 := back w10 bv' ⟨x.b.take (x.sure + tailOf x tails i), x.sure + tailOf x tails i⟩ h10
        rw [hc1]
        exact backz w10 _ hz10
    · (repeat (first | refine stp ?_ | (apply BND_inc; omega) | (apply BND_dec; omega) | refine BND_step (rfl : some _ = some _) ?_ | (apply cyes; first | assumption | omega) | (apply cno; first | assumption | omega) | refine (COND_true _ _).2 ?_ | refine (COND_false _ _).2 ?_ | simp (disch := first | assumption | omega) only [gs1, gs2, decide_true, decide_false, eq_self, beq_self_eq_true, Bool.not_true, Bool.not_false]))
      rw [List.take_of_length_le (by omega)] at h7
      exact hR w7 (dk_shut (At.unwrap h7.tail))
end
end Go.Proofs.YtmefbneoljpbgaaGreatDoor
