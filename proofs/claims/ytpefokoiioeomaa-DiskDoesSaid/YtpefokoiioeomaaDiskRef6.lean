/- The document's disk: Crash; its acts. No condition but sizes. -/
import Derived.Test.YtpefokoiioeomaaDiskRef5
import Derived.Test.YtpefokoiioeomaaMa
namespace Go.Proofs.Ytpefokoiioeomaa
open Go.Den Go.Disk
theorem crash_pick {s : Dk} (hp : 0 < s.dirs.length) (op : Int) : ∃ j l, s.dirs[j]? = some l ∧ s.dirs.getD (min op.toNat (s.dirs.length - 1)) [] = l ∧ j < s.dirs.length ∧ max2v (.int .i64 op) (.int .i64 0) = some (.int .i64 (if op < 0 then 0 else op)) ∧
    min2v (.int .i64 (if op < 0 then 0 else op)) (.int .i64 ((s.dirs.length - 1 : Nat) : Int)) = some (.int .i64 ((j : Nat) : Int)) := by
  have hj : min op.toNat (s.dirs.length - 1) < s.dirs.length := by omega
  refine ⟨min op.toNat (s.dirs.length - 1), _, List.getElem?_eq_getElem hj, by rw [List.getD_eq_getElem?_getD, List.getElem?_eq_getElem hj]; rfl, hj, rfl, ?_⟩
  show some (Value.int .i64 (if ((s.dirs.length - 1 : Nat) : Int) < (if op < 0 then 0 else op) then ((s.dirs.length - 1 : Nat) : Int) else (if op < 0 then 0 else op))) = _
  congr 2
  split <;> split <;> omega
theorem tail_min {x : Fl} {tails : List Int} {i : Nat} {t : Int} (hx : x.sure ≤ x.b.length) (htx : tails[i]? = some t) :
    max2v (.int .i64 t) (.int .i64 0) = some (.int .i64 (if t < 0 then 0 else t)) ∧ min2v (.int .i64 (if t < 0 then 0 else t)) (.int .i64 ((x.b.length - x.sure : Nat) : Int)) = some (.int .i64 ((tailOf x tails i : Nat) : Int)) := by
  refine ⟨rfl, ?_⟩
  show some (Value.int .i64 (if ((x.b.length - x.sure : Nat) : Int) < (if t < 0 then 0 else t) then ((x.b.length - x.sure : Nat) : Int) else (if t < 0 then 0 else t))) = _
  unfold tailOf
  rw [htx]
  congr 2
  simp only
  split <;> split <;> omega
set_option linter.unusedSimpArgs false
set_option linter.unusedVariables false
set_option maxRecDepth 20000
set_option maxHeartbeats 4000000
attribute [local congr] BND_cg COND_cg GEF_cg
attribute [local irreducible] load1 loadn iaddr iaddra faddr storev newslice binv lookv mupd mdel mlenv mentry mestore slicev slicev3 slices indexs indexav textv rangev nexts clearv shiftv eqaggv convi buildv pickv lens lenl unv nilchk extractv partn JOIN
section
variable {w0 w w' : World} {F0 : List Nat} {d : Nat} {s : Dk} {R : Value → World → Prop}
theorem rf_Crash (h : At w0 F0 (rfHP d s) w) (hw : s.Wf) (hn : s.dirs.length < 1000000000) (op : Int) {tv : Value} {tails : List Int} (hta : ∀ w', Fr F0 w0 w' → Arr encI 1 w' tv tails) (hR : ∀ w', At w0 F0 (rfHP d (crash s op tails)) w' → R (.tuple #[]) w') : CALL PR F_tumbrelref06_Disk_Crash [ptrTo d, .int .i64 op, tv] w R := by
  obtain ⟨fv, dv, fc, es, hs⟩ := rf_open h
  refine C_tumbrelref06_Disk_Crash ?_
  unfold M_tumbrelref06_Disk_Crash
  obtain ⟨T, c⟩ := hs.cell (i := 0) rfl
  obtain ⟨F, ⟨_, ⟨Gd, sd, _⟩, ⟨hel, hE⟩, _⟩, _⟩ := hs.get 2 rfl
  have ldl := sd.len
  rw [hel] at ldl
  obtain ⟨j, l, hl, hld, hjl, em1, em2⟩ := crash_pick (List.length_pos_iff.2 hw.ne) op
  have hlm : l ∈ s.dirs := List.mem_of_getElem? hl
  unfold crash at hR
  rw [hld] at hR
  obtain ⟨e, Ge0, he, se0, _⟩ := hE j l hl
  obtain ⟨b1, o1, i1, _, _, l1⟩ := sd.arr.spot he rfl .i64
  unfold ptrTo
  (repeat (first | refine BND_step em1 ?_ | (apply BND_ld c; exact rfl) | refine BND_step ldl ?_ | refine BND_step (subn_ (n := s.dirs.length) (m := 1) (by omega) (by omega)) ?_ | refine BND_step em2 ?_ | refine BND_step i1 ?_ | (apply BND_step; exact (l1 (w' := w) rfl (j := 0) rfl)) | refine stp ?_ | (apply BND_inc; omega) | (apply BND_dec; omega) | refine BND_step (rfl : some _ = some _) ?_ | (apply cyes; first | assumption | omega) | (apply cno; first | assumption | omega) | refine (COND_true _ _).2 ?_ | refine (COND_false _ _).2 ?_ | simp (disch := first | assumption | omega) only [gs1, gs2, decide_true, decide_false, eq_self, beq_self_eq_true, Bool.not_true, Bool.not_false]))
  refine newone_step (enc := encV) (x := e) encV_len rfl fun u w1 s1 f1 z1 => ?_
  (repeat (first | refine stp ?_ | (apply BND_inc; omega) | (apply BND_dec; omega) | refine BND_step (rfl : some _ = some _) ?_ | (apply cyes; first | assumption | omega) | (apply cno; first | assumption | omega) | refine (COND_true _ _).2 ?_ | refine (COND_false _ _).2 ?_ | simp (disch := first | assumption | omega) only [gs1, gs2, decide_true, decide_false, eq_self, beq_self_eq_true, Bool.not_true, Bool.not_false]))
  refine rf_dir1 hs f1 s1 (fun b hb => by simp at hb; subst hb; exact Nat.le_refl _) he hl fun w2 h2 => ?_
  (repeat (first | refine stp ?_ | (apply BND_inc; omega) | (apply BND_dec; omega) | refine BND_step (rfl : some _ = some _) ?_ | (apply cyes; first | assumption | omega) | (apply cno; first | assumption | omega) | refine (COND_true _ _).2 ?_ | refine (COND_false _ _).2 ?_ | simp (disch := first | assumption | omega) only [gs1, gs2, decide_true, decide_false, eq_self, beq_self_eq_true, Bool.not_true, Bool.not_false]))
  refine h2.store (i := 0) rfl ⟨rfl, rfl⟩ (by simp [rfC]) fun w3 h3 _ => ?_
  (repeat (first | refine stp ?_ | (apply BND_inc; omega) | (apply BND_dec; omega) | refine BND_step (rfl : some _ = some _) ?_ | (apply cyes; first | assumption | omega) | (apply cno; first | assumption | omega) | refine (COND_true _ _).2 ?_ | refine (COND_false _ _).2 ?_ | simp (disch := first | assumption | omega) only [gs1, gs2, decide_true, decide_false, eq_self, beq_self_eq_true, Bool.not_true, Bool.not_false]))
  refine h3.store (i := 0) rfl ⟨rfl, rfl⟩ (by simp [rfC]) fun w4 h4 _ => ?_
  replace h4 : At w0 F0 (stars (rfL d { s with dirs := [l], burn := -1, gone := false } fv u fc [e])) w4 := h4
  refine rf_now h4 (by simp) (by simp) fun e' Ge he' se => ?_
  have hee : e' = e := by
    have : ([e] : List SV)[0]? = some e' := he'
    simpa using this.symm
  subst hee
  have h60 := hw.many _ hlm
  have hr : riseD l := hw.rise _ hlm
  have hok0 : FilesOk 1048576 s.files := fun x hx => ⟨hw.sure x hx, by have := hw.small x hx; have := hw.room; omega⟩
  have hlen0 : lenl e'.v = some (.int .i64 (l.length : Int)) := se.len
  clear he' se
  refine loop_up 0 l.length (fun i w' => (∃ fc, At w0 F0 (stars (rfL d { s with files := crashF tails (l.take i) 0 s.files, dirs := [l], burn := -1, gone := false } fv u fc [e'])) w') ∧ FilesOk 1048576 (crashF tails (l.take i) 0 s.files) ∧ (crashF tails (l.take i) 0 s.files).length = s.files.length)
    ⟨⟨fc, h4.fr0 (Fr.drew _ _)⟩, hok0, rfl⟩ (by omega) ?_
  rintro i w6 - hi ⟨⟨fc6, h6⟩, hok, hlen⟩ J m hJ
  by_cases hlt : i < l.length
  · have hxi := List.getElem?_eq_getElem hlt
    obtain ⟨⟨k, f⟩, hp⟩ : ∃ p, p = l[i] := ⟨_, rfl⟩
    rw [← hp] at hxi
    have hmem : (k, f) ∈ l := List.mem_of_getElem? hxi
    have hfl : f < s.files.length := hw.idx _ hlm _ hmem
    generalize hfs : crashF tails (l.take i) 0 s.files = fs at h6 hok hlen
    have hstep : crashF tails (l.take (i + 1)) 0 s.files = crash1 tails f i fs := by
      rw [List.take_add_one, hxi]
      show crashF tails (l.take i ++ [(k, f)]) 0 s.files = _
      rw [crashF_snoc, hfs]
      congr 1
      rw [List.length_take]; omega
    have hfl2 : f < fs.length := by omega
    have hx : fs[f]? = some (fs.getD f ⟨[], 0⟩) := by rw [List.getD_eq_getElem?_getD, List.getElem?_eq_getElem hfl2]; rfl
    have hxo := hok _ (List.mem_of_getElem? hx)
    have hok2 := crash1_ok (tails := tails) (i := i) hok hfl2
    have hlen2 := crash1_len tails f i fs
    have htail := tailOf_le (fs.getD f ⟨[], 0⟩) tails i
    have hc1 : crash1 tails f i fs = fs.set f ⟨(fs.getD f ⟨[], 0⟩).b.take ((fs.getD f ⟨[], 0⟩).sure + tailOf (fs.getD f ⟨[], 0⟩) tails i), (fs.getD f ⟨[], 0⟩).sure + tailOf (fs.getD f ⟨[], 0⟩) tails i⟩ := rfl
    generalize fs.getD f ⟨[], 0⟩ = x at hx hxo htail hc1
    obtain ⟨F6, ⟨_, _, ⟨_, hE6⟩, _⟩, _⟩ := h6.get 2 rfl
    obtain ⟨e2, G2, he2, se2, _⟩ := hE6 0 l rfl
    have hee2 : e2 = e' := by simpa using he2.symm
    subst hee2
    obtain ⟨bn, on, ian, _, hbn, ln⟩ := se2.arr.spot hxi rfl .i64
    obtain ⟨b, v, ia, rd, _, _, st⟩ := rf_spot h6 (f := f) (x := x) hx
    have e6 : hsz w6.drew = hsz w6 := rfl
    have ld : ∀ w', Fr [] w6 w' → load1 w' (.pointer (some ⟨bn, on + 1, none⟩)) = some (.int .i64 (f : Int)) := fun w' fr => ln (fr.keep bn hbn (by simp)) (j := 1) rfl
    (repeat (first | refine BND_step hlen0 ?_ | refine stp ?_ | (apply BND_inc; omega) | (apply BND_dec; omega) | refine BND_step (rfl : some _ = some _) ?_ | (apply cyes; first | assumption | omega) | (apply cno; first | assumption | omega) | refine (COND_true _ _).2 ?_ | refine (COND_false _ _).2 ?_ | simp (disch := first | assumption | omega) only [gs1, gs2, decide_true, decide_false, eq_self, beq_self_eq_true, Bool.not_true, Bool.not_false]))
    refine ⟨fun _ w' => Fr [] w6 w', Fr.drew _ _, Fr.drew _ _, Fr.drew _ _, ?_⟩
    (repeat (first | refine FLT.mk _ (fun _ hw_ => (rd _ hw_).1) ?_ | refine BND_step ian ?_ | refine FLT.mk _ (fun _ hw_ => (ld _ hw_)) ?_ | refine BND_step ia ?_ | refine stp ?_ | (apply BND_inc; omega) | (apply BND_dec; omega) | refine BND_step (rfl : some _ = some _) ?_ | (apply cyes; first | assumption | omega) | (apply cno; first | assumption | omega) | refine (COND_true _ _).2 ?_ | refine (COND_false _ _).2 ?_ | simp (disch := first | assumption | omega) only [gs1, gs2, decide_true, decide_false, eq_self, beq_self_eq_true, Bool.not_true, Bool.not_false]))
    refine FLT.mk _ (fun _ hw_ => (rd _ hw_).2.2.2.1) ?_
    refine NEW_intro fun w7 b7 f7 z7 => ?_
    have f67 := (Fr.drew [] w6).trans' f7
    refine ⟨f67, f67, f67, ?_⟩
    refine put_step (n := 2) (vs := [v.v, .int .i64 (x.sure : Int)]) b7 rfl rfl (by intro u hu; simp at hu; rcases hu with rfl | rfl <;> rfl) (by simp) fun w8 b8 f8 _ => ?_
    have f68 : Fr [] w6 w8 := f67.trans f8 fun b hb => .inr (by simp at hb; omega)
    have b8' : blk w8.drew (hsz w6.drew) = some (.cells [v.v, .int .i64 (x.sure : Int)].toArray _ (0, 0)) := b8
    have hta8 := hta w8 (h6.frame.trans' f68.nil)
    obtain ⟨_, _, _, _, Gb, sb8⟩ := rd w8.drew (f68.trans' (Fr.drew _ _))
    (repeat (first | refine BND_step hta8.len ?_ | refine stp ?_ | (apply BND_inc; omega) | (apply BND_dec; omega) | refine BND_step (rfl : some _ = some _) ?_ | (apply cyes; first | assumption | omega) | (apply cno; first | assumption | omega) | refine (COND_true _ _).2 ?_ | refine (COND_false _ _).2 ?_ | simp (disch := first | assumption | omega) only [gs1, gs2, decide_true, decide_false, eq_self, beq_self_eq_true, Bool.not_true, Bool.not_false]))
    refine join_v (Q := fun v w' => v = .int .i64 ((tailOf x tails i : Nat) : Int) ∧ Fr [] w8 w') (fun K hK => ?_) ?_
    · by_cases hit : i < tails.length
      · have htx := List.getElem?_eq_getElem hit
        generalize htv : tails[i] = t at htx
        obtain ⟨bt, ot, iat, _, _, lt⟩ := hta8.spot htx rfl .i64
        obtain ⟨m1, m2⟩ := tail_min hxo.1 htx
        (repeat (first | refine BND_step iat ?_ | (apply BND_step; exact (lt (w' := w8.drew) rfl (j := 0) rfl)) | refine BND_step m1 ?_ | (apply BND_ld b8'; exact rfl) | refine BND_step sb8.len ?_ | refine BND_step (subn_ (n := x.b.length) (m := x.sure) hxo.1 (by omega)) ?_ | refine BND_step m2 ?_ | refine stp ?_ | (apply BND_inc; omega) | (apply BND_dec; omega) | refine BND_step (rfl : some _ = some _) ?_ | (apply cyes; first | assumption | omega) | (apply cno; first | assumption | omega) | refine (COND_true _ _).2 ?_ | refine (COND_false _ _).2 ?_ | simp (disch := first | assumption | omega) only [gs1, gs2, decide_true, decide_false, eq_self, beq_self_eq_true, Bool.not_true, Bool.not_false]))
        exact hK _ _ ⟨rfl, Fr.drew [] _⟩
      · (repeat (first | refine stp ?_ | (apply BND_inc; omega) | (apply BND_dec; omega) | refine BND_step (rfl : some _ = some _) ?_ | (apply cyes; first | assumption | omega) | (apply cno; first | assumption | omega) | refine (COND_true _ _).2 ?_ | refine (COND_false _ _).2 ?_ | simp (disch := first | assumption | omega) only [gs1, gs2, decide_true, decide_false, eq_self, beq_self_eq_true, Bool.not_true, Bool.not_false]))
        have e0 : tailOf x tails i = 0 := by unfold tailOf; rw [List.getElem?_eq_none (by omega)]
        exact hK _ _ ⟨by rw [e0]; rfl, Fr.refl _ _⟩
    · rintro _ w9 ⟨rfl, f9⟩
      have f69 := (f68.trans' f9).trans' (Fr.drew [] w9)
      have e9 : hsz w9.drew = hsz w9 := rfl
      have b9 := (f9.trans' (Fr.drew [] w9)).some (by simp) b8
      have rb : ∀ w', Fr [] w9.drew w' → load1 w' (.pointer (some ⟨hsz w6.drew, 0 + 0, none⟩)) = some v.v ∧ load1 w' (.pointer (some ⟨hsz w6.drew, 0 + 1, none⟩)) = some (.int .i64 (x.sure : Int)) := fun w' fr =>
        ⟨load1_at (fr.some (by simp) b9) rfl, load1_at (fr.some (by simp) b9) rfl⟩
      obtain ⟨_, _, _, _, Gb9, sb9⟩ := rd w9.drew f69
      obtain ⟨va, ea, ca⟩ := sb9.upto encB_len (n := x.sure + tailOf x tails i) (by omega) .i64
      refine ⟨fun _ w' => Fr [] w9.drew w', Fr.refl _ _, Fr.refl _ _, Fr.refl _ _, Fr.refl _ _, Fr.refl _ _, ?_⟩
      (repeat (first | refine FLT.mk _ (fun _ hw_ => (rd _ (f69.trans' hw_)).1) ?_ | refine BND_step ian ?_ | refine FLT.mk _ (fun _ hw_ => (ld _ (f69.trans' hw_))) ?_ | refine FLT.mk _ (fun _ hw_ => (rb _ hw_).1) ?_ | refine FLT.mk _ (fun _ hw_ => (rb _ hw_).2) ?_ | refine BND_step (addn_ (by omega)) ?_ | refine BND_step ea ?_ | refine stp ?_ | (apply BND_inc; omega) | (apply BND_dec; omega) | refine BND_step (rfl : some _ = some _) ?_ | (apply cyes; first | assumption | omega) | (apply cno; first | assumption | omega) | refine (COND_true _ _).2 ?_ | refine (COND_false _ _).2 ?_ | simp (disch := first | assumption | omega) only [gs1, gs2, decide_true, decide_false, eq_self, beq_self_eq_true, Bool.not_true, Bool.not_false]))
      refine newnil_step encB fun t w10 s10 f10 z10 => ?_
      refine ⟨f10, f10, f10, f10, f10, ?_⟩
      refine APPEND_slc s10 (ca w10 fun b hb => f10.keep b (sb9.lt b hb) (by simp)) encB_len encB_one rfl (by simp; omega) (by simp; omega) fun v11 w11 G11 s11 f11 sub11 => ?_
      rw [List.nil_append] at s11
      have f911 := f10.trans f11 fun b hb => .inr (by simp at hb; omega)
      refine ⟨f911, f911, f911, ?_⟩
      have gr := f69.grow
      obtain ⟨e11, rfl⟩ := slc_sv s11
      (repeat (first | (apply BND_build ([e11.v, .int .i64 ((x.sure + tailOf x tails i : Nat) : Int)]); exact rfl) | refine BND_step ia ?_ | refine stp ?_ | (apply BND_inc; omega) | (apply BND_dec; omega) | refine BND_step (rfl : some _ = some _) ?_ | (apply cyes; first | assumption | omega) | (apply cno; first | assumption | omega) | refine (COND_true _ _).2 ?_ | refine (COND_false _ _).2 ?_ | simp (disch := first | assumption | omega) only [gs1, gs2, decide_true, decide_false, eq_self, beq_self_eq_true, Bool.not_true, Bool.not_false]))
      refine st w11 e11 G11 _ _ _ (f69.trans' f911) s11 (fun b hb => ?_) fun w12 h12 => ?_
      · rcases sub11 b hb with hq | hq
        · simp at hq; omega
        · omega
      · (repeat (first | refine stp ?_ | (apply BND_inc; omega) | (apply BND_dec; omega) | refine BND_step (rfl : some _ = some _) ?_ | (apply cyes; first | assumption | omega) | (apply cno; first | assumption | omega) | refine (COND_true _ _).2 ?_ | refine (COND_false _ _).2 ?_ | simp (disch := first | assumption | omega) only [gs1, gs2, decide_true, decide_false, eq_self, beq_self_eq_true, Bool.not_true, Bool.not_false]))
        refine hJ w12 hlt ?_
        rw [hstep]
        refine ⟨⟨fc6.set f (e11, x.sure + tailOf x tails i), ?_⟩, hok2, by omega⟩
        rw [hc1]
        exact h12
  · (repeat (first | refine BND_step hlen0 ?_ | refine stp ?_ | (apply BND_inc; omega) | (apply BND_dec; omega) | refine BND_step (rfl : some _ = some _) ?_ | (apply cyes; first | assumption | omega) | (apply cno; first | assumption | omega) | refine (COND_true _ _).2 ?_ | refine (COND_false _ _).2 ?_ | simp (disch := first | assumption | omega) only [gs1, gs2, decide_true, decide_false, eq_self, beq_self_eq_true, Bool.not_true, Bool.not_false]))
    rw [List.take_of_length_le (by omega)] at h6
    exact hR w6 (rf_shut h6)
theorem rf_own (h : At w0 F0 (rfHP d s) w) (hw : s.Wf) (hn : s.dirs.length < 1000000000) (hn2 : s.files.length < 1000000000) (a : Act) {b : List UInt8} {tails : List Int} (hb : b.length < 1000000000) (hnm : a.nm.size ≤ 9223372036854775807 ∧ a.to.size ≤ 9223372036854775807)
    (hib : ∀ w', Fr F0 w0 w' → Arr encB 1 w' a.bv b) (hit : ∀ w', Fr F0 w0 w' → Arr encI 1 w' a.tv tails)
    (hR : ∀ w' v G, At w0 F0 (rfHP d (act s a b tails).1) w' → Slc encB 1 w' v (act s a b tails).2.1 G → (∀ b ∈ G, hsz w ≤ b) → R (.tuple #[v, .int .i64 (act s a b tails).2.2]) w') :
    CALL PR F_tumbrellaw06_own [ptrTo d, .agg (encA a).toArray] w R := by
  refine C_tumbrellaw06_own ?_
  unfold M_tumbrellaw06_own
  refine NEW_intro fun w1 b1 f1 z1 => ?_
  have h1 := h.fr0 f1
  have b2 : blk w1 (hsz w) = some (.cells (encA a).toArray 35 (0, 0)) := b1
  unfold act at hR
  (repeat (first | (apply BND_ld b2; exact rfl) | refine stp ?_ | (apply BND_inc; omega) | (apply BND_dec; omega) | refine BND_step (rfl : some _ = some _) ?_ | (apply cyes; first | assumption | omega) | (apply cno; first | assumption | omega) | refine (COND_true _ _).2 ?_ | refine (COND_false _ _).2 ?_ | simp (disch := first | assumption | omega) only [gs1, gs2, decide_true, decide_false, eq_self, beq_self_eq_true, Bool.not_true, Bool.not_false]))
  by_cases q0 : a.dn = 0
  · simp only [q0, if_true] at hR
    (repeat (first | (apply BND_ld b2; exact rfl) | refine stp ?_ | (apply BND_inc; omega) | (apply BND_dec; omega) | refine BND_step (rfl : some _ = some _) ?_ | (apply cyes; first | assumption | omega) | (apply cno; first | assumption | omega) | refine (COND_true _ _).2 ?_ | refine (COND_false _ _).2 ?_ | simp (disch := first | assumption | omega) only [gs1, gs2, decide_true, decide_false, eq_self, beq_self_eq_true, Bool.not_true, Bool.not_false]))
    exact rf_Create h1 hw hn hn2 _ hnm.1 fun w2 h2 => hR w2 _ [] h2 (Slc.nil _ _ _) (by simp)
  simp only [q0, if_false] at hR
  (repeat (first | refine stp ?_ | (apply BND_inc; omega) | (apply BND_dec; omega) | refine BND_step (rfl : some _ = some _) ?_ | (apply cyes; first | assumption | omega) | (apply cno; first | assumption | omega) | refine (COND_true _ _).2 ?_ | refine (COND_false _ _).2 ?_ | simp (disch := first | assumption | omega) only [gs1, gs2, decide_true, decide_false, eq_self, beq_self_eq_true, Bool.not_true, Bool.not_false]))
  by_cases q1 : a.dn = 1
  · simp only [q1, if_true] at hR
    (repeat (first | (apply BND_ld b2; exact rfl) | refine stp ?_ | (apply BND_inc; omega) | (apply BND_dec; omega) | refine BND_step (rfl : some _ = some _) ?_ | (apply cyes; first | assumption | omega) | (apply cno; first | assumption | omega) | refine (COND_true _ _).2 ?_ | refine (COND_false _ _).2 ?_ | simp (disch := first | assumption | omega) only [gs1, gs2, decide_true, decide_false, eq_self, beq_self_eq_true, Bool.not_true, Bool.not_false]))
    exact rf_Append h1 hw hn hn2 _ hb (hib w1 h1.frame).len (fun w' f => (hib w' f).src encB_len (by omega)) fun w2 h2 => hR w2 _ [] h2 (Slc.nil _ _ _) (by simp)
  simp only [q1, if_false] at hR
  (repeat (first | refine stp ?_ | (apply BND_inc; omega) | (apply BND_dec; omega) | refine BND_step (rfl : some _ = some _) ?_ | (apply cyes; first | assumption | omega) | (apply cno; first | assumption | omega) | refine (COND_true _ _).2 ?_ | refine (COND_false _ _).2 ?_ | simp (disch := first | assumption | omega) only [gs1, gs2, decide_true, decide_false, eq_self, beq_self_eq_true, Bool.not_true, Bool.not_false]))
  by_cases q2 : a.dn = 2
  · simp only [q2, if_true] at hR
    (repeat (first | (apply BND_ld b2; exact rfl) | refine stp ?_ | (apply BND_inc; omega) | (apply BND_dec; omega) | refine BND_step (rfl : some _ = some _) ?_ | (apply cyes; first | assumption | omega) | (apply cno; first | assumption | omega) | refine (COND_true _ _).2 ?_ | refine (COND_false _ _).2 ?_ | simp (disch := first | assumption | omega) only [gs1, gs2, decide_true, decide_false, eq_self, beq_self_eq_true, Bool.not_true, Bool.not_false]))
    exact rf_Sync h1 hw hn _ fun w2 h2 => hR w2 _ [] h2 (Slc.nil _ _ _) (by simp)
  simp only [q2, if_false] at hR
  (repeat (first | refine stp ?_ | (apply BND_inc; omega) | (apply BND_dec; omega) | refine BND_step (rfl : some _ = some _) ?_ | (apply cyes; first | assumption | omega) | (apply cno; first | assumption | omega) | refine (COND_true _ _).2 ?_ | refine (COND_false _ _).2 ?_ | simp (disch := first | assumption | omega) only [gs1, gs2, decide_true, decide_false, eq_self, beq_self_eq_true, Bool.not_true, Bool.not_false]))
  by_cases q3 : a.dn = 3
  · simp only [q3, if_true] at hR
    (repeat (first | (apply BND_ld b2; exact rfl) | refine stp ?_ | (apply BND_inc; omega) | (apply BND_dec; omega) | refine BND_step (rfl : some _ = some _) ?_ | (apply cyes; first | assumption | omega) | (apply cno; first | assumption | omega) | refine (COND_true _ _).2 ?_ | refine (COND_false _ _).2 ?_ | simp (disch := first | assumption | omega) only [gs1, gs2, decide_true, decide_false, eq_self, beq_self_eq_true, Bool.not_true, Bool.not_false]))
    exact rf_Cut h1 hw hn _ _ fun w2 h2 => hR w2 _ [] h2 (Slc.nil _ _ _) (by simp)
  simp only [q3, if_false] at hR
  (repeat (first | refine stp ?_ | (apply BND_inc; omega) | (apply BND_dec; omega) | refine BND_step (rfl : some _ = some _) ?_ | (apply cyes; first | assumption | omega) | (apply cno; first | assumption | omega) | refine (COND_true _ _).2 ?_ | refine (COND_false _ _).2 ?_ | simp (disch := first | assumption | omega) only [gs1, gs2, decide_true, decide_false, eq_self, beq_self_eq_true, Bool.not_true, Bool.not_false]))
  by_cases q4 : a.dn = 4
  · simp only [q4, if_true] at hR
    (repeat (first | (apply BND_ld b2; exact rfl) | refine stp ?_ | (apply BND_inc; omega) | (apply BND_dec; omega) | refine BND_step (rfl : some _ = some _) ?_ | (apply cyes; first | assumption | omega) | (apply cno; first | assumption | omega) | refine (COND_true _ _).2 ?_ | refine (COND_false _ _).2 ?_ | simp (disch := first | assumption | omega) only [gs1, gs2, decide_true, decide_false, eq_self, beq_self_eq_true, Bool.not_true, Bool.not_false]))
    exact rf_Rename h1 hw hn _ _ hnm.2 fun w2 h2 => hR w2 _ [] h2 (Slc.nil _ _ _) (by simp)
  simp only [q4, if_false] at hR
  (repeat (first | refine stp ?_ | (apply BND_inc; omega) | (apply BND_dec; omega) | refine BND_step (rfl : some _ = some _) ?_ | (apply cyes; first | assumption | omega) | (apply cno; first | assumption | omega) | refine (COND_true _ _).2 ?_ | refine (COND_false _ _).2 ?_ | simp (disch := first | assumption | omega) only [gs1, gs2, decide_true, decide_false, eq_self, beq_self_eq_true, Bool.not_true, Bool.not_false]))
  by_cases q5 : a.dn = 5
  · simp only [q5, if_true] at hR
    (repeat (first | (apply BND_ld b2; exact rfl) | refine stp ?_ | (apply BND_inc; omega) | (apply BND_dec; omega) | refine BND_step (rfl : some _ = some _) ?_ | (apply cyes; first | assumption | omega) | (apply cno; first | assumption | omega) | refine (COND_true _ _).2 ?_ | refine (COND_false _ _).2 ?_ | simp (disch := first | assumption | omega) only [gs1, gs2, decide_true, decide_false, eq_self, beq_self_eq_true, Bool.not_true, Bool.not_false]))
    exact rf_Delete h1 hw hn _ fun w2 h2 => hR w2 _ [] h2 (Slc.nil _ _ _) (by simp)
  simp only [q5, if_false] at hR
  (repeat (first | refine stp ?_ | (apply BND_inc; omega) | (apply BND_dec; omega) | refine BND_step (rfl : some _ = some _) ?_ | (apply cyes; first | assumption | omega) | (apply cno; first | assumption | omega) | refine (COND_true _ _).2 ?_ | refine (COND_false _ _).2 ?_ | simp (disch := first | assumption | omega) only [gs1, gs2, decide_true, decide_false, eq_self, beq_self_eq_true, Bool.not_true, Bool.not_false]))
  by_cases q6 : a.dn = 6
  · simp only [q6, if_true] at hR
    (repeat (first | refine stp ?_ | (apply BND_inc; omega) | (apply BND_dec; omega) | refine BND_step (rfl : some _ = some _) ?_ | (apply cyes; first | assumption | omega) | (apply cno; first | assumption | omega) | refine (COND_true _ _).2 ?_ | refine (COND_false _ _).2 ?_ | simp (disch := first | assumption | omega) only [gs1, gs2, decide_true, decide_false, eq_self, beq_self_eq_true, Bool.not_true, Bool.not_false]))
    exact rf_DirSync h1 hw hn fun w2 h2 => hR w2 _ [] h2 (Slc.nil _ _ _) (by simp)
  simp only [q6, if_false] at hR
  (repeat (first | refine stp ?_ | (apply BND_inc; omega) | (apply BND_dec; omega) | refine BND_step (rfl : some _ = some _) ?_ | (apply cyes; first | assumption | omega) | (apply cno; first | assumption | omega) | refine (COND_true _ _).2 ?_ | refine (COND_false _ _).2 ?_ | simp (disch := first | assumption | omega) only [gs1, gs2, decide_true, decide_false, eq_self, beq_self_eq_true, Bool.not_true, Bool.not_false]))
  by_cases q7 : a.dn = 7
  · simp only [q7, if_true] at hR
    (repeat (first | (apply BND_ld b2; exact rfl) | refine stp ?_ | (apply BND_inc; omega) | (apply BND_dec; omega) | refine BND_step (rfl : some _ = some _) ?_ | (apply cyes; first | assumption | omega) | (apply cno; first | assumption | omega) | refine (COND_true _ _).2 ?_ | refine (COND_false _ _).2 ?_ | simp (disch := first | assumption | omega) only [gs1, gs2, decide_true, decide_false, eq_self, beq_self_eq_true, Bool.not_true, Bool.not_false]))
    exact rf_Fuse h1 _ fun w2 h2 => hR w2 _ [] h2 (Slc.nil _ _ _) (by simp)
  simp only [q7, if_false] at hR
  (repeat (first | refine stp ?_ | (apply BND_inc; omega) | (apply BND_dec; omega) | refine BND_step (rfl : some _ = some _) ?_ | (apply cyes; first | assumption | omega) | (apply cno; first | assumption | omega) | refine (COND_true _ _).2 ?_ | refine (COND_false _ _).2 ?_ | simp (disch := first | assumption | omega) only [gs1, gs2, decide_true, decide_false, eq_self, beq_self_eq_true, Bool.not_true, Bool.not_false]))
  by_cases q8 : a.dn = 8
  · simp only [q8, if_true] at hR
    (repeat (first | (apply BND_ld b2; exact rfl) | refine stp ?_ | (apply BND_inc; omega) | (apply BND_dec; omega) | refine BND_step (rfl : some _ = some _) ?_ | (apply cyes; first | assumption | omega) | (apply cno; first | assumption | omega) | refine (COND_true _ _).2 ?_ | refine (COND_false _ _).2 ?_ | simp (disch := first | assumption | omega) only [gs1, gs2, decide_true, decide_false, eq_self, beq_self_eq_true, Bool.not_true, Bool.not_false]))
    exact rf_Crash h1 hw hn _ hit fun w2 h2 => hR w2 _ [] h2 (Slc.nil _ _ _) (by simp)
  simp only [q8, if_false] at hR
  (repeat (first | (apply BND_ld b2; exact rfl) | refine stp ?_ | (apply BND_inc; omega) | (apply BND_dec; omega) | refine BND_step (rfl : some _ = some _) ?_ | (apply cyes; first | assumption | omega) | (apply cno; first | assumption | omega) | refine (COND_true _ _).2 ?_ | refine (COND_false _ _).2 ?_ | simp (disch := first | assumption | omega) only [gs1, gs2, decide_true, decide_false, eq_self, beq_self_eq_true, Bool.not_true, Bool.not_false]))
  refine rf_Read h1 hw hn _ fun w2 v G h2 s2 g2 f2 => ?_
  (repeat (first | refine stp ?_ | (apply BND_inc; omega) | (apply BND_dec; omega) | refine BND_step (rfl : some _ = some _) ?_ | (apply cyes; first | assumption | omega) | (apply cno; first | assumption | omega) | refine (COND_true _ _).2 ?_ | refine (COND_false _ _).2 ?_ | simp (disch := first | assumption | omega) only [gs1, gs2, decide_true, decide_false, eq_self, beq_self_eq_true, Bool.not_true, Bool.not_false]))
  exact hR w2 v G h2 s2 fun b hb => by have := g2 b hb; omega
end
end Go.Proofs.Ytpefokoiioeomaa
