/- The document's disk: directories. No condition. -/
import Derived.Test.YtpefokoiioeomaaDiskRef
import Derived.Test.YtpefokoiioeomaaMa
namespace Go.Proofs.Ytpefokoiioeomaa
open Go.Den Go.Disk
theorem withD_at {x : ByteArray × Nat} : ∀ {l : Dir} {i : Nat}, (∀ y ∈ l.take i, bl y.1 x.1 = true) → (l.length ≤ i ∨ ∃ y, l[i]? = some y ∧ bl y.1 x.1 = false) → withD l x = l.take i ++ [x] ++ l.drop i
  | [], i, _, _ => by simp [withD]
  | z :: l, 0, _, h2 => by
    rcases h2 with h2 | ⟨y, h2, h3⟩
    · simp at h2
    · simp at h2; subst h2
      simp [withD, h3]
  | z :: l, i + 1, h1, h2 => by
    have hz : bl z.1 x.1 = true := h1 z (by simp)
    have := withD_at (l := l) (i := i) (fun y hy => h1 y (by simp [hy])) (by
      rcases h2 with h2 | ⟨y, h2, h3⟩
      · left; simpa using h2
      · right; exact ⟨y, by simpa using h2, h3⟩)
    simp [withD, hz, this]
theorem At.mono2 {P Q : HP} {w0 w : World} {F0 : List Nat} (h : At w0 F0 P w) (hpq : ∀ F, P.p w F → ∃ F', Q.p w F' ∧ ∀ b ∈ F', b ∈ F) : At w0 F0 Q w := by
  obtain ⟨F, h1, h2, h3⟩ := h
  obtain ⟨F', h4, h5⟩ := hpq F h1
  exact ⟨F', h4, fun b hb => h2 b (h5 b hb), h3⟩
/-- a new directory, and the row of all. -/
def newHP (dv : Value) (es : List SV) (e : SV) (l : Dir) : HP where
  p w F := (∀ b ∈ F, b < hsz w) ∧ (∃ G, Slc encV 1 w dv es G ∧ ∀ b ∈ G, b ∈ F) ∧ ∃ G, Slc encE 2 w e.v l G ∧ ∀ b ∈ G, b ∈ F
  lt := fun h => h.1
  st := by
    rintro w w' F ⟨h1, ⟨G, h2, h3⟩, ⟨H, h4, h5⟩⟩ hk
    refine ⟨fun b hb => ?_, ⟨G, h2.congr fun b hb => hk b (h3 b hb), h3⟩, H, h4.congr fun b hb => hk b (h5 b hb), h5⟩
    have := hk b hb
    have hlt := h1 b hb
    refine Nat.lt_of_not_le fun hge => ?_
    have e1 : blk w' b = none := blk_none hge
    rw [e1] at this
    have := Array.getElem?_eq_none_iff.1 (show w.heap[b]? = none from this.symm)
    unfold hsz at hlt
    omega
theorem stlt (a b : ByteArray) : binv .str .lss (.string a) (.string b) = some (.bool (bl a b)) := rfl
set_option linter.unusedSimpArgs false
set_option linter.unusedVariables false
set_option maxRecDepth 20000
set_option maxHeartbeats 4000000
attribute [local congr] BND_cg COND_cg GEF_cg
attribute [local irreducible] load1 loadn iaddr iaddra faddr storev newslice binv lookv mupd mdel mlenv mentry mestore slicev slicev3 slices indexs indexav textv rangev nexts clearv shiftv eqaggv convi buildv pickv lens lenl unv nilchk extractv partn JOIN
section
variable {w0 w w' : World} {F0 : List Nat} {d : Nat} {s : Dk} {fv dv v : Value} {fc : List (SV × Nat)} {es : List SV} {l : Dir} {G : List Nat} {R : Value → World → Prop}
theorem rf_with (sl : Slc encE 2 w v l G) (x : ByteArray × Nat) (hn : l.length < 1000000) (hR : ∀ (w' : World) (e : SV) (G' : List Nat), Slc encE 2 w' e.v (withD l x) G' → (∀ b ∈ G', hsz w ≤ b) → Fr [] w w' → R e.v w') : CALL PR F_tumbrelref06_with [v, .agg (encE x).toArray] w R := by
  refine C_tumbrelref06_with ?_
  unfold M_tumbrelref06_with
  refine NEW_intro fun w1 b1 f1 z1 => ?_
  replace b1 : blk w1 (hsz w) = some (.cells (encE x).toArray _ (0, 0)) := b1
  refine loop_up 0 l.length (fun i w' => Fr [] w1 w' ∧ ∀ y ∈ l.take i, bl y.1 x.1 = true) ⟨Fr.refl _ _, by simp⟩ (by omega) ?_
  rintro i w2 - hi ⟨f2, e2⟩ J m hJ
  have f12 := f1.trans' (f2.trans' (Fr.drew [] w2))
  have s2 := sl.fr f12 (by simp)
  have b2 := (f2.trans' (Fr.drew [] w2)).some (by simp) b1
  have g12 := f12.grow
  have fin : ∀ (_ : l.length ≤ i ∨ ∃ y, l[i]? = some y ∧ bl y.1 x.1 = false), (BND (newslice 74 #[(Value.string ByteArray.empty), (Value.int .i64 0)] 2 0 [] w2.drew) fun p_ => NEW p_ fun t23_32 w3 =>
      BND (slicev 2 v none (some (.int .i64 (i : Int)))) fun t26_33 =>
      APPEND 74 2 24 (Value.agg #[(Value.string ByteArray.empty), (Value.int .i64 0)]) t23_32 t26_33 w3 fun t27_34 w4 =>
      BND (slicev 2 v (some (.int .i64 (i : Int))) none) fun t34_35 =>
      BND (loadn 2 w4.drew (.pointer (some ⟨hsz w, 0, none⟩))) fun t29_36 =>
      BND (newslice 74 #[(Value.string ByteArray.empty), (Value.int .i64 0)] 2 1 [(0, 2, t29_36)] w4.drew) fun p_ => NEW p_ fun t30_37 w5 =>
      APPEND 74 2 24 (Value.agg #[(Value.string ByteArray.empty), (Value.int .i64 0)]) t27_34 t30_37 w5 fun t31_38 w6 =>
      APPEND 74 2 24 (Value.agg #[(Value.string ByteArray.empty), (Value.int .i64 0)]) t31_38 t34_35 w6 fun t35_39 w7 =>
      R t35_39 w7) := by
    intro hend
    have hw := withD_at e2 hend
    have ed : hsz w2.drew = hsz w2 := rfl
    have hG := s2.lt
    obtain ⟨va, ea, ca⟩ := s2.upto encE_len (n := i) hi .i64
    obtain ⟨vb, eb, cb⟩ := s2.from encE_len (n := i) hi .i64
    refine newnil_step encE fun t3 w3 s3 f3 z3 => ?_
    (repeat (first | refine BND_step ea ?_ | refine stp ?_ | (apply BND_inc; omega) | (apply BND_dec; omega) | refine BND_step (rfl : some _ = some _) ?_ | (apply cyes; first | assumption | omega) | (apply cno; first | assumption | omega) | refine (COND_true _ _).2 ?_ | refine (COND_false _ _).2 ?_ | simp (disch := first | assumption | omega) only [gs1, gs2, decide_true, decide_false, eq_self, beq_self_eq_true, Bool.not_true, Bool.not_false]))
    refine APPEND_slc s3 (ca w3 fun b hb => f3.keep b (hG b hb) (by simp)) encE_len encE_one rfl (by simp; omega) (by simp; omega) fun v4 w4 F4 s4 f4 sub4 => ?_
    rw [List.nil_append] at s4
    have sub4' : ∀ b ∈ F4, hsz w2.drew ≤ b := fun b hb => by
      rcases sub4 b hb with h | h
      · simp at h; omega
      · omega
    have f24 : Fr [] w2.drew w4.drew := (f3.trans f4 fun b hb => .inr (by simp at hb; omega)).trans' (Fr.drew _ _)
    have b4 := f24.some (by simp) b2
    (repeat (first | refine BND_step eb ?_ | refine BND_step (loadn_all b4 rfl) ?_ | refine stp ?_ | (apply BND_inc; omega) | (apply BND_dec; omega) | refine BND_step (rfl : some _ = some _) ?_ | (apply cyes; first | assumption | omega) | (apply cno; first | assumption | omega) | refine (COND_true _ _).2 ?_ | refine (COND_false _ _).2 ?_ | simp (disch := first | assumption | omega) only [gs1, gs2, decide_true, decide_false, eq_self, beq_self_eq_true, Bool.not_true, Bool.not_false]))
    refine push_step (enc := encE) (x := x) (s4.fr (Fr.drew [] _) (by simp)) encE_len encE_one rfl rfl (by omega) (by simp; omega) fun v6 w6 F6 s6 sub6 f6 => ?_
    have sub6' : ∀ b ∈ F6, hsz w2.drew ≤ b := fun b hb => by
      rcases sub6 b hb with h | h
      · exact sub4' b h
      · have := f24.grow; omega
    have f26 : Fr [] w2.drew w6 := f24.trans f6 fun b hb => .inr (sub4' b hb)
    refine APPEND_slc s6 (cb w6 fun b hb => f26.keep b (hG b hb) (by simp)) encE_len encE_one rfl (by simp; omega) (by simp; omega) fun v7 w7 F7 s7 f7 sub7 => ?_
    rw [← hw] at s7
    obtain ⟨e, rfl⟩ := slc_sv s7
    have f27 := f26.trans f7 fun b hb => .inr (sub6' b hb)
    refine hR w7 e F7 s7 (fun b hb => ?_) (f12.trans' f27)
    rcases sub7 b hb with h | h
    · have := sub6' b h; omega
    · have := f26.grow; omega
  by_cases hlt : i < l.length
  · have hx := List.getElem?_eq_getElem hlt
    generalize l[i] = y at hx
    obtain ⟨b, o, ia, _, _, l1⟩ := s2.arr.spot hx rfl .i64
    have elt := stlt y.1 x.1
    (repeat (first | refine BND_step sl.len ?_ | refine BND_step ia ?_ | (apply BND_step; exact (l1 (w' := w2.drew) rfl (j := 0) rfl)) | (apply BND_ld b2; exact rfl) | refine BND_step elt ?_ | refine stp ?_ | (apply BND_inc; omega) | (apply BND_dec; omega) | refine BND_step (rfl : some _ = some _) ?_ | (apply cyes; first | assumption | omega) | (apply cno; first | assumption | omega) | refine (COND_true _ _).2 ?_ | refine (COND_false _ _).2 ?_ | simp (disch := first | assumption | omega) only [gs1, gs2, decide_true, decide_false, eq_self, beq_self_eq_true, Bool.not_true, Bool.not_false]))
    cases hb : bl y.1 x.1 with
    | true =>
      (repeat (first | refine stp ?_ | (apply BND_inc; omega) | (apply BND_dec; omega) | refine BND_step (rfl : some _ = some _) ?_ | (apply cyes; first | assumption | omega) | (apply cno; first | assumption | omega) | refine (COND_true _ _).2 ?_ | refine (COND_false _ _).2 ?_ | simp (disch := first | assumption | omega) only [gs1, gs2, decide_true, decide_false, eq_self, beq_self_eq_true, Bool.not_true, Bool.not_false]))
      refine hJ _ hlt ⟨f2.trans' (Fr.drew _ _), fun z hz => ?_⟩
      rw [List.take_add_one, hx] at hz
      rcases List.mem_append.1 hz with hz | hz
      · exact e2 z hz
      · simp at hz; subst hz; exact hb
    | false =>
      (repeat (first | refine stp ?_ | (apply BND_inc; omega) | (apply BND_dec; omega) | refine BND_step (rfl : some _ = some _) ?_ | (apply cyes; first | assumption | omega) | (apply cno; first | assumption | omega) | refine (COND_true _ _).2 ?_ | refine (COND_false _ _).2 ?_ | simp (disch := first | assumption | omega) only [gs1, gs2, decide_true, decide_false, eq_self, beq_self_eq_true, Bool.not_true, Bool.not_false]))
      exact fin (.inr ⟨y, hx, hb⟩)
  · (repeat (first | refine BND_step sl.len ?_ | refine stp ?_ | (apply BND_inc; omega) | (apply BND_dec; omega) | refine BND_step (rfl : some _ = some _) ?_ | (apply cyes; first | assumption | omega) | (apply cno; first | assumption | omega) | refine (COND_true _ _).2 ?_ | refine (COND_false _ _).2 ?_ | simp (disch := first | assumption | omega) only [gs1, gs2, decide_true, decide_false, eq_self, beq_self_eq_true, Bool.not_true, Bool.not_false]))
    exact fin (.inl (by omega))
theorem rf_without (sl : Slc encE 2 w v l G) (n : ByteArray) (hn : l.length < 1000000) (hR : ∀ (w' : World) (e : SV) (G' : List Nat), Slc encE 2 w' e.v (without l n) G' → (∀ b ∈ G', hsz w ≤ b) → Fr [] w w' → R e.v w') : CALL PR F_tumbrelref06_without [v, .string n] w R := by
  refine C_tumbrelref06_without ?_
  unfold M_tumbrelref06_without
  refine newnil_step encE fun t1 w1 s1 f1 z1 => ?_
  refine loop_up2 (o := t1) 0 l.length (fun o i w' => ∃ H, Slc encE 2 w' o (without (l.take i) n) H ∧ (∀ b ∈ H, hsz w ≤ b) ∧ Fr [] w w') ⟨[hsz w], by simpa [without] using s1, by simp, f1⟩ (by omega) ?_
  rintro o i w2 - hi ⟨H, s2, h2, f2⟩ J m hJ
  by_cases hlt : i < l.length
  · have hx := List.getElem?_eq_getElem hlt
    generalize l[i] = y at hx
    have hst : without (l.take (i + 1)) n = without (l.take i) n ++ (if y.1 = n then [] else [y]) := by
      rw [List.take_add_one, hx]
      unfold without
      rw [List.filter_append]
      congr 1
      by_cases h : y.1 = n <;> simp [h]
    have hl2 : (without (l.take i) n).length < 1000000 := by have := len_without (l.take i) n; rw [List.length_take] at this; omega
    obtain ⟨b, o2, ia, ln, hbl, l1⟩ := (sl.fr f2 (by simp)).arr.spot hx rfl .i64
    (repeat (first | refine BND_step sl.len ?_ | refine BND_step ia ?_ | (apply BND_step; exact (l1 (w' := w2) rfl (j := 0) rfl)) | refine stp ?_ | (apply BND_inc; omega) | (apply BND_dec; omega) | refine BND_step (rfl : some _ = some _) ?_ | (apply cyes; first | assumption | omega) | (apply cno; first | assumption | omega) | refine (COND_true _ _).2 ?_ | refine (COND_false _ _).2 ?_ | simp (disch := first | assumption | omega) only [gs1, gs2, decide_true, decide_false, eq_self, beq_self_eq_true, Bool.not_true, Bool.not_false]))
    by_cases hy : y.1 = n
    · rw [if_pos hy, List.append_nil] at hst
      (repeat (first | refine stp ?_ | (apply BND_inc; omega) | (apply BND_dec; omega) | refine BND_step (rfl : some _ = some _) ?_ | (apply cyes; first | assumption | omega) | (apply cno; first | assumption | omega) | refine (COND_true _ _).2 ?_ | refine (COND_false _ _).2 ?_ | simp (disch := first | assumption | omega) only [gs1, gs2, decide_true, decide_false, eq_self, beq_self_eq_true, Bool.not_true, Bool.not_false]))
      refine join_v (Q := fun v w' => v = o ∧ w' = w2) (fun k hk => ?_) ?_
      · (repeat (first | refine stp ?_ | (apply BND_inc; omega) | (apply BND_dec; omega) | refine BND_step (rfl : some _ = some _) ?_ | (apply cyes; first | assumption | omega) | (apply cno; first | assumption | omega) | refine (COND_true _ _).2 ?_ | refine (COND_false _ _).2 ?_ | simp (disch := first | assumption | omega) only [gs1, gs2, decide_true, decide_false, eq_self, beq_self_eq_true, Bool.not_true, Bool.not_false]))
        exact hk _ _ ⟨rfl, rfl⟩
      · rintro v' w' ⟨rfl, rfl⟩
        (repeat (first | refine stp ?_ | (apply BND_inc; omega) | (apply BND_dec; omega) | refine BND_step (rfl : some _ = some _) ?_ | (apply cyes; first | assumption | omega) | (apply cno; first | assumption | omega) | refine (COND_true _ _).2 ?_ | refine (COND_false _ _).2 ?_ | simp (disch := first | assumption | omega) only [gs1, gs2, decide_true, decide_false, eq_self, beq_self_eq_true, Bool.not_true, Bool.not_false]))
        exact hJ _ _ hlt ⟨H, by rw [hst]; exact s2, h2, f2⟩
    · rw [if_neg hy] at hst
      (repeat (first | refine stp ?_ | (apply BND_inc; omega) | (apply BND_dec; omega) | refine BND_step (rfl : some _ = some _) ?_ | (apply cyes; first | assumption | omega) | (apply cno; first | assumption | omega) | refine (COND_true _ _).2 ?_ | refine (COND_false _ _).2 ?_ | simp (disch := first | assumption | omega) only [gs1, gs2, decide_true, decide_false, eq_self, beq_self_eq_true, Bool.not_true, Bool.not_false]))
      refine join_v (Q := fun v w' => ∃ H, Slc encE 2 w' v (without (l.take (i + 1)) n) H ∧ (∀ b ∈ H, hsz w ≤ b) ∧ Fr [] w w') (fun k hk => ?_) ?_
      · (repeat (first | refine BND_step ia ?_ | refine BND_step ln ?_ | refine stp ?_ | (apply BND_inc; omega) | (apply BND_dec; omega) | refine BND_step (rfl : some _ = some _) ?_ | (apply cyes; first | assumption | omega) | (apply cno; first | assumption | omega) | refine (COND_true _ _).2 ?_ | refine (COND_false _ _).2 ?_ | simp (disch := first | assumption | omega) only [gs1, gs2, decide_true, decide_false, eq_self, beq_self_eq_true, Bool.not_true, Bool.not_false]))
        refine push_step (enc := encE) (x := y) s2 encE_len encE_one rfl rfl (by omega) (by omega) fun v3 w3 F3 s3 sub3 f3 => ?_
        refine hk _ _ ⟨F3, by rw [hst]; exact s3, fun b hb => ?_, f2.trans f3 fun b hb => .inr (h2 b hb)⟩
        rcases sub3 b hb with h | h
        · exact h2 b h
        · have := f2.grow; omega
      · rintro v' w' h
        (repeat (first | refine stp ?_ | (apply BND_inc; omega) | (apply BND_dec; omega) | refine BND_step (rfl : some _ = some _) ?_ | (apply cyes; first | assumption | omega) | (apply cno; first | assumption | omega) | refine (COND_true _ _).2 ?_ | refine (COND_false _ _).2 ?_ | simp (disch := first | assumption | omega) only [gs1, gs2, decide_true, decide_false, eq_self, beq_self_eq_true, Bool.not_true, Bool.not_false]))
        exact hJ _ _ hlt h
  · (repeat (first | refine BND_step sl.len ?_ | refine stp ?_ | (apply BND_inc; omega) | (apply BND_dec; omega) | refine BND_step (rfl : some _ = some _) ?_ | (apply cyes; first | assumption | omega) | (apply cno; first | assumption | omega) | refine (COND_true _ _).2 ?_ | refine (COND_false _ _).2 ?_ | simp (disch := first | assumption | omega) only [gs1, gs2, decide_true, decide_false, eq_self, beq_self_eq_true, Bool.not_true, Bool.not_false]))
    rw [List.take_of_length_le (by omega)] at s2
    obtain ⟨e, rfl⟩ := slc_sv s2
    exact hR w2 e H s2 h2 f2
/-- the row of directories is given a new one. -/
theorem rf_dirs {K : World → Prop} {dv' : Value} {e : SV} {G1 G2 : List Nat} (h : At w0 F0 (stars (rfL d s fv dv fc es)) w) (f : Fr [] w w') (sv : Slc encV 1 w' dv' (es ++ [e]) G1) (h1 : ∀ b ∈ G1, hsz w ≤ b) (se : Slc encE 2 w' e.v l G2) (h2 : ∀ b ∈ G2, hsz w ≤ b)
    (hK : ∀ w'', At w0 F0 (rfHP d { s with dirs := s.dirs ++ [l] }) w'' → K w'') : BND (storev 1 w' (.pointer (some ⟨d, 2, none⟩)) dv') K := by
  have hn : (newHP dv' (es ++ [e]) e l).p w' (G1 ++ G2) := ⟨fun b hb => by
    rcases List.mem_append.1 hb with hb | hb
    · exact sv.lt b hb
    · exact se.lt b hb, ⟨G1, sv, fun b hb => by simp [hb]⟩, G2, se, fun b hb => by simp [hb]⟩
  have ha := h.add f hn (fun b hb => by
    rcases List.mem_append.1 hb with hb | hb
    · exact h1 b hb
    · exact h2 b hb)
  refine ha.store (i := 1) rfl sv.one (by simp [rfC]) fun w2 h3 _ => hK w2 (rf_shut (fv := fv) (dv := dv') (fc := fc) (es := es ++ [e]) (At.mono2 h3 fun F hF => ?_))
  obtain ⟨A, _, ⟨n1, ⟨G3, n2, n3⟩, G4, n4, n5⟩, ⟨A2, _, hp, ⟨A3, _, hs, ⟨A4, _, ⟨i1, ⟨G5, i2, i3⟩, i4, i5⟩, ⟨_, rfl⟩, rfl, d4⟩, rfl, d3⟩, rfl, d2⟩, rfl, d1⟩ := hF
  refine ⟨A2 ++ (A3 ++ ((A4 ++ A) ++ [])), ⟨A2, _, hp, ⟨A3, _, hs, ⟨A4 ++ A, [], ⟨fun b hb => ?_, ⟨G3, n2, fun b hb => by simp [n3 b hb]⟩, (i4.sub fun b hb => by simp [hb]).snoc n4 (fun b hb => by simp [n5 b hb]), i5.sub fun b hb => by simp [hb]⟩, ⟨trivial, rfl⟩, rfl, by simp⟩, rfl, fun b hb hb' => ?_⟩, rfl, fun b hb hb' => ?_⟩, fun b hb => ?_⟩
  · rcases List.mem_append.1 hb with hb | hb
    · exact i1 b hb
    · exact n1 b hb
  · simp only [List.append_nil, List.mem_append] at hb'
    rcases hb' with hb' | hb'
    · exact d3 b hb (by simp [hb'])
    · exact d1 b hb' (by simp [hb])
  · simp only [List.append_nil, List.mem_append] at hb'
    rcases hb' with hb' | hb' | hb'
    · exact d2 b hb (by simp [hb'])
    · exact d2 b hb (by simp [hb'])
    · exact d1 b hb' (by simp [hb])
  · simp only [List.append_nil, List.mem_append] at hb ⊢
    rcases hb with hb | hb | hb | hb <;> simp [hb]
/-- the row of directories is just one of them. -/
theorem rf_dir1 {K : World → Prop} {dv' : Value} {e : SV} {G1 : List Nat} {i : Nat} (h : At w0 F0 (stars (rfL d s fv dv fc es)) w) (f : Fr [] w w') (sv : Slc encV 1 w' dv' [e] G1) (h1 : ∀ b ∈ G1, hsz w ≤ b) (he : es[i]? = some e) (hl : s.dirs[i]? = some l)
    (hK : ∀ w'', At w0 F0 (stars (rfL d { s with dirs := [l] } fv dv' fc [e])) w'' → K w'') : BND (storev 1 w' (.pointer (some ⟨d, 2, none⟩)) dv') K := by
  have ha := h.add f (P := slc encV 1 dv' [e]) sv h1
  refine ha.store (i := 1) rfl sv.one (by simp [rfC]) fun w2 h3 _ => hK w2 (At.mono2 h3 fun F hF => ?_)
  obtain ⟨A, _, n2, ⟨A2, _, hp, ⟨A3, _, hs, ⟨A4, _, ⟨i1, ⟨G5, i2, i3⟩, i4, i5⟩, ⟨_, rfl⟩, rfl, d4⟩, rfl, d3⟩, rfl, d2⟩, rfl, d1⟩ := hF
  replace n2 : Slc encV 1 w2 dv' [e] A := n2
  obtain ⟨e', G', q1, q2, q3⟩ := i4.2 i l hl
  rw [he] at q1
  cases q1
  refine ⟨A2 ++ (A3 ++ ((A4 ++ A) ++ [])), ⟨A2, _, hp, ⟨A3, _, hs, ⟨A4 ++ A, [], ⟨fun b hb => ?_, ⟨A, n2, fun b hb => by simp [hb]⟩, Ents.one q2 (fun b hb => by simp [q3 b hb]), i5.sub fun b hb => by simp [hb]⟩, ⟨trivial, rfl⟩, rfl, by simp⟩, rfl, fun b hb hb' => ?_⟩, rfl, fun b hb hb' => ?_⟩, fun b hb => ?_⟩
  · rcases List.mem_append.1 hb with hb | hb
    · exact i1 b hb
    · exact n2.lt b hb
  · simp only [List.append_nil, List.mem_append] at hb'
    rcases hb' with hb' | hb'
    · exact d3 b hb (by simp [hb'])
    · exact d1 b hb' (by simp [hb])
  · simp only [List.append_nil, List.mem_append] at hb'
    rcases hb' with hb' | hb' | hb'
    · exact d2 b hb (by simp [hb'])
    · exact d2 b hb (by simp [hb'])
    · exact d1 b hb' (by simp [hb])
  · simp only [List.append_nil, List.mem_append] at hb ⊢
    rcases hb with hb | hb | hb | hb <;> simp [hb]
/-- the row of files is another one. -/
theorem rf_files {K : World → Prop} {fv' : Value} {v : SV} {x : Fl} {G1 : List Nat} (h : At w0 F0 (stars (rfL d s fv dv fc es)) w) (f : Fr [] w w') (sv : Slc encG 2 w' fv' (fc ++ [(v, x.sure)]) G1) (h1 : ∀ b ∈ G1, hsz w ≤ b) (hx : ∀ w'', Slc encB 1 w'' v.v x.b [])
    (hK : ∀ w'', At w0 F0 (stars (rfL d { s with files := s.files ++ [x] } fv' dv (fc ++ [(v, x.sure)]) es)) w'' → K w'') : BND (storev 1 w' (.pointer (some ⟨d, 1, none⟩)) fv') K := by
  have ha := h.add f (P := slc encG 2 fv' (fc ++ [(v, x.sure)])) sv h1
  refine ha.store (i := 1) rfl sv.one (by simp [rfC]) fun w2 h3 _ => hK w2 (At.mono2 h3 fun F hF => ?_)
  obtain ⟨A, _, n2, ⟨A2, _, hp, ⟨A3, _, hs, ⟨A4, _, ⟨i1, ⟨G5, i2, i3⟩, i4, i5⟩, ⟨_, rfl⟩, rfl, d4⟩, rfl, d3⟩, rfl, d2⟩, rfl, d1⟩ := hF
  refine ⟨A2 ++ (A ++ (A4 ++ [])), ⟨A2, _, hp, ⟨A, _, n2, ⟨A4, [], ⟨i1, ⟨G5, i2, i3⟩, i4, i5.snoc (hx w2) (by simp)⟩, ⟨trivial, rfl⟩, rfl, by simp⟩, rfl, fun b hb hb' => ?_⟩, rfl, fun b hb hb' => ?_⟩, fun b hb => ?_⟩
  · exact d1 b hb (by simp only [List.append_nil, List.mem_append] at hb' ⊢; simp [hb'])
  · simp only [List.append_nil, List.mem_append] at hb'
    rcases hb' with hb' | hb'
    · exact d1 b hb' (by simp [hb])
    · exact d2 b hb (by simp [hb'])
  · simp only [List.append_nil, List.mem_append] at hb ⊢
    rcases hb with hb | hb | hb <;> simp [hb]
end
end Go.Proofs.Ytpefokoiioeomaa
