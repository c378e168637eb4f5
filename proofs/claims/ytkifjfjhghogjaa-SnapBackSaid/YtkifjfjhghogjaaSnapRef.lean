/- By the document: numbers and records compared; Save: the records of any snapshot. No condition but sizes. -/
import Derived.Test.YtkifjfjhghogjaaSnapLoad
import Derived.Test.YtkifjfjhghogjaaMa
namespace Go.Proofs.Ytkifjfjhghogjaa
open Go.Den
set_option linter.unusedSimpArgs false
set_option linter.unusedVariables false
set_option maxRecDepth 20000
set_option maxHeartbeats 4000000
attribute [local congr] BND_cg COND_cg GEF_cg
attribute [local irreducible] load1 loadn iaddr iaddra faddr storev newslice binv lookv mupd mdel mlenv mentry mestore slicev slicev3 slices indexs indexav textv rangev nexts clearv shiftv eqaggv convi buildv pickv lens lenl unv nilchk extractv partn JOIN
section
variable {w : World} {R : Value → World → Prop}
theorem r2_Same {a b : Value} {xs ys : List Int} (ha : Arr encU 1 w a xs) (hb : Arr encU 1 w b ys) (hn : xs.length < 1000000000) (hR : ∀ w', Fr [] w w' → R (.bool (decide (xs = ys))) w') :
    CALL PR F_tumbrelref02_Same [a, b] w R := by
  refine C_tumbrelref02_Same ?_
  unfold M_tumbrelref02_Same
  by_cases hl : xs.length = ys.length
  · (repeat (first | refine BND_step ha.len ?_ | refine BND_step hb.len ?_ | refine stp ?_ | (apply BND_inc; omega) | (apply BND_dec; omega) | refine BND_step rfl ?_ | (apply cyes; first | assumption | omega) | (apply cno; first | assumption | omega) | refine (COND_true _ _).2 ?_ | refine (COND_false _ _).2 ?_ | simp (disch := first | assumption | omega) only [gs1, gs2, decide_true, decide_false, eq_self, beq_self_eq_true, Bool.not_true, Bool.not_false]))
    refine loop_up 0 xs.length (fun i w' => Fr [] w w' ∧ xs.take i = ys.take i) ⟨Fr.refl _ _, rfl⟩ (by omega) ?_
    rintro i w1 - hi ⟨f1, e⟩ J m hJ
    by_cases hlt : i < xs.length
    · have hx := List.getElem?_eq_getElem hlt
      have hy := List.getElem?_eq_getElem (l := ys) (i := i) (by omega)
      obtain ⟨b1, o1, i1, _, _, l1⟩ := (ha.fr f1 (by simp)).spot hx rfl .i64
      obtain ⟨b2, o2, i2, _, _, l2⟩ := (hb.fr f1 (by simp)).spot hy rfl .i64
      (repeat (first | refine BND_step ha.len ?_ | refine BND_step i1 ?_ | refine BND_step i2 ?_ | refine BND_step (l1 (w' := w1.drew) rfl (j := 0) rfl) ?_ | refine BND_step (l2 (w' := w1.drew) rfl (j := 0) rfl) ?_ | refine stp ?_ | (apply BND_inc; omega) | (apply BND_dec; omega) | refine BND_step rfl ?_ | (apply cyes; first | assumption | omega) | (apply cno; first | assumption | omega) | refine (COND_true _ _).2 ?_ | refine (COND_false _ _).2 ?_ | simp (disch := first | assumption | omega) only [gs1, gs2, decide_true, decide_false, eq_self, beq_self_eq_true, Bool.not_true, Bool.not_false]))
      by_cases he : xs[i] = ys[i]
      · (repeat (first | refine stp ?_ | (apply BND_inc; omega) | (apply BND_dec; omega) | refine BND_step rfl ?_ | (apply cyes; first | assumption | omega) | (apply cno; first | assumption | omega) | refine (COND_true _ _).2 ?_ | refine (COND_false _ _).2 ?_ | simp (disch := first | assumption | omega) only [gs1, gs2, decide_true, decide_false, eq_self, beq_self_eq_true, Bool.not_true, Bool.not_false]))
        refine hJ _ hlt ⟨f1.trans' (Fr.drew _ _), ?_⟩
        rw [List.take_add_one, List.take_add_one, hx, hy, e, he]
      · (repeat (first | refine stp ?_ | (apply BND_inc; omega) | (apply BND_dec; omega) | refine BND_step rfl ?_ | (apply cyes; first | assumption | omega) | (apply cno; first | assumption | omega) | refine (COND_true _ _).2 ?_ | refine (COND_false _ _).2 ?_ | simp (disch := first | assumption | omega) only [gs1, gs2, decide_true, decide_false, eq_self, beq_self_eq_true, Bool.not_true, Bool.not_false]))
        have := hR _ (f1.trans' (Fr.drew _ _))
        rwa [decide_eq_false (fun h => he (by subst h; rfl))] at this
    · (repeat (first | refine BND_step ha.len ?_ | refine stp ?_ | (apply BND_inc; omega) | (apply BND_dec; omega) | refine BND_step rfl ?_ | (apply cyes; first | assumption | omega) | (apply cno; first | assumption | omega) | refine (COND_true _ _).2 ?_ | refine (COND_false _ _).2 ?_ | simp (disch := first | assumption | omega) only [gs1, gs2, decide_true, decide_false, eq_self, beq_self_eq_true, Bool.not_true, Bool.not_false]))
      have := hR _ f1
      rw [List.take_of_length_le (by omega), List.take_of_length_le (by omega)] at e
      rwa [decide_eq_true e] at this
  · (repeat (first | refine BND_step ha.len ?_ | refine BND_step hb.len ?_ | refine stp ?_ | (apply BND_inc; omega) | (apply BND_dec; omega) | refine BND_step rfl ?_ | (apply cyes; first | assumption | omega) | (apply cno; first | assumption | omega) | refine (COND_true _ _).2 ?_ | refine (COND_false _ _).2 ?_ | simp (disch := first | assumption | omega) only [gs1, gs2, decide_true, decide_false, eq_self, beq_self_eq_true, Bool.not_true, Bool.not_false]))
    have := hR _ (Fr.refl _ _)
    rwa [decide_eq_false (fun h => hl (by rw [h]))] at this
theorem r5_Same {a b : Value} {xs ys : List LRec} (ha : RecsR w a xs) (hb : RecsR w b ys) (hn : xs.length < 1000000000) (hns : NsSmall xs) (hR : ∀ w', Fr [] w w' → R (.bool (decide (xs = ys))) w') :
    CALL PR F_tumbrelref05_Same [a, b] w R := by
  refine C_tumbrelref05_Same ?_
  unfold M_tumbrelref05_Same
  by_cases hl : xs.length = ys.length
  · (repeat (first | refine BND_step ha.len ?_ | refine BND_step hb.len ?_ | refine stp ?_ | (apply BND_inc; omega) | (apply BND_dec; omega) | refine BND_step rfl ?_ | (apply cyes; first | assumption | omega) | (apply cno; first | assumption | omega) | refine (COND_true _ _).2 ?_ | refine (COND_false _ _).2 ?_ | simp (disch := first | assumption | omega) only [gs1, gs2, decide_true, decide_false, eq_self, beq_self_eq_true, Bool.not_true, Bool.not_false]))
    refine loop_up 0 xs.length (fun i w' => Fr [] w w' ∧ xs.take i = ys.take i) ⟨Fr.refl _ _, rfl⟩ (by omega) ?_
    rintro i w1 - hi ⟨f1, e⟩ J m hJ
    by_cases hlt : i < xs.length
    · have hx := List.getElem?_eq_getElem hlt
      have hy := List.getElem?_eq_getElem (l := ys) (i := i) (by omega)
      have fd := f1.trans' (Fr.drew [] w1)
      obtain ⟨r1, b1, o1, ⟨k1, t1, n1⟩, i1, _, _, l1⟩ := (ha.fr0 fd).spot hx
      obtain ⟨r2, b2, o2, ⟨k2, t2, n2⟩, i2, _, _, l2⟩ := (hb.fr0 fd).spot hy
      have no : ∀ w', Fr [] w w' → ¬ xs[i] = ys[i] → R (.bool false) w' := fun w' f he => by
        have := hR _ f
        rwa [decide_eq_false (fun h => he (by subst h; rfl))] at this
      (repeat (first | refine BND_step ha.len ?_ | refine BND_step i1 ?_ | refine BND_step i2 ?_ | refine BND_step (l1 (w' := w1.drew) rfl (j := 0) rfl) ?_ | refine BND_step (l2 (w' := w1.drew) rfl (j := 0) rfl) ?_ | refine stp ?_ | (apply BND_inc; omega) | (apply BND_dec; omega) | refine BND_step rfl ?_ | (apply cyes; first | assumption | omega) | (apply cno; first | assumption | omega) | refine (COND_true _ _).2 ?_ | refine (COND_false _ _).2 ?_ | simp (disch := first | assumption | omega) only [gs1, gs2, decide_true, decide_false, eq_self, beq_self_eq_true, Bool.not_true, Bool.not_false]))
      by_cases hk : r1.k = r2.k
      · (repeat (first | refine BND_step i1 ?_ | refine BND_step i2 ?_ | refine BND_step (l1 (w' := w1.drew) rfl (j := 2) rfl) ?_ | refine BND_step (l2 (w' := w1.drew) rfl (j := 2) rfl) ?_ | refine stp ?_ | (apply BND_inc; omega) | (apply BND_dec; omega) | refine BND_step rfl ?_ | (apply cyes; first | assumption | omega) | (apply cno; first | assumption | omega) | refine (COND_true _ _).2 ?_ | refine (COND_false _ _).2 ?_ | simp (disch := first | assumption | omega) only [gs1, gs2, decide_true, decide_false, eq_self, beq_self_eq_true, Bool.not_true, Bool.not_false]))
        by_cases ht : r1.t = r2.t
        · (repeat (first | refine BND_step i1 ?_ | refine BND_step i2 ?_ | refine BND_step (l1 (w' := w1.drew) rfl (j := 1) rfl) ?_ | refine BND_step (l2 (w' := w1.drew) rfl (j := 1) rfl) ?_ | refine stp ?_ | (apply BND_inc; omega) | (apply BND_dec; omega) | refine BND_step rfl ?_ | (apply cyes; first | assumption | omega) | (apply cno; first | assumption | omega) | refine (COND_true _ _).2 ?_ | refine (COND_false _ _).2 ?_ | simp (disch := first | assumption | omega) only [gs1, gs2, decide_true, decide_false, eq_self, beq_self_eq_true, Bool.not_true, Bool.not_false]))
          refine r2_Same n1 n2 (hns _ (List.mem_of_getElem? hx)) fun w2 f2 => ?_
          by_cases he : xs[i].ns = ys[i].ns
          · (repeat (first | refine stp ?_ | (apply BND_inc; omega) | (apply BND_dec; omega) | refine BND_step rfl ?_ | (apply cyes; first | assumption | omega) | (apply cno; first | assumption | omega) | refine (COND_true _ _).2 ?_ | refine (COND_false _ _).2 ?_ | simp (disch := first | assumption | omega) only [gs1, gs2, decide_true, decide_false, eq_self, beq_self_eq_true, Bool.not_true, Bool.not_false]))
            refine hJ _ hlt ⟨fd.trans' f2, ?_⟩
            have : xs[i] = ys[i] := by
              cases h1 : xs[i]; cases h2 : ys[i]
              rw [h1] at k1 t1 he; rw [h2] at k2 t2 he
              simp only at k1 t1 k2 t2 he
              rw [← k1, ← t1, ← k2, ← t2, hk, ht, he]
            rw [List.take_add_one, List.take_add_one, hx, hy, e, this]
          · (repeat (first | refine stp ?_ | (apply BND_inc; omega) | (apply BND_dec; omega) | refine BND_step rfl ?_ | (apply cyes; first | assumption | omega) | (apply cno; first | assumption | omega) | refine (COND_true _ _).2 ?_ | refine (COND_false _ _).2 ?_ | simp (disch := first | assumption | omega) only [gs1, gs2, decide_true, decide_false, eq_self, beq_self_eq_true, Bool.not_true, Bool.not_false]))
            exact no _ (fd.trans' f2) fun h => he (by rw [h])
        · (repeat (first | refine stp ?_ | (apply BND_inc; omega) | (apply BND_dec; omega) | refine BND_step rfl ?_ | (apply cyes; first | assumption | omega) | (apply cno; first | assumption | omega) | refine (COND_true _ _).2 ?_ | refine (COND_false _ _).2 ?_ | simp (disch := first | assumption | omega) only [gs1, gs2, decide_true, decide_false, eq_self, beq_self_eq_true, Bool.not_true, Bool.not_false]))
          exact no _ fd fun h => ht (by rw [t1, t2, h])
      · (repeat (first | refine stp ?_ | (apply BND_inc; omega) | (apply BND_dec; omega) | refine BND_step rfl ?_ | (apply cyes; first | assumption | omega) | (apply cno; first | assumption | omega) | refine (COND_true _ _).2 ?_ | refine (COND_false _ _).2 ?_ | simp (disch := first | assumption | omega) only [gs1, gs2, decide_true, decide_false, eq_self, beq_self_eq_true, Bool.not_true, Bool.not_false]))
        exact no _ fd fun h => hk (by rw [k1, k2, h])
    · (repeat (first | refine BND_step ha.len ?_ | refine stp ?_ | (apply BND_inc; omega) | (apply BND_dec; omega) | refine BND_step rfl ?_ | (apply cyes; first | assumption | omega) | (apply cno; first | assumption | omega) | refine (COND_true _ _).2 ?_ | refine (COND_false _ _).2 ?_ | simp (disch := first | assumption | omega) only [gs1, gs2, decide_true, decide_false, eq_self, beq_self_eq_true, Bool.not_true, Bool.not_false]))
      have := hR _ f1
      rw [List.take_of_length_le (by omega), List.take_of_length_le (by omega)] at e
      rwa [decide_eq_true e] at this
  · (repeat (first | refine BND_step ha.len ?_ | refine BND_step hb.len ?_ | refine stp ?_ | (apply BND_inc; omega) | (apply BND_dec; omega) | refine BND_step rfl ?_ | (apply cyes; first | assumption | omega) | (apply cno; first | assumption | omega) | refine (COND_true _ _).2 ?_ | refine (COND_false _ _).2 ?_ | simp (disch := first | assumption | omega) only [gs1, gs2, decide_true, decide_false, eq_self, beq_self_eq_true, Bool.not_true, Bool.not_false]))
    have := hR _ (Fr.refl _ _)
    rwa [decide_eq_false (fun h => hl (by rw [h]))] at this
theorem r13_small (n : Int) (hR : R (.bool (smallI n)) w) : CALL PR F_tumbrelref13_small [.int .i64 n] w R := by
  refine C_tumbrelref13_small ?_
  unfold M_tumbrelref13_small
  unfold smallI at hR
  by_cases h : 0 ≤ n
  · simp only [h, decide_true, Bool.true_and] at hR
    (repeat (first | refine stp ?_ | (apply BND_inc; omega) | (apply BND_dec; omega) | refine BND_step rfl ?_ | (apply cyes; first | assumption | omega) | (apply cno; first | assumption | omega) | refine (COND_true _ _).2 ?_ | refine (COND_false _ _).2 ?_ | simp (disch := first | assumption | omega) only [gs1, gs2, decide_true, decide_false, eq_self, beq_self_eq_true, Bool.not_true, Bool.not_false]))
    exact hR
  · simp only [h, decide_false, Bool.false_and] at hR
    (repeat (first | refine stp ?_ | (apply BND_inc; omega) | (apply BND_dec; omega) | refine BND_step rfl ?_ | (apply cyes; first | assumption | omega) | (apply cno; first | assumption | omega) | refine (COND_true _ _).2 ?_ | refine (COND_false _ _).2 ?_ | simp (disch := first | assumption | omega) only [gs1, gs2, decide_true, decide_false, eq_self, beq_self_eq_true, Bool.not_true, Bool.not_false]))
    exact hR

/-! ## Records put behind others -/
structure OutR (w0 w : World) (v : Value) (ls : List LRec) : Prop where
  h : ∃ rs F, Slc encR 3 w v rs F ∧ (∀ b ∈ F, hsz w0 ≤ b) ∧ rs.length = ls.length ∧ ∀ (i : Nat) r l, rs[i]? = some r → ls[i]? = some l → r.k = l.k ∧ r.t = l.t ∧ ∃ G, Slc encU 1 w r.nv l.ns G ∧ ∀ b ∈ G, b ∉ F
  fr : Fr [] w0 w
theorem OutR.fr0 {w0 w' : World} {v : Value} {ls : List LRec} (h : OutR w0 w v ls) (f : Fr [] w w') : OutR w0 w' v ls := by
  obtain ⟨⟨rs, F, h1, h2, h3, h4⟩, h5⟩ := h
  refine ⟨⟨rs, F, h1.fr f (by simp), h2, h3, fun i r l hr hl => ?_⟩, h5.trans' f⟩
  obtain ⟨a, b, G, c, d⟩ := h4 i r l hr hl
  exact ⟨a, b, G, c.fr f (by simp), d⟩
theorem OutR.recs {w0 : World} {v : Value} {ls : List LRec} (h : OutR w0 w v ls) : RecsR w v ls := by
  obtain ⟨⟨rs, F, h1, h2, h3, h4⟩, h5⟩ := h
  refine ⟨rs, h1.arr, h3, fun i r l hr hl => ?_, h1.capd⟩
  obtain ⟨a, b, G, c, _⟩ := h4 i r l hr hl
  exact ⟨a, b, c.arr⟩
theorem OutR.none (w : World) : OutR w w (.slice .none 0 0) [] := ⟨⟨[], [], Slc.nil _ _ _, by simp, rfl, fun i r l hr => by simp at hr⟩, Fr.refl _ _⟩
theorem OutR.one {w0 w1 : World} {v : Value} {r : Rec} {l : LRec} {G : List Nat} (f : Fr [] w0 w1) (hr : r.k = l.k ∧ r.t = l.t) (hs : Slc encU 1 w1 r.nv l.ns G) (hv : Slc encR 3 w1 v [r] [hsz w]) (hw : hsz w0 ≤ hsz w) (hG : ∀ b ∈ G, b < hsz w) : OutR w0 w1 v [l] := by
  refine ⟨⟨[r], _, hv, by simpa using hw, rfl, fun i r' l' h1 h2 => ?_⟩, f⟩
  cases i with
  | zero =>
    simp at h1 h2; subst h1; subst h2
    exact ⟨hr.1, hr.2, G, hs, fun b hb hb' => by simp at hb'; have := hG b hb; omega⟩
  | succ i => simp at h1
/-- a record is put behind. -/
theorem OutR.push {w0 w1 : World} {v : Value} {ls : List LRec} (h : OutR w0 w v ls) (f : Fr [] w w1) (hn : ls.length < 1000000) {r : Rec} {l : LRec} {G : List Nat} (hr : r.k = l.k ∧ r.t = l.t) (hs : Slc encU 1 w1 r.nv l.ns G) (hG : ∀ b ∈ G, hsz w ≤ b)
    {E E2 bytes : Nat} {zero : Array Value} {z2 : Value} (hz2 : z2.cells.size = 3) (hb : bytes ≤ 1000) {K : Value → World → Prop} (hK : ∀ v' w', OutR w0 w' v' (ls ++ [l]) → K v' w') :
    BND (newslice E zero 3 1 [(0, 3, .agg (encR r).toArray)] w1) fun p => NEW p fun u w2 => APPEND E2 3 bytes z2 v u w2 K := by
  obtain ⟨⟨rs, F, h1, h2, h3, h4⟩, h5⟩ := h
  refine newone_step encR_len rfl fun u w2 s2 f2 z2 => ?_
  have fa := f.trans' f2
  refine APPEND_slc (h1.fr fa (by simp)) (s2.loads encR_len) encR_len encR_one hz2 (Nat.le_trans (Nat.mul_le_mul_left _ hb) (by simp; omega)) (by simp; omega) fun v' w3 F' s3 f3 sub => hK v' w3 ?_
  have l1 := h1.lt
  have gra := fa.grow
  have gr5 := h5.grow
  have keep : ∀ (xv : Value) (xs : List Int) (X : List Nat), Slc encU 1 w2 xv xs X → (∀ b ∈ X, b ∉ F) → (∀ b ∈ X, b < hsz w2) → Slc encU 1 w3 xv xs X ∧ ∀ b ∈ X, b ∉ F' := by
    intro xv xs X hx hd hl
    refine ⟨hx.fr f3 hd, fun b hb hb' => ?_⟩
    rcases sub b hb' with hx' | hx'
    · exact hd b hb hx'
    · have := hl b hb; omega
  refine ⟨⟨rs ++ [r], F', s3, fun b hb => ?_, by simp [h3], fun i r' l' hr' hl' => ?_⟩, (h5.trans' fa).trans f3 fun b hb => .inr (h2 b hb)⟩
  · rcases sub b hb with hx | hx
    · exact h2 b hx
    · omega
  · by_cases hi : i < rs.length
    · rw [List.getElem?_append_left hi] at hr'
      rw [List.getElem?_append_left (by omega)] at hl'
      obtain ⟨a, b, X, c, d⟩ := h4 i r' l' hr' hl'
      obtain ⟨y1, y2⟩ := keep _ _ _ (c.fr fa (by simp)) d (fun b hb => Nat.lt_of_lt_of_le (c.lt b hb) gra)
      exact ⟨a, b, X, y1, y2⟩
    · have hi' : i = rs.length := by
        have := (List.getElem?_eq_some_iff.1 hr').1
        simp at this; omega
      subst hi'
      rw [List.getElem?_append_right (by omega)] at hr' hl'
      rw [h3] at hl'
      simp at hr' hl'
      subst hr'; subst hl'
      obtain ⟨y1, y2⟩ := keep _ _ _ (hs.fr f2 (by simp)) (fun b hb hb' => by have := hG b hb; have := l1 b hb'; omega) (fun b hb => Nat.lt_of_lt_of_le (hs.lt b hb) f2.grow)
      exact ⟨hr.1, hr.2, G, y1, y2⟩
end
/-- a record as it is put together. -/
theorem mkRec {nv : Value} {ns : List Int} {G : List Nat} {w : World} (hs : Slc encU 1 w nv ns G) (k : Int) (t : ByteArray) : ∃ r : Rec, r.nv = nv ∧ r.k = k ∧ r.t = t ∧
    (∀ z, buildv #[.int .i64 0, .slice none 0 0, .string z] [(0, 1, .int .i64 k), (1, 1, nv), (2, 1, .string t)] = some (.agg (encR r).toArray)) ∧
    buildv #[.int .i64 0, .slice none 0 0, .string t] [(0, 1, .int .i64 k), (1, 1, nv)] = some (.agg (encR r).toArray) := by
  obtain ⟨a, c, e, _⟩ := hs.arr
  subst e
  exact ⟨⟨k, a, ns.length, c, t⟩, rfl, rfl, rfl, fun z => build_at rfl, build_at rfl⟩
end Go.Proofs.Ytkifjfjhghogjaa
