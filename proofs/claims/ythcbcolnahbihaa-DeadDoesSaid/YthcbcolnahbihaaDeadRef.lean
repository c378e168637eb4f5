/- The document's list of the dead: what it is in memory; own, same; From. No condition but sizes. -/
import Derived.Test.YthcbcolnahbihaaDeadLaw
import Derived.Test.YthcbcolnahbihaaMa
namespace Go.Proofs.Ythcbcolnahbihaa
open Go.Den

def RefOwn (w : World) (d : Nat) (rows : List Row) (last : Int) (seen : Seen) (F : List Nat) : Prop :=
  ∃ sv sc Fa Fc T, blk w d = some (.cells #[sv, .int .u64 last, sc] T (0, 0)) ∧ Slc encRow 2 w sv rows Fa ∧ Slc encC 2 w sc seen Fc ∧ F = d :: (Fa ++ Fc) ∧ d ∉ Fa ∧ d ∉ Fc ∧ ∀ b ∈ Fa, b ∉ Fc
section
variable {w w' : World} {d : Nat} {rows : List Row} {last : Int} {seen : Seen} {F G : List Nat}
theorem RefOwn.fr (h : RefOwn w d rows last seen F) (hf : Fr G w w') (hd : ∀ b ∈ F, b ∉ G) : RefOwn w' d rows last seen F := by
  obtain ⟨sv, sc, Fa, Fc, T, h1, h2, h3, rfl, h5, h6, h7⟩ := h
  exact ⟨sv, sc, Fa, Fc, T, hf.some (hd _ (by simp)) h1, h2.fr hf (fun b hb => hd b (by simp [hb])), h3.fr hf (fun b hb => hd b (by simp [hb])), rfl, h5, h6, h7⟩
theorem RefOwn.fr0 (h : RefOwn w d rows last seen F) (hf : Fr [] w w') : RefOwn w' d rows last seen F := h.fr hf (by simp)
theorem RefOwn.lt (h : RefOwn w d rows last seen F) : ∀ b ∈ F, b < hsz w := by
  obtain ⟨sv, sc, Fa, Fc, T, h1, h2, h3, rfl, h5, h6, h7⟩ := h
  intro b hb
  rcases List.mem_cons.1 hb with rfl | hb
  · exact blk_lt h1
  rcases List.mem_append.1 hb with hb | hb
  · exact h2.lt b hb
  · exact h3.lt b hb
/-- one of d's cells is stored to. -/
theorem ref_store0 {sv sv' sc : Value} {T : Nat} {Fa Fc : List Nat} {rows : List Row} (h1 : blk w d = some (.cells #[sv, .int .u64 last, sc] T (0, 0))) (h2 : Slc encRow 2 w sv' rows Fa) (h3 : Slc encC 2 w sc seen Fc) (h5 : d ∉ Fa) (h6 : d ∉ Fc) (h7 : ∀ b ∈ Fa, b ∉ Fc) :
    ∃ w', storev 1 w (.pointer (some ⟨d, 0, none⟩)) sv' = some w' ∧ RefOwn w' d rows last seen (d :: (Fa ++ Fc)) ∧ Fr [d] w w' := by
  have f : Fr [d] w (setB w d (.cells (#[sv, .int .u64 last, sc].setIfInBounds 0 sv') T (0, 0))) := Fr.setB (.inl (by simp)) _
  exact ⟨_, storev1_blk h1 (by simp) h2.one.1 h2.one.2, ⟨sv', sc, Fa, Fc, T, blk_setB_same h1, h2.fr f (fun b hb => by simp; rintro rfl; exact h5 hb), h3.fr f (fun b hb => by simp; rintro rfl; exact h6 hb), rfl, h5, h6, h7⟩, f⟩
theorem ref_store2 {sv sc sc' : Value} {T : Nat} {Fa Fc : List Nat} {seen : Seen} (h1 : blk w d = some (.cells #[sv, .int .u64 last, sc] T (0, 0))) (h2 : Slc encRow 2 w sv rows Fa) (h3 : Slc encC 2 w sc' seen Fc) (h5 : d ∉ Fa) (h6 : d ∉ Fc) (h7 : ∀ b ∈ Fa, b ∉ Fc) :
    ∃ w', storev 1 w (.pointer (some ⟨d, 2, none⟩)) sc' = some w' ∧ RefOwn w' d rows last seen (d :: (Fa ++ Fc)) ∧ Fr [d] w w' := by
  have f : Fr [d] w (setB w d (.cells (#[sv, .int .u64 last, sc].setIfInBounds 2 sc') T (0, 0))) := Fr.setB (.inl (by simp)) _
  exact ⟨_, storev1_blk h1 (by simp) h3.one.1 h3.one.2, ⟨sv, sc', Fa, Fc, T, blk_setB_same h1, h2.fr f (fun b hb => by simp; rintro rfl; exact h5 hb), h3.fr f (fun b hb => by simp; rintro rfl; exact h6 hb), rfl, h5, h6, h7⟩, f⟩
theorem ref_store1 {l' : Int} (h : RefOwn w d rows last seen F) : ∃ w', storev 1 w (.pointer (some ⟨d, 1, none⟩)) (.int .u64 l') = some w' ∧ RefOwn w' d rows l' seen F ∧ Fr [d] w w' := by
  obtain ⟨sv, sc, Fa, Fc, T, h1, h2, h3, rfl, h5, h6, h7⟩ := h
  have f : Fr [d] w (setB w d (.cells (#[sv, .int .u64 last, sc].setIfInBounds 1 (.int .u64 l')) T (0, 0))) := Fr.setB (.inl (by simp)) _
  exact ⟨_, storev1_blk h1 (by simp) rfl rfl, ⟨sv, sc, Fa, Fc, T, blk_setB_same h1, h2.fr f (fun b hb => by simp; rintro rfl; exact h5 hb), h3.fr f (fun b hb => by simp; rintro rfl; exact h6 hb), rfl, h5, h6, h7⟩, f⟩
end

section
variable {w : World} {R : Value → World → Prop}
/-! ## Rows, Cursors: are they the same? -/
theorem cmp_body {α : Type} [DecidableEq α] {enc : α → List Value} (hl : ∀ x, (enc x).length = 2) {ks : List (Nat × TypeDesc)} (hks : ∀ x y, eqaggv ks .neq (.agg (enc x).toArray) (.agg (enc y).toArray) = some (.bool !(decide (x = y))))
    {a b : Value} {xs ys : List α} (ha : Arr enc 2 w a xs) (hb : Arr enc 2 w b ys) (hn : xs.length < 1000000000) (hR : ∀ w', Fr [] w w' → R (.bool (decide (xs = ys))) w') :
    BND (lenl a) fun t7 => BND (lenl b) fun t9 => BND (binv .int .neq t7 t9) fun t10 => COND t10 (R (Value.bool false) w)
    (∃ (J : Value → World → Prop) (m : Value → World → Nat), J (Value.int .i64 0) w ∧ ∀ (_d : Env) (i : Value) (w1 : World), J i w1 →
      (BND (lenl a) fun t13 => BND (binv .int .lss i t13) fun t14 => COND t14
        (BND (iaddr 2 a i) fun t19 => BND (iaddr 2 b i) fun t23 => BND (loadn 2 w1.drew t19) fun t20 => BND (loadn 2 w1.drew t23) fun t24 => BND (eqaggv ks .neq t20 t24) fun t25 => COND t25
          (R (Value.bool false) w1.drew)
          (BND (binv .int .add i (Value.int .i64 1)) fun t16 => (J t16 w1.drew ∧ m t16 w1.drew < m i w1)))
        (R (Value.bool true) w1))) := by
  refine BND_step ha.len <| BND_step hb.len <| BND_step (binv_neq _ _ _ _) ?_
  by_cases hlen : xs.length = ys.length
  · rw [show (!decide ((xs.length : Int) = (ys.length : Int))) = false by simp [hlen]]
    refine (COND_false _ _).2 ?_
    refine ⟨fun t w' => ∃ i : Nat, t = .int .i64 i ∧ Fr [] w w' ∧ i ≤ xs.length ∧ ∀ (j : Nat), j < i → xs[j]? = ys[j]?, fun t _ => match t with | .int _ n => xs.length - n.toNat | _ => 0,
      ⟨0, rfl, Fr.refl _ _, by omega, fun j hj => by omega⟩, ?_⟩
    rintro _ _ w1 ⟨i, rfl, f1, hi, heq⟩
    refine BND_step ha.len <| BND_step (binv_lss _ _ _ _) ?_
    by_cases hlt : i < xs.length
    · refine COND_dec_true (by omega) ?_
      have hx := List.getElem?_eq_getElem hlt
      have hy := List.getElem?_eq_getElem (l := ys) (i := i) (by omega)
      generalize xs[i] = x at hx
      generalize ys[i] = y at hy
      have fd : Fr [] w w1.drew := f1.trans' (Fr.drew _ _)
      obtain ⟨p, ep, lp, _⟩ := (ha.fr fd (by simp)).at hx (hl x) .i64
      obtain ⟨q, eq, lq, _⟩ := (hb.fr fd (by simp)).at hy (hl y) .i64
      refine BND_step ep <| BND_step eq <| BND_step lp <| BND_step lq <| BND_step (hks x y) ?_
      by_cases hxy : x = y
      · rw [show (!decide (x = y)) = false by simp [hxy]]
        refine (COND_false _ _).2 <| BND_step (add1 (by omega)) ⟨⟨i + 1, rfl, fd, hlt, fun j hj => ?_⟩, by simp; omega⟩
        by_cases hji : j = i
        · subst hji; rw [hx, hy, hxy]
        · exact heq j (by omega)
      · rw [show (!decide (x = y)) = true by simp [hxy]]
        refine (COND_true _ _).2 ?_
        have := hR _ fd
        rw [decide_eq_false (fun e => hxy (by subst e; rw [hx] at hy; cases hy; rfl))] at this
        exact this
    · refine COND_dec_false (by omega) ?_
      have he : xs = ys := List.ext_getElem? fun j => by
        by_cases hj : j < i
        · exact heq j hj
        · rw [List.getElem?_eq_none (by omega), List.getElem?_eq_none (by omega)]
      have := hR _ f1
      rw [decide_eq_true he] at this
      exact this
  · rw [show (!decide ((xs.length : Int) = (ys.length : Int))) = true by simp; omega]
    refine (COND_true _ _).2 ?_
    have := hR w (Fr.refl _ _)
    rw [decide_eq_false (fun e => hlen (by rw [e]))] at this
    exact this

theorem eq_row (x y : Row) : eqaggv [(0, .int .u64), (1, .int .u64)] .neq (.agg (encRow x).toArray) (.agg (encRow y).toArray) = some (.bool !(decide (x = y))) := by
  obtain ⟨a, b⟩ := x
  obtain ⟨c, d⟩ := y
  simp only [eqaggv, encRow, eqCells, eqCell, List.getElem?_toArray, List.getElem?_cons_zero, List.getElem?_cons_succ, if_true, beq_dec, Prod.mk.injEq]
  by_cases h1 : a = c <;> by_cases h2 : b = d <;> simp [h1, h2, binn]
theorem eq_cur (x y : ByteArray × Int) : eqaggv [(0, .string), (1, .int .u64)] .neq (.agg (encC x).toArray) (.agg (encC y).toArray) = some (.bool !(decide (x = y))) := by
  obtain ⟨a, b⟩ := x
  obtain ⟨c, d⟩ := y
  have hs : (a.toList == c.toList) = decide (a = c) := by
    have h := str_eqd a c
    rw [str_eql] at h
    simpa using h
  simp only [eqaggv, encC, eqCells, eqCell, List.getElem?_toArray, List.getElem?_cons_zero, List.getElem?_cons_succ, if_true, hs, beq_dec, Prod.mk.injEq]
  by_cases h1 : a = c <;> by_cases h2 : b = d <;> simp [h1, h2, binn]

theorem rf_Rows {a b : Value} {xs ys : List Row} (ha : Arr encRow 2 w a xs) (hb : Arr encRow 2 w b ys) (hn : xs.length < 1000000000) (hR : ∀ w', Fr [] w w' → R (.bool (decide (xs = ys))) w') : CALL PR F_tumbrelref10_Rows [a, b] w R := by
  refine C_tumbrelref10_Rows ?_
  unfold M_tumbrelref10_Rows
  exact cmp_body encRow_len eq_row ha hb hn hR
theorem rf_Cursors {a b : Value} {xs ys : Seen} (ha : Arr encC 2 w a xs) (hb : Arr encC 2 w b ys) (hn : xs.length < 1000000000) (hR : ∀ w', Fr [] w w' → R (.bool (decide (xs = ys))) w') : CALL PR F_tumbrelref10_Cursors [a, b] w R := by
  refine C_tumbrelref10_Cursors ?_
  unfold M_tumbrelref10_Cursors
  exact cmp_body encC_len eq_cur ha hb hn hR

/-! ## same -/
theorem lw_same {o r : Nat} {rows rows' : List Row} {last last' : Int} {seen seen' : Seen} {F G : List Nat} (h : RefOwn w o rows last seen F) (h' : RefOwn w r rows' last' seen' G) (hn : rows.length < 1000000000) (hs : seen.length < 1000000000)
    (hR : ∀ w', Fr [] w w' → R (.bool (decide (last = last' ∧ rows = rows' ∧ seen = seen'))) w') : CALL PR F_tumbrellaw10_same [.pointer (some ⟨o, 0, none⟩), .pointer (some ⟨r, 0, none⟩)] w R := by
  refine C_tumbrellaw10_same ?_
  unfold M_tumbrellaw10_same
  have fd : Fr [] w w.drew := Fr.drew _ _
  have g := h.fr0 fd
  have g' := h'.fr0 fd
  generalize w.drew = w1 at fd g g'
  obtain ⟨sv, sc, Fa, Fc, T, h1, h2, h3, rfl, h5, h6, h7⟩ := g
  obtain ⟨sv', sc', Fa', Fc', T', k1, k2, k3, rfl, k5, k6, k7⟩ := g'
  refine BND_step (nilchk_ptr _) <| BND_step (faddr_ptr _ _ _) <| BND_step (nilchk_ptr _) <| BND_step (faddr_ptr _ _ _) <| BND_step (v := .int .u64 last) (load1_blk h1) <| BND_step (v := .int .u64 last') (load1_blk k1) <| BND_step (binv_eql _ _ _ _) ?_
  by_cases e1 : last = last'
  · simp only [e1, decide_true, isB_tt, grd_true, GEF_true, BND_some]
    refine BND_step (nilchk_ptr _) <| BND_step (faddr_ptr _ _ _) <| BND_step (nilchk_ptr _) <| BND_step (faddr_ptr _ _ _) <| BND_step (v := sv) (load1_blk h1) <| BND_step (v := sv') (load1_blk k1) <| rf_Rows h2.arr k2.arr hn fun w2 f2 => ?_
    by_cases e2 : rows = rows'
    · simp only [e2, decide_true, pickv_true, isB_tt, grd_true, GEF_true, BND_some]
      refine BND_step (nilchk_ptr _) <| BND_step (faddr_ptr _ _ _) <| BND_step (nilchk_ptr _) <| BND_step (faddr_ptr _ _ _) <| BND_step (v := sc) (load1_blk (f2.some (by simp) h1)) <| BND_step (v := sc') (load1_blk (f2.some (by simp) k1)) <|
        rf_Cursors (h3.fr f2 (by simp)).arr (k3.fr f2 (by simp)).arr hs fun w3 f3 => ?_
      have := hR w3 (fd.trans' <| f2.trans' f3)
      simpa [e1, e2] using this
    · simp only [e2, decide_false, pickv_true, isB_ft, grd_false, GEF_false, BND_some, pickv_false]
      have := hR w2 (fd.trans' f2)
      simpa [e1, e2] using this
  · simp only [e1, decide_false, isB_ft, grd_false, GEF_false, BND_some, pickv_false]
    have := hR w1 fd
    simpa [e1] using this

/-! ## own -/
theorem lw_own {d : Nat} {rows : List Row} {last : Int} {seen : Seen} {F : List Nat} (h : DeadOwn w d rows last seen F) (hn : rows.length < 1000000) (hs : seen.length ≤ 12) (hsmall : ∀ p ∈ seen, p.1.size < 1000000)
    (hR : ∀ w' o cs G, RefOwn w' o rows last cs G → cs.Perm seen → Rise cs → (∀ b ∈ G, hsz w ≤ b) → Fr [] w w' → R (.pointer (some ⟨o, 0, none⟩)) w') : CALL PR F_tumbrellaw10_own [.pointer (some ⟨d, 0, none⟩)] w R := by
  refine C_tumbrellaw10_own ?_
  unfold M_tumbrellaw10_own
  refine dd_Last h <| BND_step (v := .agg #[.slice none 0 0, .int .u64 last, .slice none 0 0]) rfl <| NEW_intro fun w2 b2 f2 z2 => ?_
  have b2' : blk w2 (hsz w) = some (.cells #[.slice none 0 0, .int .u64 last, .slice none 0 0] 32 (0, 0)) := b2
  generalize ho : hsz w = o at b2'
  rw [show hsz w = o from ho] at b2
  refine dd_All (h.fr0 f2) (by omega) fun v w3 G3 s3 hG3 f3 => BND_step s3.len ?_
  have hoG : o ∉ G3 := fun hb => by have := hG3 o hb; omega
  refine ⟨fun t w' => ∃ (i : Nat) (H : List Nat), t = .int .i64 i ∧ RefOwn w' o (rows.take i) last [] H ∧ (∀ b ∈ H, b = o ∨ hsz w3 ≤ b) ∧ Fr [o] w3 w' ∧ i ≤ rows.length, fun t _ => match t with | .int _ n => rows.length - n.toNat | _ => 0,
    ⟨0, [o], rfl, ⟨.slice none 0 0, .slice none 0 0, [], [], _, f3.some (by simp) b2', by simpa using Slc.nil _ _ _, Slc.nil _ _ _, rfl, by simp, by simp, by simp⟩, by simp, Fr.refl _ _, by omega⟩, ?_⟩
  rintro _ _ w4 ⟨i, H, rfl, r4, hH, f4, hi⟩
  have hz3 : hsz w2 ≤ hsz w3 := f3.grow
  have hz4 : hsz w3 ≤ hsz w4 := f4.grow
  refine BND_step (binv_lss _ _ _ _) ?_
  by_cases hlt : i < rows.length
  · refine COND_dec_true (by omega) ?_
    have hx := List.getElem?_eq_getElem hlt
    generalize rows[i] = r at hx
    have s4 := s3.fr f4 (fun b hb => by simp; rintro rfl; exact hoG hb)
    obtain ⟨b, rfl, ei⟩ := s4.iaddr hlt .i64
    refine BND_step ei <| BND_step (s4.loadn hx rfl) <| box_step (zs := [.int .u64 0, .int .u64 0]) (vs := encRow r) rfl rfl (encRow_one r) (by simp [encRow]) fun w5 b5 f5 z5 => ?_
    have f6 : Fr [] w4 w5.drew := f5.trans' (Fr.drew _ _)
    have b6 : blk w5.drew (hsz w4) = some (.cells (encRow r).toArray 48 (0, 0)) := b5
    generalize w5.drew = w6 at f6 b6
    obtain ⟨sv, sc, Fa, Fc, T, h1, h2, h3, rfl, h5, h6, h7⟩ := r4.fr0 f6
    refine ⟨fun _ w' => blk w' o = some (.cells #[sv, .int .u64 last, sc] T (0, 0)), h1, ?_⟩
    refine BND_step (nilchk_ptr _) <| BND_step (faddr_ptr _ _ _) <| FLT.mk sv (fun w' hw => load1_blk hw) <| BND_step (v := .agg (encRow r).toArray) (loadn_blk b6 (by simp [encRow])) <|
      newone_step encRow_len rfl fun t w7 s7 f7 z7 => ⟨f7.some (by simp) h1, ?_⟩
    refine APPEND_slc (h2.fr f7 (by simp)) (s7.loads encRow_len) encRow_len encRow_one rfl (by simp; omega) (by simp; omega) fun sv' w8 Fa' s8 f8 sub => ?_
    have hz6 : hsz w4 ≤ hsz w6 := f6.grow
    have hz7 : hsz w6 ≤ hsz w7 := f7.grow
    have ho6 : o < hsz w6 := blk_lt h1
    have hoFa' : o ∉ Fa' := fun hb => by
      rcases sub o hb with h | h
      · exact h5 h
      · omega
    have hac : ∀ b ∈ Fa', b ∉ Fc := fun b hb hc => by
      rcases sub b hb with h | h
      · exact h7 b h hc
      · have := h3.lt b hc; omega
    obtain ⟨w9, e9, r9, f9⟩ := ref_store0 (f8.some h5 (f7.some (by simp) h1)) s8 ((h3.fr f7 (by simp)).fr f8 (fun b hb hb' => h7 b hb' hb)) hoFa' h6 hac
    refine BND_step (nilchk_ptr _) <| BND_step (faddr_ptr _ _ _) <| BND_step e9 <| BND_step (add1 (by omega)) ⟨⟨i + 1, o :: (Fa' ++ Fc), rfl, ?_, fun b hb => ?_, ?_, hlt⟩, by simp; omega⟩
    · rw [List.take_add_one, hx]; exact r9
    · rcases List.mem_cons.1 hb with rfl | hb
      · exact .inl rfl
      rcases List.mem_append.1 hb with hb | hb
      · rcases sub b hb with h | h
        · exact hH b (by simp [h])
        · exact .inr (by omega)
      · exact hH b (by simp [hb])
    · refine ((f4.trans' (f6.trans' f7).nil).trans f8 fun b hb => ?_).trans' f9
      rcases hH b (by simp [hb]) with h | h
      · exact .inl (by simp [h])
      · exact .inr h
  refine COND_dec_false (by omega) ?_
  rw [List.take_of_length_le (by omega)] at r4
  have f24 : Fr [] w w4 := (f2.trans' f3).trans f4 fun b hb => by simp at hb; subst hb; exact .inr (by omega)
  refine dd_Cursors (h.fr0 f24) hs hsmall fun w10 vc cs G10 s10 pm rise hG10 f10 => BND_step s10.len ?_
  have hz10 : hsz w4 ≤ hsz w10 := f10.grow
  have hoG : o ∉ G10 := fun hb => by have := hG10 o hb; have := r4.lt o (by obtain ⟨sv, sc, Fa, Fc, T, h1, h2, h3, rfl, h5, h6, h7⟩ := r4; simp); omega
  have hcl : cs.length ≤ 12 := by rw [pm.length_eq]; exact hs
  refine ⟨fun t w' => ∃ (i : Nat) (H : List Nat), t = .int .i64 i ∧ RefOwn w' o rows last (cs.take i) H ∧ (∀ b ∈ H, b = o ∨ hsz w3 ≤ b) ∧ Fr [o] w3 w' ∧ Slc encC 2 w' vc cs G10 ∧ (∀ b ∈ H, b ∉ G10) ∧ i ≤ cs.length, fun t _ => match t with | .int _ n => cs.length - n.toNat | _ => 0,
    ⟨0, H, rfl, by simpa using r4.fr0 f10, hH, f4.trans' f10.nil, s10, fun b hb hb' => by have := r4.lt b hb; have := hG10 b hb'; omega, by omega⟩, ?_⟩
  rintro _ _ w11 ⟨i, H, rfl, r11, hH, f11, s11, hHG, hi⟩
  refine BND_step (binv_lss _ _ _ _) ?_
  by_cases hlt : i < cs.length
  · refine COND_dec_true (by omega) ?_
    have hx := List.getElem?_eq_getElem hlt
    generalize cs[i] = c at hx
    obtain ⟨b, rfl, ei⟩ := s11.iaddr hlt .i64
    refine BND_step ei <| BND_step (s11.loadn hx rfl) <| box_step (zs := [.string ByteArray.empty, .int .u64 0]) (vs := encC c) rfl rfl (encC_one c) (by simp [encC]) fun w12 b12 f12 z12 => ?_
    have f13 : Fr [] w11 w12.drew := f12.trans' (Fr.drew _ _)
    have b13 : blk w12.drew (hsz w11) = some (.cells (encC c).toArray 51 (0, 0)) := b12
    generalize w12.drew = w13 at f13 b13
    obtain ⟨sv, sc, Fa, Fc, T, h1, h2, h3, rfl, h5, h6, h7⟩ := r11.fr0 f13
    refine ⟨fun _ w' => blk w' o = some (.cells #[sv, .int .u64 last, sc] T (0, 0)), h1, ?_⟩
    refine BND_step (nilchk_ptr _) <| BND_step (faddr_ptr _ _ _) <| FLT.mk sc (fun w' hw => load1_blk hw) <| BND_step (v := .agg (encC c).toArray) (loadn_blk b13 (by simp [encC])) <|
      newone_step encC_len rfl fun t w14 s14 f14 z14 => ⟨f14.some (by simp) h1, ?_⟩
    refine APPEND_slc (h3.fr f14 (by simp)) (s14.loads encC_len) encC_len encC_one rfl (by simp; omega) (by simp; omega) fun sc' w15 Fc' s15 f15 sub => ?_
    have hz13 : hsz w11 ≤ hsz w13 := f13.grow
    have hz14 : hsz w13 ≤ hsz w14 := f14.grow
    have hz11 : hsz w3 ≤ hsz w11 := f11.grow
    have ho13 : o < hsz w13 := blk_lt h1
    have hoFc' : o ∉ Fc' := fun hb => by
      rcases sub o hb with h | h
      · exact h6 h
      · omega
    have hac : ∀ b ∈ Fa, b ∉ Fc' := fun b hb hc => by
      rcases sub b hc with h | h
      · exact h7 b hb h
      · have := h2.lt b hb; omega
    obtain ⟨w16, e16, r16, f16⟩ := ref_store2 (f15.some h6 (f14.some (by simp) h1)) ((h2.fr f14 (by simp)).fr f15 (fun b hb hb' => h7 b hb hb')) s15 h5 hoFc' hac
    have hbl : b < hsz w11 := s11.lt b (by simp)
    have hH16 : ∀ b' ∈ o :: (Fa ++ Fc'), b' ∉ [b] := fun b' hb' => by
      have h0 : b' ∈ o :: (Fa ++ Fc) ∨ hsz w14 ≤ b' := by
        rcases List.mem_cons.1 hb' with rfl | hb'
        · exact .inl (by simp)
        rcases List.mem_append.1 hb' with hb' | hb'
        · exact .inl (by simp [hb'])
        · exact (sub b' hb').imp_left fun h => by simp [h]
      rcases h0 with h | h
      · exact hHG b' h
      · simp; omega
    have s16 : Slc encC 2 w16 vc cs [b] := (((s11.fr (f13.trans' f14) (by simp)).fr f15 (fun b' hb' hc => hHG b' (by simp [hc]) hb')).fr f16 (fun b' hb' hc => hHG o (by simp) (by simp at hc; subst hc; exact hb')))
    refine BND_step (nilchk_ptr _) <| BND_step (faddr_ptr _ _ _) <| BND_step e16 <| BND_step (add1 (by omega)) ⟨⟨i + 1, o :: (Fa ++ Fc'), rfl, ?_, fun b hb => ?_, ?_, s16, hH16, hlt⟩, by simp; omega⟩
    · rw [List.take_add_one, hx]; exact r16
    · rcases List.mem_cons.1 hb with rfl | hb
      · exact .inl rfl
      rcases List.mem_append.1 hb with hb | hb
      · exact hH b (by simp [hb])
      · rcases sub b hb with h | h
        · exact hH b (by simp [h])
        · exact .inr (by omega)
    · refine ((f11.trans' (f13.trans' f14).nil).trans f15 fun b hb => ?_).trans' f16
      rcases hH b (by simp [hb]) with h | h
      · exact .inl (by simp [h])
      · exact .inr h
  · refine COND_dec_false (by omega) ?_
    rw [List.take_of_length_le (by omega)] at r11
    have hz11 : hsz w3 ≤ hsz w11 := f11.grow
    refine hR w11 o cs H r11 pm rise (fun b hb => ?_) ((f2.trans' f3).trans f11 fun b hb => by simp at hb; subst hb; exact .inr (by omega))
    rcases hH b hb with rfl | h <;> omega

/-! ## From -/
theorem putI_new {k : ByteArray} {v : Int} : ∀ {S : Seen}, (∀ p ∈ S, p.1 ≠ k) → putI S k v = S ++ [(k, v)]
  | [], _ => rfl
  | (k', v') :: S, h => by
    have h0 := h (k', v') (by simp)
    simp only [putI, List.cons_append]
    rw [if_neg (fun e => h0 e.symm), putI_new (fun p hp => h p (by simp [hp]))]
theorem fromC_long {last : Int} : ∀ (cs : Seen) (i : Nat) (a : ByteArray) (S : Seen), i ≤ 8 → 8 < i + cs.length → fromC last cs i a S = none
  | [], i, a, S, h, h' => by simp at h'; omega
  | c :: cs, i, a, S, h, h' => by
    simp only [fromC]
    split
    · rfl
    · rename_i hb
      have h8 : i ≠ 8 := fun e => hb (.inl e)
      exact fromC_long cs (i + 1) _ _ (by omega) (by simp at h'; omega)
theorem fromC_all {last : Int} : ∀ (cs : Seen) (i : Nat) (a : ByteArray) (S T : Seen), (∀ p ∈ S, lessZ (rz p.1) (rz a) = true ∨ p.1 = a) → fromC last cs i a S = some T → T = S ++ cs
  | [], i, a, S, T, _, h => by simp [fromC] at h; simp [h]
  | c :: cs, i, a, S, T, hS, h => by
    simp only [fromC] at h
    split at h
    · cases h
    · rename_i hb
      unfold badC at hb
      simp only [not_or] at hb
      have hl : lessZ (rz a) (rz c.1) = true := by simpa using hb.2.2.2.1
      have hlt : ∀ p ∈ S, lessZ (rz p.1) (rz c.1) = true := fun p hp => by
        rcases hS p hp with h1 | h1
        · exact less_trans _ _ _ h1 hl
        · rw [h1]; exact hl
      have hne : ∀ p ∈ S, p.1 ≠ c.1 := fun p hp e => by
        have h1 := hlt p hp
        rw [e, less_irr] at h1
        cases h1
      rw [putI_new hne] at h
      have := fromC_all cs (i + 1) c.1 (S ++ [c]) T (fun p hp => by
        rcases List.mem_append.1 hp with hp | hp
        · exact .inl (hlt p hp)
        · simp at hp; subst hp; exact .inr rfl) h
      simpa using this
theorem fromI_same {last : Int} {rows : List Row} {cs seen : Seen} (h : fromI last rows cs = some seen) : seen = cs := by
  unfold fromI at h
  split at h
  · have := fromC_all cs 0 ⟨#[]⟩ [] seen (by simp) h
    simpa using this
  · cases h
theorem less_empty {c : ByteArray} (h : rightB c.data.toList = true) : lessZ (rz ⟨#[]⟩) (rz c) = true := by
  have h0 : rz ⟨#[]⟩ = [] := by decide +kernel
  rw [h0]
  unfold rightB at h
  simp only [Bool.and_eq_true, decide_eq_true_eq] at h
  have h1 : 1 ≤ (rz c).length := by
    have := h.2.1
    show 1 ≤ (runesB c.data.toList).length
    omega
  cases hz : rz c with
  | nil => rw [hz] at h1; simp at h1
  | cons x y => rfl

theorem rf_From {rows : List Row} {last : Int} {cs : Seen} {ra ca : Value} (hra : Arr encRow 2 w ra rows) (hca : Arr encC 2 w ca cs) (hn : rows.length < 1000000) (hcn : cs.length < 1000000) (hsm : ∀ c ∈ cs, c.1.size < 100000)
    (hno : ∀ w', Fr [] w w' → fromI last rows cs = none → R (.tuple #[.pointer none, .int .i64 1]) w')
    (hyes : ∀ w' d F, Fr [] w w' → fromI last rows cs = some cs → RefOwn w' d rows last cs F → (∀ b ∈ F, hsz w ≤ b) → R (.tuple #[.pointer (some ⟨d, 0, none⟩), .int .i64 0]) w') :
    CALL PR F_tumbrelref10_From [.int .u64 last, ra, ca] w R := by
  refine C_tumbrelref10_From ?_
  unfold M_tumbrelref10_From
  refine ⟨fun t w' => ∃ (i : Nat) (l : Int), t = .int .i64 i ∧ (0 < i → 1 ≤ l ∧ ∃ r, rows[i - 1]? = some r ∧ r.2 = l) ∧ (i = 0 → l = 0) ∧ Fr [] w w' ∧ i ≤ rows.length ∧ fromR last (rows.drop i) (rows.take i) l = fromR last rows [] 0,
    fun t _ => match t with | .int _ n => rows.length - n.toNat | _ => 0, ⟨0, 0, rfl, by omega, fun _ => rfl, Fr.refl _ _, by omega, by simp⟩, ?_⟩
  rintro _ _ w1 ⟨i, l, rfl, hl1, hl0, f1, hi, hinv⟩
  refine BND_step hra.len <| BND_step (binv_lss _ _ _ _) ?_
  by_cases hlt : i < rows.length
  · refine COND_dec_true (by omega) ?_
    have hx := List.getElem?_eq_getElem hlt
    rw [drop_cons' hx] at hinv
    generalize rows[i] = r at hx hinv
    have fd : Fr [] w w1.drew := f1.trans' (Fr.drew _ _)
    generalize w1.drew = w2 at fd
    have a2 := hra.fr fd (by simp)
    obtain ⟨p, ep, lp, cp⟩ := a2.at hx rfl .i64
    obtain ⟨p1, ep1, lp1⟩ := cp 1 (by omega)
    obtain ⟨p0, ep0, lp0⟩ := cp 0 (by omega)
    have hnone : ∀ w', Fr [] w w' → (r.2 ≤ l ∨ last < r.2 ∨ hasI (rows.take i) r.1 = true) → R (.tuple #[.pointer none, .int .i64 1]) w' := by
      intro w' f' hbad
      refine hno w' f' ?_
      have : fromR last rows [] 0 = false := by rw [← hinv, fromR, if_pos hbad]
      unfold fromI
      rw [this]; rfl
    have sub1 : ∀ n : Nat, 0 < n → n < 1000000000 → binv .int .sub (.int .i64 (n : Int)) (.int .i64 1) = some (.int .i64 ((n - 1 : Nat) : Int)) := fun n h h' => by
      rw [binv_sub, wrap_i64 (by omega) (by omega)]
      congr 2; omega
    refine BND_step ep <| BND_step ep1 <| BND_step (v := .int .u64 r.2) (lp1.trans rfl) <| BND_step (binv_lss _ _ _ _) ?_
    by_cases h1 : r.2 < 1
    · simp only [h1, decide_true, isB_tf, grd_false, BND_some, pickv_true, isB_undef, COND_true]
      refine hnone _ fd (.inl ?_)
      rcases Nat.eq_zero_or_pos i with h0 | h0
      · have := hl0 h0; omega
      · have := (hl1 h0).1; omega
    simp only [h1, decide_false, isB_ff, grd_true, BND_some]
    refine BND_step ep <| BND_step ep1 <| BND_step (v := .int .u64 r.2) (lp1.trans rfl) <| BND_step (binv_gtr _ _ _ _) <| BND_step (pickv_false _ _) ?_
    by_cases h2 : last < r.2
    · simp only [h2, decide_true, isB_tf, grd_false, BND_some, pickv_true, isB_undef, COND_true]
      exact hnone _ fd (.inr (.inl h2))
    simp only [h2, decide_false, isB_ff, grd_true, BND_some]
    refine BND_step (binv_gtr _ _ _ _) ?_
    -- behind the places
    have go : ¬ r.2 ≤ l → ∃ (J_92 : Value → World → Prop) (m_92 : Value → World → Nat), J_92 (Value.int .i64 0) w2 ∧ ∀ (_d_92 : Env) (r_95 : Value) (w2 : World), J_92 r_95 w2 →
        (BND (binv .int .lss r_95 (.int .i64 (i : Int))) fun t53_112 =>
        COND t53_112
        (BND (iaddr 2 ra r_95) fun t58_113 =>
        BND (faddr 0 t58_113) fun t59_114 =>
        BND (iaddr 2 ra (.int .i64 (i : Int))) fun t63_115 =>
        BND (faddr 0 t63_115) fun t64_116 =>
        BND (load1 w2.drew t59_114) fun t60_117 =>
        BND (load1 w2.drew t64_116) fun t65_118 =>
        BND (binv .int .eql t60_117 t65_118) fun t66_119 =>
        COND t66_119
        (R (.tuple #[(Value.pointer none), (Value.int .i64 1)]) w2.drew)
        (BND (binv .int .add r_95 (Value.int .i64 1)) fun t55_120 =>
        (J_92 t55_120 w2.drew ∧ m_92 t55_120 w2.drew < m_92 r_95 w2)))
        (BND (binv .int .add (.int .i64 (i : Int)) (Value.int .i64 1)) fun t17_121 =>
        ((∃ (i : Nat) (l : Int), t17_121 = .int .i64 i ∧ (0 < i → 1 ≤ l ∧ ∃ r, rows[i - 1]? = some r ∧ r.2 = l) ∧ (i = 0 → l = 0) ∧ Fr [] w w2 ∧ i ≤ rows.length ∧ fromR last (rows.drop i) (rows.take i) l = fromR last rows [] 0) ∧
          (match t17_121 with | .int _ n => rows.length - n.toNat | _ => 0) < rows.length - (i : Int).toNat))) := by
      intro h3
      refine ⟨fun t w' => ∃ k : Nat, t = .int .i64 k ∧ Fr [] w w' ∧ k ≤ i ∧ hasI (rows.take k) r.1 = false, fun t _ => match t with | .int _ n => i - n.toNat | _ => 0, ⟨0, rfl, fd, by omega, by simp [hasI]⟩, ?_⟩
      rintro _ _ w3 ⟨k, rfl, f3, hk, hno'⟩
      refine BND_step (binv_lss _ _ _ _) ?_
      by_cases hki : k < i
      · refine COND_dec_true (by omega) ?_
        have fd3 : Fr [] w w3.drew := f3.trans' (Fr.drew _ _)
        generalize w3.drew = w4 at fd3
        have a4 := hra.fr fd3 (by simp)
        have hxk := List.getElem?_eq_getElem (l := rows) (i := k) (by omega)
        generalize rows[k] = y at hxk
        obtain ⟨q, eq, lq, cq⟩ := a4.at hxk rfl .i64
        obtain ⟨q0, eq0, lq0⟩ := cq 0 (by omega)
        obtain ⟨p', ep', _, cp'⟩ := a4.at hx rfl .i64
        obtain ⟨p0', ep0', lp0'⟩ := cp' 0 (by omega)
        refine BND_step eq <| BND_step eq0 <| BND_step ep' <| BND_step ep0' <| BND_step (v := .int .u64 y.1) (lq0.trans rfl) <| BND_step (v := .int .u64 r.1) (lp0'.trans rfl) <| BND_step (binv_eql _ _ _ _) ?_
        by_cases he : y.1 = r.1
        · refine COND_dec_true he (hnone _ fd3 (.inr (.inr ?_)))
          unfold hasI
          rw [List.any_eq_true]
          exact ⟨y, List.mem_of_getElem? (i := k) (by rw [List.getElem?_take, if_pos hki]; exact hxk), by simpa using he⟩
        · refine COND_dec_false he <| BND_step (add1 (by omega)) ⟨⟨k + 1, rfl, fd3, hki, ?_⟩, by simp; omega⟩
          rw [List.take_add_one, hxk]
          unfold hasI at hno' ⊢
          rw [List.any_append, hno']
          simp [he]
      · refine COND_dec_false (by omega) <| BND_step (add1 (by omega)) ⟨⟨i + 1, r.2, rfl, fun _ => ⟨by omega, r, by simpa using hx, rfl⟩, by omega, f3, hlt, ?_⟩, by simp; omega⟩
        obtain rfl : k = i := by omega
        rw [← hinv, List.take_add_one, hx]
        conv => rhs; rw [fromR, if_neg (by simp [h2, hno']; omega)]
        rfl
    by_cases hi0 : (0 : Int) < i
    · simp only [hi0, decide_true, isB_tt, grd_true, BND_some]
      obtain ⟨hl, r', hr', er'⟩ := hl1 (by omega)
      obtain ⟨q, eq, _, cq⟩ := a2.at hr' rfl .i64
      obtain ⟨q1, eq1, lq1⟩ := cq 1 (by omega)
      refine BND_step ep <| BND_step ep1 <| BND_step (sub1 i (by omega) (by omega)) <| BND_step eq <| BND_step eq1 <| BND_step (v := .int .u64 r.2) (lp1.trans rfl) <| BND_step (v := .int .u64 l) (by rw [← er']; exact lq1.trans rfl) <| BND_step (binv_leq _ _ _ _) <|
        BND_step (pickv_true _ _) <| BND_step (pickv_false _ _) ?_
      by_cases h3 : r.2 ≤ l
      · exact COND_dec_true h3 (hnone _ fd (.inl h3))
      · exact COND_dec_false h3 (go h3)
    · simp only [hi0, decide_false, isB_ft, grd_false, grd_true, BND_some, isB_undef, pickv_false, COND_false]
      have := hl0 (by omega)
      exact go (by omega)
  · refine COND_dec_false (by omega) ?_
    rw [List.take_of_length_le (by omega), List.drop_of_length_le (by omega)] at hinv
    have hR0 : fromR last rows [] 0 = true := by rw [← hinv]; rfl
    have hI : fromI last rows cs = fromC last cs 0 ⟨#[]⟩ [] := by unfold fromI; rw [if_pos hR0]
    refine BND_step hca.len <| BND_step (binv_gtr _ _ _ _) ?_
    by_cases h8 : (8 : Int) < cs.length
    · exact COND_dec_true h8 (hno w1 f1 (by rw [hI]; exact fromC_long cs 0 _ _ (by omega) (by omega)))
    refine COND_dec_false h8 ?_
    refine ⟨fun t w' => ∃ (k : Nat) (a : ByteArray) (S : Seen), t = .int .i64 k ∧ (k = 0 → a = ⟨#[]⟩) ∧ (0 < k → ∃ c', cs[k - 1]? = some c' ∧ c'.1 = a) ∧ Fr [] w w' ∧ k ≤ cs.length ∧ fromC last (cs.drop k) k a S = fromC last cs 0 ⟨#[]⟩ [],
      fun t _ => match t with | .int _ n => cs.length - n.toNat | _ => 0, ⟨0, ⟨#[]⟩, [], rfl, fun _ => rfl, by omega, f1, by omega, by simp⟩, ?_⟩
    rintro _ _ w3 ⟨k, a, S, rfl, ha0, ha1, f3, hk, hinvC⟩
    refine BND_step hca.len <| BND_step (binv_lss _ _ _ _) ?_
    by_cases hklt : k < cs.length
    · refine COND_dec_true (by omega) ?_
      have hx := List.getElem?_eq_getElem hklt
      rw [drop_cons' hx] at hinvC
      have hcsm := hsm _ (List.mem_of_getElem? hx)
      generalize cs[k] = c at hx hinvC hcsm
      obtain ⟨p, ep, lp, _⟩ := (hca.fr f3 (by simp)).at hx rfl .i64
      refine BND_step ep <| BND_step lp <| box_step (zs := [.string ByteArray.empty, .int .u64 0]) (vs := encC c) rfl rfl (encC_one c) (by simp [encC]) fun w5 b5 f5 z5 => ?_
      have b6 : blk w5.drew (hsz w3) = some (.cells (encC c).toArray 52 (0, 0)) := b5
      have f6 : Fr [] w w5.drew := f3.trans' <| f5.trans' (Fr.drew _ _)
      generalize w5.drew = w6 at b6 f6
      have hnone : ∀ w', Fr [] w w' → badC last k a c → R (.tuple #[.pointer none, .int .i64 1]) w' := by
        intro w' f' hbad
        refine hno w' f' ?_
        rw [hI, ← hinvC, fromC, if_pos hbad]
      refine ⟨fun _ w' => blk w' (hsz w3) = some (.cells (encC c).toArray 52 (0, 0)), b6, ?_⟩
      refine BND_step (faddr_ptr _ _ _) <| BND_step (v := .string c.1) (load1_blk b6) <| rf_Right (by omega) fun w7 f7 => ⟨f7.some (by simp) b6, BND_step (unv_not _) ?_⟩
      have b7 := f7.some (by simp) b6
      have f7' := f6.trans' f7
      cases hr : rightB c.1.data.toList with
      | false =>
        simp only [Bool.not_false, isB_tf, grd_false, BND_some, GEF_false, pickv_true, COND_true, isB_undef]
        exact FLT.mk _ (fun _ _ => rfl) ⟨b7, hnone _ f7' (.inr (.inl hr))⟩
      | true =>
        simp only [Bool.not_true, isB_ff, grd_true, GEF_true]
        refine BND_step (faddr_ptr _ _ _) <| BND_step (faddr_ptr _ _ _) <| FLT.mk (.string c.1) (fun w' hw => load1_blk hw) <| BND_step (v := .string c.1) (load1_blk b7) <| rf_Fold (by omega) fun w8 f8 => ⟨f8.some (by simp) b7, BND_step (str_ned _ _) <| BND_step (pickv_false _ _) ?_⟩
        have b8 := f8.some (by simp) b7
        have f8' := f7'.trans' f8
        by_cases hfo : txt (foldB c.1.data.toList) = c.1
        · rw [show (!decide (txt (foldB c.1.data.toList) = c.1)) = false by simp [hfo]]
          simp only [isB_ff, grd_true, GEF_true]
          refine BND_step (faddr_ptr _ _ _) <| BND_step rfl <| BND_step (v := .int .u64 c.2) (load1_blk b8) <| BND_step (binv_gtr _ _ _ _) <| BND_step (pickv_false _ _) ?_
          by_cases hp : last < c.2
          · simp only [hp, decide_true, isB_tf, grd_false, BND_some, GEF_false, pickv_true, COND_true, isB_undef]
            exact hnone _ f8' (.inr (.inr (.inr (.inr hp))))
          simp only [hp, decide_false, isB_ff, grd_true, BND_some]
          refine BND_step (binv_gtr _ _ _ _) ?_
          -- the round's end
          have go : ∀ w9, Fr [] w w9 → lessZ (rz a) (rz c.1) = true → BND (binv .int .add (.int .i64 (k : Int)) (Value.int .i64 1)) fun t75_210 =>
              ((∃ (k : Nat) (a : ByteArray) (S : Seen), t75_210 = .int .i64 k ∧ (k = 0 → a = ⟨#[]⟩) ∧ (0 < k → ∃ c', cs[k - 1]? = some c' ∧ c'.1 = a) ∧ Fr [] w w9 ∧ k ≤ cs.length ∧ fromC last (cs.drop k) k a S = fromC last cs 0 ⟨#[]⟩ []) ∧
                (match t75_210 with | .int _ n => cs.length - n.toNat | _ => 0) < cs.length - (k : Int).toNat) := by
            intro w9 f9 hless
            refine BND_step (add1 (by omega)) ⟨⟨k + 1, c.1, putI S c.1 c.2, rfl, by omega, fun _ => ⟨c, by simpa using hx, rfl⟩, f9, hklt, ?_⟩, by simp; omega⟩
            rw [← hinvC]
            have hok : ¬ badC last k a c := by
              unfold badC
              simp only [not_or]
              exact ⟨by omega, by simp [hr], fun h => h hfo, by simp [hless], hp⟩
            conv => rhs; rw [fromC, if_neg hok]
          by_cases hk0 : (0 : Int) < k
          · simp only [hk0, decide_true, isB_tt, grd_true, BND_some, GEF_true]
            obtain ⟨c', hc', ea⟩ := ha1 (by omega)
            have hcsm' := hsm _ (List.mem_of_getElem? hc')
            have sub1 : binv .int .sub (.int .i64 (k : Int)) (.int .i64 1) = some (.int .i64 ((k - 1 : Nat) : Int)) := by
              rw [binv_sub, wrap_i64 (by omega) (by omega)]
              congr 2; omega
            obtain ⟨q, eq, _, cq⟩ := (hca.fr f8' (by simp)).at hc' rfl .i64
            obtain ⟨q0, eq0, lq0⟩ := cq 0 (by omega)
            refine BND_step sub1 <| BND_step eq <| BND_step eq0 <| BND_step (faddr_ptr _ _ _) <| BND_step (v := .string a) (by rw [← ea]; exact lq0.trans rfl) <| BND_step (v := .string c.1) (load1_blk b8) <| rf_Less (by rw [← ea]; omega) (by omega) fun w9 f9 => BND_step (unv_not _) <| BND_step (pickv_true _ _) <| BND_step (pickv_false _ _) ?_
            cases hl : lessZ (runesB a.data.toList) (runesB c.1.data.toList) with
            | false => exact (COND_true _ _).2 (hnone _ (f8'.trans' f9) (.inr (.inr (.inr (.inl hl)))))
            | true => exact (COND_false _ _).2 (go w9 (f8'.trans' f9) hl)
          · simp only [hk0, decide_false, isB_ft, grd_false, grd_true, BND_some, isB_undef, GEF_false, pickv_false, COND_false]
            refine go w8 f8' ?_
            rw [ha0 (by omega)]
            exact less_empty hr
        · rw [show (!decide (txt (foldB c.1.data.toList) = c.1)) = true by simp [hfo]]
          simp only [isB_tf, grd_false, BND_some, GEF_false, pickv_true, COND_true, isB_undef]
          exact hnone _ f8' (.inr (.inr (.inl hfo)))
    · refine COND_dec_false (by omega) ?_
      rw [List.drop_of_length_le (by omega)] at hinvC
      have hI2 : fromI last rows cs = some S := by rw [hI, ← hinvC]; rfl
      obtain rfl := fromI_same hI2
      refine newnil_step encRow fun t w4 s4 f4 z4 => ?_
      have f4' := f3.trans' f4
      refine APPEND_slc s4 ((hra.fr f4' (by simp)).src encRow_len (by omega)) encRow_len encRow_one rfl (by simp; omega) (by simp; omega) fun v5 w5 G5 s5 f5 sub5 => ?_
      refine newnil_step encC fun t w6 s6 f6 z6 => ?_
      have hz3 := f3.grow
      have hz5 := f5.grow
      have hz6 := f6.grow
      have f5' : Fr [] w w5 := f4'.trans f5 fun b hb => by simp at hb; subst hb; exact .inr (by omega)
      have f6' := f5'.trans' f6
      refine APPEND_slc s6 ((hca.fr f6' (by simp)).src encC_len (by omega)) encC_len encC_one rfl (by simp; omega) (by simp; omega) fun v7 w7 G7 s7 f7 sub7 => ?_
      have f7' : Fr [] w w7 := f6'.trans f7 fun b hb => by simp at hb; subst hb; exact .inr (by omega)
      have g5 : ∀ b ∈ G5, b < hsz w5 := s5.lt
      have l5 : ∀ b ∈ G5, hsz w3 ≤ b := fun b hb => by
        rcases sub5 b hb with h | h
        · simp at h; omega
        · omega
      have l7 : ∀ b ∈ G7, hsz w5 ≤ b := fun b hb => by
        rcases sub7 b hb with h | h
        · simp at h; omega
        · omega
      refine BND_step (v := .agg #[v5, .int .u64 last, v7]) ?_ <| NEW_intro fun w8 b8 f8 z8 => ?_
      · have c5 := s5.one.1
        have c7 := s7.one.1
        simp [buildv, fillv, c5, c7]
      have hz7 := f7.grow
      refine hyes w8 (hsz w7) _ (f7'.trans' f8) hI2 ⟨v5, v7, G5, G7, _, b8, ?_, s7.fr f8 (by simp), rfl, fun hb => ?_, fun hb => ?_, fun b hb hb' => ?_⟩ fun b hb => ?_
      · refine ((s5.fr f6 (by simp)).fr f7 fun b hb hb' => ?_).fr f8 (by simp)
        simp at hb'; have := g5 b hb; omega
      · have := g5 _ hb; omega
      · have := s7.lt _ hb; omega
      · have := g5 b hb; have := l7 b hb'; omega
      · rcases List.mem_cons.1 hb with rfl | hb
        · omega
        rcases List.mem_append.1 hb with hb | hb
        · have := l5 b hb; omega
        · have := l7 b hb; omega
end
end Go.Proofs.Ythcbcolnahbihaa
