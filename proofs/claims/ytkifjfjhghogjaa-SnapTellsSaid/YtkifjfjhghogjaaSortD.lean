/- Sorting a slice of uint64: partialInsertionSort, pdqsort, slices.Sort. No condition but that there are less than 256. -/
import Derived.Test.YtkifjfjhghogjaaSortC
import Derived.Test.YtkifjfjhghogjaaMa
namespace Go.Proofs.Ytkifjfjhghogjaa.Sort64
open Go.Den
section
variable {w : World} {v : Value} {xs : List Int} {b : Nat} {R : Value → World → Prop}
/-- what stands ahead of lo is no more than all of [lo, hi). -/
def Above (xs : List Int) (lo hi : Nat) : Prop := 0 < lo → ∀ k, lo ≤ k → k < hi → at0 xs (lo - 1) ≤ at0 xs k
theorem Above.mix {ys : List Int} {lo hi : Nat} (h : Above xs lo hi) (hm : Mix lo hi xs ys) (h2 : hi ≤ xs.length) : Above ys lo hi := fun h0 k h1 h3 => by
  rw [hm.out h2 (lo - 1) (.inl (by omega))]
  exact hm.all h2 (p := fun x => at0 xs (lo - 1) ≤ x) (fun m m1 m2 => h h0 m m1 m2) k h1 h3

theorem partialInsertion (s : Slc enU 1 w v xs [b]) {lo hi : Nat} (h1 : lo + 12 < hi) (h2 : hi ≤ xs.length) (hn : xs.length < 1000000000) (hab : Above xs lo hi)
    (hR : ∀ w' ys (B : Bool), Slc enU 1 w' v ys [b] → Mix lo hi xs ys → (B = true → Sorted ys lo hi) → Fr [b] w w' → R (.bool B) w') :
    CALL PR F_slices_partialInsertionSortOrdered_uint64 [v, .int .i64 (lo : Int), .int .i64 (hi : Int)] w R := by
  refine C_slices_partialInsertionSortOrdered_uint64 ?_
  unfold M_slices_partialInsertionSortOrdered_uint64
  refine BND_step (inc (by omega)) ?_
  refine ⟨fun ti tc w' => ∃ (i c : Nat) (ys : List Int), ti = .int .i64 i ∧ tc = .int .i64 c ∧ lo < i ∧ i ≤ hi ∧ c ≤ 5 ∧ Slc enU 1 w' v ys [b] ∧ Mix lo hi xs ys ∧ Sorted ys lo i ∧ Fr [b] w w', fun _ tc _ => match tc with | .int _ n => 5 - n.toNat | _ => 0,
    ⟨lo + 1, 0, xs, rfl, rfl, by omega, by omega, by omega, s, .refl _, fun p q a1 a2 a3 => by
      have : p = q := by omega
      subst this; omega, Fr.refl _ _⟩, ?_⟩
  rintro _ _ _ w1 ⟨i, c, ys, rfl, rfl, hi1, hi2, hc5, s1, mx, so, f1⟩
  have hyl := mx.len
  refine BND_step (binv_lss _ _ _ _) ?_
  by_cases hc : c < 5
  · refine COND_dec_true (by omega) ?_
    refine ⟨fun ti w' => ∃ (i : Nat), ti = .int .i64 i ∧ lo < i ∧ i ≤ hi ∧ Slc enU 1 w' v ys [b] ∧ Sorted ys lo i ∧ Fr [b] w w', fun ti _ => match ti with | .int _ n => hi - n.toNat | _ => 0, ⟨i, rfl, hi1, hi2, s1, so, f1⟩, ?_⟩
    rintro _ _ w2 ⟨i, rfl, hi1, hi2, s2, so, f2⟩
    have sd : Slc enU 1 w2.drew v ys [b] := s2.fr (Fr.drew [] w2) (by simp)
    have fd : Fr [b] w w2.drew := f2.trans' (Fr.drew _ _)
    -- behind the run that rises
    have pre : ∀ K : Value → World → Prop, (∀ (B : Bool) w3, (B = true → i < hi ∧ at0 ys (i - 1) ≤ at0 ys i) → (B = false → i < hi → at0 ys i < at0 ys (i - 1)) → Slc enU 1 w3 v ys [b] → Fr [b] w w3 → K (.bool B) w3) →
        BND (binv .int .lss (.int .i64 (i : Int)) (.int .i64 (hi : Int))) fun t19_149 =>
        BND (grd (isB t19_149 true) (some v)) fun t21_150 =>
        BND (grd (isB t19_149 true) (some (.int .i64 (i : Int)))) fun t22_151 =>
        BND (grd (isB t19_149 true) (iaddr 1 t21_150 t22_151)) fun t23_152 =>
        BND (grd (isB t19_149 true) (some v)) fun t25_153 =>
        BND (grd (isB t19_149 true) (some (.int .i64 (i : Int)))) fun t26_154 =>
        BND (grd (isB t19_149 true) (binv .int .sub t26_154 (Value.int .i64 1))) fun t27_155 =>
        BND (grd (isB t19_149 true) (iaddr 1 t25_153 t27_155)) fun t28_156 =>
        BND (grd (isB t19_149 true) (load1 w2.drew t23_152)) fun t24_157 =>
        BND (grd (isB t19_149 true) (load1 w2.drew t28_156)) fun t29_158 =>
        GEF (isB t19_149 true) (fun k_ => CALL PR F_cmp_Less_uint64 [t24_157, t29_158] w2.drew k_) w2.drew fun t30_159 w3 =>
        BND (grd (isB t19_149 true) (unv .not t30_159)) fun t31_160 =>
        BND (pickv t19_149 t31_160 (Value.bool false)) fun t32_161 => K t32_161 w3 := by
      intro K hK
      refine BND_step (binv_lss _ _ _ _) ?_
      by_cases hlt : i < hi
      · have e1 : decide ((i : Int) < (hi : Int)) = true := by simp <;> omega
        rw [e1]
        simp only [isB_tt, grd_true, BND_some, GEF_true]
        refine BND_step (ia sd (by omega)) <| BND_step (dec (by omega) (by omega)) <| BND_step (ia sd (by omega)) <| BND_step (ld sd (by omega)) <| BND_step (ld sd (by omega)) <| less64 _ _ <| BND_step (unv_not _) <| BND_step (pickv_true _ _) ?_
        refine hK _ _ (fun hB => ⟨hlt, ?_⟩) (fun hB _ => ?_) sd fd
        · simp at hB; omega
        · simp at hB; omega
      · have e1 : decide ((i : Int) < (hi : Int)) = false := by simp <;> omega
        rw [e1]
        simp only [isB_ft, grd_false, BND_some, GEF_false, pickv_false]
        exact hK false _ (fun hB => by cases hB) (fun _ h => absurd h hlt) sd fd
    refine pre _ fun B w3 hB1 hB0 s3 f3 => ?_
    clear pre
    cases B with
    | true =>
      obtain ⟨hlt, hle⟩ := hB1 rfl
      refine (COND_true _ _).2 <| BND_step (inc (by omega)) ⟨⟨i + 1, rfl, by omega, by omega, s3, fun p q a1 a2 a3 => ?_, f3⟩, by simp <;> omega⟩
      by_cases hq : q = i
      · subst hq
        by_cases hp : p = q
        · subst hp; omega
        · have := so p (q - 1) a1 (by omega) (by omega); omega
      · exact so p q a1 a2 (by omega)
    | false =>
    refine (COND_false _ _).2 <| BND_step (binv_eql _ _ _ _) ?_
    by_cases he : i = hi
    · subst he
      exact COND_dec_true rfl (hR w3 ys true s3 mx (fun _ => so) f3)
    refine COND_dec_false (by omega) <| BND_step (subn (by omega) (by omega)) <| BND_step (binv_lss _ _ _ _) ?_
    have hlt : i < hi := by omega
    have hdes := hB0 rfl hlt
    by_cases h50 : (((hi - lo : Nat) : Int)) < 50
    · exact COND_dec_true h50 (hR w3 ys false s3 mx (fun h => by cases h) f3)
    refine COND_dec_false h50 <| BND_step (dec (by omega) (by omega)) <| BND_step (dec (by omega) (by omega)) <| BND_step (ia s3 (by omega)) <| BND_step (ia s3 (by omega)) <| swap_tail s3 (p := i) (q := i - 1) (by omega) (by omega) fun w5 s5 f5 => ?_
    have e5 := at0_swp (xs := ys) (i := i) (j := i - 1) (by omega) (by omega)
    have m5 : Mix lo hi xs (swp ys i (i - 1)) := .swap i (i - 1) (by omega) (by omega) (by omega) (by omega) mx
    have hhole : ∀ p q, lo ≤ p → p ≤ q → q ≤ i - 1 → q ≠ i - 1 → p ≠ i - 1 → at0 (swp ys i (i - 1)) p ≤ at0 (swp ys i (i - 1)) q := fun p q a1 a2 a3 a4 a5 => by
      rw [e5, e5, if_neg (by omega), if_neg (by omega), if_neg (by omega), if_neg (by omega)]
      exact so p q a1 a2 (by omega)
    generalize swp ys i (i - 1) = zs at s5 m5 hhole
    have f5' := f3.trans' f5
    refine BND_step (subn (by omega) (by omega)) <| BND_step (binv_geq _ _ _ _) <| JOIN_elim fun K hK => ?_
    -- behind the one that is put to the left
    have go : ∀ w6 us, Slc enU 1 w6 v us [b] → Mix lo hi xs us → Sorted us lo i → Fr [b] w w6 → K w6 := by
      intro w6 us s6 m6 so6 f6
      have hul := m6.len
      subst hK
      refine BND_step (subn (by omega) (by omega)) <| BND_step (binv_geq _ _ _ _) <| JOIN_elim fun K2 hK2 => ?_
      have go2 : ∀ w7 us, Slc enU 1 w7 v us [b] → Mix lo hi xs us → Sorted us lo i → Fr [b] w w7 → K2 w7 := by
        intro w7 us s7 m7 so7 f7
        subst hK2
        exact BND_step (inc (by omega)) ⟨⟨i, c + 1, us, rfl, rfl, hi1, hi2, by omega, s7, m7, so7, f7⟩, by simp <;> omega⟩
      clear hK2
      by_cases hg : (2 : Int) ≤ ((hi - i : Nat) : Int)
      · refine COND_dec_true hg <| BND_step (inc (by omega)) ?_
        refine ⟨fun tj w' => ∃ (j : Nat) (us : List Int), tj = .int .i64 j ∧ i < j ∧ j ≤ hi ∧ Slc enU 1 w' v us [b] ∧ Mix lo hi xs us ∧ Sorted us lo i ∧ Fr [b] w w', fun tj _ => match tj with | .int _ n => hi - n.toNat | _ => 0, ⟨i + 1, us, rfl, by omega, by omega, s6, m6, so6, f6⟩, ?_⟩
        rintro _ _ w8 ⟨j, us, rfl, j1, j2, s8, m8, so8, f8⟩
        have hul := m8.len
        have s8d : Slc enU 1 w8.drew v us [b] := s8.fr (Fr.drew [] w8) (by simp)
        have f8d : Fr [b] w w8.drew := f8.trans' (Fr.drew _ _)
        refine BND_step (binv_lss _ _ _ _) ?_
        by_cases hjh : j < hi
        · refine COND_dec_true (by omega) <| BND_step (ia s8 (by omega)) <| BND_step (dec (by omega) (by omega)) <| BND_step (ia s8 (by omega)) <| BND_step (ld s8d (by omega)) <| BND_step (ld s8d (by omega)) <| less64 _ _ <| BND_step (unv_not _) ?_
          by_cases hl : at0 us j < at0 us (j - 1)
          · rw [show (!decide (at0 us j < at0 us (j - 1))) = false by simp [hl]]
            refine (COND_false _ _).2 <| BND_step (dec (by omega) (by omega)) <| BND_step (dec (by omega) (by omega)) <| BND_step (ia s8d (by omega)) <| BND_step (ia s8d (by omega)) <| swap_tail s8d (p := j) (q := j - 1) (by omega) (by omega) fun w11 s11 f11 => ?_
            refine BND_step (inc (by omega)) ⟨⟨j + 1, _, rfl, by omega, by omega, s11, .swap j (j - 1) (by omega) (by omega) (by omega) (by omega) m8, fun p q a1 a2 a3 => ?_, f8d.trans' f11⟩, by simp <;> omega⟩
            have e11 := at0_swp (xs := us) (i := j) (j := j - 1) (by omega) (by omega)
            rw [e11, e11, if_neg (by omega), if_neg (by omega), if_neg (by omega), if_neg (by omega)]
            exact so8 p q a1 a2 a3
          · rw [show (!decide (at0 us j < at0 us (j - 1))) = true by simp <;> omega]
            exact (COND_true _ _).2 (go2 _ us s8d m8 so8 f8d)
        · exact COND_dec_false (by omega) (go2 w8 us s8 m8 so8 f8)
      · exact COND_dec_false hg (go2 w6 us s6 m6 so6 f6)
    clear hK
    by_cases hg : (2 : Int) ≤ ((i - lo : Nat) : Int)
    · refine COND_dec_true hg <| BND_step (dec (by omega) (by omega)) ?_
      refine ⟨fun tj w' => ∃ (j : Nat) (us : List Int), tj = .int .i64 j ∧ lo ≤ j ∧ j ≤ i - 1 ∧ Slc enU 1 w' v us [b] ∧ Mix lo hi xs us ∧ (∀ p q, lo ≤ p → p ≤ q → q ≤ i - 1 → q ≠ j → p ≠ j → at0 us p ≤ at0 us q) ∧ (∀ q, j < q → q ≤ i - 1 → at0 us j ≤ at0 us q) ∧ Fr [b] w w',
        fun tj _ => match tj with | .int _ n => n.toNat | _ => 0, ⟨i - 1, zs, rfl, by omega, by omega, s5, m5, hhole, fun q a1 a2 => by omega, f5'⟩, ?_⟩
      rintro _ _ w12 ⟨j, us, rfl, j1, j2, s12, m12, hs, hr, f12⟩
      have hul := m12.len
      have s12d : Slc enU 1 w12.drew v us [b] := s12.fr (Fr.drew [] w12) (by simp)
      have f12d : Fr [b] w w12.drew := f12.trans' (Fr.drew _ _)
      have stop : (lo < j → at0 us (j - 1) ≤ at0 us j) → Sorted us lo i := fun hle p q a1 a2 a3 => by
        by_cases hq : q = j
        · subst hq
          by_cases hp : p = q
          · subst hp; omega
          · by_cases hp1 : p = q - 1
            · subst hp1; exact hle (by omega)
            · have x1 := hs p (q - 1) a1 (by omega) (by omega) (by omega) hp
              have x2 := hle (by omega)
              omega
        · by_cases hp : p = j
          · subst hp; exact hr q (by omega) (by omega)
          · exact hs p q a1 a2 (by omega) hq hp
      refine BND_step (binv_geq _ _ _ _) ?_
      by_cases hj1 : 1 ≤ j
      · refine COND_dec_true (by omega) <| BND_step (ia s12 (by omega)) <| BND_step (dec (by omega) (by omega)) <| BND_step (ia s12 (by omega)) <| BND_step (ld s12d (by omega)) <| BND_step (ld s12d (by omega)) <| less64 _ _ <| BND_step (unv_not _) ?_
        by_cases hl : at0 us j < at0 us (j - 1)
        · rw [show (!decide (at0 us j < at0 us (j - 1))) = false by simp [hl]]
          have hlj : lo < j := by
            rcases Nat.lt_or_ge lo j with h | h
            · exact h
            · have hjl : j = lo := by omega
              subst hjl
              have := (hab.mix m12 h2) (by omega) j (by omega) (by omega)
              omega
          refine (COND_false _ _).2 <| BND_step (dec (by omega) (by omega)) <| BND_step (dec (by omega) (by omega)) <| BND_step (ia s12d (by omega)) <| BND_step (ia s12d (by omega)) <| swap_tail s12d (p := j) (q := j - 1) (by omega) (by omega) fun w15 s15 f15 => ?_
          obtain ⟨n1, n2⟩ := swp_sorted (i := i - 1) (by omega) hlj j2 hs hr hl
          exact BND_step (dec (by omega) (by omega)) ⟨⟨j - 1, _, rfl, by omega, by omega, s15, .swap j (j - 1) (by omega) (by omega) (by omega) (by omega) m12, n1, n2, f12d.trans' f15⟩, by simp <;> omega⟩
        · rw [show (!decide (at0 us j < at0 us (j - 1))) = true by simp <;> omega]
          exact (COND_true _ _).2 (go _ us s12d m12 (stop fun _ => by omega) f12d)
      · exact COND_dec_false (by omega) (go w12 us s12 m12 (stop fun h => by omega) f12)
    · exact COND_dec_false hg (go w5 zs s5 m5 (fun p q a1 a2 a3 => by
        have : p = q := by omega
        subst this; omega) f5')
  · exact COND_dec_false (by omega) (hR w1 ys false s1 mx (fun h => by cases h) f1)

/-! ## pdqsort -/
/-- of A..B all is in order but within [lo, hi). -/
def But (xs : List Int) (A B lo hi : Nat) : Prop := ∀ i j, A ≤ i → i ≤ j → j < B → (i < lo ∨ hi ≤ j) → at0 xs i ≤ at0 xs j
theorem But.mix {ys : List Int} {A B lo hi : Nat} (h : But xs A B lo hi) (hm : Mix lo hi xs ys) (h2 : hi ≤ xs.length) (hA : A ≤ lo) (hB : hi ≤ B) : But ys A B lo hi := by
  intro i j h1 h3 h4 h5
  have old : ∀ k, (k < lo ∨ hi ≤ k) → at0 ys k = at0 xs k := fun k hk => hm.out h2 k hk
  have new : ∀ k, lo ≤ k → k < hi → ∃ m, lo ≤ m ∧ m < hi ∧ at0 ys k = at0 xs m := fun k => hm.pick h2 k
  by_cases hi' : i < lo
  · rw [old i (.inl hi')]
    by_cases hj : lo ≤ j ∧ j < hi
    · obtain ⟨m, m1, m2, e⟩ := new j hj.1 hj.2
      rw [e]; exact h i m h1 (by omega) (by omega) (.inl hi')
    · rw [old j (by omega)]; exact h i j h1 h3 h4 (.inl hi')
  · have hj : hi ≤ j := by omega
    rw [old j (.inr hj)]
    by_cases hin : i < hi
    · obtain ⟨m, m1, m2, e⟩ := new i (by omega) hin
      rw [e]; exact h m j (by omega) (by omega) h4 (.inr hj)
    · rw [old i (.inr (by omega))]; exact h i j h1 h3 h4 (.inr hj)
theorem But.done {A B lo hi : Nat} (h : But xs A B lo hi) (hs : Sorted xs lo hi) : Sorted xs A B := fun i j h1 h2 h3 => by
  by_cases hc : i < lo ∨ hi ≤ j
  · exact h i j h1 h2 h3 hc
  · exact hs i j (by omega) h2 (by omega)
/-- the left of a pivot is in order: the rest is the right. -/
theorem But.left {A B lo hi m : Nat} (h : But xs A B lo hi) (hm1 : lo ≤ m) (hm2 : m < hi) (hs : Sorted xs lo m) (hl : ∀ k, lo ≤ k → k < m → at0 xs k ≤ at0 xs m) (hr : ∀ k, m < k → k < hi → at0 xs m ≤ at0 xs k) : But xs A B (m + 1) hi := by
  intro i j h1 h2 h3 h5
  by_cases hc : i < lo ∨ hi ≤ j
  · exact h i j h1 h2 h3 hc
  · rcases h5 with h5 | h5
    · by_cases him : i = m
      · subst him
        by_cases hj : j = i
        · subst hj; omega
        · exact hr j (by omega) (by omega)
      · by_cases hjm : j < m
        · exact hs i j (by omega) h2 hjm
        · have x1 := hl i (by omega) (by omega)
          by_cases hj : j = m
          · rw [hj]; exact x1
          · have x2 := hr j (by omega) (by omega); omega
    · omega
theorem But.right {A B lo hi m : Nat} (h : But xs A B lo hi) (hm1 : lo ≤ m) (hm2 : m < hi) (hs : Sorted xs (m + 1) hi) (hl : ∀ k, lo ≤ k → k < m → at0 xs k ≤ at0 xs m) (hr : ∀ k, m < k → k < hi → at0 xs m ≤ at0 xs k) : But xs A B lo m := by
  intro i j h1 h2 h3 h5
  by_cases hc : i < lo ∨ hi ≤ j
  · exact h i j h1 h2 h3 hc
  · have hj : m ≤ j := by omega
    by_cases hjm : j = m
    · subst hjm
      by_cases hi' : i = j
      · subst hi'; omega
      · exact hl i (by omega) (by omega)
    · by_cases him : m < i
      · exact hs i j (by omega) h2 (by omega)
      · have x2 := hr j (by omega) (by omega)
        by_cases hi' : i = m
        · subst hi'; exact x2
        · have x1 := hl i (by omega) (by omega); omega
/-- those that are the least ones stand first: the rest is behind them. -/
theorem But.least {A B lo hi m : Nat} {p : Int} (h : But xs A B lo hi) (_ : lo ≤ m) (hge : ∀ k, lo ≤ k → k < hi → p ≤ at0 xs k) (hl : ∀ k, lo ≤ k → k < m → at0 xs k ≤ p) : But xs A B m hi := by
  intro i j h1 h2 h3 h5
  by_cases hc : i < lo ∨ hi ≤ j
  · exact h i j h1 h2 h3 hc
  · have x1 := hl i (by omega) (by omega)
    have x2 := hge j (by omega) (by omega)
    omega

theorem pdq : ∀ (N : Nat) {w : World} {xs : List Int} {R : Value → World → Prop} (_ : Slc enU 1 w v xs [b]) {A B : Nat} {lim : Int} (_ : A ≤ B) (_ : B ≤ xs.length) (_ : B - A ≤ N) (_ : xs.length < 256) (_ : Above xs A B) (_ : 0 ≤ lim) (_ : lim < 1000000)
    (_ : ∀ w' ys, Slc enU 1 w' v ys [b] → Mix A B xs ys → Sorted ys A B → Fr [b] w w' → R (.tuple #[]) w'), CALL PR F_slices_pdqsortOrdered_uint64 [v, .int .i64 (A : Int), .int .i64 (B : Int), .int .i64 lim] w R
  | 0, w, xs, R, s, A, B, lim, h1, h2, hN, hn, hab, hl0, hl1, hR => by
    refine C_slices_pdqsortOrdered_uint64 ?_
    unfold M_slices_pdqsortOrdered_uint64
    refine ⟨fun t1 t2 t3 t4 t5 w' => t1 = .int .i64 (A : Int) ∧ t2 = .int .i64 (B : Int) ∧ w' = w, fun _ _ _ _ _ _ => 0, ⟨rfl, rfl, rfl⟩, ?_⟩
    rintro _ _ _ _ _ _ _ ⟨rfl, rfl, rfl⟩
    refine BND_step (subn (by omega) (by omega)) <| BND_step (binv_leq _ _ _ _) <| COND_dec_true (by omega) <| insertionSort s h1 h2 (by omega) hR
  | N + 1, w, xs, R, s, A, B, lim, h1, h2, hN, hn, hab, hl0, hl1, hR => by
    refine C_slices_pdqsortOrdered_uint64 ?_
    unfold M_slices_pdqsortOrdered_uint64
    refine ⟨fun t1 t2 t3 t4 t5 w' => ∃ (lo hi : Nat) (lim : Int) (wb wp : Bool) (ys : List Int), t1 = .int .i64 lo ∧ t2 = .int .i64 hi ∧ t3 = .int .i64 lim ∧ t4 = .bool wb ∧ t5 = .bool wp ∧ A ≤ lo ∧ lo ≤ hi ∧ hi ≤ B ∧ 0 ≤ lim ∧ lim < 1000000 ∧ Slc enU 1 w' v ys [b] ∧ Mix A B xs ys ∧ But ys A B lo hi ∧ Fr [b] w w',
      fun t1 t2 _ _ _ _ => match t1, t2 with | .int _ n, .int _ m => (m - n).toNat | _, _ => 0, ⟨A, B, lim, true, true, xs, rfl, rfl, rfl, rfl, rfl, by omega, h1, by omega, hl0, hl1, s, .refl _, fun i j a1 a2 a3 a4 => by omega, Fr.refl _ _⟩, ?_⟩
    rintro _ _ _ _ _ _ w1 ⟨lo, hi, lim, wb, wp, ys, rfl, rfl, rfl, rfl, rfl, q1, q2, q3, q4, q5, s1, mx, bt, f1⟩
    have hyl := mx.len
    refine BND_step (subn (by omega) (by omega)) <| BND_step (binv_leq _ _ _ _) ?_
    by_cases h12 : hi - lo ≤ 12
    · refine COND_dec_true (by omega) <| insertionSort s1 q2 (by omega) (by omega) fun w2 zs s2 mz so f2 => ?_
      exact hR w2 zs s2 (mx.trans (mz.wider q1 q3)) ((bt.mix mz (by omega) q1 q3).done so) (f1.trans' f2)
    refine COND_dec_false (by omega) <| BND_step (binv_eql _ _ _ _) ?_
    by_cases hlz : lim = 0
    · refine COND_dec_true hlz <| heapSort s1 (by omega) (by omega) (by omega) fun w2 zs s2 mz so f2 => ?_
      exact hR w2 zs s2 (mx.trans (mz.wider q1 q3)) ((bt.mix mz (by omega) q1 q3).done so) (f1.trans' f2)
    refine COND_dec_false hlz <| BND_step (unv_not _) <| JOIN_elim fun K hK => ?_
    -- behind the patterns' breaking
    have go1 : ∀ w4 (l4 : Int) zs, 0 ≤ l4 → l4 < 1000000 → Slc enU 1 w4 v zs [b] → Mix lo hi ys zs → Fr [b] w w4 → K (.int .i64 l4) w4 := by
      intro w4 l4 zs l40 l41 s4 m4 f4
      have hzl := m4.len
      subst hK
      refine choosePivot s4 (by omega) (by omega) (by omega) fun w5 p hint p1 p2 s5 f5 => ?_
      refine BND_step (v := .int .i64 (p : Int)) rfl <| BND_step (v := .int .i64 hint) rfl <| BND_step (binv_eql _ _ _ _) <| JOIN_elim fun K2 hK2 => ?_
      have go2 : ∀ w6 (p : Nat) (h6 : Int) us, lo ≤ p → p < hi → Slc enU 1 w6 v us [b] → Mix lo hi ys us → Fr [b] w w6 → K2 (.int .i64 (p : Int)) (.int .i64 h6) w6 := by
        intro w6 p h6 us p1 p2 s6 m6 f6
        have hul := m6.len
        have bt6 := bt.mix m6 (by omega) q1 q3
        subst hK2
        have hab6 : Above us lo hi := fun h0 k k1 k2 => by
          by_cases hA : A = lo
          · have habA : Above us A B := hab.mix (mx.trans (m6.wider q1 q3)) (by omega)
            subst hA
            exact habA h0 k k1 (by omega)
          · exact bt6 (lo - 1) k (by omega) (by omega) (by omega) (.inl (by omega))
        -- is it to be tried whether nearly all is in order?
        have pre : ∀ Q : Value → Prop, (∀ B' : Bool, Q (.bool B')) → BND (grd (isB (.bool wb) true) (some (.bool wp))) fun t63_160 => BND (pickv (.bool wb) t63_160 (Value.bool false)) fun t64_161 => BND (grd (isB t64_161 true) (some (.int .i64 h6))) fun t66_162 =>
            BND (grd (isB t64_161 true) (binv .int .eql t66_162 (Value.int .i64 1))) fun t67_163 => BND (pickv t64_161 t67_163 (Value.bool false)) fun t68_164 => Q t68_164 := by
          intro Q hQ
          cases wb with
          | false => simp only [isB_ft, grd_false, BND_some, pickv_false]; exact hQ false
          | true =>
            cases wp with
            | false => simp only [isB_tt, isB_ft, grd_true, grd_false, BND_some, pickv_true, pickv_false]; exact hQ false
            | true => simp only [isB_tt, grd_true, BND_some, pickv_true, binv_eql]; exact hQ _
        refine pre _ fun B' => JOIN_elim fun K3 hK3 => ?_
        clear pre
        have go3 : ∀ w7 us, Slc enU 1 w7 v us [b] → Mix lo hi ys us → Fr [b] w w7 → K3 w7 := by
          intro w7 us s7 m7 f7
          have hul := m7.len
          have bt7 := bt.mix m7 (by omega) q1 q3
          have mx7 : Mix A B xs us := mx.trans (m7.wider q1 q3)
          subst hK3
          have hab7 : Above us lo hi := fun h0 k k1 k2 => by
            by_cases hA : A = lo
            · have habA : Above us A B := hab.mix mx7 (by omega)
              subst hA
              exact habA h0 k k1 (by omega)
            · exact bt7 (lo - 1) k (by omega) (by omega) (by omega) (.inl (by omega))
          have s7d : Slc enU 1 w7.drew v us [b] := s7.fr (Fr.drew [] w7) (by simp)
          have f7d : Fr [b] w w7.drew := f7.trans' (Fr.drew _ _)
          -- is the pivot the one ahead?
          have pre2 : ∀ Q : Value → World → Prop, (∀ B2 : Bool, (B2 = true → 0 < lo ∧ at0 us p ≤ at0 us (lo - 1)) → Q (.bool B2) w7.drew) → BND (binv .int .gtr (.int .i64 (lo : Int)) (Value.int .i64 0)) fun t74_169 =>
              BND (grd (isB t74_169 true) (some v)) fun t76_170 => BND (grd (isB t74_169 true) (some (.int .i64 (lo : Int)))) fun t77_171 => BND (grd (isB t74_169 true) (binv .int .sub t77_171 (Value.int .i64 1))) fun t78_172 => BND (grd (isB t74_169 true) (iaddr 1 t76_170 t78_172)) fun t79_173 =>
              BND (grd (isB t74_169 true) (some v)) fun t81_174 => BND (grd (isB t74_169 true) (some (.int .i64 (p : Int)))) fun t82_175 => BND (grd (isB t74_169 true) (iaddr 1 t81_174 t82_175)) fun t83_176 => BND (grd (isB t74_169 true) (load1 w7.drew t79_173)) fun t80_177 => BND (grd (isB t74_169 true) (load1 w7.drew t83_176)) fun t84_178 =>
              GEF (isB t74_169 true) (fun k_ => CALL PR F_cmp_Less_uint64 [t80_177, t84_178] w7.drew k_) w7.drew fun t85_179 w8 => BND (grd (isB t74_169 true) (unv .not t85_179)) fun t86_180 => BND (pickv t74_169 t86_180 (Value.bool false)) fun t87_181 => Q t87_181 w8 := by
            intro Q hQ
            refine BND_step (binv_gtr _ _ _ _) ?_
            by_cases h0 : 0 < lo
            · have e1 : decide ((0 : Int) < (lo : Int)) = true := by simp <;> omega
              rw [e1]
              simp only [isB_tt, grd_true, BND_some, GEF_true]
              refine BND_step (dec h0 (by omega)) <| BND_step (ia s7d (by omega)) <| BND_step (ia s7d (by omega)) <| BND_step (ld s7d (by omega)) <| BND_step (ld s7d (by omega)) <| less64 _ _ <| BND_step (unv_not _) <| BND_step (pickv_true _ _) ?_
              refine hQ _ fun hB => ⟨h0, ?_⟩
              simp at hB; omega
            · have e1 : decide ((0 : Int) < (lo : Int)) = false := by simp <;> omega
              rw [e1]
              simp only [isB_ft, grd_false, BND_some, GEF_false, pickv_false]
              exact hQ false fun hB => by cases hB
          refine pre2 _ fun B2 hB2 => ?_
          clear pre2
          cases B2 with
          | true =>
            obtain ⟨h0, hle⟩ := hB2 rfl
            have hge : ∀ k, lo ≤ k → k < hi → at0 us p ≤ at0 us k := fun k k1 k2 => by have := hab7 h0 k k1 k2; omega
            refine (COND_true _ _).2 <| partitionEqual s7d (by omega) (by omega) (by omega) p1 p2 fun w9 ts m s9 m9 e1 e2 hl hr f9 => ?_
            have bt9 := bt7.mix m9 (by omega) q1 q3
            refine ⟨⟨m, hi, l4, wb, wp, ts, rfl, rfl, rfl, rfl, rfl, by omega, e2, q3, l40, l41, s9, mx7.trans (m9.wider q1 q3), bt9.least (p := at0 us p) (by omega) (fun k k1 k2 => m9.all (by omega) (p := fun x => at0 us p ≤ x) hge k k1 k2) hl, f7d.trans' f9⟩, ?_⟩
            show ((hi : Int) - (m : Int)).toNat < ((hi : Int) - (lo : Int)).toNat
            omega
          | false =>
            refine (COND_false _ _).2 <| partition s7d (by omega) (by omega) (by omega) p1 p2 fun w10 ts m B3 s10 m10 e1 e2 hl hr f10 => ?_
            have htl := m10.len
            have bt10 := bt7.mix m10 (by omega) q1 q3
            have mx10 : Mix A B xs ts := mx7.trans (m10.wider q1 q3)
            have hab10 : Above ts lo hi := hab7.mix m10 (by omega)
            have f010 := f7d.trans' f10
            refine BND_step (v := .int .i64 (m : Int)) rfl <| BND_step (v := .bool B3) rfl <| BND_step (subn (by omega) (by omega)) <| BND_step (subn (by omega) (by omega)) <| BND_step (quon (n := hi - lo) 8 (by omega) (by omega)) <| BND_step (binv_lss _ _ _ _) <| JOIN_elim fun K4 hK4 => ?_
            have go4 : ∀ w11 (lo' hi' : Nat) (wb' : Bool) rs, A ≤ lo' → lo' ≤ hi' → hi' ≤ B → hi' - lo' < hi - lo → Slc enU 1 w11 v rs [b] → Mix A B xs rs → But rs A B lo' hi' → Fr [b] w w11 → K4 (.int .i64 (lo' : Int)) (.int .i64 (hi' : Int)) (.bool wb') w11 := by
              intro w11 lo' hi' wb' rs r1 r2 r3 r4 s11 m11 bt11 f11
              subst hK4
              refine ⟨⟨lo', hi', l4, wb', B3, rs, rfl, rfl, rfl, rfl, rfl, r1, r2, r3, l40, l41, s11, m11, bt11, f11⟩, ?_⟩
              show ((hi' : Int) - (lo' : Int)).toNat < ((hi : Int) - (lo : Int)).toNat
              omega
            clear hK4
            have keepM : ∀ rs, (Mix lo m ts rs ∨ Mix (m + 1) hi ts rs) → at0 rs m = at0 ts m := fun rs h => by
              rcases h with h | h
              · exact h.out (by omega) m (.inr (by omega))
              · exact h.out (by omega) m (.inl (by omega))
            by_cases hlr : (((m - lo : Nat) : Int)) < ((hi - m : Nat) : Int)
            · refine COND_dec_true hlr <| BND_step (binv_geq _ _ _ _) <| pdq N s10 (A := lo) (B := m) e1 (by omega) (by omega) (by omega) (fun h0 k k1 k2 => hab10 h0 k k1 (by omega)) l40 l41 fun w12 rs s12 m12 so12 f12 => ?_
              have e12 := keepM rs (.inl m12)
              have bt12 := bt10.mix (m12.wider (d := hi) (Nat.le_refl _) (by omega)) (by omega) q1 q3
              refine BND_step (inc (by omega)) <| go4 w12 (m + 1) hi _ rs (by omega) (by omega) q3 (by omega) s12 (mx10.trans (m12.wider q1 (by omega))) (bt12.left e1 e2 so12 (fun k k1 k2 => ?_) (fun k k1 k2 => ?_)) (f010.trans' f12)
              · rw [e12]; exact m12.all (by omega) (p := fun x => x ≤ at0 ts m) hl k k1 k2
              · rw [e12, m12.out (by omega) k (.inr (by omega))]; exact hr k k1 k2
            · refine COND_dec_false hlr <| BND_step (binv_geq _ _ _ _) <| BND_step (inc (by omega)) <| pdq N s10 (A := m + 1) (B := hi) (by omega) (by omega) (by omega) (by omega) (fun _ k k1 k2 => by
                  rw [show m + 1 - 1 = m by omega]; exact hr k (by omega) k2) l40 l41 fun w13 rs s13 m13 so13 f13 => ?_
              have e13 := keepM rs (.inr m13)
              have bt13 := bt10.mix (m13.wider (c := lo) (by omega) (Nat.le_refl _)) (by omega) q1 q3
              refine go4 w13 lo m _ rs q1 e1 (by omega) (by omega) s13 (mx10.trans (m13.wider (by omega) q3)) (bt13.right e1 e2 so13 (fun k k1 k2 => ?_) (fun k k1 k2 => ?_)) (f010.trans' f13)
              · rw [e13, m13.out (by omega) k (.inl (by omega))]; exact hl k k1 k2
              · rw [e13]; exact m13.all (by omega) (p := fun x => at0 ts m ≤ x) (fun k k1 k2 => hr k (by omega) k2) k (by omega) k2
        clear hK3
        cases B' with
        | false => exact (COND_false _ _).2 (go3 w6 us s6 m6 f6)
        | true =>
          refine (COND_true _ _).2 <| partialInsertion s6 (by omega) (by omega) (by omega) hab6 fun w14 ts B2 s14 m14 so14 f14 => ?_
          cases B2 with
          | true => exact (COND_true _ _).2 (hR w14 ts s14 (mx.trans ((m6.trans m14).wider q1 q3)) (((bt.mix (m6.trans m14) (by omega) q1 q3)).done (so14 rfl)) (f6.trans' f14))
          | false => exact (COND_false _ _).2 (go3 w14 ts s14 (m6.trans m14) (f6.trans' f14))
      clear hK2
      have f5' := f4.trans' f5.nil
      by_cases h2h : hint = 2
      · refine COND_dec_true h2h <| reverseRange s5 (by omega) (by omega) (by omega) fun w15 us s15 m15 f15 => ?_
        refine BND_step (dec (by omega) (by omega)) <| BND_step (subn (by omega) (by omega)) <| BND_step (subn (by omega) (by omega)) <| go2 w15 _ 1 us (by omega) (by omega) s15 (m4.trans m15) (f5'.trans' f15)
      · exact COND_dec_false h2h (go2 w5 p hint zs p1 p2 s5 m4 f5')
    clear hK
    cases wb with
    | false =>
      refine (COND_true _ _).2 <| breakPatterns s1 (by omega) (by omega) (by omega) fun w16 zs s16 m16 f16 => ?_
      exact BND_step (decI (by omega) (by omega)) <| go1 w16 _ zs (by omega) (by omega) s16 m16 (f1.trans' f16)
    | true => exact (COND_false _ _).2 (go1 w1 lim ys q4 q5 s1 (.refl _) f1)

/-- slices.Sort at []uint64. -/
theorem sort64 {F : List Nat} (s : Slc enU 1 w v xs F) (hn : xs.length < 256) (hR : ∀ w' ys, Slc enU 1 w' v ys F → ys.Perm xs → ys.Pairwise (· ≤ ·) → Fr F w w' → R (.tuple #[]) w') :
    CALL PR F_slices_Sort_uint64_uint64 [v] w R := by
  refine C_slices_Sort_uint64_uint64 ?_
  unfold M_slices_Sort_uint64_uint64
  have hk : convi .u64 (.int .i64 (xs.length : Int)) = some (.int .u64 (xs.length : Int)) := by
    simp only [convi]
    rw [wrap_u64 (by omega) (by omega)]
  have hb8 := (len8_at xs.length hn).2.1
  refine BND_step s.len <| BND_step hk <| bitsLen hn ?_
  have hs := s
  rcases s with ⟨rfl, rfl, rfl⟩ | ⟨b, cap, c, T, hv, hb, hc, hz, rfl, hel⟩
  · -- nothing
    refine C_slices_pdqsortOrdered_uint64 ?_
    unfold M_slices_pdqsortOrdered_uint64
    refine ⟨fun t1 t2 t3 t4 t5 w' => t1 = .int .i64 0 ∧ t2 = .int .i64 0 ∧ w' = w, fun _ _ _ _ _ _ => 0, ⟨rfl, rfl, rfl⟩, ?_⟩
    rintro _ _ _ _ _ _ w1 ⟨rfl, rfl, hw⟩
    rw [hw]
    refine BND_step (subn (n := 0) (m := 0) (by omega) (by omega)) <| BND_step (binv_leq _ _ _ _) <| COND_dec_true (by omega) ?_
    refine C_slices_insertionSortOrdered_uint64 ?_
    unfold M_slices_insertionSortOrdered_uint64
    refine BND_step (inc (n := 0) (by omega)) ⟨fun t w' => t = .int .i64 1 ∧ w' = w, fun _ _ => 0, ⟨rfl, rfl⟩, ?_⟩
    rintro _ _ w2 ⟨rfl, hw2⟩
    rw [hw2]
    exact BND_step (binv_lss _ _ _ _) <| COND_dec_false (by omega) <| hR _ [] hs (.refl _) .nil (Fr.refl _ _)
  · refine pdq xs.length hs (A := 0) (B := xs.length) (by omega) (by omega) (by omega) hn (fun h => by omega) (by omega) (by omega) fun w' ys s' mx so f' => hR w' ys s' (mx.perm (by omega)) ?_ f'
    rw [List.pairwise_iff_getElem]
    intro i j hi hj hij
    have hyl := mx.len
    have := so i j (by omega) (by omega) (by omega)
    have e1 := at0_get (xs := ys) (i := i) hi
    have e2 := at0_get (xs := ys) (i := j) hj
    rw [List.getElem?_eq_getElem hi] at e1
    rw [List.getElem?_eq_getElem hj] at e2
    rw [Option.some.inj e1, Option.some.inj e2]
    exact this
end
end Go.Proofs.Ytkifjfjhghogjaa.Sort64
