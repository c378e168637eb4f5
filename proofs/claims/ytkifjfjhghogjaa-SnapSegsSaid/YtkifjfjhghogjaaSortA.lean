/- Sorting a slice of uint64: swaps, what stands where; cmp.Less; insertionSort, reverseRange, the pivot's choice, breakPatterns. No condition but sizes. -/
import Derived.Test.YtkifjfjhghogjaaLib4
import Derived.Test.YtkifjfjhghogjaaMa
namespace Go.Proofs.Ytkifjfjhghogjaa.Sort64
open Go.Den

/-! ## Lists by place -/
abbrev enU (n : Int) : List Value := [.int .u64 n]
theorem enU_len (r : Int) : (enU r).length = 1 := rfl
theorem enU_one (r : Int) : ∀ u ∈ enU r, u.oneCell' = true := by intro u hu; simp [enU] at hu; subst hu; rfl
def at0 (xs : List Int) (i : Nat) : Int := xs.getD i 0
def swp (xs : List Int) (i j : Nat) : List Int := (xs.set i (at0 xs j)).set j (at0 xs i)
theorem at0_get {xs : List Int} {i : Nat} (h : i < xs.length) : xs[i]? = some (at0 xs i) := by
  unfold at0
  rw [List.getD_eq_getElem?_getD, List.getElem?_eq_getElem h]; rfl
theorem len_swp (xs : List Int) (i j : Nat) : (swp xs i j).length = xs.length := by simp [swp]
theorem at0_swp {xs : List Int} {i j : Nat} (hi : i < xs.length) (hj : j < xs.length) (k : Nat) : at0 (swp xs i j) k = if k = j then at0 xs i else if k = i then at0 xs j else at0 xs k := by
  unfold swp
  have : ∀ (ys : List Int) (m : Nat) (x : Int), m < ys.length → at0 (ys.set m x) k = if k = m then x else at0 ys k := fun ys m x hm => by
    unfold at0
    rw [List.getD_eq_getElem?_getD, List.getD_eq_getElem?_getD, List.getElem?_set]
    by_cases h : m = k
    · subst h; simp [hm]
    · rw [if_neg h, if_neg (fun e => h e.symm)]
  rw [this _ j _ (by simpa using hj), this _ i _ hi]
theorem set_at0 (xs : List Int) (i : Nat) : xs.set i (at0 xs i) = xs := by
  apply List.ext_getElem?
  intro k
  rw [List.getElem?_set]
  split
  · rename_i h; subst h
    split
    · rename_i hl; exact (at0_get hl).symm
    · rename_i hl; exact (List.getElem?_eq_none (by omega)).symm
  · rfl
theorem swp_perm {xs : List Int} {i j : Nat} (hi : i < xs.length) (hj : j < xs.length) : (swp xs i j).Perm xs := by
  have key : ∀ {i j : Nat}, i < j → j < xs.length → ((xs.set i (at0 xs j)).set j (at0 xs i)).Perm xs := by
    intro i j hij hj
    have hi : i < xs.length := by omega
    have e1 : xs = xs.take i ++ at0 xs i :: (xs.drop (i + 1)) := by
      conv => lhs; rw [← List.take_append_drop i xs]
      congr 1
      have : xs[i]? = some (at0 xs i) := at0_get hi
      obtain ⟨h1, h2⟩ := List.getElem?_eq_some_iff.1 this
      rw [List.drop_eq_getElem_cons hi, h2]
    have e2 : xs.drop (i + 1) = (xs.drop (i + 1)).take (j - (i + 1)) ++ at0 xs j :: xs.drop (j + 1) := by
      conv => lhs; rw [← List.take_append_drop (j - (i + 1)) (xs.drop (i + 1))]
      congr 1
      rw [List.drop_drop, show i + 1 + (j - (i + 1)) = j by omega]
      have : xs[j]? = some (at0 xs j) := at0_get hj
      obtain ⟨h1, h2⟩ := List.getElem?_eq_some_iff.1 this
      rw [List.drop_eq_getElem_cons hj, h2]
    have hL : (xs.take i).length = i := by simp; omega
    have hM : ((xs.drop (i + 1)).take (j - (i + 1))).length = j - (i + 1) := by simp; omega
    generalize xs.take i = L at e1 hL
    generalize (xs.drop (i + 1)).take (j - (i + 1)) = M at e2 hM
    generalize xs.drop (j + 1) = N at e2
    rw [e2] at e1
    generalize at0 xs i = x at *
    generalize at0 xs j = y at *
    subst e1
    have s1 : (L ++ x :: (M ++ y :: N)).set i y = L ++ y :: (M ++ y :: N) := by
      rw [List.set_append_right _ _ (by omega), hL, Nat.sub_self, List.set_cons_zero]
    have s2 : (L ++ y :: (M ++ y :: N)).set j x = L ++ y :: (M ++ x :: N) := by
      rw [List.set_append_right _ _ (by omega), hL, show j - i = (j - (i + 1)) + 1 by omega, List.set_cons_succ, List.set_append_right _ _ (by omega), hM, Nat.sub_self, List.set_cons_zero]
    rw [s1, s2]
    refine List.Perm.append_left L ?_
    refine (List.perm_middle.cons y).trans ?_
    refine (List.Perm.swap x y (M ++ N)).trans ?_
    exact (List.perm_middle.symm).cons x
  unfold swp
  rcases Nat.lt_trichotomy i j with h | h | h
  · exact key h hj
  · subst h
    rw [List.set_set, set_at0]
  · have : (xs.set i (at0 xs j)).set j (at0 xs i) = (xs.set j (at0 xs i)).set i (at0 xs j) := List.set_comm _ _ (by omega)
    rw [this]
    exact key h hi

/-- swaps within [a, b). -/
inductive Mix (a b : Nat) : List Int → List Int → Prop where
  | refl (xs : List Int) : Mix a b xs xs
  | swap {xs ys : List Int} (i j : Nat) (hi : a ≤ i) (hi' : i < b) (hj : a ≤ j) (hj' : j < b) (h : Mix a b xs ys) : Mix a b xs (swp ys i j)
section
variable {a b c d : Nat} {xs ys zs : List Int}
theorem Mix.trans (h : Mix a b xs ys) (h' : Mix a b ys zs) : Mix a b xs zs := by
  induction h' with
  | refl => exact h
  | swap i j h1 h2 h3 h4 _ ih => exact .swap i j h1 h2 h3 h4 ih
theorem Mix.wider (h : Mix a b xs ys) (h1 : c ≤ a) (h2 : b ≤ d) : Mix c d xs ys := by
  induction h with
  | refl => exact .refl _
  | swap i j _ _ _ _ _ ih => exact .swap i j (by omega) (by omega) (by omega) (by omega) ih
theorem Mix.len (h : Mix a b xs ys) : ys.length = xs.length := by
  induction h with
  | refl => rfl
  | swap i j _ _ _ _ _ ih => rw [len_swp, ih]
theorem Mix.perm (h : Mix a b xs ys) (hb : b ≤ xs.length) : ys.Perm xs := by
  induction h with
  | refl => exact .refl _
  | swap i j _ _ _ _ hm ih =>
    have := hm.len
    exact (swp_perm (by omega) (by omega)).trans (ih)
theorem Mix.out (h : Mix a b xs ys) (hb : b ≤ xs.length) (k : Nat) (hk : k < a ∨ b ≤ k) : at0 ys k = at0 xs k := by
  induction h with
  | refl => rfl
  | swap i j _ _ _ _ hm ih =>
    have := hm.len
    rw [at0_swp (by omega) (by omega), if_neg (by omega), if_neg (by omega), ih]
theorem Mix.pick (h : Mix a b xs ys) (hb : b ≤ xs.length) (k : Nat) (h1 : a ≤ k) (h2 : k < b) : ∃ m, a ≤ m ∧ m < b ∧ at0 ys k = at0 xs m := by
  induction h generalizing k with
  | refl => exact ⟨k, h1, h2, rfl⟩
  | swap i j _ _ _ _ hm ih =>
    have := hm.len
    rw [at0_swp (by omega) (by omega)]
    split
    · exact ih i (by omega) (by omega)
    split
    · exact ih j (by omega) (by omega)
    · exact ih k h1 h2
theorem Mix.all (h : Mix a b xs ys) (hb : b ≤ xs.length) {p : Int → Prop} (hp : ∀ k, a ≤ k → k < b → p (at0 xs k)) (k : Nat) (h1 : a ≤ k) (h2 : k < b) : p (at0 ys k) := by
  obtain ⟨m, m1, m2, e⟩ := h.pick hb k h1 h2
  rw [e]; exact hp m m1 m2
def Sorted (xs : List Int) (a b : Nat) : Prop := ∀ i j, a ≤ i → i ≤ j → j < b → at0 xs i ≤ at0 xs j
end

/-! ## Numbers -/
theorem inc {n : Nat} (h : n < 1000000000000) : binv .int .add (.int .i64 (n : Int)) (.int .i64 1) = some (.int .i64 ((n + 1 : Nat) : Int)) := by
  rw [binv_add, wrap_i64 (by omega) (by omega)]; congr 2
theorem dec {n : Nat} (h0 : 0 < n) (h : n < 1000000000000) : binv .int .sub (.int .i64 (n : Int)) (.int .i64 1) = some (.int .i64 ((n - 1 : Nat) : Int)) := by
  rw [binv_sub, wrap_i64 (by omega) (by omega)]; congr 2; omega
theorem decI {n : Int} (h0 : -1000000000000 < n) (h : n < 1000000000000) : binv .int .sub (.int .i64 n) (.int .i64 1) = some (.int .i64 (n - 1)) := by
  rw [binv_sub, wrap_i64 (by omega) (by omega)]
theorem addn {n m : Nat} (h : n + m < 1000000000000) : binv .int .add (.int .i64 (n : Int)) (.int .i64 (m : Int)) = some (.int .i64 ((n + m : Nat) : Int)) := by
  rw [binv_add, wrap_i64 (by omega) (by omega)]; congr 2
theorem subn {n m : Nat} (hm : m ≤ n) (h : n < 1000000000000) : binv .int .sub (.int .i64 (n : Int)) (.int .i64 (m : Int)) = some (.int .i64 ((n - m : Nat) : Int)) := by
  rw [binv_sub, wrap_i64 (by omega) (by omega)]; congr 2; omega
theorem quon {n : Nat} (m : Nat) (hm : 0 < m) (h : n < 1000000000000) : binv .int .quo (.int .i64 (n : Int)) (.int .i64 (m : Int)) = some (.int .i64 ((n / m : Nat) : Int)) := by
  have hd : n / m ≤ n := Nat.div_le_self _ _
  have e : (n : Int).tdiv (m : Int) = ((n / m : Nat) : Int) := by rw [Int.tdiv_eq_ediv_of_nonneg (by omega)]; simp
  rw [binv_quo _ _ _ _ (by omega), e]
  generalize n / m = q at hd
  rw [wrap_i64 (by omega) (by omega)]
theorem muln {n m : Nat} (h : n * m < 1000000000000) : binv .int .mul (.int .i64 (n : Int)) (.int .i64 (m : Int)) = some (.int .i64 ((n * m : Nat) : Int)) := by
  rw [binv_mul]
  have e : (n : Int) * (m : Int) = ((n * m : Nat) : Int) := by simp
  rw [e, wrap_i64 (by omega) (by omega)]

/-! ## In memory -/
section
variable {w : World} {v : Value} {xs : List Int} {b : Nat} {R : Value → World → Prop}
theorem ia (s : Slc enU 1 w v xs [b]) {i : Nat} (hi : i < xs.length) : iaddr 1 v (.int .i64 (i : Int)) = some (.pointer (some ⟨b, i, none⟩)) := by
  obtain ⟨b', e, h⟩ := s.iaddr hi .i64
  simp at e; subst e
  rw [h, Nat.mul_one]
theorem ld (s : Slc enU 1 w v xs [b]) {i : Nat} (hi : i < xs.length) : load1 w (.pointer (some ⟨b, i, none⟩)) = some (.int .u64 (at0 xs i)) := by
  have := s.load1 (i := i) (j := 0) (at0_get hi) (by omega)
  rw [Nat.mul_one, Nat.add_zero] at this
  exact this
theorem st (s : Slc enU 1 w v xs [b]) {i : Nat} (hi : i < xs.length) (x : Int) : ∃ w', storev 1 w (.pointer (some ⟨b, i, none⟩)) (.int .u64 x) = some w' ∧ Slc enU 1 w' v (xs.set i x) [b] ∧ Fr [b] w w' := by
  obtain ⟨w', e, s', f, _⟩ := s.set1 (i := i) (j := 0) (y := x) (u := .int .u64 x) (at0_get hi) (by omega) (fun m hm => by
    obtain rfl : m = 0 := by omega
    rfl) rfl rfl
  rw [Nat.mul_one, Nat.add_zero] at e
  exact ⟨w', e, s', f⟩
theorem swap_tail (s : Slc enU 1 w v xs [b]) {p q : Nat} (hp : p < xs.length) (hq : q < xs.length) {K : World → Prop} (hK : ∀ w', Slc enU 1 w' v (swp xs p q) [b] → Fr [b] w w' → K w') :
    BND (load1 w.drew (.pointer (some ⟨b, q, none⟩))) fun x => BND (load1 w.drew (.pointer (some ⟨b, p, none⟩))) fun y => BND (iaddr 1 v (.int .i64 (p : Int))) fun d => BND (storev 1 w.drew d x) fun w1 =>
      BND (iaddr 1 v (.int .i64 (q : Int))) fun e => BND (storev 1 w1 e y) fun w2 => K w2 := by
  have sd : Slc enU 1 w.drew v xs [b] := s.fr (Fr.drew [] w) (by simp)
  obtain ⟨w1, e1, s1, f1⟩ := st sd hp (at0 xs q)
  obtain ⟨w2, e2, s2, f2⟩ := st s1 (i := q) (by simpa using hq) (at0 xs p)
  exact BND_step (ld sd hq) <| BND_step (ld sd hp) <| BND_step (ia sd hp) <| BND_step e1 <| BND_step (ia s1 (by simpa using hq)) <| BND_step e2 <| hK w2 s2 ((Fr.drew [b] w).trans' (f1.trans' f2))

theorem less64 (x y : Int) (hR : R (.bool (decide (x < y))) w) : CALL PR F_cmp_Less_uint64 [.int .u64 x, .int .u64 y] w R := by
  refine C_cmp_Less_uint64 ?_
  unfold M_cmp_Less_uint64
  refine C_cmp_isNaN_uint64 ?_
  unfold M_cmp_isNaN_uint64
  refine BND_step (binv_neq _ _ _ _) ?_
  simp only [decide_true, Bool.not_true, isB_ft, isB_ff, grd_false, grd_true, GEF_false, BND_some, pickv_false]
  exact BND_step (binv_lss _ _ _ _) hR

theorem swp_sorted {xs : List Int} {a i j : Nat} (hil : i < xs.length) (haj : a < j) (hji : j ≤ i) (hs : ∀ p q, a ≤ p → p ≤ q → q ≤ i → q ≠ j → p ≠ j → at0 xs p ≤ at0 xs q) (hr : ∀ q, j < q → q ≤ i → at0 xs j ≤ at0 xs q) (hl : at0 xs j < at0 xs (j - 1)) :
    (∀ p q, a ≤ p → p ≤ q → q ≤ i → q ≠ j - 1 → p ≠ j - 1 → at0 (swp xs j (j - 1)) p ≤ at0 (swp xs j (j - 1)) q) ∧ (∀ q, j - 1 < q → q ≤ i → at0 (swp xs j (j - 1)) (j - 1) ≤ at0 (swp xs j (j - 1)) q) := by
  have e := at0_swp (xs := xs) (i := j) (j := j - 1) (by omega) (by omega)
  constructor
  · intro p q hap hpq hqi hq hp
    rw [e p, e q, if_neg hp, if_neg hq]
    by_cases h1 : p = j
    · subst h1
      rw [if_pos rfl]
      by_cases h2 : q = p
      · rw [if_pos h2]; omega
      · rw [if_neg h2]
        exact hs (p - 1) q (by omega) (by omega) hqi h2 (by omega)
    · rw [if_neg h1]
      by_cases h2 : q = j
      · rw [if_pos h2]
        exact hs p (j - 1) hap (by omega) (by omega) (by omega) h1
      · rw [if_neg h2]
        exact hs p q hap hpq hqi h2 h1
  · intro q hq hqi
    rw [e (j - 1), e q, if_pos rfl, if_neg (by omega)]
    by_cases h2 : q = j
    · rw [if_pos h2]; omega
    · rw [if_neg h2]
      exact hr q (by omega) hqi

theorem insertionSort (s : Slc enU 1 w v xs [b]) {lo hi : Nat} (h1 : lo ≤ hi) (h2 : hi ≤ xs.length) (hn : xs.length < 1000000000)
    (hR : ∀ w' ys, Slc enU 1 w' v ys [b] → Mix lo hi xs ys → Sorted ys lo hi → Fr [b] w w' → R (.tuple #[]) w') :
    CALL PR F_slices_insertionSortOrdered_uint64 [v, .int .i64 (lo : Int), .int .i64 (hi : Int)] w R := by
  refine C_slices_insertionSortOrdered_uint64 ?_
  unfold M_slices_insertionSortOrdered_uint64
  refine BND_step (inc (by omega)) ?_
  refine ⟨fun t w' => ∃ (i : Nat) (ys : List Int), t = .int .i64 i ∧ lo < i ∧ (i ≤ hi ∨ i = lo + 1) ∧ Slc enU 1 w' v ys [b] ∧ Mix lo hi xs ys ∧ Sorted ys lo i ∧ Fr [b] w w', fun t _ => match t with | .int _ n => hi + 1 - n.toNat | _ => 0,
    ⟨lo + 1, xs, rfl, by omega, .inr rfl, s, .refl _, fun i j h1 h2 h3 => by
      have : i = j := by omega
      subst this; omega, Fr.refl _ _⟩, ?_⟩
  rintro _ _ w1 ⟨i, ys, rfl, hli, hih, s1, mx, so, f1⟩
  have hyl := mx.len
  refine BND_step (binv_lss _ _ _ _) ?_
  by_cases hlt : i < hi
  · refine COND_dec_true (by omega) ?_
    refine ⟨fun t w' => ∃ (j : Nat) (zs : List Int), t = .int .i64 j ∧ lo ≤ j ∧ j ≤ i ∧ Slc enU 1 w' v zs [b] ∧ Mix lo hi xs zs ∧ (∀ p q, lo ≤ p → p ≤ q → q ≤ i → q ≠ j → p ≠ j → at0 zs p ≤ at0 zs q) ∧ (∀ q, j < q → q ≤ i → at0 zs j ≤ at0 zs q) ∧ Fr [b] w w',
      fun t _ => match t with | .int _ n => n.toNat | _ => 0, ⟨i, ys, rfl, by omega, by omega, s1, mx, fun p q a1 a2 a3 a4 a5 => so p q a1 a2 (by omega), fun q a1 a2 => by omega, f1⟩, ?_⟩
    rintro _ _ w2 ⟨j, zs, rfl, hlj, hji, s2, mz, hs, hr, f2⟩
    have hzl := mz.len
    have sd : Slc enU 1 w2.drew v zs [b] := s2.fr (Fr.drew [] w2) (by simp)
    have fd : Fr [b] w w2.drew := f2.trans' (Fr.drew _ _)
    -- the round's end
    have fin : ∀ w3, Slc enU 1 w3 v zs [b] → Fr [b] w w3 → (lo < j → at0 zs (j - 1) ≤ at0 zs j) → BND (binv .int .add (.int .i64 (i : Int)) (Value.int .i64 1)) fun t14 =>
        ((∃ (i : Nat) (ys : List Int), t14 = .int .i64 i ∧ lo < i ∧ (i ≤ hi ∨ i = lo + 1) ∧ Slc enU 1 w3 v ys [b] ∧ Mix lo hi xs ys ∧ Sorted ys lo i ∧ Fr [b] w w3) ∧ (match t14 with | .int _ n => hi + 1 - n.toNat | _ => 0) < hi + 1 - (i : Int).toNat) := by
      intro w3 s3 f3 hle
      refine BND_step (inc (by omega)) ⟨⟨i + 1, zs, rfl, by omega, .inl (by omega), s3, mz, fun p q a1 a2 a3 => ?_, f3⟩, by simp; omega⟩
      by_cases hq : q = j
      · subst hq
        by_cases hp : p = q
        · subst hp; omega
        · by_cases hp1 : p = q - 1
          · subst hp1; exact hle (by omega)
          · have x1 := hs p (q - 1) a1 (by omega) (by omega) (by omega) hp
            have x2 := hle (by omega)
            omega
      · by_cases hp : p = j
        · subst hp; exact hr q (by omega) (by omega)
        · exact hs p q a1 a2 (by omega) hq hp
    refine BND_step (binv_gtr _ _ _ _) ?_
    by_cases hj0 : lo < j
    · have e1 : decide ((lo : Int) < (j : Int)) = true := by simp [hj0]
      rw [e1]
      simp only [isB_tt, grd_true, BND_some, GEF_true]
      refine BND_step (ia sd (by omega)) <| BND_step (dec (by omega) (by omega)) <| BND_step (ia sd (by omega)) <| BND_step (ld sd (by omega)) <| BND_step (ld sd (by omega)) <| less64 _ _ <| BND_step (pickv_true _ _) ?_
      by_cases hl : at0 zs j < at0 zs (j - 1)
      · refine COND_dec_true hl <| BND_step (dec (by omega) (by omega)) <| BND_step (dec (by omega) (by omega)) <| BND_step (ia sd (by omega)) <| BND_step (ia sd (by omega)) <| swap_tail sd (by omega) (by omega) fun w4 s4 f4 => ?_
        obtain ⟨n1, n2⟩ := swp_sorted (i := i) (by omega) hj0 hji hs hr hl
        exact BND_step (dec (by omega) (by omega)) ⟨⟨j - 1, _, rfl, by omega, by omega, s4, .swap j (j - 1) (by omega) (by omega) (by omega) (by omega) mz, n1, n2, fd.trans' f4⟩, by simp; omega⟩
      · exact COND_dec_false hl (fin _ sd fd fun _ => by omega)
    · have e1 : decide ((lo : Int) < (j : Int)) = false := by simp; omega
      rw [e1]
      simp only [isB_ft, grd_false, BND_some, GEF_false, pickv_false, COND_false]
      exact fin _ sd fd fun h => absurd h hj0
  · refine COND_dec_false (by omega) (hR w1 ys s1 mx (fun p q a1 a2 a3 => so p q a1 a2 (by omega)) f1)

theorem reverseRange (s : Slc enU 1 w v xs [b]) {lo hi : Nat} (h1 : lo < hi) (h2 : hi ≤ xs.length) (hn : xs.length < 1000000000)
    (hR : ∀ w' ys, Slc enU 1 w' v ys [b] → Mix lo hi xs ys → Fr [b] w w' → R (.tuple #[]) w') :
    CALL PR F_slices_reverseRangeOrdered_uint64 [v, .int .i64 (lo : Int), .int .i64 (hi : Int)] w R := by
  refine C_slices_reverseRangeOrdered_uint64 ?_
  unfold M_slices_reverseRangeOrdered_uint64
  refine BND_step (dec (by omega) (by omega)) ?_
  refine ⟨fun ti tj w' => ∃ (i j : Nat) (ys : List Int), ti = .int .i64 i ∧ tj = .int .i64 j ∧ lo ≤ i ∧ i ≤ hi ∧ lo ≤ j + 1 ∧ j < hi ∧ i ≤ j + 2 ∧ Slc enU 1 w' v ys [b] ∧ Mix lo hi xs ys ∧ Fr [b] w w', fun ti _ _ => match ti with | .int _ n => hi - n.toNat | _ => 0,
    ⟨lo, hi - 1, xs, rfl, rfl, by omega, by omega, by omega, by omega, by omega, s, .refl _, Fr.refl _ _⟩, ?_⟩
  rintro _ _ _ w1 ⟨i, j, ys, rfl, rfl, a1, a2, a3, a4, a5, s1, mx, f1⟩
  have hyl := mx.len
  refine BND_step (binv_lss _ _ _ _) ?_
  by_cases hlt : i < j
  · refine COND_dec_true (by omega) <| BND_step (ia s1 (by omega)) <| BND_step (ia s1 (by omega)) <| swap_tail s1 (by omega) (by omega) fun w2 s2 f2 => ?_
    exact BND_step (inc (by omega)) <| BND_step (dec (by omega) (by omega)) ⟨⟨i + 1, j - 1, _, rfl, rfl, by omega, by omega, by omega, by omega, by omega, s2, .swap i j (by omega) (by omega) (by omega) (by omega) mx, f1.trans' f2⟩, by simp; omega⟩
  · exact COND_dec_false (by omega) (hR w1 ys s1 mx f1)

/-! ## The pivot's choice -/
theorem order2 (s : Slc enU 1 w v xs [b]) {i j c T : Nat} {n : Int} (hi : i < xs.length) (hj : j < xs.length) (hc : blk w c = some (.cells #[.int .i64 n] T (0, 0))) (hcb : c ≠ b) (h0 : 0 ≤ n) (h1 : n < 1000000)
    (hR : ∀ w' (p q : Nat) m, (p = i ∧ q = j ∨ p = j ∧ q = i) → blk w' c = some (.cells #[.int .i64 m] T (0, 0)) → 0 ≤ m → m ≤ n + 1 → Fr [c] w w' → R (.tuple #[.int .i64 (p : Int), .int .i64 (q : Int)]) w') :
    CALL PR F_slices_order2Ordered_uint64 [v, .int .i64 (i : Int), .int .i64 (j : Int), .pointer (some ⟨c, 0, none⟩)] w R := by
  refine C_slices_order2Ordered_uint64 ?_
  unfold M_slices_order2Ordered_uint64
  have sd : Slc enU 1 w.drew v xs [b] := s.fr (Fr.drew [] w) (by simp)
  have fd : Fr [c] w w.drew := Fr.drew _ _
  have hcd : blk w.drew c = some (.cells #[.int .i64 n] T (0, 0)) := hc
  refine BND_step (ia sd hj) <| BND_step (ia sd hi) <| BND_step (ld sd hj) <| BND_step (ld sd hi) <| less64 _ _ ?_
  by_cases hl : at0 xs j < at0 xs i
  · refine COND_dec_true hl <| BND_step (nilchk_ptr _) <| BND_step (v := .int .i64 n) (load1_blk hcd) <| BND_step (v := .int .i64 (n + 1)) (by rw [binv_add, wrap_i64 (by omega) (by omega)]) <| BND_step (nilchk_ptr _) <| BND_step (storev1_blk hcd (by simp) rfl rfl) ?_
    exact hR _ j i (n + 1) (.inr ⟨rfl, rfl⟩) (blk_setB_same hcd) (by omega) (by omega) (fd.trans' (Fr.setB (.inl (by simp)) _))
  · exact COND_dec_false hl (hR _ i j n (.inl ⟨rfl, rfl⟩) hcd h0 (by omega) fd)
theorem median (s : Slc enU 1 w v xs [b]) {i j k c T : Nat} {n : Int} (hi : i < xs.length) (hj : j < xs.length) (hk : k < xs.length) (hc : blk w c = some (.cells #[.int .i64 n] T (0, 0))) (hcb : c ≠ b) (h0 : 0 ≤ n) (h1 : n < 1000000 - 3)
    (hR : ∀ w' (p : Nat) m, (p = i ∨ p = j ∨ p = k) → blk w' c = some (.cells #[.int .i64 m] T (0, 0)) → 0 ≤ m → m ≤ n + 3 → Fr [c] w w' → R (.int .i64 (p : Int)) w') :
    CALL PR F_slices_medianOrdered_uint64 [v, .int .i64 (i : Int), .int .i64 (j : Int), .int .i64 (k : Int), .pointer (some ⟨c, 0, none⟩)] w R := by
  refine C_slices_medianOrdered_uint64 ?_
  unfold M_slices_medianOrdered_uint64
  refine order2 s hi hj hc hcb h0 (by omega) fun w1 p q m hpq hc1 m0 m1 f1 => ?_
  have s1 := s.fr f1 (fun x hx => by simp at hx ⊢; omega)
  refine BND_step (v := .int .i64 (p : Int)) rfl <| BND_step (v := .int .i64 (q : Int)) rfl <| order2 s1 (i := q) (j := k) (by omega) hk hc1 hcb m0 (by omega) fun w2 p2 q2 m2 hpq2 hc2 m20 m21 f2 => ?_
  have s2 := s1.fr f2 (fun x hx => by simp at hx ⊢; omega)
  refine BND_step (v := .int .i64 (p2 : Int)) rfl <| BND_step (v := .int .i64 (q2 : Int)) rfl <| order2 s2 (i := p) (j := p2) (by omega) (by omega) hc2 hcb m20 (by omega) fun w3 p3 q3 m3 hpq3 hc3 m30 m31 f3 => ?_
  refine BND_step (v := .int .i64 (p3 : Int)) rfl <| BND_step (v := .int .i64 (q3 : Int)) rfl <| hR w3 q3 m3 ?_ hc3 m30 (by omega) (f1.trans' (f2.trans' f3))
  omega
theorem medianAdj (s : Slc enU 1 w v xs [b]) {i c T : Nat} {n : Int} (hi0 : 0 < i) (hi : i + 1 < xs.length) (hn : xs.length < 1000000000) (hc : blk w c = some (.cells #[.int .i64 n] T (0, 0))) (hcb : c ≠ b) (h0 : 0 ≤ n) (h1 : n < 1000000 - 3)
    (hR : ∀ w' (p : Nat) m, (i - 1 ≤ p ∧ p ≤ i + 1) → blk w' c = some (.cells #[.int .i64 m] T (0, 0)) → 0 ≤ m → m ≤ n + 3 → Fr [c] w w' → R (.int .i64 (p : Int)) w') :
    CALL PR F_slices_medianAdjacentOrdered_uint64 [v, .int .i64 (i : Int), .pointer (some ⟨c, 0, none⟩)] w R := by
  refine C_slices_medianAdjacentOrdered_uint64 ?_
  unfold M_slices_medianAdjacentOrdered_uint64
  refine BND_step (dec hi0 (by omega)) <| BND_step (inc (by omega)) <| median s (i := i - 1) (j := i) (k := i + 1) (by omega) (by omega) hi hc hcb h0 h1 fun w1 p m hp hc1 m0 m1 f1 => ?_
  exact hR w1 p m (by omega) hc1 m0 m1 f1

theorem choosePivot (s : Slc enU 1 w v xs [b]) {lo hi : Nat} (h1 : lo + 12 < hi) (h2 : hi ≤ xs.length) (hn : xs.length < 1000000000)
    (hR : ∀ w' (p : Nat) h, lo ≤ p → p < hi → Slc enU 1 w' v xs [b] → Fr [] w w' → R (.tuple #[.int .i64 (p : Int), .int .i64 h]) w') :
    CALL PR F_slices_choosePivotOrdered_uint64 [v, .int .i64 (lo : Int), .int .i64 (hi : Int)] w R := by
  refine C_slices_choosePivotOrdered_uint64 ?_
  unfold M_slices_choosePivotOrdered_uint64
  refine BND_step (subn (by omega) (by omega)) <| NEW_intro fun w1 b1 f1 z1 => ?_
  have s1 := s.fr f1 (by simp)
  have hcb : hsz w ≠ b := by have := s.lt b (by simp); omega
  have hq := quon (n := hi - lo) 4 (by omega) (by omega)
  have hdv : (hi - lo) / 4 * 4 ≤ hi - lo := Nat.div_mul_le_self _ _
  have hd3 : 3 ≤ (hi - lo) / 4 := by omega
  generalize (hi - lo) / 4 = d at hq hdv hd3
  refine BND_step hq <| BND_step (muln (n := d) (m := 1) (by omega)) <| BND_step (addn (by omega)) <| BND_step hq <| BND_step (muln (n := d) (m := 2) (by omega)) <| BND_step (addn (by omega)) <| BND_step hq <| BND_step (muln (n := d) (m := 3) (by omega)) <| BND_step (addn (by omega)) <| BND_step (binv_geq _ _ _ _) ?_
  have e8 : decide ((8 : Int) ≤ ((hi - lo : Nat) : Int)) = true := by simp; omega
  rw [e8]
  refine JOIN_elim fun K hK => (COND_true _ _).2 <| BND_step (binv_geq _ _ _ _) <| JOIN_elim fun K2 hK2 => ?_
  -- the end
  have fin : ∀ w2 (p : Nat) m, lo ≤ p → p < hi → blk w2 (hsz w) = some (.cells (Value.int .i64 0 |>.cells.set! 0 (.int .i64 m)) 3 (0, 0)) → Fr [hsz w] w1 w2 → K (.int .i64 (p : Int)) w2 := by
    intro w2 p m hp1 hp2 hb f2
    subst hK
    have hb' : load1 w2 (.pointer (some ⟨hsz w, 0, none⟩)) = some (.int .i64 m) := load1_blk hb
    have fr : Fr [] w w2 := f1.trans f2 fun b' hb' => by simp at hb'; subst hb'; exact .inr (by omega)
    have s2 := s.fr fr (by simp)
    refine BND_step hb' <| BND_step (binv_eql _ _ _ _) ?_
    by_cases e0 : m = 0
    · exact COND_dec_true e0 (hR w2 p 1 hp1 hp2 s2 fr)
    · refine COND_dec_false e0 <| BND_step (binv_eql _ _ _ _) ?_
      by_cases e12 : m = 12
      · exact COND_dec_true e12 (hR w2 p 2 hp1 hp2 s2 fr)
      · exact COND_dec_false e12 (hR w2 p 0 hp1 hp2 s2 fr)
  clear hK
  have go : ∀ w3 (i j k : Nat) n, lo ≤ i → i < hi → lo ≤ j → j < hi → lo ≤ k → k < hi → Slc enU 1 w3 v xs [b] → blk w3 (hsz w) = some (.cells #[.int .i64 n] 3 (0, 0)) → 0 ≤ n → n < 1000 → Fr [hsz w] w1 w3 → K2 (.int .i64 (i : Int)) (.int .i64 (j : Int)) (.int .i64 (k : Int)) w3 := by
    intro w3 i j k n i1 i2 j1 j2 k1 k2 s3 b3 n0 n1 f3
    subst hK2
    exact median s3 (by omega) (by omega) (by omega) b3 hcb n0 (by omega) fun w4 p m hp b4 _ _ f4 => fin w4 p m (by omega) (by omega) b4 (f3.trans' f4)
  clear hK2
  have b1' : blk w1 (hsz w) = some (.cells #[.int .i64 0] 3 (0, 0)) := b1
  by_cases h50 : (50 : Int) ≤ ((hi - lo : Nat) : Int)
  · refine COND_dec_true h50 ?_
    refine medianAdj s1 (i := lo + d * 1) (by omega) (by omega) hn b1' hcb (by omega) (by omega) fun w5 p5 m5 hp5 b5 x1 x2 f5 => ?_
    have s5 := s1.fr f5 (fun x hx => by simp at hx ⊢; omega)
    refine medianAdj s5 (i := lo + d * 2) (by omega) (by omega) hn b5 hcb x1 (by omega) fun w6 p6 m6 hp6 b6 y1 y2 f6 => ?_
    have s6 := s5.fr f6 (fun x hx => by simp at hx ⊢; omega)
    refine medianAdj s6 (i := lo + d * 3) (by omega) (by omega) hn b6 hcb y1 (by omega) fun w7 p7 m7 hp7 b7 z1 z2 f7 => ?_
    have s7 := s6.fr f7 (fun x hx => by simp at hx ⊢; omega)
    exact go w7 p5 p6 p7 m7 (by omega) (by omega) (by omega) (by omega) (by omega) (by omega) s7 b7 z1 (by omega) (f5.trans' (f6.trans' f7))
  · exact COND_dec_false h50 (go w1 _ _ _ 0 (by omega) (by omega) (by omega) (by omega) (by omega) (by omega) s1 b1' (by omega) (by omega) (Fr.refl _ _))
end
end Go.Proofs.Ytkifjfjhghogjaa.Sort64
