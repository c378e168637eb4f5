/- Sorting a slice of uint64: partition, partitionEqual, partialInsertionSort. No condition but sizes. -/
import Derived.Test.YtkifjfjhghogjaaSortB
import Derived.Test.YtkifjfjhghogjaaMa
namespace Go.Proofs.Ytkifjfjhghogjaa.Sort64
open Go.Den
section
variable {w : World} {v : Value} {xs : List Int} {b : Nat} {R : Value → World → Prop}
theorem upLess (s : Slc enU 1 w v xs [b]) {lo hi s0 : Nat} (hlo : lo < xs.length) (hs : s0 ≤ hi + 1) (hhi : hi < xs.length) (hn : xs.length < 1000000000) {K : Value → World → Prop}
    (hK : ∀ w4 (r : Nat), s0 ≤ r → r ≤ hi + 1 → (∀ k, s0 ≤ k → k < r → at0 xs k < at0 xs lo) → (r ≤ hi → ¬ (at0 xs r < at0 xs lo)) → Slc enU 1 w4 v xs [b] → Fr [] w w4 → K (.int .i64 (r : Int)) w4) :
    ∃ (J_9 : Value → World → Prop) (m_9 : Value → World → Nat), J_9 (.int .i64 (s0 : Int)) w ∧ ∀ (_d_9 : Env) (a_10 : Value) (w3 : World), J_9 a_10 w3 →
  (BND (binv .int .leq a_10 (.int .i64 (hi : Int))) fun t32_27 =>
  BND (grd (isB t32_27 true) (some v)) fun t34_28 =>
  BND (grd (isB t32_27 true) (some a_10)) fun t35_29 =>
  BND (grd (isB t32_27 true) (iaddr 1 t34_28 t35_29)) fun t36_30 =>
  BND (grd (isB t32_27 true) (some v)) fun t38_31 =>
  BND (grd (isB t32_27 true) (some (.int .i64 (lo : Int)))) fun t39_32 =>
  BND (grd (isB t32_27 true) (iaddr 1 t38_31 t39_32)) fun t40_33 =>
  BND (grd (isB t32_27 true) (load1 w3.drew t36_30)) fun t37_34 =>
  BND (grd (isB t32_27 true) (load1 w3.drew t40_33)) fun t41_35 =>
  GEF (isB t32_27 true) (fun k_ => CALL PR F_cmp_Less_uint64 [t37_34, t41_35] w3.drew k_) w3.drew fun t42_36 w4 =>
  BND (pickv t32_27 t42_36 (Value.bool false)) fun t43_37 =>
  COND t43_37
  (BND (binv .int .add a_10 (Value.int .i64 1)) fun t45_38 => (J_9 t45_38 w4 ∧ m_9 t45_38 w4 < m_9 a_10 w3))
  (K a_10 w4)) := by
  refine ⟨fun t w' => ∃ r : Nat, t = .int .i64 r ∧ s0 ≤ r ∧ r ≤ hi + 1 ∧ (∀ k, s0 ≤ k → k < r → at0 xs k < at0 xs lo) ∧ Slc enU 1 w' v xs [b] ∧ Fr [] w w', fun t _ => match t with | .int _ n => hi + 1 - n.toNat | _ => 0, ⟨s0, rfl, by omega, hs, fun k a1 a2 => by omega, s, Fr.refl _ _⟩, ?_⟩
  rintro _ _ w3 ⟨r, rfl, r1, r2, hall, s3, f3⟩
  have sd : Slc enU 1 w3.drew v xs [b] := s3.fr (Fr.drew [] w3) (by simp)
  have fd : Fr [] w w3.drew := f3.trans' (Fr.drew _ _)
  refine BND_step (binv_leq _ _ _ _) ?_
  by_cases hc : r ≤ hi
  · have e1 : decide ((r : Int) ≤ (hi : Int)) = true := by simp <;> omega
    rw [e1]
    simp only [isB_tt, grd_true, BND_some, GEF_true]
    refine BND_step (ia sd (by omega)) <| BND_step (ia sd hlo) <| BND_step (ld sd (by omega)) <| BND_step (ld sd hlo) <| less64 _ _ <| BND_step (pickv_true _ _) ?_
    by_cases hp : at0 xs r < at0 xs lo

    · refine COND_dec_true hp <| BND_step (inc (by omega)) ⟨⟨r + 1, rfl, by omega, by omega, fun k a1 a2 => ?_, sd, fd⟩, by simp <;> omega⟩
      by_cases hk : k = r
      · rw [hk]; exact hp
      · exact hall k a1 (by omega)
    · exact COND_dec_false hp (hK _ r r1 r2 hall (fun _ => hp) sd fd)
  · have e1 : decide ((r : Int) ≤ (hi : Int)) = false := by simp <;> omega
    rw [e1]
    simp only [isB_ft, grd_false, BND_some, GEF_false, pickv_false, COND_false]
    exact hK _ r r1 r2 hall (fun h => absurd h hc) sd fd
theorem dnNotLess (s : Slc enU 1 w v xs [b]) {lo lo0 s0 : Nat} (hlo : lo < xs.length) (hl0 : 0 < lo0) (hs : lo0 ≤ s0 + 1) (hs2 : s0 < xs.length) (hn : xs.length < 1000000000) {K : Value → World → Prop}
    (hK : ∀ w4 (r : Nat), r ≤ s0 → lo0 ≤ r + 1 → (∀ k, r < k → k ≤ s0 → ¬ at0 xs k < at0 xs lo) → (lo0 ≤ r → ¬ (¬ at0 xs r < at0 xs lo)) → Slc enU 1 w4 v xs [b] → Fr [] w w4 → K (.int .i64 (r : Int)) w4) :
    ∃ (J_9 : Value → World → Prop) (m_9 : Value → World → Nat), J_9 (.int .i64 (s0 : Int)) w ∧ ∀ (_d_9 : Env) (a_10 : Value) (w3 : World), J_9 a_10 w3 →
  (BND (binv .int .leq (.int .i64 (lo0 : Int)) a_10) fun t32_27 =>
  BND (grd (isB t32_27 true) (some v)) fun t34_28 =>
  BND (grd (isB t32_27 true) (some a_10)) fun t35_29 =>
  BND (grd (isB t32_27 true) (iaddr 1 t34_28 t35_29)) fun t36_30 =>
  BND (grd (isB t32_27 true) (some v)) fun t38_31 =>
  BND (grd (isB t32_27 true) (some (.int .i64 (lo : Int)))) fun t39_32 =>
  BND (grd (isB t32_27 true) (iaddr 1 t38_31 t39_32)) fun t40_33 =>
  BND (grd (isB t32_27 true) (load1 w3.drew t36_30)) fun t37_34 =>
  BND (grd (isB t32_27 true) (load1 w3.drew t40_33)) fun t41_35 =>
  GEF (isB t32_27 true) (fun k_ => CALL PR F_cmp_Less_uint64 [t37_34, t41_35] w3.drew k_) w3.drew fun t42_36 w4 =>
  BND (grd (isB t32_27 true) (unv .not t42_36)) fun t42_n =>
  BND (pickv t32_27 t42_n (Value.bool false)) fun t43_37 =>
  COND t43_37
  (BND (binv .int .sub a_10 (Value.int .i64 1)) fun t45_38 => (J_9 t45_38 w4 ∧ m_9 t45_38 w4 < m_9 a_10 w3))
  (K a_10 w4)) := by
  refine ⟨fun t w' => ∃ r : Nat, t = .int .i64 r ∧ r ≤ s0 ∧ lo0 ≤ r + 1 ∧ (∀ k, r < k → k ≤ s0 → ¬ at0 xs k < at0 xs lo) ∧ Slc enU 1 w' v xs [b] ∧ Fr [] w w', fun t _ => match t with | .int _ n => n.toNat | _ => 0, ⟨s0, rfl, by omega, hs, fun k a1 a2 => by omega, s, Fr.refl _ _⟩, ?_⟩
  rintro _ _ w3 ⟨r, rfl, r1, r2, hall, s3, f3⟩
  have sd : Slc enU 1 w3.drew v xs [b] := s3.fr (Fr.drew [] w3) (by simp)
  have fd : Fr [] w w3.drew := f3.trans' (Fr.drew _ _)
  refine BND_step (binv_leq _ _ _ _) ?_
  by_cases hc : lo0 ≤ r
  · have e1 : decide ((lo0 : Int) ≤ (r : Int)) = true := by simp <;> omega
    rw [e1]
    simp only [isB_tt, grd_true, BND_some, GEF_true]
    refine BND_step (ia sd (by omega)) <| BND_step (ia sd hlo) <| BND_step (ld sd (by omega)) <| BND_step (ld sd hlo) <| less64 _ _ <| BND_step (unv_not _) <| BND_step (pickv_true _ _) ?_
    by_cases hp : ¬ at0 xs r < at0 xs lo

    · rw [show (!decide (at0 xs r < at0 xs lo)) = true by simp <;> omega]
      refine (COND_true _ _).2 <| BND_step (dec (by omega) (by omega)) ⟨⟨r - 1, rfl, by omega, by omega, fun k a1 a2 => ?_, sd, fd⟩, by simp <;> omega⟩
      by_cases hk : k = r
      · rw [hk]; exact hp
      · exact hall k (by omega) a2
    · rw [show (!decide (at0 xs r < at0 xs lo)) = false by simp <;> omega]
      exact (COND_false _ _).2 (hK _ r r1 r2 hall (fun _ => hp) sd fd)
  · have e1 : decide ((lo0 : Int) ≤ (r : Int)) = false := by simp <;> omega
    rw [e1]
    simp only [isB_ft, grd_false, BND_some, GEF_false, pickv_false, COND_false]
    exact hK _ r r1 r2 hall (fun h => absurd h hc) sd fd
theorem upNotGr (s : Slc enU 1 w v xs [b]) {lo hi s0 : Nat} (hlo : lo < xs.length) (hs : s0 ≤ hi + 1) (hhi : hi < xs.length) (hn : xs.length < 1000000000) {K : Value → World → Prop}
    (hK : ∀ w4 (r : Nat), s0 ≤ r → r ≤ hi + 1 → (∀ k, s0 ≤ k → k < r → ¬ at0 xs lo < at0 xs k) → (r ≤ hi → ¬ (¬ at0 xs lo < at0 xs r)) → Slc enU 1 w4 v xs [b] → Fr [] w w4 → K (.int .i64 (r : Int)) w4) :
    ∃ (J_9 : Value → World → Prop) (m_9 : Value → World → Nat), J_9 (.int .i64 (s0 : Int)) w ∧ ∀ (_d_9 : Env) (a_10 : Value) (w3 : World), J_9 a_10 w3 →
  (BND (binv .int .leq a_10 (.int .i64 (hi : Int))) fun t32_27 =>
  BND (grd (isB t32_27 true) (some v)) fun t34_28 =>
  BND (grd (isB t32_27 true) (some (.int .i64 (lo : Int)))) fun t35_29 =>
  BND (grd (isB t32_27 true) (iaddr 1 t34_28 t35_29)) fun t36_30 =>
  BND (grd (isB t32_27 true) (some v)) fun t38_31 =>
  BND (grd (isB t32_27 true) (some a_10)) fun t39_32 =>
  BND (grd (isB t32_27 true) (iaddr 1 t38_31 t39_32)) fun t40_33 =>
  BND (grd (isB t32_27 true) (load1 w3.drew t36_30)) fun t37_34 =>
  BND (grd (isB t32_27 true) (load1 w3.drew t40_33)) fun t41_35 =>
  GEF (isB t32_27 true) (fun k_ => CALL PR F_cmp_Less_uint64 [t37_34, t41_35] w3.drew k_) w3.drew fun t42_36 w4 =>
  BND (grd (isB t32_27 true) (unv .not t42_36)) fun t42_n =>
  BND (pickv t32_27 t42_n (Value.bool false)) fun t43_37 =>
  COND t43_37
  (BND (binv .int .add a_10 (Value.int .i64 1)) fun t45_38 => (J_9 t45_38 w4 ∧ m_9 t45_38 w4 < m_9 a_10 w3))
  (K a_10 w4)) := by
  refine ⟨fun t w' => ∃ r : Nat, t = .int .i64 r ∧ s0 ≤ r ∧ r ≤ hi + 1 ∧ (∀ k, s0 ≤ k → k < r → ¬ at0 xs lo < at0 xs k) ∧ Slc enU 1 w' v xs [b] ∧ Fr [] w w', fun t _ => match t with | .int _ n => hi + 1 - n.toNat | _ => 0, ⟨s0, rfl, by omega, hs, fun k a1 a2 => by omega, s, Fr.refl _ _⟩, ?_⟩
  rintro _ _ w3 ⟨r, rfl, r1, r2, hall, s3, f3⟩
  have sd : Slc enU 1 w3.drew v xs [b] := s3.fr (Fr.drew [] w3) (by simp)
  have fd : Fr [] w w3.drew := f3.trans' (Fr.drew _ _)
  refine BND_step (binv_leq _ _ _ _) ?_
  by_cases hc : r ≤ hi
  · have e1 : decide ((r : Int) ≤ (hi : Int)) = true := by simp <;> omega
    rw [e1]
    simp only [isB_tt, grd_true, BND_some, GEF_true]
    refine BND_step (ia sd hlo) <| BND_step (ia sd (by omega)) <| BND_step (ld sd hlo) <| BND_step (ld sd (by omega)) <| less64 _ _ <| BND_step (unv_not _) <| BND_step (pickv_true _ _) ?_
    by_cases hp : ¬ at0 xs lo < at0 xs r

    · rw [show (!decide (at0 xs lo < at0 xs r)) = true by simp <;> omega]
      refine (COND_true _ _).2 <| BND_step (inc (by omega)) ⟨⟨r + 1, rfl, by omega, by omega, fun k a1 a2 => ?_, sd, fd⟩, by simp <;> omega⟩
      by_cases hk : k = r
      · rw [hk]; exact hp
      · exact hall k a1 (by omega)
    · rw [show (!decide (at0 xs lo < at0 xs r)) = false by simp <;> omega]
      exact (COND_false _ _).2 (hK _ r r1 r2 hall (fun _ => hp) sd fd)
  · have e1 : decide ((r : Int) ≤ (hi : Int)) = false := by simp <;> omega
    rw [e1]
    simp only [isB_ft, grd_false, BND_some, GEF_false, pickv_false, COND_false]
    exact hK _ r r1 r2 hall (fun h => absurd h hc) sd fd
theorem dnGr (s : Slc enU 1 w v xs [b]) {lo lo0 s0 : Nat} (hlo : lo < xs.length) (hl0 : 0 < lo0) (hs : lo0 ≤ s0 + 1) (hs2 : s0 < xs.length) (hn : xs.length < 1000000000) {K : Value → World → Prop}
    (hK : ∀ w4 (r : Nat), r ≤ s0 → lo0 ≤ r + 1 → (∀ k, r < k → k ≤ s0 → at0 xs lo < at0 xs k) → (lo0 ≤ r → ¬ (at0 xs lo < at0 xs r)) → Slc enU 1 w4 v xs [b] → Fr [] w w4 → K (.int .i64 (r : Int)) w4) :
    ∃ (J_9 : Value → World → Prop) (m_9 : Value → World → Nat), J_9 (.int .i64 (s0 : Int)) w ∧ ∀ (_d_9 : Env) (a_10 : Value) (w3 : World), J_9 a_10 w3 →
  (BND (binv .int .leq (.int .i64 (lo0 : Int)) a_10) fun t32_27 =>
  BND (grd (isB t32_27 true) (some v)) fun t34_28 =>
  BND (grd (isB t32_27 true) (some (.int .i64 (lo : Int)))) fun t35_29 =>
  BND (grd (isB t32_27 true) (iaddr 1 t34_28 t35_29)) fun t36_30 =>
  BND (grd (isB t32_27 true) (some v)) fun t38_31 =>
  BND (grd (isB t32_27 true) (some a_10)) fun t39_32 =>
  BND (grd (isB t32_27 true) (iaddr 1 t38_31 t39_32)) fun t40_33 =>
  BND (grd (isB t32_27 true) (load1 w3.drew t36_30)) fun t37_34 =>
  BND (grd (isB t32_27 true) (load1 w3.drew t40_33)) fun t41_35 =>
  GEF (isB t32_27 true) (fun k_ => CALL PR F_cmp_Less_uint64 [t37_34, t41_35] w3.drew k_) w3.drew fun t42_36 w4 =>
  BND (pickv t32_27 t42_36 (Value.bool false)) fun t43_37 =>
  COND t43_37
  (BND (binv .int .sub a_10 (Value.int .i64 1)) fun t45_38 => (J_9 t45_38 w4 ∧ m_9 t45_38 w4 < m_9 a_10 w3))
  (K a_10 w4)) := by
  refine ⟨fun t w' => ∃ r : Nat, t = .int .i64 r ∧ r ≤ s0 ∧ lo0 ≤ r + 1 ∧ (∀ k, r < k → k ≤ s0 → at0 xs lo < at0 xs k) ∧ Slc enU 1 w' v xs [b] ∧ Fr [] w w', fun t _ => match t with | .int _ n => n.toNat | _ => 0, ⟨s0, rfl, by omega, hs, fun k a1 a2 => by omega, s, Fr.refl _ _⟩, ?_⟩
  rintro _ _ w3 ⟨r, rfl, r1, r2, hall, s3, f3⟩
  have sd : Slc enU 1 w3.drew v xs [b] := s3.fr (Fr.drew [] w3) (by simp)
  have fd : Fr [] w w3.drew := f3.trans' (Fr.drew _ _)
  refine BND_step (binv_leq _ _ _ _) ?_
  by_cases hc : lo0 ≤ r
  · have e1 : decide ((lo0 : Int) ≤ (r : Int)) = true := by simp <;> omega
    rw [e1]
    simp only [isB_tt, grd_true, BND_some, GEF_true]
    refine BND_step (ia sd hlo) <| BND_step (ia sd (by omega)) <| BND_step (ld sd hlo) <| BND_step (ld sd (by omega)) <| less64 _ _ <| BND_step (pickv_true _ _) ?_
    by_cases hp : at0 xs lo < at0 xs r

    · refine COND_dec_true hp <| BND_step (dec (by omega) (by omega)) ⟨⟨r - 1, rfl, by omega, by omega, fun k a1 a2 => ?_, sd, fd⟩, by simp <;> omega⟩
      by_cases hk : k = r
      · rw [hk]; exact hp
      · exact hall k (by omega) a2
    · exact COND_dec_false hp (hK _ r r1 r2 hall (fun _ => hp) sd fd)
  · have e1 : decide ((lo0 : Int) ≤ (r : Int)) = false := by simp <;> omega
    rw [e1]
    simp only [isB_ft, grd_false, BND_some, GEF_false, pickv_false, COND_false]
    exact hK _ r r1 r2 hall (fun h => absurd h hc) sd fd

theorem partition (s : Slc enU 1 w v xs [b]) {lo hi p : Nat} (h1 : lo + 12 < hi) (h2 : hi ≤ xs.length) (hn : xs.length < 1000000000) (hp1 : lo ≤ p) (hp2 : p < hi)
    (hR : ∀ w' ys (m : Nat) (B : Bool), Slc enU 1 w' v ys [b] → Mix lo hi xs ys → lo ≤ m → m < hi → (∀ k, lo ≤ k → k < m → at0 ys k ≤ at0 ys m) → (∀ k, m < k → k < hi → at0 ys m ≤ at0 ys k) → Fr [b] w w' → R (.tuple #[.int .i64 (m : Int), .bool B]) w') :
    CALL PR F_slices_partitionOrdered_uint64 [v, .int .i64 (lo : Int), .int .i64 (hi : Int), .int .i64 (p : Int)] w R := by
  refine C_slices_partitionOrdered_uint64 ?_
  unfold M_slices_partitionOrdered_uint64
  refine BND_step (ia s (by omega)) <| BND_step (ia s (by omega)) <| swap_tail s (p := lo) (q := p) (by omega) (by omega) fun w2 s2 f2 => ?_
  have mx2 : Mix lo hi xs (swp xs lo p) := .swap lo p (by omega) (by omega) hp1 hp2 (.refl _)
  generalize swp xs lo p = ys at s2 mx2
  have hyl := mx2.len
  refine BND_step (inc (by omega)) <| BND_step (dec (by omega) (by omega)) ?_
  -- the end: both have met
  have fin : ∀ (w6 : World) (zs : List Int) (j : Nat) (B : Bool), Slc enU 1 w6 v zs [b] → Mix lo hi xs zs → Fr [b] w w6 → lo ≤ j → j < hi → (∀ k, lo < k → k ≤ j → at0 zs k < at0 zs lo) → (∀ k, j < k → k < hi → ¬ at0 zs k < at0 zs lo) →
      BND (iaddr 1 v (.int .i64 (lo : Int))) fun t72_72 => BND (iaddr 1 v (.int .i64 (j : Int))) fun t76_73 => BND (load1 w6.drew t72_72) fun t73_74 => BND (load1 w6.drew t76_73) fun t77_75 => BND (iaddr 1 v (.int .i64 (j : Int))) fun t78_76 =>
      BND (storev 1 w6.drew t78_76 t73_74) fun w7 => BND (iaddr 1 v (.int .i64 (lo : Int))) fun t79_77 => BND (storev 1 w7 t79_77 t77_75) fun w8 => R (.tuple #[.int .i64 (j : Int), (Value.bool B)]) w8 := by
    intro w6 zs j B s6 mz f6 hj1 hj2 hl hr
    have hzl := mz.len
    refine BND_step (ia s6 (by omega)) <| BND_step (ia s6 (by omega)) <| swap_tail s6 (p := j) (q := lo) (by omega) (by omega) fun w8 s8 f8 => ?_
    have e := at0_swp (xs := zs) (i := j) (j := lo) (by omega) (by omega)
    have ej : at0 (swp zs j lo) j = at0 zs lo := by
      rw [e]
      by_cases h : j = lo
      · rw [if_pos h, h]
      · rw [if_neg h, if_pos rfl]
    refine hR w8 _ j B s8 (.swap j lo (by omega) hj2 (by omega) (by omega) mz) hj1 hj2 (fun k a1 a2 => ?_) (fun k a1 a2 => ?_) (f6.trans' f8)
    · rw [ej, e]
      by_cases hk : k = lo
      · rw [if_pos hk]; have := hl j (by omega) (by omega); omega
      · rw [if_neg hk, if_neg (by omega)]; have := hl k (by omega) (by omega); omega
    · rw [ej, e, if_neg (by omega), if_neg (by omega)]
      have := hr k a1 a2; omega
  refine upLess s2 (lo := lo) (hi := hi - 1) (s0 := lo + 1) (by omega) (by omega) (by omega) (by omega) fun w4 i i1 i2 hA hA2 s4 f4 => ?_
  refine dnNotLess s4 (lo := lo) (lo0 := i) (s0 := hi - 1) (by omega) (by omega) (by omega) (by omega) (by omega) fun w6 j j1 j2 hB hB2 s6 f6 => ?_
  have f06 : Fr [b] w w6 := f2.trans' (f4.trans' f6).nil
  refine BND_step (binv_gtr _ _ _ _) ?_
  by_cases hij : j < i
  · exact COND_dec_true (by omega) (fin w6 ys j true s6 mx2 f06 (by omega) (by omega) (fun k a1 a2 => hA k (by omega) (by omega)) (fun k a1 a2 => hB k a1 (by omega)))
  refine COND_dec_false (by omega) ?_
  have hne : i ≠ j := fun e => by
    subst e
    have x1 := hA2 (by omega)
    have x2 := hB2 (by omega)
    exact x2 x1
  refine BND_step (ia s6 (by omega)) <| BND_step (ia s6 (by omega)) <| swap_tail s6 (p := i) (q := j) (by omega) (by omega) fun w10 s10 f10 => ?_
  have e10 := at0_swp (xs := ys) (i := i) (j := j) (by omega) (by omega)
  have elo : at0 (swp ys i j) lo = at0 ys lo := by rw [e10, if_neg (by omega), if_neg (by omega)]
  refine BND_step (inc (by omega)) <| BND_step (dec (by omega) (by omega)) ?_
  refine ⟨fun ti tj w' => ∃ (i j : Nat) (zs : List Int), ti = .int .i64 i ∧ tj = .int .i64 j ∧ lo < i ∧ i ≤ j + 1 ∧ lo ≤ j ∧ j < hi ∧ Slc enU 1 w' v zs [b] ∧ Mix lo hi xs zs ∧ (∀ k, lo < k → k < i → at0 zs k < at0 zs lo) ∧ (∀ k, j < k → k < hi → ¬ at0 zs k < at0 zs lo) ∧ Fr [b] w w',
    fun ti tj _ => match ti, tj with | .int _ n, .int _ m => (m + 1 - n).toNat | _, _ => 0,
    ⟨i + 1, j - 1, _, rfl, rfl, by omega, by omega, by omega, by omega, s10, .swap i j (by omega) (by omega) (by omega) (by omega) mx2, fun k a1 a2 => ?_, fun k a1 a2 => ?_, f06.trans' f10⟩, ?_⟩
  · rw [elo, e10]
    by_cases hk : k = i
    · rw [if_neg (by omega), if_pos hk]; have := hB2 (by omega); omega
    · rw [if_neg (by omega), if_neg hk]; exact hA k (by omega) (by omega)
  · rw [elo, e10]
    by_cases hk : k = j
    · rw [if_pos hk]; exact hA2 (by omega)
    · rw [if_neg hk, if_neg (by omega)]; exact hB k (by omega) (by omega)
  rintro _ _ _ w11 ⟨i, j, zs, rfl, rfl, a1, a2, a3, a4, s11, mz, hl, hr, f11⟩
  have hzl := mz.len
  refine upLess s11 (lo := lo) (hi := j) (s0 := i) (by omega) (by omega) (by omega) (by omega) fun w13 i' i1' i2' hA' hA2' s13 f13 => ?_
  refine dnNotLess s13 (lo := lo) (lo0 := i') (s0 := j) (by omega) (by omega) (by omega) (by omega) (by omega) fun w15 j' j1' j2' hB' hB2' s15 f15 => ?_
  have f015 : Fr [b] w w15 := f11.trans' (f13.trans' f15).nil
  have hl' : ∀ k, lo < k → k < i' → at0 zs k < at0 zs lo := fun k x1 x2 => by
    by_cases hk : k < i
    · exact hl k x1 hk
    · exact hA' k (by omega) x2
  have hr' : ∀ k, j' < k → k < hi → ¬ at0 zs k < at0 zs lo := fun k x1 x2 => by
    by_cases hk : j < k
    · exact hr k hk x2
    · exact hB' k x1 (by omega)
  refine BND_step (binv_gtr _ _ _ _) ?_
  by_cases hij' : j' < i'
  · exact COND_dec_true (by omega) (fin w15 zs j' false s15 mz f015 (by omega) (by omega) (fun k x1 x2 => hl' k x1 (by omega)) hr')
  refine COND_dec_false (by omega) ?_
  have hne' : i' ≠ j' := fun e => by
    subst e
    exact hB2' (by omega) (hA2' (by omega))
  refine BND_step (ia s15 (by omega)) <| BND_step (ia s15 (by omega)) <| swap_tail s15 (p := i') (q := j') (by omega) (by omega) fun w19 s19 f19 => ?_
  have e19 := at0_swp (xs := zs) (i := i') (j := j') (by omega) (by omega)
  have elo' : at0 (swp zs i' j') lo = at0 zs lo := by rw [e19, if_neg (by omega), if_neg (by omega)]
  refine BND_step (inc (by omega)) <| BND_step (dec (by omega) (by omega)) ⟨⟨i' + 1, j' - 1, _, rfl, rfl, by omega, by omega, by omega, by omega, s19, .swap i' j' (by omega) (by omega) (by omega) (by omega) mz, fun k x1 x2 => ?_, fun k x1 x2 => ?_, f015.trans' f19⟩, ?_⟩
  · rw [elo', e19]
    by_cases hk : k = i'
    · rw [if_neg (by omega), if_pos hk]; have := hB2' (by omega); omega
    · rw [if_neg (by omega), if_neg hk]; exact hl' k (by omega) (by omega)
  · rw [elo', e19]
    by_cases hk : k = j'
    · rw [if_pos hk]; exact hA2' (by omega)
    · rw [if_neg hk, if_neg (by omega)]; exact hr' k (by omega) (by omega)
  · show (((j' - 1 : Nat) : Int) + 1 - ((i' + 1 : Nat) : Int)).toNat < ((j : Int) + 1 - (i : Int)).toNat
    omega

/-- all of [lo, hi) are no less than the pivot: those that are it come first. -/
theorem partitionEqual (s : Slc enU 1 w v xs [b]) {lo hi p : Nat} (h1 : lo + 12 < hi) (h2 : hi ≤ xs.length) (hn : xs.length < 1000000000) (hp1 : lo ≤ p) (hp2 : p < hi)
    (hR : ∀ w' ys (m : Nat), Slc enU 1 w' v ys [b] → Mix lo hi xs ys → lo < m → m ≤ hi → (∀ k, lo ≤ k → k < m → at0 ys k ≤ at0 xs p) → (∀ k, m ≤ k → k < hi → at0 xs p < at0 ys k) → Fr [b] w w' → R (.int .i64 (m : Int)) w') :
    CALL PR F_slices_partitionEqualOrdered_uint64 [v, .int .i64 (lo : Int), .int .i64 (hi : Int), .int .i64 (p : Int)] w R := by
  refine C_slices_partitionEqualOrdered_uint64 ?_
  unfold M_slices_partitionEqualOrdered_uint64
  refine BND_step (ia s (by omega)) <| BND_step (ia s (by omega)) <| swap_tail s (p := lo) (q := p) (by omega) (by omega) fun w2 s2 f2 => ?_
  have mx2 : Mix lo hi xs (swp xs lo p) := .swap lo p (by omega) (by omega) hp1 hp2 (.refl _)
  have e2 : at0 (swp xs lo p) lo = at0 xs p := by
    rw [at0_swp (by omega) (by omega)]
    by_cases h : lo = p
    · rw [if_pos h, h]
    · rw [if_neg h, if_pos rfl]
  generalize swp xs lo p = ys at s2 mx2 e2
  refine BND_step (inc (by omega)) <| BND_step (dec (by omega) (by omega)) ?_
  refine ⟨fun ti tj w' => ∃ (i j : Nat) (zs : List Int), ti = .int .i64 i ∧ tj = .int .i64 j ∧ lo < i ∧ i ≤ j + 1 ∧ lo ≤ j ∧ j < hi ∧ Slc enU 1 w' v zs [b] ∧ Mix lo hi xs zs ∧ at0 zs lo = at0 xs p ∧ (∀ k, lo < k → k < i → ¬ at0 zs lo < at0 zs k) ∧ (∀ k, j < k → k < hi → at0 zs lo < at0 zs k) ∧ Fr [b] w w',
    fun ti tj _ => match ti, tj with | .int _ n, .int _ m => (m + 1 - n).toNat | _, _ => 0,
    ⟨lo + 1, hi - 1, ys, rfl, rfl, by omega, by omega, by omega, by omega, s2, mx2, e2, fun k a1 a2 => by omega, fun k a1 a2 => by omega, f2⟩, ?_⟩
  rintro _ _ _ w11 ⟨i, j, zs, rfl, rfl, a1, a2, a3, a4, s11, mz, ep, hl, hr, f11⟩
  have hzl := mz.len
  refine upNotGr s11 (lo := lo) (hi := j) (s0 := i) (by omega) (by omega) (by omega) (by omega) fun w13 i' i1' i2' hA' hA2' s13 f13 => ?_
  refine dnGr s13 (lo := lo) (lo0 := i') (s0 := j) (by omega) (by omega) (by omega) (by omega) (by omega) fun w15 j' j1' j2' hB' hB2' s15 f15 => ?_
  have f015 : Fr [b] w w15 := f11.trans' (f13.trans' f15).nil
  have hl' : ∀ k, lo < k → k < i' → ¬ at0 zs lo < at0 zs k := fun k x1 x2 => by
    by_cases hk : k < i
    · exact hl k x1 hk
    · exact hA' k (by omega) x2
  have hr' : ∀ k, j' < k → k < hi → at0 zs lo < at0 zs k := fun k x1 x2 => by
    by_cases hk : j < k
    · exact hr k hk x2
    · exact hB' k x1 (by omega)
  refine BND_step (binv_gtr _ _ _ _) ?_
  by_cases hij' : j' < i'
  · refine COND_dec_true (by omega) (hR w15 zs i' s15 mz (by omega) (by omega) (fun k x1 x2 => ?_) (fun k x1 x2 => ?_) f015)
    · rw [← ep]
      by_cases hk : k = lo
      · rw [hk]; omega
      · have := hl' k (by omega) x2; omega
    · rw [← ep]; exact hr' k (by omega) x2
  refine COND_dec_false (by omega) ?_
  have hne' : i' ≠ j' := fun e => by
    subst e
    have x1 := hA2' (by omega)
    have x2 := hB2' (by omega)
    omega
  refine BND_step (ia s15 (by omega)) <| BND_step (ia s15 (by omega)) <| swap_tail s15 (p := i') (q := j') (by omega) (by omega) fun w19 s19 f19 => ?_
  have e19 := at0_swp (xs := zs) (i := i') (j := j') (by omega) (by omega)
  have elo' : at0 (swp zs i' j') lo = at0 zs lo := by rw [e19, if_neg (by omega), if_neg (by omega)]
  refine BND_step (inc (by omega)) <| BND_step (dec (by omega) (by omega)) ⟨⟨i' + 1, j' - 1, _, rfl, rfl, by omega, by omega, by omega, by omega, s19, .swap i' j' (by omega) (by omega) (by omega) (by omega) mz, by rw [elo', ep], fun k x1 x2 => ?_, fun k x1 x2 => ?_, f015.trans' f19⟩, ?_⟩
  · rw [elo', e19]
    by_cases hk : k = i'
    · rw [if_neg (by omega), if_pos hk]; have := hB2' (by omega); omega
    · rw [if_neg (by omega), if_neg hk]; exact hl' k (by omega) (by omega)
  · rw [elo', e19]
    by_cases hk : k = j'
    · rw [if_pos hk]; have := hA2' (by omega); omega
    · rw [if_neg hk, if_neg (by omega)]; exact hr' k (by omega) (by omega)
  · show (((j' - 1 : Nat) : Int) + 1 - ((i' + 1 : Nat) : Int)).toNat < ((j : Int) + 1 - (i : Int)).toNat
    omega
end
end Go.Proofs.Ytkifjfjhghogjaa.Sort64
