/- Sorting a slice of uint64: breakPatterns, siftDown, heapSort. No condition but sizes. -/
import Derived.Test.YtkifjfjhghogjaaSortA
import Derived.Test.YtkifjfjhghogjaaMa
namespace Go.Proofs.Ytkifjfjhghogjaa.Sort64
open Go.Den

/-! ## Bits -/
def bl (x : Nat) : Nat := if x = 0 then 0 else Nat.log2 x + 1
def len8tab : ByteArray := { data := (List.toArray (List.append (List.append [0, 1, 2, 2, 3, 3, 3, 3, 4, 4, 4, 4, 4, 4, 4, 4, 5, 5, 5, 5, 5, 5, 5, 5, 5, 5, 5, 5, 5, 5, 5, 5, 6, 6, 6, 6, 6, 6, 6, 6, 6, 6, 6, 6, 6, 6, 6, 6, 6, 6, 6, 6, 6, 6, 6, 6, 6, 6, 6, 6, 6, 6, 6, 6] [7, 7, 7, 7, 7, 7, 7, 7, 7, 7, 7, 7, 7, 7, 7, 7, 7, 7, 7, 7, 7, 7, 7, 7, 7, 7, 7, 7, 7, 7, 7, 7, 7, 7, 7, 7, 7, 7, 7, 7, 7, 7, 7, 7, 7, 7, 7, 7, 7, 7, 7, 7, 7, 7, 7, 7, 7, 7, 7, 7, 7, 7, 7, 7]) (List.append [8, 8, 8, 8, 8, 8, 8, 8, 8, 8, 8, 8, 8, 8, 8, 8, 8, 8, 8, 8, 8, 8, 8, 8, 8, 8, 8, 8, 8, 8, 8, 8, 8, 8, 8, 8, 8, 8, 8, 8, 8, 8, 8, 8, 8, 8, 8, 8, 8, 8, 8, 8, 8, 8, 8, 8, 8, 8, 8, 8, 8, 8, 8, 8] [8, 8, 8, 8, 8, 8, 8, 8, 8, 8, 8, 8, 8, 8, 8, 8, 8, 8, 8, 8, 8, 8, 8, 8, 8, 8, 8, 8, 8, 8, 8, 8, 8, 8, 8, 8, 8, 8, 8, 8, 8, 8, 8, 8, 8, 8, 8, 8, 8, 8, 8, 8, 8, 8, 8, 8, 8, 8, 8, 8, 8, 8, 8, 8]))) }
theorem len8_at : ∀ x : Nat, x < 256 → len8tab[x]? = some (UInt8.ofNat (bl x)) ∧ bl x ≤ 8 ∧ (x < 2 ^ bl x) ∧ (0 < x → 2 ^ bl x ≤ 2 * x) := by decide +kernel
theorem wrap_range (n : Int) : 0 ≤ IntKind.u64.wrap n ∧ IntKind.u64.wrap n < 18446744073709551616 := by
  simp only [IntKind.wrap, IntKind.bits, IntKind.signed]
  simp
  omega
section
variable {w : World} {v : Value} {xs : List Int} {b : Nat} {R : Value → World → Prop}
theorem bitsLen {x : Nat} (hx : x < 256) (hR : R (.int .i64 ((bl x : Nat) : Int)) w) : CALL PR F_math_bits_Len [.int .u64 (x : Int)] w R := by
  obtain ⟨h1, h2, _, _⟩ := len8_at x hx
  refine C_math_bits_Len ?_
  unfold M_math_bits_Len
  refine (COND_false _ _).2 ?_
  refine C_math_bits_Len64 ?_
  unfold M_math_bits_Len64
  have hk : convi .u8 (.int .u64 (x : Int)) = some (.int .u8 (x : Int)) := by
    simp only [convi, IntKind.wrap, IntKind.bits, IntKind.signed]
    simp; omega
  have hi : indexs (.string len8tab) (.int .u8 (x : Int)) = some (.int .u8 ((bl x : Nat) : Int)) := by
    simp only [indexs, Int.toNat_natCast, h1]
    simp; omega
  have hc : convi .i64 (.int .u8 ((bl x : Nat) : Int)) = some (.int .i64 ((bl x : Nat) : Int)) := by
    simp only [convi]
    rw [wrap_i64 (by omega) (by omega)]
  refine BND_step (binv_geq _ _ _ _) <| JOIN_elim fun K hK => COND_dec_false (by omega) ?_
  subst hK
  refine BND_step (binv_geq _ _ _ _) <| JOIN_elim fun K hK => COND_dec_false (by omega) ?_
  subst hK
  refine BND_step (binv_geq _ _ _ _) <| JOIN_elim fun K hK => COND_dec_false (by omega) ?_
  subst hK
  refine BND_step hk <| BND_step hi <| BND_step hc <| BND_step (v := .int .i64 ((bl x : Nat) : Int)) ?_ hR
  rw [binv_add, wrap_i64 (by omega) (by omega), Int.zero_add]
theorem nextPow {x : Nat} (hx : x < 256) (hR : R (.int .u64 ((2 ^ bl x : Nat) : Int)) w) : CALL PR F_slices_nextPowerOfTwo [.int .i64 (x : Int)] w R := by
  obtain ⟨_, h2, _, _⟩ := len8_at x hx
  refine C_slices_nextPowerOfTwo ?_
  unfold M_slices_nextPowerOfTwo
  have hk : convi .u64 (.int .i64 (x : Int)) = some (.int .u64 (x : Int)) := by
    simp only [convi]
    rw [wrap_u64 (by omega) (by omega)]
  refine BND_step hk <| bitsLen hx <| BND_step (v := .int .u64 ((2 ^ bl x : Nat) : Int)) ?_ hR
  have hp : 2 ^ bl x ≤ 2 ^ 8 := Nat.pow_le_pow_right (by omega) h2
  have hm : min (bl x) 64 = bl x := by omega
  simp only [shiftv]
  rw [if_pos (by omega)]
  have e : IntKind.u64.bits = 64 := rfl
  rw [Int.toNat_natCast, e, hm, Int.one_mul]
  have e2 : (2 : Int) ^ bl x = ((2 ^ bl x : Nat) : Int) := by simp
  rw [e2, wrap_u64 (by omega) (by omega)]

theorem xor_some (a c : Int) : ∃ y, binv .int .xor (.int .u64 a) (.int .u64 c) = some (.int .u64 y) ∧ 0 ≤ y ∧ y < 18446744073709551616 := by
  exact ⟨_, by rw [binv_int _ _ _ _ _ (by simp) (by simp)]; rfl, (wrap_range _).1, (wrap_range _).2⟩
theorem shl_some (a : Int) (n : Nat) : ∃ y, shiftv .shl (.int .u64 a) (.int .u64 (n : Int)) = some (.int .u64 y) := ⟨_, by simp only [shiftv]; rw [if_pos (by omega)]⟩
theorem shr_some (a : Int) (n : Nat) : ∃ y, shiftv .shr (.int .u64 a) (.int .u64 (n : Int)) = some (.int .u64 y) := ⟨_, by simp only [shiftv]; rw [if_pos (by omega)]⟩
theorem and_some (y : Int) (m : Nat) (hm : m < 1000000) : ∃ z : Nat, binv .int .and (.int .u64 y) (.int .u64 (m : Int)) = some (.int .u64 (z : Int)) ∧ z ≤ m := by
  have e : binv .int .and (.int .u64 y) (.int .u64 (m : Int)) = some (.int .u64 (IntKind.u64.wrap (BitVec.ofInt 64 y &&& BitVec.ofInt 64 (m : Int)).toNat)) := by
    rw [binv_int _ _ _ _ _ (by simp) (by simp)]; rfl
  have hle : (BitVec.ofInt 64 y &&& BitVec.ofInt 64 (m : Int)).toNat ≤ m := by
    rw [BitVec.toNat_and]
    refine Nat.le_trans Nat.and_le_right ?_
    rw [BitVec.ofInt_natCast, BitVec.toNat_ofNat]
    exact Nat.mod_le _ _
  refine ⟨_, ?_, hle⟩
  rw [e, wrap_u64 (by omega) (by omega)]
theorem xorNext {c T : Nat} {x : Int} (hc : blk w c = some (.cells #[.int .u64 x] T (0, 0))) (hR : ∀ w' y, blk w' c = some (.cells #[.int .u64 y] T (0, 0)) → Fr [c] w w' → R (.int .u64 y) w') :
    CALL PR F_slices_xorshift_Next [.pointer (some ⟨c, 0, none⟩)] w R := by
  refine C_slices_xorshift_Next ?_
  unfold M_slices_xorshift_Next
  have one : ∀ (w : World) (x y : Int), blk w c = some (.cells #[.int .u64 x] T (0, 0)) → ∃ w', storev 1 w.drew (.pointer (some ⟨c, 0, none⟩)) (.int .u64 y) = some w' ∧ blk w' c = some (.cells #[.int .u64 y] T (0, 0)) ∧ Fr [c] w w' := by
    intro w x y h
    have hd : blk w.drew c = some (.cells #[.int .u64 x] T (0, 0)) := h
    exact ⟨_, storev1_blk hd (by simp) rfl rfl, blk_setB_same hd, (Fr.drew _ _).trans' (Fr.setB (.inl (by simp)) _)⟩
  have ldd : ∀ (w : World) (x : Int), blk w c = some (.cells #[.int .u64 x] T (0, 0)) → load1 w.drew (.pointer (some ⟨c, 0, none⟩)) = some (.int .u64 x) := fun w x h => load1_blk (w := w.drew) h
  obtain ⟨y1, e1⟩ := shl_some x 13
  obtain ⟨y2, e2, _, _⟩ := xor_some x y1
  obtain ⟨w1, s1, c1, f1⟩ := one w x y2 hc
  obtain ⟨y3, e3⟩ := shr_some y2 7
  obtain ⟨y4, e4, _, _⟩ := xor_some y2 y3
  obtain ⟨w2, s2, c2, f2⟩ := one w1 y2 y4 c1
  obtain ⟨y5, e5⟩ := shl_some y4 17
  obtain ⟨y6, e6, _, _⟩ := xor_some y4 y5
  obtain ⟨w3, s3, c3, f3⟩ := one w2 y4 y6 c2
  refine BND_step (nilchk_ptr _) <| BND_step (nilchk_ptr _) <| BND_step (ldd w x hc) <| BND_step (ldd w x hc) <| BND_step e1 <| BND_step e2 <| BND_step (nilchk_ptr _) <| BND_step s1 ?_
  refine BND_step (nilchk_ptr _) <| BND_step (nilchk_ptr _) <| BND_step (ldd w1 y2 c1) <| BND_step (ldd w1 y2 c1) <| BND_step e3 <| BND_step e4 <| BND_step (nilchk_ptr _) <| BND_step s2 ?_
  refine BND_step (nilchk_ptr _) <| BND_step (nilchk_ptr _) <| BND_step (ldd w2 y4 c2) <| BND_step (ldd w2 y4 c2) <| BND_step e5 <| BND_step e6 <| BND_step (nilchk_ptr _) <| BND_step s3 ?_
  exact BND_step (nilchk_ptr _) <| BND_step (v := .int .u64 y6) (load1_blk c3) <| hR w3 y6 c3 (f1.trans' (f2.trans' f3))

theorem breakPatterns (s : Slc enU 1 w v xs [b]) {lo hi : Nat} (h1 : lo + 12 < hi) (h2 : hi ≤ xs.length) (hn : xs.length < 256)
    (hR : ∀ w' ys, Slc enU 1 w' v ys [b] → Mix lo hi xs ys → Fr [b] w w' → R (.tuple #[]) w') :
    CALL PR F_slices_breakPatternsOrdered_uint64 [v, .int .i64 (lo : Int), .int .i64 (hi : Int)] w R := by
  refine C_slices_breakPatternsOrdered_uint64 ?_
  unfold M_slices_breakPatternsOrdered_uint64
  have hdv : (hi - lo) / 4 * 4 ≤ hi - lo := Nat.div_mul_le_self _ _
  have hd3 : 3 ≤ (hi - lo) / 4 := by omega
  have hqu := quon (n := hi - lo) 4 (by omega) (by omega)
  obtain ⟨_, hb8, hb1, hb2⟩ := len8_at (hi - lo) (by omega)
  replace hb2 := hb2 (by omega)
  refine BND_step (subn (by omega) (by omega)) <| BND_step (binv_geq _ _ _ _) <| JOIN_elim fun K hK => COND_dec_true (by omega) ?_
  have hfin : ∀ w' ys, Slc enU 1 w' v ys [b] → Mix lo hi xs ys → Fr [b] w w' → K w' := by subst hK; exact hR
  clear hK
  have hk : convi .u64 (.int .i64 ((hi - lo : Nat) : Int)) = some (.int .u64 ((hi - lo : Nat) : Int)) := by
    simp only [convi]
    rw [wrap_u64 (by omega) (by omega)]
  refine BND_step hk <| NEW_intro fun w2 b2 f2 z2 => ?_
  obtain ⟨T, b2'⟩ : ∃ T, blk w2 (hsz w) = some (.cells #[.int .u64 0] T (0, 0)) := ⟨_, b2⟩
  have hcb : hsz w ≠ b := by have := s.lt b (by simp); omega
  refine BND_step (storev1_blk b2' (by simp) rfl rfl) ?_
  have b3 := blk_setB_same (o := .cells (#[Value.int .u64 0].setIfInBounds 0 (.int .u64 ((hi - lo : Nat) : Int))) T (0, 0)) b2'
  have f3 : Fr [hsz w] w2 (setB w2 (hsz w) (.cells (#[Value.int .u64 0].setIfInBounds 0 (.int .u64 ((hi - lo : Nat) : Int))) T (0, 0))) := Fr.setB (.inl (by simp)) _
  generalize setB w2 (hsz w) (.cells (#[Value.int .u64 0].setIfInBounds 0 (.int .u64 ((hi - lo : Nat) : Int))) T (0, 0)) = w3 at b3 f3
  have f03 : Fr [] w w3 := f2.trans f3 fun x hx => by simp at hx; subst hx; exact .inr (by omega)
  have s3 := s.fr f03 (by simp)
  refine nextPow (by omega) ?_
  generalize hnn : hi - lo = n at *
  generalize n / 4 = d at *
  generalize 2 ^ bl n = P at *
  refine BND_step hqu <| BND_step (muln (n := d) (m := 2) (by omega)) <| BND_step (addn (by omega)) <| BND_step (dec (by omega) (by omega)) ?_
  refine ⟨fun t w' => ∃ (k : Nat) (ys : List Int) (x : Int), t = .int .i64 k ∧ lo ≤ k ∧ k ≤ lo + d * 2 + 2 ∧ Slc enU 1 w' v ys [b] ∧ Mix lo hi xs ys ∧ blk w' (hsz w) = some (.cells #[.int .u64 x] T (0, 0)) ∧ Fr [b] w w', fun t _ => match t with | .int _ n => lo + d * 2 + 3 - n.toNat | _ => 0,
    ⟨lo + d * 2 - 1, xs, _, rfl, by omega, by omega, s3, .refl _, b3, f03.nil⟩, ?_⟩
  rintro _ _ w5 ⟨k, ys, x, rfl, hk1, hk2, s5, mx, b5, f5⟩
  have hyl := mx.len
  refine BND_step hqu <| BND_step (muln (n := d) (m := 2) (by omega)) <| BND_step (addn (by omega)) <| BND_step (inc (by omega)) <| BND_step (binv_leq _ _ _ _) ?_
  by_cases hle : k ≤ lo + d * 2 + 1
  · refine COND_dec_true (by omega) <| xorNext b5 fun w6 y b6 f6 => ?_
    have s6 := s5.fr f6 (fun z hz => by simp at hz ⊢; omega)
    have hsub : binv .int .sub (.int .u64 (P : Int)) (.int .u64 1) = some (.int .u64 ((P - 1 : Nat) : Int)) := by
      have eP : (P : Int) - 1 = ((P - 1 : Nat) : Int) := by omega
      rw [binv_sub, eP, wrap_u64 (by omega) (by omega)]
    obtain ⟨z, ez, hz⟩ := and_some y (P - 1) (by omega)
    have hcz : convi .i64 (.int .u64 (z : Int)) = some (.int .i64 (z : Int)) := by
      simp only [convi]
      rw [wrap_i64 (by omega) (by omega)]
    have fw6 : Fr [b] w w6 := f5.trans f6 fun u hu => by simp at hu; subst hu; exact .inr (by omega)
    refine BND_step hsub <| BND_step ez <| BND_step hcz <| BND_step (binv_geq _ _ _ _) <| JOIN_elim fun K2 hK2 => ?_
    have go : ∀ (u : Nat), u < n → K2 (.int .i64 (u : Int)) w6 := by
      intro u hu
      subst hK2
      refine BND_step (addn (by omega)) <| BND_step (addn (by omega)) <| BND_step (ia s6 (by omega)) <| BND_step (ia s6 (by omega)) <| swap_tail s6 (by omega) (by omega) fun w9 s9 f9 => ?_
      exact BND_step (inc (by omega)) ⟨⟨k + 1, _, y, rfl, by omega, by omega, s9, .swap k (lo + u) (by omega) (by omega) (by omega) (by omega) mx, f9.some (by simp; omega) b6, fw6.trans' f9⟩, by simp; omega⟩
    by_cases hzn : n ≤ z
    · refine COND_dec_true (by omega) <| BND_step (subn hzn (by omega)) (go _ (by omega))
    · exact COND_dec_false (by omega) (go z (by omega))
  · exact COND_dec_false (by omega) (hfin w5 ys s5 mx f5)

theorem i64c {a c : Int} (h : a = c) : Value.int .i64 a = .int .i64 c := by rw [h]
/-! ## The heap -/
/-- of the places k >= p of [lo, lo+n), each is no less than its children; but for place e. -/
def Heap (xs : List Int) (lo n p e : Nat) : Prop := ∀ k c, p ≤ k → k ≠ e → (c = 2 * k + 1 ∨ c = 2 * k + 2) → c < n → at0 xs (lo + c) ≤ at0 xs (lo + k)
theorem siftDown (s : Slc enU 1 w v xs [b]) {lo n p : Nat} (h2 : lo + n ≤ xs.length) (hn : xs.length < 1000000000) (hp : p ≤ n) (hh : Heap xs lo n p p)
    (hR : ∀ w' ys, Slc enU 1 w' v ys [b] → Mix lo (lo + n) xs ys → Heap ys lo n p n → (∀ k, k < p → at0 ys (lo + k) = at0 xs (lo + k)) → Fr [b] w w' → R (.tuple #[]) w') :
    CALL PR F_slices_siftDownOrdered_uint64 [v, .int .i64 (p : Int), .int .i64 (n : Int), .int .i64 (lo : Int)] w R := by
  refine C_slices_siftDownOrdered_uint64 ?_
  unfold M_slices_siftDownOrdered_uint64
  refine ⟨fun t w' => ∃ (r : Nat) (ys : List Int), t = .int .i64 r ∧ p ≤ r ∧ r ≤ n ∧ Slc enU 1 w' v ys [b] ∧ Mix lo (lo + n) xs ys ∧ Heap ys lo n p r ∧ (∀ g c, p ≤ g → (r = 2 * g + 1 ∨ r = 2 * g + 2) → (c = 2 * r + 1 ∨ c = 2 * r + 2) → c < n → at0 ys (lo + c) ≤ at0 ys (lo + g)) ∧ (∀ k, k < p → at0 ys (lo + k) = at0 xs (lo + k)) ∧ Fr [b] w w',
    fun t _ => match t with | .int _ m => n + 1 - m.toNat | _ => 0, ⟨p, xs, rfl, by omega, hp, s, .refl _, hh, fun g c hg hr hc hcn => by omega, fun _ _ => rfl, Fr.refl _ _⟩, ?_⟩
  rintro _ _ w1 ⟨r, ys, rfl, hpr, hrn, s1, mx, hy, hg, hlow, f1⟩
  have hyl := mx.len
  refine BND_step (muln (n := 2) (m := r) (by omega)) <| BND_step (inc (by omega)) <| BND_step (binv_geq _ _ _ _) ?_
  by_cases hend : n ≤ 2 * r + 1
  · refine COND_dec_true (by omega) (hR w1 ys s1 mx (fun k c a1 a2 a3 a4 => ?_) hlow f1)
    by_cases hkr : k = r
    · omega
    · exact hy k c a1 hkr a3 a4
  refine COND_dec_false (by omega) <| BND_step (inc (by omega)) <| BND_step (binv_lss _ _ _ _) ?_
  have sd : Slc enU 1 w1.drew v ys [b] := s1.fr (Fr.drew [] w1) (by simp)
  have fd : Fr [b] w w1.drew := f1.trans' (Fr.drew _ _)
  -- the greater child
  have pre : ∀ K : Value → World → Prop, (∀ w2 (c : Nat), (c = 2 * r + 1 ∨ c = 2 * r + 2) → c < n → (∀ c', (c' = 2 * r + 1 ∨ c' = 2 * r + 2) → c' < n → at0 ys (lo + c') ≤ at0 ys (lo + c)) → Slc enU 1 w2 v ys [b] → Fr [b] w w2 → K (.int .i64 (c : Int)) w2) →
      BND (grd (isB (.bool (decide (((2 * r + 1 + 1 : Nat) : Int) < (n : Int)))) true) (some v)) fun t22_74 =>
      BND (grd (isB (.bool (decide (((2 * r + 1 + 1 : Nat) : Int) < (n : Int)))) true) (some (.int .i64 (lo : Int)))) fun t23_75 =>
      BND (grd (isB (.bool (decide (((2 * r + 1 + 1 : Nat) : Int) < (n : Int)))) true) (some (.int .i64 ((2 * r + 1 : Nat) : Int)))) fun t24_76 =>
      BND (grd (isB (.bool (decide (((2 * r + 1 + 1 : Nat) : Int) < (n : Int)))) true) (binv .int .add t23_75 t24_76)) fun t25_77 =>
      BND (grd (isB (.bool (decide (((2 * r + 1 + 1 : Nat) : Int) < (n : Int)))) true) (iaddr 1 t22_74 t25_77)) fun t26_78 =>
      BND (grd (isB (.bool (decide (((2 * r + 1 + 1 : Nat) : Int) < (n : Int)))) true) (some v)) fun t28_79 =>
      BND (grd (isB (.bool (decide (((2 * r + 1 + 1 : Nat) : Int) < (n : Int)))) true) (some (.int .i64 (lo : Int)))) fun t29_80 =>
      BND (grd (isB (.bool (decide (((2 * r + 1 + 1 : Nat) : Int) < (n : Int)))) true) (some (.int .i64 ((2 * r + 1 : Nat) : Int)))) fun t30_81 =>
      BND (grd (isB (.bool (decide (((2 * r + 1 + 1 : Nat) : Int) < (n : Int)))) true) (binv .int .add t29_80 t30_81)) fun t31_82 =>
      BND (grd (isB (.bool (decide (((2 * r + 1 + 1 : Nat) : Int) < (n : Int)))) true) (binv .int .add t31_82 (Value.int .i64 1))) fun t32_83 =>
      BND (grd (isB (.bool (decide (((2 * r + 1 + 1 : Nat) : Int) < (n : Int)))) true) (iaddr 1 t28_79 t32_83)) fun t33_84 =>
      BND (grd (isB (.bool (decide (((2 * r + 1 + 1 : Nat) : Int) < (n : Int)))) true) (load1 w1.drew t26_78)) fun t27_85 =>
      BND (grd (isB (.bool (decide (((2 * r + 1 + 1 : Nat) : Int) < (n : Int)))) true) (load1 w1.drew t33_84)) fun t34_86 =>
      GEF (isB (.bool (decide (((2 * r + 1 + 1 : Nat) : Int) < (n : Int)))) true) (fun k_ => CALL PR F_cmp_Less_uint64 [t27_85, t34_86] w1.drew k_) w1.drew fun t35_87 w2 =>
      BND (pickv (.bool (decide (((2 * r + 1 + 1 : Nat) : Int) < (n : Int)))) t35_87 (Value.bool false)) fun t36_88 =>
      JOIN (α := Value → World → Prop) (fun k_110 => COND t36_88
      (BND (binv .int .add (.int .i64 ((2 * r + 1 : Nat) : Int)) (Value.int .i64 1)) fun t38_111 =>
      k_110 t38_111 w2)
      (k_110 (.int .i64 ((2 * r + 1 : Nat) : Int)) w2)) K := by
    intro K hK
    by_cases h2c : 2 * r + 2 < n
    · have e1 : decide (((2 * r + 1 + 1 : Nat) : Int) < (n : Int)) = true := by simp; omega
      rw [e1]
      simp only [isB_tt, grd_true, BND_some, GEF_true]
      refine BND_step (addn (by omega)) <| BND_step (ia sd (by omega)) <| BND_step (addn (by omega)) <| BND_step (inc (by omega)) <| BND_step (ia sd (by omega)) <| BND_step (ld sd (by omega)) <| BND_step (ld sd (by omega)) <| less64 _ _ <| BND_step (pickv_true _ _) <| JOIN_elim fun K' hK' => ?_
      subst hK'
      by_cases hl : at0 ys (lo + (2 * r + 1)) < at0 ys (lo + (2 * r + 1) + 1)
      · refine COND_dec_true hl <| BND_step (inc (by omega)) <| hK _ (2 * r + 2) (.inr rfl) h2c (fun c' hc' _ => ?_) sd fd
        rcases hc' with rfl | rfl
        · have : lo + (2 * r + 2) = lo + (2 * r + 1) + 1 := by omega
          rw [this]; omega
        · omega
      · refine COND_dec_false hl <| hK _ (2 * r + 1) (.inl rfl) (by omega) (fun c' hc' _ => ?_) sd fd
        rcases hc' with rfl | rfl
        · omega
        · have : lo + (2 * r + 2) = lo + (2 * r + 1) + 1 := by omega
          rw [this]; omega
    · have e1 : decide (((2 * r + 1 + 1 : Nat) : Int) < (n : Int)) = false := by simp; omega
      rw [e1]
      simp only [isB_ft, grd_false, BND_some, GEF_false, pickv_false]
      refine JOIN_elim fun K' hK' => (COND_false _ _).2 ?_
      subst hK'
      exact hK _ (2 * r + 1) (.inl rfl) (by omega) (fun c' hc' hcn => by
        rcases hc' with rfl | rfl
        · omega
        · omega) sd fd
  refine pre _ fun w3 c hc hcn hmax s3 f3 => ?_
  clear pre
  have s3d : Slc enU 1 w3.drew v ys [b] := s3.fr (Fr.drew [] w3) (by simp)
  have f3d : Fr [b] w w3.drew := f3.trans' (Fr.drew _ _)
  refine BND_step (addn (by omega)) <| BND_step (ia s3 (by omega)) <| BND_step (addn (by omega)) <| BND_step (ia s3 (by omega)) <| BND_step (ld s3d (by omega)) <| BND_step (ld s3d (by omega)) <| less64 _ _ <| BND_step (unv_not _) ?_
  by_cases hl : at0 ys (lo + r) < at0 ys (lo + c)
  · rw [show (!decide (at0 ys (lo + r) < at0 ys (lo + c))) = false by simp [hl]]
    refine (COND_false _ _).2 <| BND_step (addn (by omega)) <| BND_step (addn (by omega)) <| BND_step (addn (by omega)) <| BND_step (ia s3d (by omega)) <| BND_step (addn (by omega)) <| BND_step (ia s3d (by omega)) <| swap_tail s3d (p := lo + r) (q := lo + c) (by omega) (by omega) fun w6 s6 f6 => ?_
    have e := at0_swp (xs := ys) (i := lo + r) (j := lo + c) (by omega) (by omega)
    refine ⟨⟨c, _, rfl, by omega, by omega, s6, .swap (lo + r) (lo + c) (by omega) (by omega) (by omega) (by omega) mx, fun k c' a1 a2 a3 a4 => ?_, fun g c' a1 a2 a3 a4 => ?_, fun k hk => ?_, f3d.trans' f6⟩, by simp; omega⟩
    · rw [e, e]
      by_cases hkr : k = r
      · subst hkr
        rw [if_neg (by omega : ¬ lo + k = lo + c), if_pos rfl]
        by_cases hcc : c' = c
        · subst hcc; rw [if_pos rfl]; omega
        · rw [if_neg (by omega), if_neg (by omega)]
          exact hmax c' a3 a4
      · rw [if_neg (by omega : ¬ lo + k = lo + c), if_neg (by omega : ¬ lo + k = lo + r)]
        by_cases hcc : c' = c
        · omega
        · rw [if_neg (by omega : ¬ lo + c' = lo + c)]
          by_cases hcr : c' = r
          · rw [hcr, if_pos rfl]
            exact hg k c a1 (by omega) hc hcn
          · rw [if_neg (by omega)]
            exact hy k c' a1 hkr a3 a4
    · have hgr : g = r := by omega
      subst hgr
      rw [e, e, if_neg (by omega : ¬ lo + c' = lo + c), if_neg (by omega : ¬ lo + c' = lo + g), if_neg (by omega : ¬ lo + g = lo + c), if_pos rfl]
      exact hy c c' (by omega) (by omega) a3 a4
    · rw [e, if_neg (by omega), if_neg (by omega)]
      exact hlow k hk
  · rw [show (!decide (at0 ys (lo + r) < at0 ys (lo + c))) = true by simp; omega]
    refine (COND_true _ _).2 (hR _ ys s3d mx (fun k c' a1 a2 a3 a4 => ?_) hlow f3d)
    by_cases hkr : k = r
    · subst hkr
      have := hmax c' a3 a4
      omega
    · exact hy k c' a1 hkr a3 a4

theorem heap_top {xs : List Int} {lo n : Nat} (h : Heap xs lo n 0 n) : ∀ k, k < n → at0 xs (lo + k) ≤ at0 xs lo := by
  intro k
  induction k using Nat.strongRecOn with
  | _ k ih =>
    intro hk
    rcases Nat.eq_zero_or_pos k with h0 | h0
    · subst h0; simp
    · have hp : (k - 1) / 2 < k := by omega
      have h1 := h ((k - 1) / 2) k (by omega) (by omega) (by omega) hk
      have h2 := ih ((k - 1) / 2) hp (by omega)
      omega
theorem heapSort (s : Slc enU 1 w v xs [b]) {lo hi : Nat} (h1 : lo + 12 < hi) (h2 : hi ≤ xs.length) (hn : xs.length < 1000000000)
    (hR : ∀ w' ys, Slc enU 1 w' v ys [b] → Mix lo hi xs ys → Sorted ys lo hi → Fr [b] w w' → R (.tuple #[]) w') :
    CALL PR F_slices_heapSortOrdered_uint64 [v, .int .i64 (lo : Int), .int .i64 (hi : Int)] w R := by
  refine C_slices_heapSortOrdered_uint64 ?_
  unfold M_slices_heapSortOrdered_uint64
  obtain ⟨n, rfl⟩ : ∃ n, hi = lo + n := ⟨hi - lo, by omega⟩
  have e : lo + n - lo = n := by omega
  refine BND_step (subn (by omega) (by omega)) ?_
  rw [e]
  refine BND_step (dec (by omega) (by omega)) <| BND_step (quon 2 (by omega) (by omega)) ?_
  refine ⟨fun t w' => ∃ (i : Nat) (ys : List Int), t = .int .i64 ((i : Int) - 1) ∧ i ≤ (n - 1) / 2 + 1 ∧ Slc enU 1 w' v ys [b] ∧ Mix lo (lo + n) xs ys ∧ Heap ys lo n i n ∧ Fr [b] w w', fun t _ => match t with | .int _ m => (m + 1).toNat | _ => 0,
    ⟨(n - 1) / 2 + 1, xs, i64c (by omega), by omega, s, .refl _, fun k c a1 a2 a3 a4 => by omega, Fr.refl _ _⟩, ?_⟩
  rintro _ _ w1 ⟨i, ys, rfl, hi1, s1, mx, hh, f1⟩
  have hyl := mx.len
  refine BND_step (binv_geq _ _ _ _) ?_
  by_cases hi0 : 0 < i
  · refine COND_dec_true (by omega) ?_
    have ei : ((i : Int) - 1) = ((i - 1 : Nat) : Int) := by omega
    rw [ei]
    refine siftDown s1 (p := i - 1) (by omega) (by omega) (by omega) (fun k c a1 a2 a3 a4 => hh k c (by omega) (by omega) a3 a4) fun w2 zs s2 mz hz _ f2 => ?_
    refine BND_step (decI (by omega) (by omega)) ⟨⟨i - 1, zs, i64c (by omega), by omega, s2, mx.trans mz, hz, f1.trans' f2⟩, by simp <;> omega⟩
  refine COND_dec_false (by omega) <| BND_step (dec (by omega) (by omega)) ?_
  obtain rfl : i = 0 := by omega
  refine ⟨fun t w' => ∃ (k : Nat) (ys : List Int), t = .int .i64 ((k : Int) - 1) ∧ k ≤ n ∧ Slc enU 1 w' v ys [b] ∧ Mix lo (lo + n) xs ys ∧ Heap ys lo k 0 k ∧ (∀ p q, p ≤ q → k ≤ q → q < n → at0 ys (lo + p) ≤ at0 ys (lo + q)) ∧ Fr [b] w w', fun t _ => match t with | .int _ m => (m + 1).toNat | _ => 0,
    ⟨n, ys, i64c (by omega), by omega, s1, mx, hh, fun p q a1 a2 a3 => by omega, f1⟩, ?_⟩
  rintro _ _ w3 ⟨k, zs, rfl, hk, s3, mz, hz, so, f3⟩
  have hzl := mz.len
  refine BND_step (binv_geq _ _ _ _) ?_
  by_cases hk0 : 0 < k
  · refine COND_dec_true (by omega) ?_
    have ek : ((k : Int) - 1) = ((k - 1 : Nat) : Int) := by omega
    rw [ek]
    refine BND_step (addn (by omega)) <| BND_step (addn (by omega)) <| BND_step (ia s3 (by omega)) <| BND_step (ia s3 (by omega)) <| swap_tail s3 (p := lo) (q := lo + (k - 1)) (by omega) (by omega) fun w5 s5 f5 => ?_
    have e5 := at0_swp (xs := zs) (i := lo) (j := lo + (k - 1)) (by omega) (by omega)
    have htop := heap_top hz
    refine siftDown s5 (p := 0) (n := k - 1) (by rw [len_swp]; omega) (by rw [len_swp]; omega) (by omega) (fun g c a1 a2 a3 a4 => ?_) fun w6 us s6 mu hu _ f6 => ?_
    · rw [e5, e5, if_neg (by omega), if_neg (by omega), if_neg (by omega), if_neg (by omega)]
      exact hz g c (by omega) (by omega) a3 (by omega)
    · have hul := mu.len
      rw [len_swp] at hul
      have key : ∀ p, p < n → ∃ m, m < n ∧ at0 us (lo + p) = at0 zs (lo + m) ∧ (p < k - 1 → m < k) ∧ (p = k - 1 → m = 0) ∧ (k ≤ p → m = p) := by
        intro p hp
        by_cases h1 : p < k - 1
        · obtain ⟨m, m1, m2, em⟩ := mu.pick (by rw [len_swp]; omega) (lo + p) (by omega) (by omega)
          rw [e5] at em
          by_cases hm : m = lo
          · rw [if_neg (by omega), if_pos hm] at em
            exact ⟨k - 1, by omega, em, fun _ => by omega, by omega, by omega⟩
          · rw [if_neg (by omega), if_neg hm] at em
            exact ⟨m - lo, by omega, by rw [em]; congr 1; omega, fun _ => by omega, by omega, by omega⟩
        · have em := mu.out (by rw [len_swp]; omega) (lo + p) (.inr (by omega))
          rw [e5] at em
          by_cases h2 : p = k - 1
          · rw [if_pos (by omega)] at em
            exact ⟨0, by omega, em, by omega, fun _ => rfl, by omega⟩
          · rw [if_neg (by omega), if_neg (by omega)] at em
            exact ⟨p, hp, em, by omega, by omega, fun _ => rfl⟩
      refine BND_step (decI (by omega) (by omega)) ⟨⟨k - 1, us, rfl, by omega, s6, (Mix.swap lo (lo + (k - 1)) (by omega) (by omega) (by omega) (by omega) mz).trans (mu.wider (by omega) (by omega)), hu, fun p q a1 a2 a3 => ?_, f3.trans' (f5.trans' f6)⟩, by simp <;> omega⟩
      obtain ⟨m1, l1, e1, x1, x2, x3⟩ := key p (by omega)
      obtain ⟨m2, l2, e2, y1, y2, y3⟩ := key q a3
      rw [e1, e2]
      by_cases hq : q = k - 1
      · rw [y2 hq, Nat.add_zero]
        by_cases hp : p = k - 1
        · rw [x2 hp]; simp
        · exact htop m1 (x1 (by omega))
      · rw [y3 (by omega)]
        by_cases hp : p < k - 1
        · exact so m1 q (by have := x1 hp; omega) (by omega) a3
        · by_cases hp2 : p = k - 1
          · rw [x2 hp2]; exact so 0 q (by omega) (by omega) a3
          · rw [x3 (by omega)]; exact so p q a1 (by omega) a3
  · refine COND_dec_false (by omega) (hR w3 zs s3 mz (fun p q a1 a2 a3 => ?_) f3)
    have := so (p - lo) (q - lo) (by omega) (by omega) (by omega)
    rwa [show lo + (p - lo) = p by omega, show lo + (q - lo) = q by omega] at this
end
end Go.Proofs.Ytkifjfjhghogjaa.Sort64
