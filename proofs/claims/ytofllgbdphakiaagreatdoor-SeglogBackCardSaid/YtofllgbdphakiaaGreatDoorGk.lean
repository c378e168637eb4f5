/- Sorting a slice of uint64: breakPatterns, siftDown, heapSort. No condition but sizes. Sorting a slice of uint64: partition, partitionEqual, partialInsertionSort. No condition but sizes. Sorting a slice of uint64: partialInsertionSort, pdqsort, slices.Sort. No condition but that there are less than 256. The numbers of names, walked: the program's, the document's; rows of numbers compared. Conditions: as of name.Read. What was appended is read, at its place: the law walked. Conditions: as of a log's, of name.Read's. The law of what is read back, for numbers as they came in. Conditions: as that law's. Behind a Sync it is there whatever crashes: the law walked. Conditions: as of a log's. The law of what is sure, for numbers as they came in. Conditions: as that law's. -/
import Derived.Test.YtofllgbdphakiaaGreatDoorGj
import Derived.Test.YtofllgbdphakiaaGreatDoorMa
import Derived.Test.YtofllgbdphakiaaGreatDoorGi
set_option linter.unusedVariables false
set_option linter.unusedSimpArgs false
section
namespace Go.Proofs.YtofllgbdphakiaaGreatDoor.Sort64
open Go.Den

/-! ## Bits -/
def bl (x : Nat) : Nat := if x = 0 then 0 else Nat.log2 x + 1
def len8tab : ByteArray := { data := (List.toArray (List.append (List.append [0, 1, 2, 2, 3, 3, 3, 3, 4, 4, 4, 4, 4, 4, 4, 4, 5, 5, 5, 5, 5, 5, 5, 5, 5, 5, 5, 5, 5, 5, 5, 5, 6, 6, 6, 6, 6, 6, 6, 6, 6, 6, 6, 6, 6, 6, 6, 6, 6, 6, 6, 6, 6, 6, 6, 6, 6, 6, 6, 6, 6, 6, 6, 6] [7, 7, 7, 7, 7, 7, 7, 7, 7, 7, 7, 7, 7, 7, 7, 7, 7, 7, 7, 7, 7, 7, 7, 7, 7, 7, 7, 7, 7, 7, 7, 7, 7, 7, 7, 7, 7, 7, 7, 7, 7, 7, 7, 7, 7, 7, 7, 7, 7, 7, 7, 7, 7, 7, 7, 7, 7, 7, 7, 7, 7, 7, 7, 7]) (List.append [8, 8, 8, 8, 8, 8, 8, 8, 8, 8, 8, 8, 8, 8, 8, 8, 8, 8, 8, 8, 8, 8, 8, 8, 8, 8, 8, 8, 8, 8, 8, 8, 8, 8, 8, 8, 8, 8, 8, 8, 8, 8, 8, 8, 8, 8, 8, 8, 8, 8, 8, 8, 8, 8, 8, 8, 8, 8, 8, 8, 8, 8, 8, 8] [8, 8, 8, 8, 8, 8, 8, 8, 8, 8, 8, 8, 8, 8, 8, 8, 8, 8, 8, 8, 8, 8, 8, 8, 8, 8, 8, 8, 8, 8, 8, 8, 8, 8, 8, 8, 8, 8, 8, 8, 8, 8, 8, 8, 8, 8, 8, 8, 8, 8, 8, 8, 8, 8, 8, 8, 8, 8, 8, 8, 8, 8, 8, 8]))) }
theorem len8_at : ∀ x : Nat, x < 256 → len8tab[x]? = some (UInt8.ofNat (bl x)) ∧ bl x ≤ 8 ∧ (x < 2 ^ bl x) ∧ (0 < x → 2 ^ bl x ≤ 2 * x) := by decide +kernel
theorem wrap_range (n : Int) : 0 ≤ IntKind.u64.wrap n ∧ IntKind.u64.wrap n < 18446744073709551616 := by
  simp only [IntKind.wrap, IntKind.bits, IntKind.signed]
  simp
  omega
section
variable {w : World} {v : Value} {xs : List Int} {b : Nat} {R : Value → World → Prop}
theorem bitsLen {x : Nat} (hx : x < 256) (hR : R (.int .i64 ((bl x : Nat) : Int)) w) : CALL PR F_math_bits_Len [.int .u64 (x : Int)] w R := by
  obtain ⟨h1, h2, _, _⟩ := len8_at x hx
  refine C_math_bits_Len ?_
  unfold M_math_bits_Len
  refine (COND_false _ _).2 ?_
  refine C_math_bits_Len64 ?_
  unfold M_math_bits_Len64
  have hk : convi .u8 (.int .u64 (x : Int)) = some (.int .u8 (x : Int)) := by
    simp only [convi, IntKind.wrap, IntKind.bits, IntKind.signed]
    simp; omega
  have hi : indexs (.string len8tab) (.int .u8 (x : Int)) = some (.int .u8 ((bl x : Nat) : Int)) := by
    simp only [indexs, Int.toNat_natCast, h1]
    simp; omega
  have hc : convi .i64 (.int .u8 ((bl x : Nat) : Int)) = some (.int .i64 ((bl x : Nat) : Int)) := by
    simp only [convi]
    rw [wrap_i64 (by omega) (by omega)]
  refine BND_step (binv_geq _ _ _ _) <| JOIN_elim fun K hK => COND_dec_false (by omega) ?_
  subst hK
  refine BND_step (binv_geq _ _ _ _) <| JOIN_elim fun K hK => COND_dec_false (by omega) ?_
  subst hK
  refine BND_step (binv_geq _ _ _ _) <| JOIN_elim fun K hK => COND_dec_false (by omega) ?_
  subst hK
  refine BND_step hk <| BND_step hi <| BND_step hc <| BND_step (v := .int .i64 ((bl x : Nat) : Int)) ?_ hR
  rw [binv_add, wrap_i64 (by omega) (by omega), Int.zero_add]
theorem nextPow {x : Nat} (hx : x < 256) (hR : R (.int .u64 ((2 ^ bl x : Nat) : Int)) w) : CALL PR F_slices_nextPowerOfTwo [.int .i64 (x : Int)] w R := by
  obtain ⟨_, h2, _, _⟩ := len8_at x hx
  refine C_slices_nextPowerOfTwo ?_
  unfold M_slices_nextPowerOfTwo
  have hk : convi .u64 (.int .i64 (x : Int)) = some (.int .u64 (x : Int)) := by
    simp only [convi]
    rw [wrap_u64 (by omega) (by omega)]
  refine BND_step hk <| bitsLen hx <| BND_step (v := .int .u64 ((2 ^ bl x : Nat) : Int)) ?_ hR
  have hp : 2 ^ bl x ≤ 2 ^ 8 := Nat.pow_le_pow_right (by omega) h2
  have hm : min (bl x) 64 = bl x := by omega
  simp only [shiftv]
  rw [if_pos (by omega)]
  have e : IntKind.u64.bits = 64 := rfl
  rw [Int.toNat_natCast, e, hm, Int.one_mul]
  have e2 : (2 : Int) ^ bl x = ((2 ^ bl x : Nat) : Int) := by simp
  rw [e2, wrap_u64 (by omega) (by omega)]

theorem xor_some (a c : Int) : ∃ y, binv .int .xor (.int .u64 a) (.int .u64 c) = some (.int .u64 y) ∧ 0 ≤ y ∧ y < 18446744073709551616 := by
  exact ⟨_, by rw [binv_int _ _ _ _ _ (by simp) (by simp)]; rfl, (wrap_range _).1, (wrap_range _).2⟩
theorem shl_some (a : Int) (n : Nat) : ∃ y, shiftv .shl (.int .u64 a) (.int .u64 (n : Int)) = some (.int .u64 y) := ⟨_, by simp only [shiftv]; rw [if_pos (by omega)]⟩
theorem shr_some (a : Int) (n : Nat) : ∃ y, shiftv .shr (.int .u64 a) (.int .u64 (n : Int)) = some (.int .u64 y) := ⟨_, by simp only [shiftv]; rw [if_pos (by omega)]⟩
theorem and_some (y : Int) (m : Nat) (hm : m < 1000000) : ∃ z : Nat, binv .int .and (.int .u64 y) (.int .u64 (m : Int)) = some (.int .u64 (z : Int)) ∧ z ≤ m := by
  have e : binv .int .and (.int .u64 y) (.int .u64 (m : Int)) = some (.int .u64 (IntKind.u64.wrap (BitVec.ofInt 64 y &&& BitVec.ofInt 64 (m : Int)).toNat)) := by
    rw [binv_int _ _ _ _ _ (by simp) (by simp)]; rfl
  have hle : (BitVec.ofInt 64 y &&& BitVec.ofInt 64 (m : Int)).toNat ≤ m := by
    rw [BitVec.toNat_and]
    refine Nat.le_trans Nat.and_le_right ?_
    rw [BitVec.ofInt_natCast, BitVec.toNat_ofNat]
    exact Nat.mod_le _ _
  refine ⟨_, ?_, hle⟩
  rw [e, wrap_u64 (by omega) (by omega)]
theorem xorNext {c T : Nat} {x : Int} (hc : blk w c = some (.cells #[.int .u64 x] T (0, 0))) (hR : ∀ w' y, blk w' c = some (.cells #[.int .u64 y] T (0, 0)) → Fr [c] w w' → R (.int .u64 y) w') :
    CALL PR F_slices_xorshift_Next [.pointer (some ⟨c, 0, none⟩)] w R := by
  refine C_slices_xorshift_Next ?_
  unfold M_slices_xorshift_Next
  have one : ∀ (w : World) (x y : Int), blk w c = some (.cells #[.int .u64 x] T (0, 0)) → ∃ w', storev 1 w.drew (.pointer (some ⟨c, 0, none⟩)) (.int .u64 y) = some w' ∧ blk w' c = some (.cells #[.int .u64 y] T (0, 0)) ∧ Fr [c] w w' := by
    intro w x y h
    have hd : blk w.drew c = some (.cells #[.int .u64 x] T (0, 0)) := h
    exact ⟨_, storev1_blk hd (by simp) rfl rfl, blk_setB_same hd, (Fr.drew _ _).trans' (Fr.setB (.inl (by simp)) _)⟩
  have ldd : ∀ (w : World) (x : Int), blk w c = some (.cells #[.int .u64 x] T (0, 0)) → load1 w.drew (.pointer (some ⟨c, 0, none⟩)) = some (.int .u64 x) := fun w x h => load1_blk (w := w.drew) h
  obtain ⟨y1, e1⟩ := shl_some x 13
  obtain ⟨y2, e2, _, _⟩ := xor_some x y1
  obtain ⟨w1, s1, c1, f1⟩ := one w x y2 hc
  obtain ⟨y3, e3⟩ := shr_some y2 7
  obtain ⟨y4, e4, _, _⟩ := xor_some y2 y3
  obtain ⟨w2, s2, c2, f2⟩ := one w1 y2 y4 c1
  obtain ⟨y5, e5⟩ := shl_some y4 17
  obtain ⟨y6, e6, _, _⟩ := xor_some y4 y5
  obtain ⟨w3, s3, c3, f3⟩ := one w2 y4 y6 c2
  refine BND_step (nilchk_ptr _) <| BND_step (nilchk_ptr _) <| BND_step (ldd w x hc) <| BND_step (ldd w x hc) <| BND_step e1 <| BND_step e2 <| BND_step (nilchk_ptr _) <| BND_step s1 ?_
  refine BND_step (nilchk_ptr _) <| BND_step (nilchk_ptr _) <| BND_step (ldd w1 y2 c1) <| BND_step (ldd w1 y2 c1) <| BND_step e3 <| BND_step e4 <| BND_step (nilchk_ptr _) <| BND_step s2 ?_
  refine BND_step (nilchk_ptr _) <| BND_step (nilchk_ptr _) <| BND_step (ldd w2 y4 c2) <| BND_step (ldd w2 y4 c2) <| BND_step e5 <| BND_step e6 <| BND_step (nilchk_ptr _) <| BND_step s3 ?_
  exact BND_step (nilchk_ptr _) <| BND_step (v := .int .u64 y6) (load1_blk c3) <| hR w3 y6 c3 (f1.trans' (f2.trans' f3))

theorem breakPatterns (s : Slc enU 1 w v xs [b]) {lo hi : Nat} (h1 : lo + 12 < hi) (h2 : hi ≤ xs.length) (hn : xs.length < 256)
    (hR : ∀ w' ys, Slc enU 1 w' v ys [b] → Mix lo hi xs ys → Fr [b] w w' → R (.tuple #[]) w') :
    CALL PR F_slices_breakPatternsOrdered_uint64 [v, .int .i64 (lo : Int), .int .i64 (hi : Int)] w R := by
  refine C_slices_breakPatternsOrdered_uint64 ?_
  unfold M_slices_breakPatternsOrdered_uint64
  have hdv : (hi - lo) / 4 * 4 ≤ hi - lo := Nat.div_mul_le_self _ _
  have hd3 : 3 ≤ (hi - lo) / 4 := by omega
  have hqu := quon (n := hi - lo) 4 (by omega) (by omega)
  obtain ⟨_, hb8, hb1, hb2⟩ := len8_at (hi - lo) (by omega)
  replace hb2 := hb2 (by omega)
  refine BND_step (subn (by omega) (by omega)) <| BND_step (binv_geq _ _ _ _) <| JOIN_elim fun K hK => COND_dec_true (by omega) ?_
  have hfin : ∀ w' ys, Slc enU 1 w' v ys [b] → Mix lo hi xs ys → Fr [b] w w' → K w' := by subst hK; exact hR
  clear hK
  have hk : convi .u64 (.int .i64 ((hi - lo : Nat) : Int)) = some (.int .u64 ((hi - lo : Nat) : Int)) := by
    simp only [convi]
    rw [wrap_u64 (by omega) (by omega)]
  refine BND_step hk <| NEW_intro fun w2 b2 f2 z2 => ?_
  obtain ⟨T, b2'⟩ : ∃ T, blk w2 (hsz w) = some (.cells #[.int .u64 0] T (0, 0)) := ⟨_, b2⟩
  have hcb : hsz w ≠ b := by have := s.lt b (by simp); omega
  refine BND_step (storev1_blk b2' (by simp) rfl rfl) ?_
  have b3 := blk_setB_same (o := .cells (#[Value.int .u64 0].setIfInBounds 0 (.int .u64 ((hi - lo : Nat) : Int))) T (0, 0)) b2'
  have f3 : Fr [hsz w] w2 (setB w2 (hsz w) (.cells (#[Value.int .u64 0].setIfInBounds 0 (.int .u64 ((hi - lo : Nat) : Int))) T (0, 0))) := Fr.setB (.inl (by simp)) _
  generalize setB w2 (hsz w) (.cells (#[Value.int .u64 0].setIfInBounds 0 (.int .u64 ((hi - lo : Nat) : Int))) T (0, 0)) = w3 at b3 f3
  have f03 : Fr [] w w3 := f2.trans f3 fun x hx => by simp at hx; subst hx; exact .inr (by omega)
  have s3 := s.fr f03 (by simp)
  refine nextPow (by omega) ?_
  generalize hnn : hi - lo = n at *
  generalize n / 4 = d at *
  generalize 2 ^ bl n = P at *
  refine BND_step hqu <| BND_step (muln (n := d) (m := 2) (by omega)) <| BND_step (addn (by omega)) <| BND_step (dec (by omega) (by omega)) ?_
  refine ⟨fun t w' => ∃ (k : Nat) (ys : List Int) (x : Int), t = .int .i64 k ∧ lo ≤ k ∧ k ≤ lo + d * 2 + 2 ∧ Slc enU 1 w' v ys [b] ∧ Mix lo hi xs ys ∧ blk w' (hsz w) = some (.cells #[.int .u64 x] T (0, 0)) ∧ Fr [b] w w', fun t _ => match t with | .int _ n => lo + d * 2 + 3 - n.toNat | _ => 0,
    ⟨lo + d * 2 - 1, xs, _, rfl, by omega, by omega, s3, .refl _, b3, f03.nil⟩, ?_⟩
  rintro _ _ w5 ⟨k, ys, x, rfl, hk1, hk2, s5, mx, b5, f5⟩
  have hyl := mx.len
  refine BND_step hqu <| BND_step (muln (n := d) (m := 2) (by omega)) <| BND_step (addn (by omega)) <| BND_step (inc (by omega)) <| BND_step (binv_leq _ _ _ _) ?_
  by_cases hle : k ≤ lo + d * 2 + 1
  · refine COND_dec_true (by omega) <| xorNext b5 fun w6 y b6 f6 => ?_
    have s6 := s5.fr f6 (fun z hz => by simp at hz ⊢; omega)
    have hsub : binv .int .sub (.int .u64 (P : Int)) (.int .u64 1) = some (.int .u64 ((P - 1 : Nat) : Int)) := by
      have eP : (P : Int) - 1 = ((P - 1 : Nat) : Int) := by omega
      rw [binv_sub, eP, wrap_u64 (by omega) (by omega)]
    obtain ⟨z, ez, hz⟩ := and_some y (P - 1) (by omega)
    have hcz : convi .i64 (.int .u64 (z : Int)) = some (.int .i64 (z : Int)) := by
      simp only [convi]
      rw [wrap_i64 (by omega) (by omega)]
    have fw6 : Fr [b] w w6 := f5.trans f6 fun u hu => by simp at hu; subst hu; exact .inr (by omega)
    refine BND_step hsub <| BND_step ez <| BND_step hcz <| BND_step (binv_geq _ _ _ _) <| JOIN_elim fun K2 hK2 => ?_
    have go : ∀ (u : Nat), u < n → K2 (.int .i64 (u : Int)) w6 := by
      intro u hu
      subst hK2
      refine BND_step (addn (by omega)) <| BND_step (addn (by omega)) <| BND_step (ia s6 (by omega)) <| BND_step (ia s6 (by omega)) <| swap_tail s6 (by omega) (by omega) fun w9 s9 f9 => ?_
      exact BND_step (inc (by omega)) ⟨⟨k + 1, _, y, rfl, by omega, by omega, s9, .swap k (lo + u) (by omega) (by omega) (by omega) (by omega) mx, f9.some (by simp; omega) b6, fw6.trans' f9⟩, by simp; omega⟩
    by_cases hzn : n ≤ z
    · refine COND_dec_true (by omega) <| BND_step (subn hzn (by omega)) (go _ (by omega))
    · exact COND_dec_false (by omega) (go z (by omega))
  · exact COND_dec_false (by omega) (hfin w5 ys s5 mx f5)

theorem i64c {a c : Int} (h : a = c) : Value.int .i64 a = .int .i64 c := by rw [h]
/-! ## The heap -/
/-- of the places k >= p of [lo, lo+n), each is no less than its children; but for place e. -/
def Heap (xs : List Int) (lo n p e : Nat) : Prop := ∀ k c, p ≤ k → k ≠ e → (c = 2 * k + 1 ∨ c = 2 * k + 2) → c < n → at0 xs (lo + c) ≤ at0 xs (lo + k)
theorem siftDown (s : Slc enU 1 w v xs [b]) {lo n p : Nat} (h2 : lo + n ≤ xs.length) (hn : xs.length < 1000000000) (hp : p ≤ n) (hh : Heap xs lo n p p)
    (hR : ∀ w' ys, Slc enU 1 w' v ys [b] → Mix lo (lo + n) xs ys → Heap ys lo n p n → (∀ k, k < p → at0 ys (lo + k) = at0 xs (lo + k)) → Fr [b] w w' → R (.tuple #[]) w') :
    CALL PR F_slices_siftDownOrdered_uint64 [v, .int .i64 (p : Int), .int .i64 (n : Int), .int .i64 (lo : Int)] w R := by
  refine C_slices_siftDownOrdered_uint64 ?_
  unfold M_slices_siftDownOrdered_uint64
  refine ⟨fun t w' => ∃ (r : Nat) (ys : List Int), t = .int .i64 r ∧ p ≤ r ∧ r ≤ n ∧ Slc enU 1 w' v ys [b] ∧ Mix lo (lo + n) xs ys ∧ Heap ys lo n p r ∧ (∀ g c, p ≤ g → (r = 2 * g + 1 ∨ r = 2 * g + 2) → (c = 2 * r + 1 ∨ c = 2 * r + 2) → c < n → at0 ys (lo + c) ≤ at0 ys (lo + g)) ∧ (∀ k, k < p → at0 ys (lo + k) = at0 xs (lo + k)) ∧ Fr [b] w w',
    fun t _ => match t with | .int _ m => n + 1 - m.toNat | _ => 0, ⟨p, xs, rfl, by omega, hp, s, .refl _, hh, fun g c hg hr hc hcn => by omega, fun _ _ => rfl, Fr.refl _ _⟩, ?_⟩
  rintro _ _ w1 ⟨r, ys, rfl, hpr, hrn, s1, mx, hy, hg, hlow, f1⟩
  have hyl := mx.len
  refine BND_step (muln (n := 2) (m := r) (by omega)) <| BND_step (inc (by omega)) <| BND_step (binv_geq _ _ _ _) ?_
  by_cases hend : n ≤ 2 * r + 1
  · refine COND_dec_true (by omega) (hR w1 ys s1 mx (fun k c a1 a2 a3 a4 => ?_) hlow f1)
    by_cases hkr : k = r
    · omega
    · exact hy k c a1 hkr a3 a4
  refine COND_dec_false (by omega) <| BND_step (inc (by omega)) <| BND_step (binv_lss _ _ _ _) ?_
  have sd : Slc enU 1 w1.drew v ys [b] := s1.fr (Fr.drew [] w1) (by simp)
  have fd : Fr [b] w w1.drew := f1.trans' (Fr.drew _ _)
  -- the greater child
  have pre : ∀ K : Value → World → Prop, (∀ w2 (c : Nat), (c = 2 * r + 1 ∨ c = 2 * r + 2) → c < n → (∀ c', (c' = 2 * r + 1 ∨ c' = 2 * r + 2) → c' < n → at0 ys (lo + c') ≤ at0 ys (lo + c)) → Slc enU 1 w2 v ys [b] → Fr [b] w w2 → K (.int .i64 (c : Int)) w2) →
      BND (grd (isB (.bool (decide (((2 * r + 1 + 1 : Nat) : Int) < (n : Int)))) true) (some v)) fun t22_74 =>
      BND (grd (isB (.bool (decide (((2 * r + 1 + 1 : Nat) : Int) < (n : Int)))) true) (some (.int .i64 (lo : Int)))) fun t23_75 =>
      BND (grd (isB (.bool (decide (((2 * r + 1 + 1 : Nat) : Int) < (n : Int)))) true) (some (.int .i64 ((2 * r + 1 : Nat) : Int)))) fun t24_76 =>
      BND (grd (isB (.bool (decide (((2 * r + 1 + 1 : Nat) : Int) < (n : Int)))) true) (binv .int .add t23_75 t24_76)) fun t25_77 =>
      BND (grd (isB (.bool (decide (((2 * r + 1 + 1 : Nat) : Int) < (n : Int)))) true) (iaddr 1 t22_74 t25_77)) fun t26_78 =>
      BND (grd (isB (.bool (decide (((2 * r + 1 + 1 : Nat) : Int) < (n : Int)))) true) (some v)) fun t28_79 =>
      BND (grd (isB (.bool (decide (((2 * r + 1 + 1 : Nat) : Int) < (n : Int)))) true) (some (.int .i64 (lo : Int)))) fun t29_80 =>
      BND (grd (isB (.bool (decide (((2 * r + 1 + 1 : Nat) : Int) < (n : Int)))) true) (some (.int .i64 ((2 * r + 1 : Nat) : Int)))) fun t30_81 =>
      BND (grd (isB (.bool (decide (((2 * r + 1 + 1 : Nat) : Int) < (n : Int)))) true) (binv .int .add t29_80 t30_81)) fun t31_82 =>
      BND (grd (isB (.bool (decide (((2 * r + 1 + 1 : Nat) : Int) < (n : Int)))) true) (binv .int .add t31_82 (Value.int .i64 1))) fun t32_83 =>
      BND (grd (isB (.bool (decide (((2 * r + 1 + 1 : Nat) : Int) < (n : Int)))) true) (iaddr 1 t28_79 t32_83)) fun t33_84 =>
      BND (grd (isB (.bool (decide (((2 * r + 1 + 1 : Nat) : Int) < (n : Int)))) true) (load1 w1.drew t26_78)) fun t27_85 =>
      BND (grd (isB (.bool (decide (((2 * r + 1 + 1 : Nat) : Int) < (n : Int)))) true) (load1 w1.drew t33_84)) fun t34_86 =>
      GEF (isB (.bool (decide (((2 * r + 1 + 1 : Nat) : Int) < (n : Int)))) true) (fun k_ => CALL PR F_cmp_Less_uint64 [t27_85, t34_86] w1.drew k_) w1.drew fun t35_87 w2 =>
      BND (pickv (.bool (decide (((2 * r + 1 + 1 : Nat) : Int) < (n : Int)))) t35_87 (Value.bool false)) fun t36_88 =>
      JOIN (α := Value → World → Prop) (fun k_110 => COND t36_88
      (BND (binv .int .add (.int .i64 ((2 * r + 1 : Nat) : Int)) (Value.int .i64 1)) fun t38_111 =>
      k_110 t38_111 w2)
      (k_110 (.int .i64 ((2 * r + 1 : Nat) : Int)) w2)) K := by
    intro K hK
    by_cases h2c : 2 * r + 2 < n
    · have e1 : decide (((2 * r + 1 + 1 : Nat) : Int) < (n : Int)) = true := by simp; omega
      rw [e1]
      simp only [isB_tt, grd_true, BND_some, GEF_true]
      refine BND_step (addn (by omega)) <| BND_step (ia sd (by omega)) <| BND_step (addn (by omega)) <| BND_step (inc (by omega)) <| BND_step (ia sd (by omega)) <| BND_step (ld sd (by omega)) <| BND_step (ld sd (by omega)) <| less64 _ _ <| BND_step (pickv_true _ _) <| JOIN_elim fun K' hK' => ?_
      subst hK'
      by_cases hl : at0 ys (lo + (2 * r + 1)) < at0 ys (lo + (2 * r + 1) + 1)
      · refine COND_dec_true hl <| BND_step (inc (by omega)) <| hK _ (2 * r + 2) (.inr rfl) h2c (fun c' hc' _ => ?_) sd fd
        rcases hc' with rfl | rfl
        · have : lo + (2 * r + 2) = lo + (2 * r + 1) + 1 := by omega
          rw [this]; omega
        · omega
      · refine COND_dec_false hl <| hK _ (2 * r + 1) (.inl rfl) (by omega) (fun c' hc' _ => ?_) sd fd
        rcases hc' with rfl | rfl
        · omega
        · have : lo + (2 * r + 2) = lo + (2 * r + 1) + 1 := by omega
          rw [this]; omega
    · have e1 : decide (((2 * r + 1 + 1 : Nat) : Int) < (n : Int)) = false := by simp; omega
      rw [e1]
      simp only [isB_ft, grd_false, BND_some, GEF_false, pickv_false]
      refine JOIN_elim fun K' hK' => (COND_false _ _).2 ?_
      subst hK'
      exact hK _ (2 * r + 1) (.inl rfl) (by omega) (fun c' hc' hcn => by
        rcases hc' with rfl | rfl
        · omega
        · omega) sd fd
  refine pre _ fun w3 c hc hcn hmax s3 f3 => ?_
  clear pre
  have s3d : Slc enU 1 w3.drew v ys [b] := s3.fr (Fr.drew [] w3) (by simp)
  have f3d : Fr [b] w w3.drew := f3.trans' (Fr.drew _ _)
  refine BND_step (addn (by omega)) <| BND_step (ia s3 (by omega)) <| BND_step (addn (by omega)) <| BND_step (ia s3 (by omega)) <| BND_step (ld s3d (by omega)) <| BND_step (ld s3d (by omega)) <| less64 _ _ <| BND_step (unv_not _) ?_
  by_cases hl : at0 ys (lo + r) < at0 ys (lo + c)
  · rw [show (!decide (at0 ys (lo + r) < at0 ys (lo + c))) = false by simp [hl]]
    refine (COND_false _ _).2 <| BND_step (addn (by omega)) <| BND_step (addn (by omega)) <| BND_step (addn (by omega)) <| BND_step (ia s3d (by omega)) <| BND_step (addn (by omega)) <| BND_step (ia s3d (by omega)) <| swap_tail s3d (p := lo + r) (q := lo + c) (by omega) (by omega) fun w6 s6 f6 => ?_
    have e := at0_swp (xs := ys) (i := lo + r) (j := lo + c) (by omega) (by omega)
    refine ⟨⟨c, _, rfl, by omega, by omega, s6, .swap (lo + r) (lo + c) (by omega) (by omega) (by omega) (by omega) mx, fun k c' a1 a2 a3 a4 => ?_, fun g c' a1 a2 a3 a4 => ?_, fun k hk => ?_, f3d.trans' f6⟩, by simp; omega⟩
    · rw [e, e]
      by_cases hkr : k = r
      · subst hkr
        rw [if_neg (by omega : ¬ lo + k = lo + c), if_pos rfl]
        by_cases hcc : c' = c
        · subst hcc; rw [if_pos rfl]; omega
        · rw [if_neg (by omega), if_neg (by omega)]
          exact hmax c' a3 a4
      · rw [if_neg (by omega : ¬ lo + k = lo + c), if_neg (by omega : ¬ lo + k = lo + r)]
        by_cases hcc : c' = c
        · omega
        · rw [if_neg (by omega : ¬ lo + c' = lo + c)]
          by_cases hcr : c' = r
          · rw [hcr, if_pos rfl]
            exact hg k c a1 (by omega) hc hcn
          · rw [if_neg (by omega)]
            exact hy k c' a1 hkr a3 a4
    · have hgr : g = r := by omega
      subst hgr
      rw [e, e, if_neg (by omega : ¬ lo + c' = lo + c), if_neg (by omega : ¬ lo + c' = lo + g), if_neg (by omega : ¬ lo + g = lo + c), if_pos rfl]
      exact hy c c' (by omega) (by omega) a3 a4
    · rw [e, if_neg (by omega), if_neg (by omega)]
      exact hlow k hk
  · rw [show (!decide (at0 ys (lo + r) < at0 ys (lo + c))) = true by simp; omega]
    refine (COND_true _ _).2 (hR _ ys s3d mx (fun k c' a1 a2 a3 a4 => ?_) hlow f3d)
    by_cases hkr : k = r
    · subst hkr
      have := hmax c' a3 a4
      omega
    · exact hy k c' a1 hkr a3 a4

theorem heap_top {xs : List Int} {lo n : Nat} (h : Heap xs lo n 0 n) : ∀ k, k < n → at0 xs (lo + k) ≤ at0 xs lo := by
  intro k
  induction k using Nat.strongRecOn with
  | _ k ih =>
    intro hk
    rcases Nat.eq_zero_or_pos k with h0 | h0
    · subst h0; simp
    · have hp : (k - 1) / 2 < k := by omega
      have h1 := h ((k - 1) / 2) k (by omega) (by omega) (by omega) hk
      have h2 := ih ((k - 1) / 2) hp (by omega)
      omega
theorem heapSort (s : Slc enU 1 w v xs [b]) {lo hi : Nat} (h1 : lo + 12 < hi) (h2 : hi ≤ xs.length) (hn : xs.length < 1000000000)
    (hR : ∀ w' ys, Slc enU 1 w' v ys [b] → Mix lo hi xs ys → Sorted ys lo hi → Fr [b] w w' → R (.tuple #[]) w') :
    CALL PR F_slices_heapSortOrdered_uint64 [v, .int .i64 (lo : Int), .int .i64 (hi : Int)] w R := by
  refine C_slices_heapSortOrdered_uint64 ?_
  unfold M_slices_heapSortOrdered_uint64
  obtain ⟨n, rfl⟩ : ∃ n, hi = lo + n := ⟨hi - lo, by omega⟩
  have e : lo + n - lo = n := by omega
  refine BND_step (subn (by omega) (by omega)) ?_
  rw [e]
  refine BND_step (dec (by omega) (by omega)) <| BND_step (quon 2 (by omega) (by omega)) ?_
  refine ⟨fun t w' => ∃ (i : Nat) (ys : List Int), t = .int .i64 ((i : Int) - 1) ∧ i ≤ (n - 1) / 2 + 1 ∧ Slc enU 1 w' v ys [b] ∧ Mix lo (lo + n) xs ys ∧ Heap ys lo n i n ∧ Fr [b] w w', fun t _ => match t with | .int _ m => (m + 1).toNat | _ => 0,
    ⟨(n - 1) / 2 + 1, xs, i64c (by omega), by omega, s, .refl _, fun k c a1 a2 a3 a4 => by omega, Fr.refl _ _⟩, ?_⟩
  rintro _ _ w1 ⟨i, ys, rfl, hi1, s1, mx, hh, f1⟩
  have hyl := mx.len
  refine BND_step (binv_geq _ _ _ _) ?_
  by_cases hi0 : 0 < i
  · refine COND_dec_true (by omega) ?_
    have ei : ((i : Int) - 1) = ((i - 1 : Nat) : Int) := by omega
    rw [ei]
    refine siftDown s1 (p := i - 1) (by omega) (by omega) (by omega) (fun k c a1 a2 a3 a4 => hh k c (by omega) (by omega) a3 a4) fun w2 zs s2 mz hz _ f2 => ?_
    refine BND_step (decI (by omega) (by omega)) ⟨⟨i - 1, zs, i64c (by omega), by omega, s2, mx.trans mz, hz, f1.trans' f2⟩, by simp <;> omega⟩
  refine COND_dec_false (by omega) <| BND_step (dec (by omega) (by omega)) ?_
  obtain rfl : i = 0 := by omega
  refine ⟨fun t w' => ∃ (k : Nat) (ys : List Int), t = .int .i64 ((k : Int) - 1) ∧ k ≤ n ∧ Slc enU 1 w' v ys [b] ∧ Mix lo (lo + n) xs ys ∧ Heap ys lo k 0 k ∧ (∀ p q, p ≤ q → k ≤ q → q < n → at0 ys (lo + p) ≤ at0 ys (lo + q)) ∧ Fr [b] w w', fun t _ => match t with | .int _ m => (m + 1).toNat | _ => 0,
    ⟨n, ys, i64c (by omega), by omega, s1, mx, hh, fun p q a1 a2 a3 => by omega, f1⟩, ?_⟩
  rintro _ _ w3 ⟨k, zs, rfl, hk, s3, mz, hz, so, f3⟩
  have hzl := mz.len
  refine BND_step (binv_geq _ _ _ _) ?_
  by_cases hk0 : 0 < k
  · refine COND_dec_true (by omega) ?_
    have ek : ((k : Int) - 1) = ((k - 1 : Nat) : Int) := by omega
    rw [ek]
    refine BND_step (addn (by omega)) <| BND_step (addn (by omega)) <| BND_step (ia s3 (by omega)) <| BND_step (ia s3 (by omega)) <| swap_tail s3 (p := lo) (q := lo + (k - 1)) (by omega) (by omega) fun w5 s5 f5 => ?_
    have e5 := at0_swp (xs := zs) (i := lo) (j := lo + (k - 1)) (by omega) (by omega)
    have htop := heap_top hz
    refine siftDown s5 (p := 0) (n := k - 1) (by rw [len_swp]; omega) (by rw [len_swp]; omega) (by omega) (fun g c a1 a2 a3 a4 => ?_) fun w6 us s6 mu hu _ f6 => ?_
    · rw [e5, e5, if_neg (by omega), if_neg (by omega), if_neg (by omega), if_neg (by omega)]
      exact hz g c (by omega) (by omega) a3 (by omega)
    · have hul := mu.len
      rw [len_swp] at hul
      have key : ∀ p, p < n → ∃ m, m < n ∧ at0 us (lo + p) = at0 zs (lo + m) ∧ (p < k - 1 → m < k) ∧ (p = k - 1 → m = 0) ∧ (k ≤ p → m = p) := by
        intro p hp
        by_cases h1 : p < k - 1
        · obtain ⟨m, m1, m2, em⟩ := mu.pick (by rw [len_swp]; omega) (lo + p) (by omega) (by omega)
          rw [e5] at em
          by_cases hm : m = lo
          · rw [if_neg (by omega), if_pos hm] at em
            exact ⟨k - 1, by omega, em, fun _ => by omega, by omega, by omega⟩
          · rw [if_neg (by omega), if_neg hm] at em
            exact ⟨m - lo, by omega, by rw [em]; congr 1; omega, fun _ => by omega, by omega, by omega⟩
        · have em := mu.out (by rw [len_swp]; omega) (lo + p) (.inr (by omega))
          rw [e5] at em
          by_cases h2 : p = k - 1
          · rw [if_pos (by omega)] at em
            exact ⟨0, by omega, em, by omega, fun _ => rfl, by omega⟩
          · rw [if_neg (by omega), if_neg (by omega)] at em
            exact ⟨p, hp, em, by omega, by omega, fun _ => rfl⟩
      refine BND_step (decI (by omega) (by omega)) ⟨⟨k - 1, us, rfl, by omega, s6, (Mix.swap lo (lo + (k - 1)) (by omega) (by omega) (by omega) (by omega) mz).trans (mu.wider (by omega) (by omega)), hu, fun p q a1 a2 a3 => ?_, f3.trans' (f5.trans' f6)⟩, by simp <;> omega⟩
      obtain ⟨m1, l1, e1, x1, x2, x3⟩ := key p (by omega)
      obtain ⟨m2, l2, e2, y1, y2, y3⟩ := key q a3
      rw [e1, e2]
      by_cases hq : q = k - 1
      · rw [y2 hq, Nat.add_zero]
        by_cases hp : p = k - 1
        · rw [x2 hp]; simp
        · exact htop m1 (x1 (by omega))
      · rw [y3 (by omega)]
        by_cases hp : p < k - 1
        · exact so m1 q (by have := x1 hp; omega) (by omega) a3
        · by_cases hp2 : p = k - 1
          · rw [x2 hp2]; exact so 0 q (by omega) (by omega) a3
          · rw [x3 (by omega)]; exact so p q a1 (by omega) a3
  · refine COND_dec_false (by omega) (hR w3 zs s3 mz (fun p q a1 a2 a3 => ?_) f3)
    have := so (p - lo) (q - lo) (by omega) (by omega) (by omega)
    rwa [show lo + (p - lo) = p by omega, show lo + (q - lo) = q by omega] at this
end
end Go.Proofs.YtofllgbdphakiaaGreatDoor.Sort64
end

section
namespace Go.Proofs.YtofllgbdphakiaaGreatDoor.Sort64
open Go.Den
section
variable {w : World} {v : Value} {xs : List Int} {b : Nat} {R : Value → World → Prop}
theorem upLess (s : Slc enU 1 w v xs [b]) {lo hi s0 : Nat} (hlo : lo < xs.length) (hs : s0 ≤ hi + 1) (hhi : hi < xs.length) (hn : xs.length < 1000000000) {K : Value → World → Prop}
    (hK : ∀ w4 (r : Nat), s0 ≤ r → r ≤ hi + 1 → (∀ k, s0 ≤ k → k < r → at0 xs k < at0 xs lo) → (r ≤ hi → ¬ (at0 xs r < at0 xs lo)) → Slc enU 1 w4 v xs [b] → Fr [] w w4 → K (.int .i64 (r : Int)) w4) :
    ∃ (J_9 : Value → World → Prop) (m_9 : Value → World → Nat), J_9 (.int .i64 (s0 : Int)) w ∧ ∀ (_d_9 : Env) (a_10 : Value) (w3 : World), J_9 a_10 w3 →
  (BND (binv .int .leq a_10 (.int .i64 (hi : Int))) fun t32_27 =>
  BND (grd (isB t32_27 true) (some v)) fun t34_28 =>
  BND (grd (isB t32_27 true) (some a_10)) fun t35_29 =>
  BND (grd (isB t32_27 true) (iaddr 1 t34_28 t35_29)) fun t36_30 =>
  BND (grd (isB t32_27 true) (some v)) fun t38_31 =>
  BND (grd (isB t32_27 true) (some (.int .i64 (lo : Int)))) fun t39_32 =>
  BND (grd (isB t32_27 true) (iaddr 1 t38_31 t39_32)) fun t40_33 =>
  BND (grd (isB t32_27 true) (load1 w3.drew t36_30)) fun t37_34 =>
  BND (grd (isB t32_27 true) (load1 w3.drew t40_33)) fun t41_35 =>
  GEF (isB t32_27 true) (fun k_ => CALL PR F_cmp_Less_uint64 [t37_34, t41_35] w3.drew k_) w3.drew fun t42_36 w4 =>
  BND (pickv t32_27 t42_36 (Value.bool false)) fun t43_37 =>
  COND t43_37
  (BND (binv .int .add a_10 (Value.int .i64 1)) fun t45_38 => (J_9 t45_38 w4 ∧ m_9 t45_38 w4 < m_9 a_10 w3))
  (K a_10 w4)) := by
  refine ⟨fun t w' => ∃ r : Nat, t = .int .i64 r ∧ s0 ≤ r ∧ r ≤ hi + 1 ∧ (∀ k, s0 ≤ k → k < r → at0 xs k < at0 xs lo) ∧ Slc enU 1 w' v xs [b] ∧ Fr [] w w', fun t _ => match t with | .int _ n => hi + 1 - n.toNat | _ => 0, ⟨s0, rfl, by omega, hs, fun k a1 a2 => by omega, s, Fr.refl _ _⟩, ?_⟩
  rintro _ _ w3 ⟨r, rfl, r1, r2, hall, s3, f3⟩
  have sd : Slc enU 1 w3.drew v xs [b] := s3.fr (Fr.drew [] w3) (by simp)
  have fd : Fr [] w w3.drew := f3.trans' (Fr.drew _ _)
  refine BND_step (binv_leq _ _ _ _) ?_
  by_cases hc : r ≤ hi
  · have e1 : decide ((r : Int) ≤ (hi : Int)) = true := by simp <;> omega
    rw [e1]
    simp only [isB_tt, grd_true, BND_some, GEF_true]
    refine BND_step (ia sd (by omega)) <| BND_step (ia sd hlo) <| BND_step (ld sd (by omega)) <| BND_step (ld sd hlo) <| less64 _ _ <| BND_step (pickv_true _ _) ?_
    by_cases hp : at0 xs r < at0 xs lo

    · refine COND_dec_true hp <| BND_step (inc (by omega)) ⟨⟨r + 1, rfl, by omega, by omega, fun k a1 a2 => ?_, sd, fd⟩, by simp <;> omega⟩
      by_cases hk : k = r
      · rw [hk]; exact hp
      · exact hall k a1 (by omega)
    · exact COND_dec_false hp (hK _ r r1 r2 hall (fun _ => hp) sd fd)
  · have e1 : decide ((r : Int) ≤ (hi : Int)) = false := by simp <;> omega
    rw [e1]
    simp only [isB_ft, grd_false, BND_some, GEF_false, pickv_false, COND_false]
    exact hK _ r r1 r2 hall (fun h => absurd h hc) sd fd
theorem dnNotLess (s : Slc enU 1 w v xs [b]) {lo lo0 s0 : Nat} (hlo : lo < xs.length) (hl0 : 0 < lo0) (hs : lo0 ≤ s0 + 1) (hs2 : s0 < xs.length) (hn : xs.length < 1000000000) {K : Value → World → Prop}
    (hK : ∀ w4 (r : Nat), r ≤ s0 → lo0 ≤ r + 1 → (∀ k, r < k → k ≤ s0 → ¬ at0 xs k < at0 xs lo) → (lo0 ≤ r → ¬ (¬ at0 xs r < at0 xs lo)) → Slc enU 1 w4 v xs [b] → Fr [] w w4 → K (.int .i64 (r : Int)) w4) :
    ∃ (J_9 : Value → World → Prop) (m_9 : Value → World → Nat), J_9 (.int .i64 (s0 : Int)) w ∧ ∀ (_d_9 : Env) (a_10 : Value) (w3 : World), J_9 a_10 w3 →
  (BND (binv .int .leq (.int .i64 (lo0 : Int)) a_10) fun t32_27 =>
  BND (grd (isB t32_27 true) (some v)) fun t34_28 =>
  BND (grd (isB t32_27 true) (some a_10)) fun t35_29 =>
  BND (grd (isB t32_27 true) (iaddr 1 t34_28 t35_29)) fun t36_30 =>
  BND (grd (isB t32_27 true) (some v)) fun t38_31 =>
  BND (grd (isB t32_27 true) (some (.int .i64 (lo : Int)))) fun t39_32 =>
  BND (grd (isB t32_27 true) (iaddr 1 t38_31 t39_32)) fun t40_33 =>
  BND (grd (isB t32_27 true) (load1 w3.drew t36_30)) fun t37_34 =>
  BND (grd (isB t32_27 true) (load1 w3.drew t40_33)) fun t41_35 =>
  GEF (isB t32_27 true) (fun k_ => CALL PR F_cmp_Less_uint64 [t37_34, t41_35] w3.drew k_) w3.drew fun t42_36 w4 =>
  BND (grd (isB t32_27 true) (unv .not t42_36)) fun t42_n =>
  BND (pickv t32_27 t42_n (Value.bool false)) fun t43_37 =>
  COND t43_37
  (BND (binv .int .sub a_10 (Value.int .i64 1)) fun t45_38 => (J_9 t45_38 w4 ∧ m_9 t45_38 w4 < m_9 a_10 w3))
  (K a_10 w4)) := by
  refine ⟨fun t w' => ∃ r : Nat, t = .int .i64 r ∧ r ≤ s0 ∧ lo0 ≤ r + 1 ∧ (∀ k, r < k → k ≤ s0 → ¬ at0 xs k < at0 xs lo) ∧ Slc enU 1 w' v xs [b] ∧ Fr [] w w', fun t _ => match t with | .int _ n => n.toNat | _ => 0, ⟨s0, rfl, by omega, hs, fun k a1 a2 => by omega, s, Fr.refl _ _⟩, ?_⟩
  rintro _ _ w3 ⟨r, rfl, r1, r2, hall, s3, f3⟩
  have sd : Slc enU 1 w3.drew v xs [b] := s3.fr (Fr.drew [] w3) (by simp)
  have fd : Fr [] w w3.drew := f3.trans' (Fr.drew _ _)
  refine BND_step (binv_leq _ _ _ _) ?_
  by_cases hc : lo0 ≤ r
  · have e1 : decide ((lo0 : Int) ≤ (r : Int)) = true := by simp <;> omega
    rw [e1]
    simp only [isB_tt, grd_true, BND_some, GEF_true]
    refine BND_step (ia sd (by omega)) <| BND_step (ia sd hlo) <| BND_step (ld sd (by omega)) <| BND_step (ld sd hlo) <| less64 _ _ <| BND_step (unv_not _) <| BND_step (pickv_true _ _) ?_
    by_cases hp : ¬ at0 xs r < at0 xs lo

    · rw [show (!decide (at0 xs r < at0 xs lo)) = true by simp <;> omega]
      refine (COND_true _ _).2 <| BND_step (dec (by omega) (by omega)) ⟨⟨r - 1, rfl, by omega, by omega, fun k a1 a2 => ?_, sd, fd⟩, by simp <;> omega⟩
      by_cases hk : k = r
      · rw [hk]; exact hp
      · exact hall k (by omega) a2
    · rw [show (!decide (at0 xs r < at0 xs lo)) = false by simp <;> omega]
      exact (COND_false _ _).2 (hK _ r r1 r2 hall (fun _ => hp) sd fd)
  · have e1 : decide ((lo0 : Int) ≤ (r : Int)) = false := by simp <;> omega
    rw [e1]
    simp only [isB_ft, grd_false, BND_some, GEF_false, pickv_false, COND_false]
    exact hK _ r r1 r2 hall (fun h => absurd h hc) sd fd
theorem upNotGr (s : Slc enU 1 w v xs [b]) {lo hi s0 : Nat} (hlo : lo < xs.length) (hs : s0 ≤ hi + 1) (hhi : hi < xs.length) (hn : xs.length < 1000000000) {K : Value → World → Prop}
    (hK : ∀ w4 (r : Nat), s0 ≤ r → r ≤ hi + 1 → (∀ k, s0 ≤ k → k < r → ¬ at0 xs lo < at0 xs k) → (r ≤ hi → ¬ (¬ at0 xs lo < at0 xs r)) → Slc enU 1 w4 v xs [b] → Fr [] w w4 → K (.int .i64 (r : Int)) w4) :
    ∃ (J_9 : Value → World → Prop) (m_9 : Value → World → Nat), J_9 (.int .i64 (s0 : Int)) w ∧ ∀ (_d_9 : Env) (a_10 : Value) (w3 : World), J_9 a_10 w3 →
  (BND (binv .int .leq a_10 (.int .i64 (hi : Int))) fun t32_27 =>
  BND (grd (isB t32_27 true) (some v)) fun t34_28 =>
  BND (grd (isB t32_27 true) (some (.int .i64 (lo : Int)))) fun t35_29 =>
  BND (grd (isB t32_27 true) (iaddr 1 t34_28 t35_29)) fun t36_30 =>
  BND (grd (isB t32_27 true) (some v)) fun t38_31 =>
  BND (grd (isB t32_27 true) (some a_10)) fun t39_32 =>
  BND (grd (isB t32_27 true) (iaddr 1 t38_31 t39_32)) fun t40_33 =>
  BND (grd (isB t32_27 true) (load1 w3.drew t36_30)) fun t37_34 =>
  BND (grd (isB t32_27 true) (load1 w3.drew t40_33)) fun t41_35 =>
  GEF (isB t32_27 true) (fun k_ => CALL PR F_cmp_Less_uint64 [t37_34, t41_35] w3.drew k_) w3.drew fun t42_36 w4 =>
  BND (grd (isB t32_27 true) (unv .not t42_36)) fun t42_n =>
  BND (pickv t32_27 t42_n (Value.bool false)) fun t43_37 =>
  COND t43_37
  (BND (binv .int .add a_10 (Value.int .i64 1)) fun t45_38 => (J_9 t45_38 w4 ∧ m_9 t45_38 w4 < m_9 a_10 w3))
  (K a_10 w4)) := by
  refine ⟨fun t w' => ∃ r : Nat, t = .int .i64 r ∧ s0 ≤ r ∧ r ≤ hi + 1 ∧ (∀ k, s0 ≤ k → k < r → ¬ at0 xs lo < at0 xs k) ∧ Slc enU 1 w' v xs [b] ∧ Fr [] w w', fun t _ => match t with | .int _ n => hi + 1 - n.toNat | _ => 0, ⟨s0, rfl, by omega, hs, fun k a1 a2 => by omega, s, Fr.refl _ _⟩, ?_⟩
  rintro _ _ w3 ⟨r, rfl, r1, r2, hall, s3, f3⟩
  have sd : Slc enU 1 w3.drew v xs [b] := s3.fr (Fr.drew [] w3) (by simp)
  have fd : Fr [] w w3.drew := f3.trans' (Fr.drew _ _)
  refine BND_step (binv_leq _ _ _ _) ?_
  by_cases hc : r ≤ hi
  · have e1 : decide ((r : Int) ≤ (hi : Int)) = true := by simp <;> omega
    rw [e1]
    simp only [isB_tt, grd_true, BND_some, GEF_true]
    refine BND_step (ia sd hlo) <| BND_step (ia sd (by omega)) <| BND_step (ld sd hlo) <| BND_step (ld sd (by omega)) <| less64 _ _ <| BND_step (unv_not _) <| BND_step (pickv_true _ _) ?_
    by_cases hp : ¬ at0 xs lo < at0 xs r

    · rw [show (!decide (at0 xs lo < at0 xs r)) = true by simp <;> omega]
      refine (COND_true _ _).2 <| BND_step (inc (by omega)) ⟨⟨r + 1, rfl, by omega, by omega, fun k a1 a2 => ?_, sd, fd⟩, by simp <;> omega⟩
      by_cases hk : k = r
      · rw [hk]; exact hp
      · exact hall k a1 (by omega)
    · rw [show (!decide (at0 xs lo < at0 xs r)) = false by simp <;> omega]
      exact (COND_false _ _).2 (hK _ r r1 r2 hall (fun _ => hp) sd fd)
  · have e1 : decide ((r : Int) ≤ (hi : Int)) = false := by simp <;> omega
    rw [e1]
    simp only [isB_ft, grd_false, BND_some, GEF_false, pickv_false, COND_false]
    exact hK _ r r1 r2 hall (fun h => absurd h hc) sd fd
theorem dnGr (s : Slc enU 1 w v xs [b]) {lo lo0 s0 : Nat} (hlo : lo < xs.length) (hl0 : 0 < lo0) (hs : lo0 ≤ s0 + 1) (hs2 : s0 < xs.length) (hn : xs.length < 1000000000) {K : Value → World → Prop}
    (hK : ∀ w4 (r : Nat), r ≤ s0 → lo0 ≤ r + 1 → (∀ k, r < k → k ≤ s0 → at0 xs lo < at0 xs k) → (lo0 ≤ r → ¬ (at0 xs lo < at0 xs r)) → Slc enU 1 w4 v xs [b] → Fr [] w w4 → K (.int .i64 (r : Int)) w4) :
    ∃ (J_9 : Value → World → Prop) (m_9 : Value → World → Nat), J_9 (.int .i64 (s0 : Int)) w ∧ ∀ (_d_9 : Env) (a_10 : Value) (w3 : World), J_9 a_10 w3 →
  (BND (binv .int .leq (.int .i64 (lo0 : Int)) a_10) fun t32_27 =>
  BND (grd (isB t32_27 true) (some v)) fun t34_28 =>
  BND (grd (isB t32_27 true) (some (.int .i64 (lo : Int)))) fun t35_29 =>
  BND (grd (isB t32_27 true) (iaddr 1 t34_28 t35_29)) fun t36_30 =>
  BND (grd (isB t32_27 true) (some v)) fun t38_31 =>
  BND (grd (isB t32_27 true) (some a_10)) fun t39_32 =>
  BND (grd (isB t32_27 true) (iaddr 1 t38_31 t39_32)) fun t40_33 =>
  BND (grd (isB t32_27 true) (load1 w3.drew t36_30)) fun t37_34 =>
  BND (grd (isB t32_27 true) (load1 w3.drew t40_33)) fun t41_35 =>
  GEF (isB t32_27 true) (fun k_ => CALL PR F_cmp_Less_uint64 [t37_34, t41_35] w3.drew k_) w3.drew fun t42_36 w4 =>
  BND (pickv t32_27 t42_36 (Value.bool false)) fun t43_37 =>
  COND t43_37
  (BND (binv .int .sub a_10 (Value.int .i64 1)) fun t45_38 => (J_9 t45_38 w4 ∧ m_9 t45_38 w4 < m_9 a_10 w3))
  (K a_10 w4)) := by
  refine ⟨fun t w' => ∃ r : Nat, t = .int .i64 r ∧ r ≤ s0 ∧ lo0 ≤ r + 1 ∧ (∀ k, r < k → k ≤ s0 → at0 xs lo < at0 xs k) ∧ Slc enU 1 w' v xs [b] ∧ Fr [] w w', fun t _ => match t with | .int _ n => n.toNat | _ => 0, ⟨s0, rfl, by omega, hs, fun k a1 a2 => by omega, s, Fr.refl _ _⟩, ?_⟩
  rintro _ _ w3 ⟨r, rfl, r1, r2, hall, s3, f3⟩
  have sd : Slc enU 1 w3.drew v xs [b] := s3.fr (Fr.drew [] w3) (by simp)
  have fd : Fr [] w w3.drew := f3.trans' (Fr.drew _ _)
  refine BND_step (binv_leq _ _ _ _) ?_
  by_cases hc : lo0 ≤ r
  · have e1 : decide ((lo0 : Int) ≤ (r : Int)) = true := by simp <;> omega
    rw [e1]
    simp only [isB_tt, grd_true, BND_some, GEF_true]
    refine BND_step (ia sd hlo) <| BND_step (ia sd (by omega)) <| BND_step (ld sd hlo) <| BND_step (ld sd (by omega)) <| less64 _ _ <| BND_step (pickv_true _ _) ?_
    by_cases hp : at0 xs lo < at0 xs r

    · refine COND_dec_true hp <| BND_step (dec (by omega) (by omega)) ⟨⟨r - 1, rfl, by omega, by omega, fun k a1 a2 => ?_, sd, fd⟩, by simp <;> omega⟩
      by_cases hk : k = r
      · rw [hk]; exact hp
      · exact hall k (by omega) a2
    · exact COND_dec_false hp (hK _ r r1 r2 hall (fun _ => hp) sd fd)
  · have e1 : decide ((lo0 : Int) ≤ (r : Int)) = false := by simp <;> omega
    rw [e1]
    simp only [isB_ft, grd_false, BND_some, GEF_false, pickv_false, COND_false]
    exact hK _ r r1 r2 hall (fun h => absurd h hc) sd fd

theorem partition (s : Slc enU 1 w v xs [b]) {lo hi p : Nat} (h1 : lo + 12 < hi) (h2 : hi ≤ xs.length) (hn : xs.length < 1000000000) (hp1 : lo ≤ p) (hp2 : p < hi)
    (hR : ∀ w' ys (m : Nat) (B : Bool), Slc enU 1 w' v ys [b] → Mix lo hi xs ys → lo ≤ m → m < hi → (∀ k, lo ≤ k → k < m → at0 ys k ≤ at0 ys m) → (∀ k, m < k → k < hi → at0 ys m ≤ at0 ys k) → Fr [b] w w' → R (.tuple #[.int .i64 (m : Int), .bool B]) w') :
    CALL PR F_slices_partitionOrdered_uint64 [v, .int .i64 (lo : Int), .int .i64 (hi : Int), .int .i64 (p : Int)] w R := by
  refine C_slices_partitionOrdered_uint64 ?_
  unfold M_slices_partitionOrdered_uint64
  refine BND_step (ia s (by omega)) <| BND_step (ia s (by omega)) <| swap_tail s (p := lo) (q := p) (by omega) (by omega) fun w2 s2 f2 => ?_
  have mx2 : Mix lo hi xs (swp xs lo p) := .swap lo p (by omega) (by omega) hp1 hp2 (.refl _)
  generalize swp xs lo p = ys at s2 mx2
  have hyl := mx2.len
  refine BND_step (inc (by omega)) <| BND_step (dec (by omega) (by omega)) ?_
  -- the end: both have met
  have fin : ∀ (w6 : World) (zs : List Int) (j : Nat) (B : Bool), Slc enU 1 w6 v zs [b] → Mix lo hi xs zs → Fr [b] w w6 → lo ≤ j → j < hi → (∀ k, lo < k → k ≤ j → at0 zs k < at0 zs lo) → (∀ k, j < k → k < hi → ¬ at0 zs k < at0 zs lo) →
      BND (iaddr 1 v (.int .i64 (lo : Int))) fun t72_72 => BND (iaddr 1 v (.int .i64 (j : Int))) fun t76_73 => BND (load1 w6.drew t72_72) fun t73_74 => BND (load1 w6.drew t76_73) fun t77_75 => BND (iaddr 1 v (.int .i64 (j : Int))) fun t78_76 =>
      BND (storev 1 w6.drew t78_76 t73_74) fun w7 => BND (iaddr 1 v (.int .i64 (lo : Int))) fun t79_77 => BND (storev 1 w7 t79_77 t77_75) fun w8 => R (.tuple #[.int .i64 (j : Int), (Value.bool B)]) w8 := by
    intro w6 zs j B s6 mz f6 hj1 hj2 hl hr
    have hzl := mz.len
    refine BND_step (ia s6 (by omega)) <| BND_step (ia s6 (by omega)) <| swap_tail s6 (p := j) (q := lo) (by omega) (by omega) fun w8 s8 f8 => ?_
    have e := at0_swp (xs := zs) (i := j) (j := lo) (by omega) (by omega)
    have ej : at0 (swp zs j lo) j = at0 zs lo := by
      rw [e]
      by_cases h : j = lo
      · rw [if_pos h, h]
      · rw [if_neg h, if_pos rfl]
    refine hR w8 _ j B s8 (.swap j lo (by omega) hj2 (by omega) (by omega) mz) hj1 hj2 (fun k a1 a2 => ?_) (fun k a1 a2 => ?_) (f6.trans' f8)
    · rw [ej, e]
      by_cases hk : k = lo
      · rw [if_pos hk]; have := hl j (by omega) (by omega); omega
      · rw [if_neg hk, if_neg (by omega)]; have := hl k (by omega) (by omega); omega
    · rw [ej, e, if_neg (by omega), if_neg (by omega)]
      have := hr k a1 a2; omega
  refine upLess s2 (lo := lo) (hi := hi - 1) (s0 := lo + 1) (by omega) (by omega) (by omega) (by omega) fun w4 i i1 i2 hA hA2 s4 f4 => ?_
  refine dnNotLess s4 (lo := lo) (lo0 := i) (s0 := hi - 1) (by omega) (by omega) (by omega) (by omega) (by omega) fun w6 j j1 j2 hB hB2 s6 f6 => ?_
  have f06 : Fr [b] w w6 := f2.trans' (f4.trans' f6).nil
  refine BND_step (binv_gtr _ _ _ _) ?_
  by_cases hij : j < i
  · exact COND_dec_true (by omega) (fin w6 ys j true s6 mx2 f06 (by omega) (by omega) (fun k a1 a2 => hA k (by omega) (by omega)) (fun k a1 a2 => hB k a1 (by omega)))
  refine COND_dec_false (by omega) ?_
  have hne : i ≠ j := fun e => by
    subst e
    have x1 := hA2 (by omega)
    have x2 := hB2 (by omega)
    exact x2 x1
  refine BND_step (ia s6 (by omega)) <| BND_step (ia s6 (by omega)) <| swap_tail s6 (p := i) (q := j) (by omega) (by omega) fun w10 s10 f10 => ?_
  have e10 := at0_swp (xs := ys) (i := i) (j := j) (by omega) (by omega)
  have elo : at0 (swp ys i j) lo = at0 ys lo := by rw [e10, if_neg (by omega), if_neg (by omega)]
  refine BND_step (inc (by omega)) <| BND_step (dec (by omega) (by omega)) ?_
  refine ⟨fun ti tj w' => ∃ (i j : Nat) (zs : List Int), ti = .int .i64 i ∧ tj = .int .i64 j ∧ lo < i ∧ i ≤ j + 1 ∧ lo ≤ j ∧ j < hi ∧ Slc enU 1 w' v zs [b] ∧ Mix lo hi xs zs ∧ (∀ k, lo < k → k < i → at0 zs k < at0 zs lo) ∧ (∀ k, j < k → k < hi → ¬ at0 zs k < at0 zs lo) ∧ Fr [b] w w',
    fun ti tj _ => match ti, tj with | .int _ n, .int _ m => (m + 1 - n).toNat | _, _ => 0,
    ⟨i + 1, j - 1, _, rfl, rfl, by omega, by omega, by omega, by omega, s10, .swap i j (by omega) (by omega) (by omega) (by omega) mx2, fun k a1 a2 => ?_, fun k a1 a2 => ?_, f06.trans' f10⟩, ?_⟩
  · rw [elo, e10]
    by_cases hk : k = i
    · rw [if_neg (by omega), if_pos hk]; have := hB2 (by omega); omega
    · rw [if_neg (by omega), if_neg hk]; exact hA k (by omega) (by omega)
  · rw [elo, e10]
    by_cases hk : k = j
    · rw [if_pos hk]; exact hA2 (by omega)
    · rw [if_neg hk, if_neg (by omega)]; exact hB k (by omega) (by omega)
  rintro _ _ _ w11 ⟨i, j, zs, rfl, rfl, a1, a2, a3, a4, s11, mz, hl, hr, f11⟩
  have hzl := mz.len
  refine upLess s11 (lo := lo) (hi := j) (s0 := i) (by omega) (by omega) (by omega) (by omega) fun w13 i' i1' i2' hA' hA2' s13 f13 => ?_
  refine dnNotLess s13 (lo := lo) (lo0 := i') (s0 := j) (by omega) (by omega) (by omega) (by omega) (by omega) fun w15 j' j1' j2' hB' hB2' s15 f15 => ?_
  have f015 : Fr [b] w w15 := f11.trans' (f13.trans' f15).nil
  have hl' : ∀ k, lo < k → k < i' → at0 zs k < at0 zs lo := fun k x1 x2 => by
    by_cases hk : k < i
    · exact hl k x1 hk
    · exact hA' k (by omega) x2
  have hr' : ∀ k, j' < k → k < hi → ¬ at0 zs k < at0 zs lo := fun k x1 x2 => by
    by_cases hk : j < k
    · exact hr k hk x2
    · exact hB' k x1 (by omega)
  refine BND_step (binv_gtr _ _ _ _) ?_
  by_cases hij' : j' < i'
  · exact COND_dec_true (by omega) (fin w15 zs j' false s15 mz f015 (by omega) (by omega) (fun k x1 x2 => hl' k x1 (by omega)) hr')
  refine COND_dec_false (by omega) ?_
  have hne' : i' ≠ j' := fun e => by
    subst e
    exact hB2' (by omega) (hA2' (by omega))
  refine BND_step (ia s15 (by omega)) <| BND_step (ia s15 (by omega)) <| swap_tail s15 (p := i') (q := j') (by omega) (by omega) fun w19 s19 f19 => ?_
  have e19 := at0_swp (xs := zs) (i := i') (j := j') (by omega) (by omega)
  have elo' : at0 (swp zs i' j') lo = at0 zs lo := by rw [e19, if_neg (by omega), if_neg (by omega)]
  refine BND_step (inc (by omega)) <| BND_step (dec (by omega) (by omega)) ⟨⟨i' + 1, j' - 1, _, rfl, rfl, by omega, by omega, by omega, by omega, s19, .swap i' j' (by omega) (by omega) (by omega) (by omega) mz, fun k x1 x2 => ?_, fun k x1 x2 => ?_, f015.trans' f19⟩, ?_⟩
  · rw [elo', e19]
    by_cases hk : k = i'
    · rw [if_neg (by omega), if_pos hk]; have := hB2' (by omega); omega
    · rw [if_neg (by omega), if_neg hk]; exact hl' k (by omega) (by omega)
  · rw [elo', e19]
    by_cases hk : k = j'
    · rw [if_pos hk]; exact hA2' (by omega)
    · rw [if_neg hk, if_neg (by omega)]; exact hr' k (by omega) (by omega)
  · show (((j' - 1 : Nat) : Int) + 1 - ((i' + 1 : Nat) : Int)).toNat < ((j : Int) + 1 - (i : Int)).toNat
    omega

/-- all of [lo, hi) are no less than the pivot: those that are it come first. -/
theorem partitionEqual (s : Slc enU 1 w v xs [b]) {lo hi p : Nat} (h1 : lo + 12 < hi) (h2 : hi ≤ xs.length) (hn : xs.length < 1000000000) (hp1 : lo ≤ p) (hp2 : p < hi)
    (hR : ∀ w' ys (m : Nat), Slc enU 1 w' v ys [b] → Mix lo hi xs ys → lo < m → m ≤ hi → (∀ k, lo ≤ k → k < m → at0 ys k ≤ at0 xs p) → (∀ k, m ≤ k → k < hi → at0 xs p < at0 ys k) → Fr [b] w w' → R (.int .i64 (m : Int)) w') :
    CALL PR F_slices_partitionEqualOrdered_uint64 [v, .int .i64 (lo : Int), .int .i64 (hi : Int), .int .i64 (p : Int)] w R := by
  refine C_slices_partitionEqualOrdered_uint64 ?_
  unfold M_slices_partitionEqualOrdered_uint64
  refine BND_step (ia s (by omega)) <| BND_step (ia s (by omega)) <| swap_tail s (p := lo) (q := p) (by omega) (by omega) fun w2 s2 f2 => ?_
  have mx2 : Mix lo hi xs (swp xs lo p) := .swap lo p (by omega) (by omega) hp1 hp2 (.refl _)
  have e2 : at0 (swp xs lo p) lo = at0 xs p := by
    rw [at0_swp (by omega) (by omega)]
    by_cases h : lo = p
    · rw [if_pos h, h]
    · rw [if_neg h, if_pos rfl]
  generalize swp xs lo p = ys at s2 mx2 e2
  refine BND_step (inc (by omega)) <| BND_step (dec (by omega) (by omega)) ?_
  refine ⟨fun ti tj w' => ∃ (i j : Nat) (zs : List Int), ti = .int .i64 i ∧ tj = .int .i64 j ∧ lo < i ∧ i ≤ j + 1 ∧ lo ≤ j ∧ j < hi ∧ Slc enU 1 w' v zs [b] ∧ Mix lo hi xs zs ∧ at0 zs lo = at0 xs p ∧ (∀ k, lo < k → k < i → ¬ at0 zs lo < at0 zs k) ∧ (∀ k, j < k → k < hi → at0 zs lo < at0 zs k) ∧ Fr [b] w w',
    fun ti tj _ => match ti, tj with | .int _ n, .int _ m => (m + 1 - n).toNat | _, _ => 0,
    ⟨lo + 1, hi - 1, ys, rfl, rfl, by omega, by omega, by omega, by omega, s2, mx2, e2, fun k a1 a2 => by omega, fun k a1 a2 => by omega, f2⟩, ?_⟩
  rintro _ _ _ w11 ⟨i, j, zs, rfl, rfl, a1, a2, a3, a4, s11, mz, ep, hl, hr, f11⟩
  have hzl := mz.len
  refine upNotGr s11 (lo := lo) (hi := j) (s0 := i) (by omega) (by omega) (by omega) (by omega) fun w13 i' i1' i2' hA' hA2' s13 f13 => ?_
  refine dnGr s13 (lo := lo) (lo0 := i') (s0 := j) (by omega) (by omega) (by omega) (by omega) (by omega) fun w15 j' j1' j2' hB' hB2' s15 f15 => ?_
  have f015 : Fr [b] w w15 := f11.trans' (f13.trans' f15).nil
  have hl' : ∀ k, lo < k → k < i' → ¬ at0 zs lo < at0 zs k := fun k x1 x2 => by
    by_cases hk : k < i
    · exact hl k x1 hk
    · exact hA' k (by omega) x2
  have hr' : ∀ k, j' < k → k < hi → at0 zs lo < at0 zs k := fun k x1 x2 => by
    by_cases hk : j < k
    · exact hr k hk x2
    · exact hB' k x1 (by omega)
  refine BND_step (binv_gtr _ _ _ _) ?_
  by_cases hij' : j' < i'
  · refine COND_dec_true (by omega) (hR w15 zs i' s15 mz (by omega) (by omega) (fun k x1 x2 => ?_) (fun k x1 x2 => ?_) f015)
    · rw [← ep]
      by_cases hk : k = lo
      · rw [hk]; omega
      · have := hl' k (by omega) x2; omega
    · rw [← ep]; exact hr' k (by omega) x2
  refine COND_dec_false (by omega) ?_
  have hne' : i' ≠ j' := fun e => by
    subst e
    have x1 := hA2' (by omega)
    have x2 := hB2' (by omega)
    omega
  refine BND_step (ia s15 (by omega)) <| BND_step (ia s15 (by omega)) <| swap_tail s15 (p := i') (q := j') (by omega) (by omega) fun w19 s19 f19 => ?_
  have e19 := at0_swp (xs := zs) (i := i') (j := j') (by omega) (by omega)
  have elo' : at0 (swp zs i' j') lo = at0 zs lo := by rw [e19, if_neg (by omega), if_neg (by omega)]
  refine BND_step (inc (by omega)) <| BND_step (dec (by omega) (by omega)) ⟨⟨i' + 1, j' - 1, _, rfl, rfl, by omega, by omega, by omega, by omega, s19, .swap i' j' (by omega) (by omega) (by omega) (by omega) mz, by rw [elo', ep], fun k x1 x2 => ?_, fun k x1 x2 => ?_, f015.trans' f19⟩, ?_⟩
  · rw [elo', e19]
    by_cases hk : k = i'
    · rw [if_neg (by omega), if_pos hk]; have := hB2' (by omega); omega
    · rw [if_neg (by omega), if_neg hk]; exact hl' k (by omega) (by omega)
  · rw [elo', e19]
    by_cases hk : k = j'
    · rw [if_pos hk]; have := hA2' (by omega); omega
    · rw [if_neg hk, if_neg (by omega)]; exact hr' k (by omega) (by omega)
  · show (((j' - 1 : Nat) : Int) + 1 - ((i' + 1 : Nat) : Int)).toNat < ((j : Int) + 1 - (i : Int)).toNat
    omega
end
end Go.Proofs.YtofllgbdphakiaaGreatDoor.Sort64
end

section
namespace Go.Proofs.YtofllgbdphakiaaGreatDoor.Sort64
open Go.Den
section
variable {w : World} {v : Value} {xs : List Int} {b : Nat} {R : Value → World → Prop}
/-- what stands ahead of lo is no more than all of [lo, hi). -/
def Above (xs : List Int) (lo hi : Nat) : Prop := 0 < lo → ∀ k, lo ≤ k → k < hi → at0 xs (lo - 1) ≤ at0 xs k
theorem Above.mix {ys : List Int} {lo hi : Nat} (h : Above xs lo hi) (hm : Mix lo hi xs ys) (h2 : hi ≤ xs.length) : Above ys lo hi := fun h0 k h1 h3 => by
  rw [hm.out h2 (lo - 1) (.inl (by omega))]
  exact hm.all h2 (p := fun x => at0 xs (lo - 1) ≤ x) (fun m m1 m2 => h h0 m m1 m2) k h1 h3

theorem partialInsertion (s : Slc enU 1 w v xs [b]) {lo hi : Nat} (h1 : lo + 12 < hi) (h2 : hi ≤ xs.length) (hn : xs.length < 1000000000) (hab : Above xs lo hi)
    (hR : ∀ w' ys (B : Bool), Slc enU 1 w' v ys [b] → Mix lo hi xs ys → (B = true → Sorted ys lo hi) → Fr [b] w w' → R (.bool B) w') :
    CALL PR F_slices_partialInsertionSortOrdered_uint64 [v, .int .i64 (lo : Int), .int .i64 (hi : Int)] w R := by
  refine C_slices_partialInsertionSortOrdered_uint64 ?_
  unfold M_slices_partialInsertionSortOrdered_uint64
  refine BND_step (inc (by omega)) ?_
  refine ⟨fun ti tc w' => ∃ (i c : Nat) (ys : List Int), ti = .int .i64 i ∧ tc = .int .i64 c ∧ lo < i ∧ i ≤ hi ∧ c ≤ 5 ∧ Slc enU 1 w' v ys [b] ∧ Mix lo hi xs ys ∧ Sorted ys lo i ∧ Fr [b] w w', fun _ tc _ => match tc with | .int _ n => 5 - n.toNat | _ => 0,
    ⟨lo + 1, 0, xs, rfl, rfl, by omega, by omega, by omega, s, .refl _, fun p q a1 a2 a3 => by
      have : p = q := by omega
      subst this; omega, Fr.refl _ _⟩, ?_⟩
  rintro _ _ _ w1 ⟨i, c, ys, rfl, rfl, hi1, hi2, hc5, s1, mx, so, f1⟩
  have hyl := mx.len
  refine BND_step (binv_lss _ _ _ _) ?_
  by_cases hc : c < 5
  · refine COND_dec_true (by omega) ?_
    refine ⟨fun ti w' => ∃ (i : Nat), ti = .int .i64 i ∧ lo < i ∧ i ≤ hi ∧ Slc enU 1 w' v ys [b] ∧ Sorted ys lo i ∧ Fr [b] w w', fun ti _ => match ti with | .int _ n => hi - n.toNat | _ => 0, ⟨i, rfl, hi1, hi2, s1, so, f1⟩, ?_⟩
    rintro _ _ w2 ⟨i, rfl, hi1, hi2, s2, so, f2⟩
    have sd : Slc enU 1 w2.drew v ys [b] := s2.fr (Fr.drew [] w2) (by simp)
    have fd : Fr [b] w w2.drew := f2.trans' (Fr.drew _ _)
    -- behind the run that rises
    have pre : ∀ K : Value → World → Prop, (∀ (B : Bool) w3, (B = true → i < hi ∧ at0 ys (i - 1) ≤ at0 ys i) → (B = false → i < hi → at0 ys i < at0 ys (i - 1)) → Slc enU 1 w3 v ys [b] → Fr [b] w w3 → K (.bool B) w3) →
        BND (binv .int .lss (.int .i64 (i : Int)) (.int .i64 (hi : Int))) fun t19_149 =>
        BND (grd (isB t19_149 true) (some v)) fun t21_150 =>
        BND (grd (isB t19_149 true) (some (.int .i64 (i : Int)))) fun t22_151 =>
        BND (grd (isB t19_149 true) (iaddr 1 t21_150 t22_151)) fun t23_152 =>
        BND (grd (isB t19_149 true) (some v)) fun t25_153 =>
        BND (grd (isB t19_149 true) (some (.int .i64 (i : Int)))) fun t26_154 =>
        BND (grd (isB t19_149 true) (binv .int .sub t26_154 (Value.int .i64 1))) fun t27_155 =>
        BND (grd (isB t19_149 true) (iaddr 1 t25_153 t27_155)) fun t28_156 =>
        BND (grd (isB t19_149 true) (load1 w2.drew t23_152)) fun t24_157 =>
        BND (grd (isB t19_149 true) (load1 w2.drew t28_156)) fun t29_158 =>
        GEF (isB t19_149 true) (fun k_ => CALL PR F_cmp_Less_uint64 [t24_157, t29_158] w2.drew k_) w2.drew fun t30_159 w3 =>
        BND (grd (isB t19_149 true) (unv .not t30_159)) fun t31_160 =>
        BND (pickv t19_149 t31_160 (Value.bool false)) fun t32_161 => K t32_161 w3 := by
      intro K hK
      refine BND_step (binv_lss _ _ _ _) ?_
      by_cases hlt : i < hi
      · have e1 : decide ((i : Int) < (hi : Int)) = true := by simp <;> omega
        rw [e1]
        simp only [isB_tt, grd_true, BND_some, GEF_true]
        refine BND_step (ia sd (by omega)) <| BND_step (dec (by omega) (by omega)) <| BND_step (ia sd (by omega)) <| BND_step (ld sd (by omega)) <| BND_step (ld sd (by omega)) <| less64 _ _ <| BND_step (unv_not _) <| BND_step (pickv_true _ _) ?_
        refine hK _ _ (fun hB => ⟨hlt, ?_⟩) (fun hB _ => ?_) sd fd
        · simp at hB; omega
        · simp at hB; omega
      · have e1 : decide ((i : Int) < (hi : Int)) = false := by simp <;> omega
        rw [e1]
        simp only [isB_ft, grd_false, BND_some, GEF_false, pickv_false]
        exact hK false _ (fun hB => by cases hB) (fun _ h => absurd h hlt) sd fd
    refine pre _ fun B w3 hB1 hB0 s3 f3 => ?_
    clear pre
    cases B with
    | true =>
      obtain ⟨hlt, hle⟩ := hB1 rfl
      refine (COND_true _ _).2 <| BND_step (inc (by omega)) ⟨⟨i + 1, rfl, by omega, by omega, s3, fun p q a1 a2 a3 => ?_, f3⟩, by simp <;> omega⟩
      by_cases hq : q = i
      · subst hq
        by_cases hp : p = q
        · subst hp; omega
        · have := so p (q - 1) a1 (by omega) (by omega); omega
      · exact so p q a1 a2 (by omega)
    | false =>
    refine (COND_false _ _).2 <| BND_step (binv_eql _ _ _ _) ?_
    by_cases he : i = hi
    · subst he
      exact COND_dec_true rfl (hR w3 ys true s3 mx (fun _ => so) f3)
    refine COND_dec_false (by omega) <| BND_step (subn (by omega) (by omega)) <| BND_step (binv_lss _ _ _ _) ?_
    have hlt : i < hi := by omega
    have hdes := hB0 rfl hlt
    by_cases h50 : (((hi - lo : Nat) : Int)) < 50
    · exact COND_dec_true h50 (hR w3 ys false s3 mx (fun h => by cases h) f3)
    refine COND_dec_false h50 <| BND_step (dec (by omega) (by omega)) <| BND_step (dec (by omega) (by omega)) <| BND_step (ia s3 (by omega)) <| BND_step (ia s3 (by omega)) <| swap_tail s3 (p := i) (q := i - 1) (by omega) (by omega) fun w5 s5 f5 => ?_
    have e5 := at0_swp (xs := ys) (i := i) (j := i - 1) (by omega) (by omega)
    have m5 : Mix lo hi xs (swp ys i (i - 1)) := .swap i (i - 1) (by omega) (by omega) (by omega) (by omega) mx
    have hhole : ∀ p q, lo ≤ p → p ≤ q → q ≤ i - 1 → q ≠ i - 1 → p ≠ i - 1 → at0 (swp ys i (i - 1)) p ≤ at0 (swp ys i (i - 1)) q := fun p q a1 a2 a3 a4 a5 => by
      rw [e5, e5, if_neg (by omega), if_neg (by omega), if_neg (by omega), if_neg (by omega)]
      exact so p q a1 a2 (by omega)
    generalize swp ys i (i - 1) = zs at s5 m5 hhole
    have f5' := f3.trans' f5
    refine BND_step (subn (by omega) (by omega)) <| BND_step (binv_geq _ _ _ _) <| JOIN_elim fun K hK => ?_
    -- behind the one that is put to the left
    have go : ∀ w6 us, Slc enU 1 w6 v us [b] → Mix lo hi xs us → Sorted us lo i → Fr [b] w w6 → K w6 := by
      intro w6 us s6 m6 so6 f6
      have hul := m6.len
      subst hK
      refine BND_step (subn (by omega) (by omega)) <| BND_step (binv_geq _ _ _ _) <| JOIN_elim fun K2 hK2 => ?_
      have go2 : ∀ w7 us, Slc enU 1 w7 v us [b] → Mix lo hi xs us → Sorted us lo i → Fr [b] w w7 → K2 w7 := by
        intro w7 us s7 m7 so7 f7
        subst hK2
        exact BND_step (inc (by omega)) ⟨⟨i, c + 1, us, rfl, rfl, hi1, hi2, by omega, s7, m7, so7, f7⟩, by simp <;> omega⟩
      clear hK2
      by_cases hg : (2 : Int) ≤ ((hi - i : Nat) : Int)
      · refine COND_dec_true hg <| BND_step (inc (by omega)) ?_
        refine ⟨fun tj w' => ∃ (j : Nat) (us : List Int), tj = .int .i64 j ∧ i < j ∧ j ≤ hi ∧ Slc enU 1 w' v us [b] ∧ Mix lo hi xs us ∧ Sorted us lo i ∧ Fr [b] w w', fun tj _ => match tj with | .int _ n => hi - n.toNat | _ => 0, ⟨i + 1, us, rfl, by omega, by omega, s6, m6, so6, f6⟩, ?_⟩
        rintro _ _ w8 ⟨j, us, rfl, j1, j2, s8, m8, so8, f8⟩
        have hul := m8.len
        have s8d : Slc enU 1 w8.drew v us [b] := s8.fr (Fr.drew [] w8) (by simp)
        have f8d : Fr [b] w w8.drew := f8.trans' (Fr.drew _ _)
        refine BND_step (binv_lss _ _ _ _) ?_
        by_cases hjh : j < hi
        · refine COND_dec_true (by omega) <| BND_step (ia s8 (by omega)) <| BND_step (dec (by omega) (by omega)) <| BND_step (ia s8 (by omega)) <| BND_step (ld s8d (by omega)) <| BND_step (ld s8d (by omega)) <| less64 _ _ <| BND_step (unv_not _) ?_
          by_cases hl : at0 us j < at0 us (j - 1)
          · rw [show (!decide (at0 us j < at0 us (j - 1))) = false by simp [hl]]
            refine (COND_false _ _).2 <| BND_step (dec (by omega) (by omega)) <| BND_step (dec (by omega) (by omega)) <| BND_step (ia s8d (by omega)) <| BND_step (ia s8d (by omega)) <| swap_tail s8d (p := j) (q := j - 1) (by omega) (by omega) fun w11 s11 f11 => ?_
            refine BND_step (inc (by omega)) ⟨⟨j + 1, _, rfl, by omega, by omega, s11, .swap j (j - 1) (by omega) (by omega) (by omega) (by omega) m8, fun p q a1 a2 a3 => ?_, f8d.trans' f11⟩, by simp <;> omega⟩
            have e11 := at0_swp (xs := us) (i := j) (j := j - 1) (by omega) (by omega)
            rw [e11, e11, if_neg (by omega), if_neg (by omega), if_neg (by omega), if_neg (by omega)]
            exact so8 p q a1 a2 a3
          · rw [show (!decide (at0 us j < at0 us (j - 1))) = true by simp <;> omega]
            exact (COND_true _ _).2 (go2 _ us s8d m8 so8 f8d)
        · exact COND_dec_false (by omega) (go2 w8 us s8 m8 so8 f8)
      · exact COND_dec_false hg (go2 w6 us s6 m6 so6 f6)
    clear hK
    by_cases hg : (2 : Int) ≤ ((i - lo : Nat) : Int)
    · refine COND_dec_true hg <| BND_step (dec (by omega) (by omega)) ?_
      refine ⟨fun tj w' => ∃ (j : Nat) (us : List Int), tj = .int .i64 j ∧ lo ≤ j ∧ j ≤ i - 1 ∧ Slc enU 1 w' v us [b] ∧ Mix lo hi xs us ∧ (∀ p q, lo ≤ p → p ≤ q → q ≤ i - 1 → q ≠ j → p ≠ j → at0 us p ≤ at0 us q) ∧ (∀ q, j < q → q ≤ i - 1 → at0 us j ≤ at0 us q) ∧ Fr [b] w w',
        fun tj _ => match tj with | .int _ n => n.toNat | _ => 0, ⟨i - 1, zs, rfl, by omega, by omega, s5, m5, hhole, fun q a1 a2 => by omega, f5'⟩, ?_⟩
      rintro _ _ w12 ⟨j, us, rfl, j1, j2, s12, m12, hs, hr, f12⟩
      have hul := m12.len
      have s12d : Slc enU 1 w12.drew v us [b] := s12.fr (Fr.drew [] w12) (by simp)
      have f12d : Fr [b] w w12.drew := f12.trans' (Fr.drew _ _)
      have stop : (lo < j → at0 us (j - 1) ≤ at0 us j) → Sorted us lo i := fun hle p q a1 a2 a3 => by
        by_cases hq : q = j
        · subst hq
          by_cases hp : p = q
          · subst hp; omega
          · by_cases hp1 : p = q - 1
            · subst hp1; exact hle (by omega)
            · have x1 := hs p (q - 1) a1 (by omega) (by omega) (by omega) hp
              have x2 := hle (by omega)
              omega
        · by_cases hp : p = j
          · subst hp; exact hr q (by omega) (by omega)
          · exact hs p q a1 a2 (by omega) hq hp
      refine BND_step (binv_geq _ _ _ _) ?_
      by_cases hj1 : 1 ≤ j
      · refine COND_dec_true (by omega) <| BND_step (ia s12 (by omega)) <| BND_step (dec (by omega) (by omega)) <| BND_step (ia s12 (by omega)) <| BND_step (ld s12d (by omega)) <| BND_step (ld s12d (by omega)) <| less64 _ _ <| BND_step (unv_not _) ?_
        by_cases hl : at0 us j < at0 us (j - 1)
        · rw [show (!decide (at0 us j < at0 us (j - 1))) = false by simp [hl]]
          have hlj : lo < j := by
            rcases Nat.lt_or_ge lo j with h | h
            · exact h
            · have hjl : j = lo := by omega
              subst hjl
              have := (hab.mix m12 h2) (by omega) j (by omega) (by omega)
              omega
          refine (COND_false _ _).2 <| BND_step (dec (by omega) (by omega)) <| BND_step (dec (by omega) (by omega)) <| BND_step (ia s12d (by omega)) <| BND_step (ia s12d (by omega)) <| swap_tail s12d (p := j) (q := j - 1) (by omega) (by omega) fun w15 s15 f15 => ?_
          obtain ⟨n1, n2⟩ := swp_sorted (i := i - 1) (by omega) hlj j2 hs hr hl
          exact BND_step (dec (by omega) (by omega)) ⟨⟨j - 1, _, rfl, by omega, by omega, s15, .swap j (j - 1) (by omega) (by omega) (by omega) (by omega) m12, n1, n2, f12d.trans' f15⟩, by simp <;> omega⟩
        · rw [show (!decide (at0 us j < at0 us (j - 1))) = true by simp <;> omega]
          exact (COND_true _ _).2 (go _ us s12d m12 (stop fun _ => by omega) f12d)
      · exact COND_dec_false (by omega) (go w12 us s12 m12 (stop fun h => by omega) f12)
    · exact COND_dec_false hg (go w5 zs s5 m5 (fun p q a1 a2 a3 => by
        have : p = q := by omega
        subst this; omega) f5')
  · exact COND_dec_false (by omega) (hR w1 ys false s1 mx (fun h => by cases h) f1)

/-! ## pdqsort -/
/-- of A..B all is in order but within [lo, hi). -/
def But (xs : List Int) (A B lo hi : Nat) : Prop := ∀ i j, A ≤ i → i ≤ j → j < B → (i < lo ∨ hi ≤ j) → at0 xs i ≤ at0 xs j
theorem But.mix {ys : List Int} {A B lo hi : Nat} (h : But xs A B lo hi) (hm : Mix lo hi xs ys) (h2 : hi ≤ xs.length) (hA : A ≤ lo) (hB : hi ≤ B) : But ys A B lo hi := by
  intro i j h1 h3 h4 h5
  have old : ∀ k, (k < lo ∨ hi ≤ k) → at0 ys k = at0 xs k := fun k hk => hm.out h2 k hk
  have new : ∀ k, lo ≤ k → k < hi → ∃ m, lo ≤ m ∧ m < hi ∧ at0 ys k = at0 xs m := fun k => hm.pick h2 k
  by_cases hi' : i < lo
  · rw [old i (.inl hi')]
    by_cases hj : lo ≤ j ∧ j < hi
    · obtain ⟨m, m1, m2, e⟩ := new j hj.1 hj.2
      rw [e]; exact h i m h1 (by omega) (by omega) (.inl hi')
    · rw [old j (by omega)]; exact h i j h1 h3 h4 (.inl hi')
  · have hj : hi ≤ j := by omega
    rw [old j (.inr hj)]
    by_cases hin : i < hi
    · obtain ⟨m, m1, m2, e⟩ := new i (by omega) hin
      rw [e]; exact h m j (by omega) (by omega) h4 (.inr hj)
    · rw [old i (.inr (by omega))]; exact h i j h1 h3 h4 (.inr hj)
theorem But.done {A B lo hi : Nat} (h : But xs A B lo hi) (hs : Sorted xs lo hi) : Sorted xs A B := fun i j h1 h2 h3 => by
  by_cases hc : i < lo ∨ hi ≤ j
  · exact h i j h1 h2 h3 hc
  · exact hs i j (by omega) h2 (by omega)
/-- the left of a pivot is in order: the rest is the right. -/
theorem But.left {A B lo hi m : Nat} (h : But xs A B lo hi) (hm1 : lo ≤ m) (hm2 : m < hi) (hs : Sorted xs lo m) (hl : ∀ k, lo ≤ k → k < m → at0 xs k ≤ at0 xs m) (hr : ∀ k, m < k → k < hi → at0 xs m ≤ at0 xs k) : But xs A B (m + 1) hi := by
  intro i j h1 h2 h3 h5
  by_cases hc : i < lo ∨ hi ≤ j
  · exact h i j h1 h2 h3 hc
  · rcases h5 with h5 | h5
    · by_cases him : i = m
      · subst him
        by_cases hj : j = i
        · subst hj; omega
        · exact hr j (by omega) (by omega)
      · by_cases hjm : j < m
        · exact hs i j (by omega) h2 hjm
        · have x1 := hl i (by omega) (by omega)
          by_cases hj : j = m
          · rw [hj]; exact x1
          · have x2 := hr j (by omega) (by omega); omega
    · omega
theorem But.right {A B lo hi m : Nat} (h : But xs A B lo hi) (hm1 : lo ≤ m) (hm2 : m < hi) (hs : Sorted xs (m + 1) hi) (hl : ∀ k, lo ≤ k → k < m → at0 xs k ≤ at0 xs m) (hr : ∀ k, m < k → k < hi → at0 xs m ≤ at0 xs k) : But xs A B lo m := by
  intro i j h1 h2 h3 h5
  by_cases hc : i < lo ∨ hi ≤ j
  · exact h i j h1 h2 h3 hc
  · have hj : m ≤ j := by omega
    by_cases hjm : j = m
    · subst hjm
      by_cases hi' : i = j
      · subst hi'; omega
      · exact hl i (by omega) (by omega)
    · by_cases him : m < i
      · exact hs i j (by omega) h2 (by omega)
      · have x2 := hr j (by omega) (by omega)
        by_cases hi' : i = m
        · subst hi'; exact x2
        · have x1 := hl i (by omega) (by omega); omega
/-- those that are the least ones stand first: the rest is behind them. -/
theorem But.least {A B lo hi m : Nat} {p : Int} (h : But xs A B lo hi) (_ : lo ≤ m) (hge : ∀ k, lo ≤ k → k < hi → p ≤ at0 xs k) (hl : ∀ k, lo ≤ k → k < m → at0 xs k ≤ p) : But xs A B m hi := by
  intro i j h1 h2 h3 h5
  by_cases hc : i < lo ∨ hi ≤ j
  · exact h i j h1 h2 h3 hc
  · have x1 := hl i (by omega) (by omega)
    have x2 := hge j (by omega) (by omega)
    omega

theorem pdq : ∀ (N : Nat) {w : World} {xs : List Int} {R : Value → World → Prop} (_ : Slc enU 1 w v xs [b]) {A B : Nat} {lim : Int} (_ : A ≤ B) (_ : B ≤ xs.length) (_ : B - A ≤ N) (_ : xs.length < 256) (_ : Above xs A B) (_ : 0 ≤ lim) (_ : lim < 1000000)
    (_ : ∀ w' ys, Slc enU 1 w' v ys [b] → Mix A B xs ys → Sorted ys A B → Fr [b] w w' → R (.tuple #[]) w'), CALL PR F_slices_pdqsortOrdered_uint64 [v, .int .i64 (A : Int), .int .i64 (B : Int), .int .i64 lim] w R
  | 0, w, xs, R, s, A, B, lim, h1, h2, hN, hn, hab, hl0, hl1, hR => by
    refine C_slices_pdqsortOrdered_uint64 ?_
    unfold M_slices_pdqsortOrdered_uint64
    refine ⟨fun t1 t2 t3 t4 t5 w' => t1 = .int .i64 (A : Int) ∧ t2 = .int .i64 (B : Int) ∧ w' = w, fun _ _ _ _ _ _ => 0, ⟨rfl, rfl, rfl⟩, ?_⟩
    rintro _ _ _ _ _ _ _ ⟨rfl, rfl, rfl⟩
    refine BND_step (subn (by omega) (by omega)) <| BND_step (binv_leq _ _ _ _) <| COND_dec_true (by omega) <| insertionSort s h1 h2 (by omega) hR
  | N + 1, w, xs, R, s, A, B, lim, h1, h2, hN, hn, hab, hl0, hl1, hR => by
    refine C_slices_pdqsortOrdered_uint64 ?_
    unfold M_slices_pdqsortOrdered_uint64
    refine ⟨fun t1 t2 t3 t4 t5 w' => ∃ (lo hi : Nat) (lim : Int) (wb wp : Bool) (ys : List Int), t1 = .int .i64 lo ∧ t2 = .int .i64 hi ∧ t3 = .int .i64 lim ∧ t4 = .bool wb ∧ t5 = .bool wp ∧ A ≤ lo ∧ lo ≤ hi ∧ hi ≤ B ∧ 0 ≤ lim ∧ lim < 1000000 ∧ Slc enU 1 w' v ys [b] ∧ Mix A B xs ys ∧ But ys A B lo hi ∧ Fr [b] w w',
      fun t1 t2 _ _ _ _ => match t1, t2 with | .int _ n, .int _ m => (m - n).toNat | _, _ => 0, ⟨A, B, lim, true, true, xs, rfl, rfl, rfl, rfl, rfl, by omega, h1, by omega, hl0, hl1, s, .refl _, fun i j a1 a2 a3 a4 => by omega, Fr.refl _ _⟩, ?_⟩
    rintro _ _ _ _ _ _ w1 ⟨lo, hi, lim, wb, wp, ys, rfl, rfl, rfl, rfl, rfl, q1, q2, q3, q4, q5, s1, mx, bt, f1⟩
    have hyl := mx.len
    refine BND_step (subn (by omega) (by omega)) <| BND_step (binv_leq _ _ _ _) ?_
    by_cases h12 : hi - lo ≤ 12
    · refine COND_dec_true (by omega) <| insertionSort s1 q2 (by omega) (by omega) fun w2 zs s2 mz so f2 => ?_
      exact hR w2 zs s2 (mx.trans (mz.wider q1 q3)) ((bt.mix mz (by omega) q1 q3).done so) (f1.trans' f2)
    refine COND_dec_false (by omega) <| BND_step (binv_eql _ _ _ _) ?_
    by_cases hlz : lim = 0
    · refine COND_dec_true hlz <| heapSort s1 (by omega) (by omega) (by omega) fun w2 zs s2 mz so f2 => ?_
      exact hR w2 zs s2 (mx.trans (mz.wider q1 q3)) ((bt.mix mz (by omega) q1 q3).done so) (f1.trans' f2)
    refine COND_dec_false hlz <| BND_step (unv_not _) <| JOIN_elim fun K hK => ?_
    -- behind the patterns' breaking
    have go1 : ∀ w4 (l4 : Int) zs, 0 ≤ l4 → l4 < 1000000 → Slc enU 1 w4 v zs [b] → Mix lo hi ys zs → Fr [b] w w4 → K (.int .i64 l4) w4 := by
      intro w4 l4 zs l40 l41 s4 m4 f4
      have hzl := m4.len
      subst hK
      refine choosePivot s4 (by omega) (by omega) (by omega) fun w5 p hint p1 p2 s5 f5 => ?_
      refine BND_step (v := .int .i64 (p : Int)) rfl <| BND_step (v := .int .i64 hint) rfl <| BND_step (binv_eql _ _ _ _) <| JOIN_elim fun K2 hK2 => ?_
      have go2 : ∀ w6 (p : Nat) (h6 : Int) us, lo ≤ p → p < hi → Slc enU 1 w6 v us [b] → Mix lo hi ys us → Fr [b] w w6 → K2 (.int .i64 (p : Int)) (.int .i64 h6) w6 := by
        intro w6 p h6 us p1 p2 s6 m6 f6
        have hul := m6.len
        have bt6 := bt.mix m6 (by omega) q1 q3
        subst hK2
        have hab6 : Above us lo hi := fun h0 k k1 k2 => by
          by_cases hA : A = lo
          · have habA : Above us A B := hab.mix (mx.trans (m6.wider q1 q3)) (by omega)
            subst hA
            exact habA h0 k k1 (by omega)
          · exact bt6 (lo - 1) k (by omega) (by omega) (by omega) (.inl (by omega))
        -- is it to be tried whether nearly all is in order?
        have pre : ∀ Q : Value → Prop, (∀ B' : Bool, Q (.bool B')) → BND (grd (isB (.bool wb) true) (some (.bool wp))) fun t63_160 => BND (pickv (.bool wb) t63_160 (Value.bool false)) fun t64_161 => BND (grd (isB t64_161 true) (some (.int .i64 h6))) fun t66_162 =>
            BND (grd (isB t64_161 true) (binv .int .eql t66_162 (Value.int .i64 1))) fun t67_163 => BND (pickv t64_161 t67_163 (Value.bool false)) fun t68_164 => Q t68_164 := by
          intro Q hQ
          cases wb with
          | false => simp only [isB_ft, grd_false, BND_some, pickv_false]; exact hQ false
          | true =>
            cases wp with
            | false => simp only [isB_tt, isB_ft, grd_true, grd_false, BND_some, pickv_true, pickv_false]; exact hQ false
            | true => simp only [isB_tt, grd_true, BND_some, pickv_true, binv_eql]; exact hQ _
        refine pre _ fun B' => JOIN_elim fun K3 hK3 => ?_
        clear pre
        have go3 : ∀ w7 us, Slc enU 1 w7 v us [b] → Mix lo hi ys us → Fr [b] w w7 → K3 w7 := by
          intro w7 us s7 m7 f7
          have hul := m7.len
          have bt7 := bt.mix m7 (by omega) q1 q3
          have mx7 : Mix A B xs us := mx.trans (m7.wider q1 q3)
          subst hK3
          have hab7 : Above us lo hi := fun h0 k k1 k2 => by
            by_cases hA : A = lo
            · have habA : Above us A B := hab.mix mx7 (by omega)
              subst hA
              exact habA h0 k k1 (by omega)
            · exact bt7 (lo - 1) k (by omega) (by omega) (by omega) (.inl (by omega))
          have s7d : Slc enU 1 w7.drew v us [b] := s7.fr (Fr.drew [] w7) (by simp)
          have f7d : Fr [b] w w7.drew := f7.trans' (Fr.drew _ _)
          -- is the pivot the one ahead?
          have pre2 : ∀ Q : Value → World → Prop, (∀ B2 : Bool, (B2 = true → 0 < lo ∧ at0 us p ≤ at0 us (lo - 1)) → Q (.bool B2) w7.drew) → BND (binv .int .gtr (.int .i64 (lo : Int)) (Value.int .i64 0)) fun t74_169 =>
              BND (grd (isB t74_169 true) (some v)) fun t76_170 => BND (grd (isB t74_169 true) (some (.int .i64 (lo : Int)))) fun t77_171 => BND (grd (isB t74_169 true) (binv .int .sub t77_171 (Value.int .i64 1))) fun t78_172 => BND (grd (isB t74_169 true) (iaddr 1 t76_170 t78_172)) fun t79_173 =>
              BND (grd (isB t74_169 true) (some v)) fun t81_174 => BND (grd (isB t74_169 true) (some (.int .i64 (p : Int)))) fun t82_175 => BND (grd (isB t74_169 true) (iaddr 1 t81_174 t82_175)) fun t83_176 => BND (grd (isB t74_169 true) (load1 w7.drew t79_173)) fun t80_177 => BND (grd (isB t74_169 true) (load1 w7.drew t83_176)) fun t84_178 =>
              GEF (isB t74_169 true) (fun k_ => CALL PR F_cmp_Less_uint64 [t80_177, t84_178] w7.drew k_) w7.drew fun t85_179 w8 => BND (grd (isB t74_169 true) (unv .not t85_179)) fun t86_180 => BND (pickv t74_169 t86_180 (Value.bool false)) fun t87_181 => Q t87_181 w8 := by
            intro Q hQ
            refine BND_step (binv_gtr _ _ _ _) ?_
            by_cases h0 : 0 < lo
            · have e1 : decide ((0 : Int) < (lo : Int)) = true := by simp <;> omega
              rw [e1]
              simp only [isB_tt, grd_true, BND_some, GEF_true]
              refine BND_step (dec h0 (by omega)) <| BND_step (ia s7d (by omega)) <| BND_step (ia s7d (by omega)) <| BND_step (ld s7d (by omega)) <| BND_step (ld s7d (by omega)) <| less64 _ _ <| BND_step (unv_not _) <| BND_step (pickv_true _ _) ?_
              refine hQ _ fun hB => ⟨h0, ?_⟩
              simp at hB; omega
            · have e1 : decide ((0 : Int) < (lo : Int)) = false := by simp <;> omega
              rw [e1]
              simp only [isB_ft, grd_false, BND_some, GEF_false, pickv_false]
              exact hQ false fun hB => by cases hB
          refine pre2 _ fun B2 hB2 => ?_
          clear pre2
          cases B2 with
          | true =>
            obtain ⟨h0, hle⟩ := hB2 rfl
            have hge : ∀ k, lo ≤ k → k < hi → at0 us p ≤ at0 us k := fun k k1 k2 => by have := hab7 h0 k k1 k2; omega
            refine (COND_true _ _).2 <| partitionEqual s7d (by omega) (by omega) (by omega) p1 p2 fun w9 ts m s9 m9 e1 e2 hl hr f9 => ?_
            have bt9 := bt7.mix m9 (by omega) q1 q3
            refine ⟨⟨m, hi, l4, wb, wp, ts, rfl, rfl, rfl, rfl, rfl, by omega, e2, q3, l40, l41, s9, mx7.trans (m9.wider q1 q3), bt9.least (p := at0 us p) (by omega) (fun k k1 k2 => m9.all (by omega) (p := fun x => at0 us p ≤ x) hge k k1 k2) hl, f7d.trans' f9⟩, ?_⟩
            show ((hi : Int) - (m : Int)).toNat < ((hi : Int) - (lo : Int)).toNat
            omega
          | false =>
            refine (COND_false _ _).2 <| partition s7d (by omega) (by omega) (by omega) p1 p2 fun w10 ts m B3 s10 m10 e1 e2 hl hr f10 => ?_
            have htl := m10.len
            have bt10 := bt7.mix m10 (by omega) q1 q3
            have mx10 : Mix A B xs ts := mx7.trans (m10.wider q1 q3)
            have hab10 : Above ts lo hi := hab7.mix m10 (by omega)
            have f010 := f7d.trans' f10
            refine BND_step (v := .int .i64 (m : Int)) rfl <| BND_step (v := .bool B3) rfl <| BND_step (subn (by omega) (by omega)) <| BND_step (subn (by omega) (by omega)) <| BND_step (quon (n := hi - lo) 8 (by omega) (by omega)) <| BND_step (binv_lss _ _ _ _) <| JOIN_elim fun K4 hK4 => ?_
            have go4 : ∀ w11 (lo' hi' : Nat) (wb' : Bool) rs, A ≤ lo' → lo' ≤ hi' → hi' ≤ B → hi' - lo' < hi - lo → Slc enU 1 w11 v rs [b] → Mix A B xs rs → But rs A B lo' hi' → Fr [b] w w11 → K4 (.int .i64 (lo' : Int)) (.int .i64 (hi' : Int)) (.bool wb') w11 := by
              intro w11 lo' hi' wb' rs r1 r2 r3 r4 s11 m11 bt11 f11
              subst hK4
              refine ⟨⟨lo', hi', l4, wb', B3, rs, rfl, rfl, rfl, rfl, rfl, r1, r2, r3, l40, l41, s11, m11, bt11, f11⟩, ?_⟩
              show ((hi' : Int) - (lo' : Int)).toNat < ((hi : Int) - (lo : Int)).toNat
              omega
            clear hK4
            have keepM : ∀ rs, (Mix lo m ts rs ∨ Mix (m + 1) hi ts rs) → at0 rs m = at0 ts m := fun rs h => by
              rcases h with h | h
              · exact h.out (by omega) m (.inr (by omega))
              · exact h.out (by omega) m (.inl (by omega))
            by_cases hlr : (((m - lo : Nat) : Int)) < ((hi - m : Nat) : Int)
            · refine COND_dec_true hlr <| BND_step (binv_geq _ _ _ _) <| pdq N s10 (A := lo) (B := m) e1 (by omega) (by omega) (by omega) (fun h0 k k1 k2 => hab10 h0 k k1 (by omega)) l40 l41 fun w12 rs s12 m12 so12 f12 => ?_
              have e12 := keepM rs (.inl m12)
              have bt12 := bt10.mix (m12.wider (d := hi) (Nat.le_refl _) (by omega)) (by omega) q1 q3
              refine BND_step (inc (by omega)) <| go4 w12 (m + 1) hi _ rs (by omega) (by omega) q3 (by omega) s12 (mx10.trans (m12.wider q1 (by omega))) (bt12.left e1 e2 so12 (fun k k1 k2 => ?_) (fun k k1 k2 => ?_)) (f010.trans' f12)
              · rw [e12]; exact m12.all (by omega) (p := fun x => x ≤ at0 ts m) hl k k1 k2
              · rw [e12, m12.out (by omega) k (.inr (by omega))]; exact hr k k1 k2
            · refine COND_dec_false hlr <| BND_step (binv_geq _ _ _ _) <| BND_step (inc (by omega)) <| pdq N s10 (A := m + 1) (B := hi) (by omega) (by omega) (by omega) (by omega) (fun _ k k1 k2 => by
                  rw [show m + 1 - 1 = m by omega]; exact hr k (by omega) k2) l40 l41 fun w13 rs s13 m13 so13 f13 => ?_
              have e13 := keepM rs (.inr m13)
              have bt13 := bt10.mix (m13.wider (c := lo) (by omega) (Nat.le_refl _)) (by omega) q1 q3
              refine go4 w13 lo m _ rs q1 e1 (by omega) (by omega) s13 (mx10.trans (m13.wider (by omega) q3)) (bt13.right e1 e2 so13 (fun k k1 k2 => ?_) (fun k k1 k2 => ?_)) (f010.trans' f13)
              · rw [e13, m13.out (by omega) k (.inl (by omega))]; exact hl k k1 k2
              · rw [e13]; exact m13.all (by omega) (p := fun x => at0 ts m ≤ x) (fun k k1 k2 => hr k (by omega) k2) k (by omega) k2
        clear hK3
        cases B' with
        | false => exact (COND_false _ _).2 (go3 w6 us s6 m6 f6)
        | true =>
          refine (COND_true _ _).2 <| partialInsertion s6 (by omega) (by omega) (by omega) hab6 fun w14 ts B2 s14 m14 so14 f14 => ?_
          cases B2 with
          | true => exact (COND_true _ _).2 (hR w14 ts s14 (mx.trans ((m6.trans m14).wider q1 q3)) (((bt.mix (m6.trans m14) (by omega) q1 q3)).done (so14 rfl)) (f6.trans' f14))
          | false => exact (COND_false _ _).2 (go3 w14 ts s14 (m6.trans m14) (f6.trans' f14))
      clear hK2
      have f5' := f4.trans' f5.nil
      by_cases h2h : hint = 2
      · refine COND_dec_true h2h <| reverseRange s5 (by omega) (by omega) (by omega) fun w15 us s15 m15 f15 => ?_
        refine BND_step (dec (by omega) (by omega)) <| BND_step (subn (by omega) (by omega)) <| BND_step (subn (by omega) (by omega)) <| go2 w15 _ 1 us (by omega) (by omega) s15 (m4.trans m15) (f5'.trans' f15)
      · exact COND_dec_false h2h (go2 w5 p hint zs p1 p2 s5 m4 f5')
    clear hK
    cases wb with
    | false =>
      refine (COND_true _ _).2 <| breakPatterns s1 (by omega) (by omega) (by omega) fun w16 zs s16 m16 f16 => ?_
      exact BND_step (decI (by omega) (by omega)) <| go1 w16 _ zs (by omega) (by omega) s16 m16 (f1.trans' f16)
    | true => exact (COND_false _ _).2 (go1 w1 lim ys q4 q5 s1 (.refl _) f1)

/-- slices.Sort at []uint64. -/
theorem sort64 {F : List Nat} (s : Slc enU 1 w v xs F) (hn : xs.length < 256) (hR : ∀ w' ys, Slc enU 1 w' v ys F → ys.Perm xs → ys.Pairwise (· ≤ ·) → Fr F w w' → R (.tuple #[]) w') :
    CALL PR F_slices_Sort_uint64_uint64 [v] w R := by
  refine C_slices_Sort_uint64_uint64 ?_
  unfold M_slices_Sort_uint64_uint64
  have hk : convi .u64 (.int .i64 (xs.length : Int)) = some (.int .u64 (xs.length : Int)) := by
    simp only [convi]
    rw [wrap_u64 (by omega) (by omega)]
  have hb8 := (len8_at xs.length hn).2.1
  refine BND_step s.len <| BND_step hk <| bitsLen hn ?_
  have hs := s
  rcases s with ⟨rfl, rfl, rfl⟩ | ⟨b, cap, c, T, hv, hb, hc, hz, rfl, hel⟩
  · -- nothing
    refine C_slices_pdqsortOrdered_uint64 ?_
    unfold M_slices_pdqsortOrdered_uint64
    refine ⟨fun t1 t2 t3 t4 t5 w' => t1 = .int .i64 0 ∧ t2 = .int .i64 0 ∧ w' = w, fun _ _ _ _ _ _ => 0, ⟨rfl, rfl, rfl⟩, ?_⟩
    rintro _ _ _ _ _ _ w1 ⟨rfl, rfl, hw⟩
    rw [hw]
    refine BND_step (subn (n := 0) (m := 0) (by omega) (by omega)) <| BND_step (binv_leq _ _ _ _) <| COND_dec_true (by omega) ?_
    refine C_slices_insertionSortOrdered_uint64 ?_
    unfold M_slices_insertionSortOrdered_uint64
    refine BND_step (inc (n := 0) (by omega)) ⟨fun t w' => t = .int .i64 1 ∧ w' = w, fun _ _ => 0, ⟨rfl, rfl⟩, ?_⟩
    rintro _ _ w2 ⟨rfl, hw2⟩
    rw [hw2]
    exact BND_step (binv_lss _ _ _ _) <| COND_dec_false (by omega) <| hR _ [] hs (.refl _) .nil (Fr.refl _ _)
  · refine pdq xs.length hs (A := 0) (B := xs.length) (by omega) (by omega) (by omega) hn (fun h => by omega) (by omega) (by omega) fun w' ys s' mx so f' => hR w' ys s' (mx.perm (by omega)) ?_ f'
    rw [List.pairwise_iff_getElem]
    intro i j hi hj hij
    have hyl := mx.len
    have := so i j (by omega) (by omega) (by omega)
    have e1 := at0_get (xs := ys) (i := i) hi
    have e2 := at0_get (xs := ys) (i := j) hj
    rw [List.getElem?_eq_getElem hi] at e1
    rw [List.getElem?_eq_getElem hj] at e2
    rw [Option.some.inj e1, Option.some.inj e2]
    exact this
end
end Go.Proofs.YtofllgbdphakiaaGreatDoor.Sort64
end

section
namespace Go.Proofs.YtofllgbdphakiaaGreatDoor
open Go.Den Go.Nm Go.Disk Go.Rec Go.RowKit Go.Shelf Sort64
def ints (l : List Nat) : List Int := l.map fun n : Nat => (n : Int)
theorem ints_len (l : List Nat) : (ints l).length = l.length := by simp [ints]
theorem nums_snoc (k : UInt8) (l : List ByteArray) (s : ByteArray) : numsK k (l ++ [s]) = if isK k s = true then numsK k l ++ [(readN s).2.1] else numsK k l := by
  unfold numsK
  rw [List.filter_append, List.map_append]
  split
  · rename_i h; simp [List.filter, h]
  · rename_i h; simp [List.filter, h]
theorem nums_le (k : UInt8) (l : List ByteArray) : (numsK k l).length ≤ l.length := by
  unfold numsK
  rw [List.length_map]
  exact List.length_filter_le _ _
theorem only_len (k : UInt8) (l : List ByteArray) : (onlyN k l).length = (numsK k l).length := (only_sort k l).2.length_eq
/-- of a row of wholes that is a row of numbers in another order. -/
theorem ints_perm {ys : List Int} {l : List Nat} (h : ys.Perm (ints l)) : ∃ zs : List Nat, ys = ints zs ∧ zs.Perm l := by
  refine ⟨ys.map Int.toNat, ?_, ?_⟩
  · unfold ints
    rw [List.map_map]
    apply List.ext_getElem?
    intro i
    rw [List.getElem?_map]
    cases hy : ys[i]? with
    | none => rfl
    | some y =>
      have hm : y ∈ ints l := h.mem_iff.1 (List.mem_of_getElem? hy)
      unfold ints at hm
      obtain ⟨n, _, rfl⟩ := List.mem_map.1 hm
      rfl
  · have := h.map Int.toNat
    unfold ints at this
    rw [List.map_map] at this
    have e : (Int.toNat ∘ fun n : Nat => (n : Int)) = id := by funext n; rfl
    rw [e, List.map_id] at this
    exact this
theorem only_ints {k : UInt8} {l : List ByteArray} {ys : List Int} (h1 : ys.Perm (ints (numsK k l))) (h2 : ys.Pairwise (· ≤ ·)) : ys = ints (onlyN k l) := by
  obtain ⟨zs, rfl, hp⟩ := ints_perm h1
  rw [only_eq hp]
  unfold ints at h2
  rw [List.pairwise_map] at h2
  exact h2.imp fun h => by omega
theorem isK_no {k : UInt8} {s : ByteArray} (h : (readN s).2.2 = false) : isK k s = false := by unfold isK; rw [h]; rfl
set_option linter.unusedSimpArgs false
set_option linter.unusedVariables false
set_option maxRecDepth 20000
set_option maxHeartbeats 4000000
attribute [local congr] BND_cg COND_cg GEF_cg
attribute [local irreducible] capl slicea load1 loadn iaddr iaddra faddr storev newslice binv lookv mupd mdel mlenv mentry mestore slicev slicev3 slices indexs indexav textv rangev nexts clearv shiftv eqaggv convi buildv pickv lens lenl unv nilchk extractv partn JOIN
section
variable {w : World} {R : Value → World → Prop}
theorem nm_Only (hT : Tab w) (hE : Errs w) (k : UInt8) {lv : Value} {l : List ByteArray} (ha : Arr encT 1 w lv l) (hl : l.length ≤ 200) (hs : ∀ s ∈ l, s.size ≤ 300)
    (hR : ∀ v w' F, Slc enU 1 w' v (ints (onlyN k l)) F → (∀ b ∈ F, hsz w ≤ b) → Fr [] w w' → R v w') : CALL PR F_name_Only [lv, .int .u8 (k.toNat : Int)] w R := by
  refine C_name_Only ?_
  unfold M_name_Only
  refine BND_step ha.len ?_
  refine loop_up2 (o := .slice none 0 0) 0 l.length (fun o i w' => Fr [] w w' ∧ ∃ F, Slc enU 1 w' o (ints (numsK k (l.take i))) F ∧ ∀ b ∈ F, hsz w ≤ b) ⟨Fr.refl _ _, [], Slc.nil _ _ _, by simp⟩ (by omega) ?_
  rintro o i w1 - hi ⟨f1, F, s1, g1⟩ J m hJ
  by_cases hlt : i < l.length
  · have hx := List.getElem?_eq_getElem hlt
    have hps := hs l[i] (List.getElem_mem hlt)
    generalize l[i] = p at hx hps
    obtain ⟨b1, o1, i1, m1, _, l1⟩ := (ha.fr f1 (by simp)).spot hx rfl .i64
    (repeat (first | refine BND_step (l1 (w' := w1) rfl (j := 0) rfl) ?_ | refine gg ?_))
    refine nm_Read (hT.fr f1) (hE.fr f1) p (by omega) fun w2 f2 => ?_
    have ht : l.take (i + 1) = l.take i ++ [p] := by rw [List.take_add_one, hx]; rfl
    have hn := nums_snoc k (l.take i) p
    rw [← ht] at hn
    have f12 := f1.trans' f2
    have s2 := s1.fr f2 (by simp)
    have no : isK k p = false → ∀ w', w' = w2 → (∃ F, Slc enU 1 w' o (ints (numsK k (l.take (i + 1)))) F ∧ ∀ b ∈ F, hsz w ≤ b) := fun h w' e => by
      subst e
      rw [h] at hn
      simp only [Bool.false_eq_true, if_false] at hn
      rw [hn]
      exact ⟨F, s2, g1⟩
    cases hb : (readN p).2.2 with
    | false =>
      (repeat refine gg ?_)
      refine join_v (fun o' w' => Fr [] w w' ∧ ∃ F, Slc enU 1 w' o' (ints (numsK k (l.take (i + 1)))) F ∧ ∀ b ∈ F, hsz w ≤ b) (fun K hK => ?_) (fun o' w3 hq => ?_)
      · (repeat refine gg ?_)
        exact hK _ _ ⟨f12, no (isK_no hb) _ rfl⟩
      · (repeat refine gg ?_)
        exact hJ _ _ hlt hq
    | true =>
      (repeat refine gg ?_)
      refine join_v (fun o' w' => Fr [] w w' ∧ ∃ F, Slc enU 1 w' o' (ints (numsK k (l.take (i + 1)))) F ∧ ∀ b ∈ F, hsz w ≤ b) (fun K hK => ?_) (fun o' w3 hq => ?_)
      · by_cases hk : (readN p).1 = k
        · have hk' : ((readN p).1.toNat : Int) = (k.toNat : Int) := by rw [hk]
          have is : isK k p = true := by unfold isK; rw [hb, hk]; simp
          rw [is] at hn
          simp only [if_true] at hn
          (repeat refine gg ?_)
          refine push_step (enc := enU) (x := ((readN p).2.1 : Int)) s2 enU_len enU_one rfl rfl (by omega) (by rw [ints_len]; have := nums_le k (l.take i); rw [List.length_take] at this; omega) fun v6 w6 G6 s6 g6 f6 => ?_
          refine hK _ _ ⟨f12.trans f6 fun b hb => .inr (g1 b hb), G6, ?_, fun b hb => ?_⟩
          · rw [hn]
            unfold ints
            rw [List.map_append]
            exact s6
          · rcases g6 b hb with h | h
            · exact g1 b h
            · have := f12.grow; omega
        · have hk' : ¬ ((readN p).1.toNat : Int) = (k.toNat : Int) := fun e => hk (UInt8.toNat_inj.1 (by omega))
          have is : isK k p = false := by unfold isK; rw [decide_eq_false hk, Bool.and_false]
          (repeat refine gg ?_)
          exact hK _ _ ⟨f12, no is _ rfl⟩
      · (repeat refine gg ?_)
        exact hJ _ _ hlt hq
  · obtain rfl : i = l.length := by omega
    rw [List.take_length] at s1
    (repeat refine gg ?_)
    refine sort64 s1 (by rw [ints_len]; have := nums_le k l; omega) fun w2 ys s2 p2 q2 f2 => ?_
    rw [only_ints p2 q2] at s2
    exact hR _ _ _ s2 g1 (f1.trans f2 fun b hb => .inr (g1 b hb))
/-- what the document puts in: what stands ahead, a number, what stands behind. -/
theorem app3 {w0 : World} {t1 t2 u1 u2 zero : Value} {xs zs : List Int} {x : Int} {G1 G2 : List Nat} {E : Nat} {K : Value → World → Prop} (f : Fr [] w0 w) (h1 : Slc enU 1 w t1 [] G1) (g1 : ∀ b ∈ G1, hsz w0 ≤ b) (h2 : Slc enU 1 w t2 [x] G2) (hd : ∀ b ∈ G2, b ∉ G1)
    (c1 : ∀ w', Fr [] w0 w' → cellsOfArg w' 1 u1 = some (flat enU xs, xs.length)) (c2 : ∀ w', Fr [] w0 w' → cellsOfArg w' 1 u2 = some (flat enU zs, zs.length)) (hz : zero.cells.size = 1) (hn : xs.length + zs.length < 1000000)
    (hK : ∀ v w' F, Slc enU 1 w' v (xs ++ x :: zs) F → (∀ b ∈ F, hsz w0 ≤ b) → Fr [] w0 w' → K v w') :
    APPEND E 1 8 zero t1 u1 w fun a wa => APPEND E 1 8 zero a t2 wa fun b wb => APPEND E 1 8 zero b u2 wb K := by
  have gr := f.grow
  refine APPEND_slc h1 (c1 w f) enU_len enU_one hz (by simp; omega) (by simp; omega) fun a wa Fa sa fa ga => ?_
  have fwa := f.trans fa fun b hb => .inr (g1 b hb)
  have ga' : ∀ b ∈ Fa, hsz w0 ≤ b := fun b hb => (ga b hb).elim (g1 b) (fun h => by omega)
  refine APPEND_slc sa ((h2.fr fa hd).loads enU_len) enU_len enU_one hz (by simp; omega) (by simp; omega) fun b wb Fb sb fb gb => ?_
  have fwb := fwa.trans fb fun b hb => .inr (ga' b hb)
  have gr2 := fwa.grow
  have gb' : ∀ b ∈ Fb, hsz w0 ≤ b := fun b hb => (gb b hb).elim (ga' b) (fun h => by omega)
  have gr3 := fwb.grow
  refine APPEND_slc sb (c2 wb fwb) enU_len enU_one hz (by simp; omega) (by simp; omega) fun c wc Fc sc fc gc => ?_
  refine hK c wc Fc ?_ (fun b hb => (gc b hb).elim (gb' b) (fun h => by omega)) (fwb.trans fc fun b hb => .inr (gb' b hb))
  have e : [] ++ xs ++ [x] ++ zs = xs ++ x :: zs := by simp
  rw [← e]; exact sc
/-- where the place is found. -/
theorem only_ins {w5 : World} {o : Value} {out : List Nat} {F : List Nat} {n j : Nat} (s2 : Slc enU 1 w5 o (ints out) F) (hj : j ≤ out.length) (hol : out.length ≤ 200) {K : Value → World → Prop}
    (hK : ∀ v w' F', Slc enU 1 w' v (ints (out.take j ++ n :: out.drop j)) F' → (∀ b ∈ F', hsz w5 ≤ b) → Fr [] w5 w' → K v w') : ∃ S_124 : Nat → World → Prop,
    BND (slicev 1 o none (some (.int .i64 (j : Int)))) fun t50 => BND (slicev 1 o (some (.int .i64 (j : Int))) none) fun t57 => JOIN (α := Value → World → Prop) (fun k_133 =>
      (BND (newslice 22 #[(Value.int .u64 0)] 1 0 [] w5.drew) fun p_ => NEW p_ fun t47 w7 => APPEND 22 1 8 (Value.int .u64 0) t47 t50 w7 fun t51 w8 => BND (newslice 22 #[(Value.int .u64 0)] 1 1 [(0, 1, (.int .u64 (n : Int)))] w8) fun p_ => NEW p_ fun t53 w9 =>
        APPEND 22 1 8 (Value.int .u64 0) t51 t53 w9 fun t54 w10 => APPEND 22 1 8 (Value.int .u64 0) t54 t57 w10 fun t58 w11 => k_133 t58 w11) ∧
      (BND (newslice 22 #[(Value.int .u64 0)] 1 0 [] w5.drew) fun p_ => NEW p_ fun t47 w12 => BND (newslice 22 #[(Value.int .u64 0)] 1 1 [(0, 1, (.int .u64 (n : Int)))] w12) fun p_ => NEW p_ fun t53 w13 =>
        APPEND 22 1 8 (Value.int .u64 0) t47 t50 w13 fun t51 w14 => APPEND 22 1 8 (Value.int .u64 0) t51 t53 w14 fun t54 w15 => APPEND 22 1 8 (Value.int .u64 0) t54 t57 w15 fun t58 w16 => k_133 t58 w16) ∧
      (BND (newslice 22 #[(Value.int .u64 0)] 1 1 [(0, 1, (.int .u64 (n : Int)))] w5.drew) fun p_ => NEW p_ fun t53 w17 => BND (newslice 22 #[(Value.int .u64 0)] 1 0 [] w17) fun p_ => NEW p_ fun t47 w18 =>
        APPEND 22 1 8 (Value.int .u64 0) t47 t50 w18 fun t51 w19 => APPEND 22 1 8 (Value.int .u64 0) t51 t53 w19 fun t54 w20 => APPEND 22 1 8 (Value.int .u64 0) t54 t57 w20 fun t58 w21 => k_133 t58 w21)) (fun v w' => K v w') := by
  refine ⟨fun _ _ => True, ?_⟩
  obtain ⟨u1, eu1, cu1⟩ := s2.upto enU_len (n := j) (by rw [ints_len]; omega) .i64
  obtain ⟨u2, eu2, cu2⟩ := s2.from enU_len (n := j) (by rw [ints_len]; omega) .i64
  refine BND_step eu1 <| BND_step eu2 ?_
  refine join_v (fun v w' => K v w') (fun K' hK' => ?_) (fun v w' h => h)
  have fd : Fr [] w5 w5.drew := Fr.drew _ _
  have zd : hsz w5.drew = hsz w5 := rfl
  have c1 : ∀ w', Fr [] w5 w' → cellsOfArg w' 1 u1 = some (flat enU ((ints out).take j), ((ints out).take j).length) := fun w' f => cu1 w' fun b hb => f.keep b (s2.lt b hb) (by simp)
  have c2 : ∀ w', Fr [] w5 w' → cellsOfArg w' 1 u2 = some (flat enU ((ints out).drop j), ((ints out).drop j).length) := fun w' f => cu2 w' fun b hb => f.keep b (s2.lt b hb) (by simp)
  have hlen : ((ints out).take j).length + ((ints out).drop j).length < 1000000 := by rw [List.length_take, List.length_drop, ints_len]; omega
  have e : (ints out).take j ++ (n : Int) :: (ints out).drop j = ints (out.take j ++ n :: out.drop j) := by
    unfold ints
    rw [List.map_append, List.map_cons, List.map_take, List.map_drop]
  have hfin : ∀ v w' F, Slc enU 1 w' v ((ints out).take j ++ (n : Int) :: (ints out).drop j) F → (∀ b ∈ F, hsz w5 ≤ b) → Fr [] w5 w' → K' v w' := fun v w' F' s' g' f' => hK' _ _ (hK v w' F' (e ▸ s') g' f')
  refine ⟨?_, ?_, ?_⟩
  · refine newnil_step enU fun t7 w7 s7 f7 z7 => ?_
    have f57 := fd.trans' f7
    have gr := f57.grow
    refine APPEND_slc s7 (c1 w7 f57) enU_len enU_one rfl (by simp only [List.length_nil]; omega) (by simp only [List.length_nil]; omega) fun a wa Fa sa fa ga => ?_
    have ga' : ∀ b ∈ Fa, hsz w5 ≤ b := fun b hb => (ga b hb).elim (fun h => by simp at h; subst h; exact Nat.le_refl _) (fun h => by omega)
    have fwa := f57.trans fa fun b hb => .inr (by simp at hb; subst hb; exact Nat.le_refl _)
    have gra := fwa.grow
    refine push_step (enc := enU) (x := (n : Int)) sa enU_len enU_one rfl rfl (by omega) (by simp only [List.nil_append]; omega) fun b wb Fb sb gb fb => ?_
    have fwb := fwa.trans fb fun b hb => .inr (ga' b hb)
    have gb' : ∀ b ∈ Fb, hsz w5 ≤ b := fun b hb => (gb b hb).elim (ga' b) (fun h => by omega)
    have grb := fwb.grow
    refine APPEND_slc sb (c2 wb fwb) enU_len enU_one rfl (by simp only [List.length_append, List.length_nil, List.length_cons]; omega) (by simp only [List.length_append, List.length_nil, List.length_cons]; omega) fun c wc Fc sc fc gc => ?_
    refine hfin c wc Fc ?_ (fun b hb => (gc b hb).elim (gb' b) (fun h => by omega)) (fwb.trans fc fun b hb => .inr (gb' b hb))
    have e2 : [] ++ (ints out).take j ++ [(n : Int)] ++ (ints out).drop j = (ints out).take j ++ (n : Int) :: (ints out).drop j := by simp
    rw [← e2]; exact sc
  · refine newnil_step enU fun t7 w7 s7 f7 z7 => ?_
    refine newone_step (enc := enU) (x := (n : Int)) enU_len rfl fun t8 w8 s8 f8 z8 => ?_
    refine app3 (fd.trans' (f7.trans' f8)) (s7.fr f8 (by simp)) (by simp [zd]) s8 (by intro b hb hb'; simp at hb hb'; omega) c1 c2 rfl hlen hfin
  · refine newone_step (enc := enU) (x := (n : Int)) enU_len rfl fun t8 w8 s8 f8 z8 => ?_
    refine newnil_step enU fun t7 w7 s7 f7 z7 => ?_
    refine app3 (fd.trans' (f8.trans' f7)) s7 (by simp; omega) (s8.fr f7 (by simp)) (by intro b hb hb'; simp at hb hb'; omega) c1 c2 rfl hlen hfin
end
end Go.Proofs.YtofllgbdphakiaaGreatDoor
end

section
namespace Go.Proofs.YtofllgbdphakiaaGreatDoor
open Go.Den Go.Disk Go.Nm Go.Rec Go.Frame Go.Vint Go.Crc Go.Sg Go.Ev
theorem only_all {l : List ByteArray} (h : ∀ x ∈ l, ∃ k, okS k = true ∧ x = sgN k) : (onlyN 109 l).length = l.length := by
  rw [only_len]
  unfold numsK
  rw [List.length_map, List.filter_eq_self.2]
  intro x hx
  obtain ⟨k, hk, rfl⟩ := h x hx
  unfold isK sgN
  rw [readN_nm (show okN 109 k = true from hk)]
  simp
set_option linter.unusedSimpArgs false
set_option linter.unusedVariables false
set_option maxRecDepth 20000
set_option maxHeartbeats 4000000
attribute [local congr] BND_cg COND_cg GEF_cg
attribute [local irreducible] capl slicea load1 loadn iaddr iaddra faddr storev newslice binv lookv mupd mdel mlenv mentry mestore slicev slicev3 slices indexs indexav textv rangev nexts clearv shiftv eqaggv convi buildv pickv lens lenl unv nilchk extractv partn JOIN
section
variable {w : World} {R : Value → World → Prop}
theorem sg_Back (hT : Tab w) (hE : Errs w) (seg : Nat) (hseg : seg < 18446744073709551616) (size : Int) {lv : Value} {rs : List (Int × SV × ByteArray)} (hin : RcsIn w lv rs) (hR : ∀ w', Fr [] w w' → R (.bool true) w') : CALL PR F_tumbrellaw15_SeglogBack [.int .u64 (seg : Int), .int .i64 size, lv] w R := by
  refine C_tumbrellaw15_SeglogBack ?_
  unfold M_tumbrellaw15_SeglogBack
  refine sg_awake hT fun w1 f1 => ?_
  (repeat refine gg ?_)
  have hT1 := hT.fr f1
  refine sg_full hT1 seg hseg size (hin.fr f1) (fun w2 f2 => ?_) fun w2 d p pv cs s l ps c m hs1000 hmost hpl M => ?_
  · (repeat refine gg ?_)
    exact hR _ (f1.trans' f2)
  have f2 := M.at_.frame
  have hsm := M.full.small
  obtain ⟨hcl, hml⟩ := M.len
  (repeat refine gg ?_)
  obtain ⟨A, za, ⟨B, hB, hd⟩, zlt, zA, back⟩ := At.zoomT M.at_ (Fr.refl _ _)
  obtain ⟨pa, pp⟩ := places_in M.pls f2 hB hd zA
  refine sg_there (tabS_re hT1 f2 zA) za M.full.inv (by omega) pa pp M.full.held (by omega) fun w3 z3 => ?_
  have h3 := back _ _ z3
  obtain ⟨B3, sl3, _⟩ := h3.get 0 rfl
  have hlen := (show Slc encPl 5 w3 pv cs B3 from sl3).len
  have hcp := M.pls.len
  (repeat refine gg ?_)
  have h0 : runC seg (ps.take 0) = (seg, 0) := by simp [runC]
  have hsl := M.full.seg
  have hmo := M.full.most
  have hq : ∃ (J : Value → Value → Value → World → Prop) (mm : Value → Value → Value → World → Nat), True := ⟨fun _ _ _ _ => True, fun _ _ _ _ => 0, trivial⟩
  clear hq
  refine ⟨fun a b t w' => ∃ i : Nat, t = .int .i64 (i : Int) ∧ i ≤ cs.length ∧ a = .int .u64 ((runC seg (ps.take i)).1 : Int) ∧ b = .int .i64 ((runC seg (ps.take i)).2 : Int) ∧ (runC seg (ps.take i)).1 ≤ l.seg ∧ (runC seg (ps.take i)).2 ≤ i ∧ At w1 [] (stars [slc encPl 5 pv cs, pts p (lgC d l), diskHP d s]) w',
    fun _ _ t _ => match t with | .int _ k => cs.length - k.toNat | _ => 0, ⟨0, rfl, by omega, by rw [h0], by rw [h0]; rfl, by rw [h0]; exact hsl, by rw [h0]; simp, h3⟩, ?_⟩
  rintro _ _ _ _ w4 ⟨i, rfl, hi, rfl, rfl, hlast, hmany, h4⟩
  obtain ⟨B4, sl4', _⟩ := h4.get 0 rfl
  have sl4 : Slc encPl 5 w4 pv cs B4 := sl4'
  by_cases hlt : i < cs.length
  · obtain ⟨x, hx⟩ : ∃ x, ps[i]? = some x := ⟨_, List.getElem?_eq_getElem (by omega)⟩
    have f4 := h4.frame
    obtain ⟨sv, t, c1, ct, c2⟩ := (M.pls.fr f4).at_ i x hx
    obtain ⟨okx, hx1, hx2, hx3⟩ := M.full.recs i x hx
    obtain ⟨g1, g2, g3⟩ := M.chain.fine i x hx
    have htk : ps.take (i + 1) = ps.take i ++ [x] := by rw [List.take_add_one, hx]; rfl
    have hrun : runC seg (ps.take (i + 1)) = Sg.stepC (runC seg (ps.take i)) x := by rw [htk, runC_snoc]
    generalize runC seg (ps.take i) = rc at *
    obtain ⟨last, many⟩ := rc
    simp only at hlast hmany
    obtain ⟨bb, oo, ia, ln, _, _⟩ := sl4.arr.spot c1 rfl .i64
    (repeat refine gg ?_)
    refine box_step (n := 5) (zs := [_, _, _, _, _]) (vs := encPl (x.k, sv, t, x.seg, x.at_)) rfl rfl (encPl_one _) (by simp [encPl]) fun w6 b6 f6 z6 => ?_
    have e6 : loadn 3 w6 (.pointer (some ⟨hsz w4, 0, none⟩)) = some (.agg (encRc (x.k, sv, t)).toArray) := by
      rw [loadn_blk b6 (by simp [encPl])]
      rfl
    have hts : t.size = x.t.length := by rw [← ct]; exact Array.length_toList.symm
    (repeat refine gg ?_)
    refine rec_Bytes x.k t (c2.fr f6 (by simp)) okx.small (fun w7 hno _ => by rw [hts, okx.right] at hno; cases hno) fun w7 v7 G7 _ s7 g7 f7 => ?_
    rw [ct] at s7
    have l7 := s7.len
    have hbl : (recB x.k.toNat x.ns x.t).length = x.b.length := rfl
    rw [hbl] at l7
    have hb2 := okx.len
    have b7' := f7.some (by simp) b6
    have b7 : blk w7 (hsz w4) = some (.cells [.int .i64 x.k, sv.v, .string t, .int .u64 (x.seg : Int), .int .u64 (x.at_ : Int)].toArray 79 (0, 0)) := b7'
    have h7 := (h4.fr0 f6).fr0 f7
    have hinc := inc_u (x := last) (by omega)
    have hatb : x.at_ ≤ 1048576 := by
      obtain ⟨_, hok, hr, hat⟩ := M.full.held.at_ i x hx
      have q0 := read_sm M.full.inv (sgN x.seg)
      rw [hr] at q0
      have q1 := congrArg List.length (segB_at hx)
      rw [List.length_append] at q1
      simp only at q0
      omega
    have hci := ci64 (n := x.at_) (by omega)
    have hadd := addn_ (n := x.at_) (m := x.b.length) (by omega)
    have rest : ∀ (last' many' : Nat) w8, w8 = w7 → x.seg = last' → (many' = 0 ↔ x.at_ = 0) → (0 < many' → ((x.at_ + x.b.length : Nat) : Int) ≤ size) → many' ≤ i → Sg.stepC (last, many) x = (last', many' + 1) → ∀ {k : Value → Value → Prop}, (runC seg (ps.take (i + 1)) = (last', many' + 1) → k (.int .i64 ((many' + 1 : Nat) : Int)) (.int .i64 ((i + 1 : Nat) : Int))) → 
        BND (faddr 3 (.pointer (some ⟨hsz w4, 0, none⟩))) fun t61_91 => BND (load1 w8 t61_91) fun t62_92 => BND (binv .int .neq t62_92 (.int .u64 (last' : Int))) fun t64_93 => BND (grd (isB t64_93 false) (some (.int .i64 (many' : Int)))) fun t66_94 => BND (grd (isB t64_93 false) (binv .int .eql t66_94 (Value.int .i64 0))) fun t67_95 =>
          BND (grd (isB t64_93 false) (faddr 4 (.pointer (some ⟨hsz w4, 0, none⟩)))) fun t68_96 => BND (grd (isB t64_93 false) (load1 w8 t68_96)) fun t69_97 => BND (grd (isB t64_93 false) (binv .int .eql t69_97 (Value.int .u64 0))) fun t70_98 => BND (grd (isB t64_93 false) (binv .bool .neq t67_95 t70_98)) fun t71_99 => BND (pickv t64_93 (Value.bool true) t71_99) fun t72_100 =>
          BND (grd (isB t72_100 false) (some (.int .i64 (many' : Int)))) fun t74_101 => BND (grd (isB t72_100 false) (binv .int .gtr t74_101 (Value.int .i64 0))) fun t75_102 => BND (grd (isB t72_100 false) (some t75_102)) fun t76_103 => BND (grd (isB t76_103 true) (faddr 4 (.pointer (some ⟨hsz w4, 0, none⟩)))) fun t77_104 => BND (grd (isB t76_103 true) (load1 w8 t77_104)) fun t78_105 =>
          BND (grd (isB t76_103 true) (convi .i64 t78_105)) fun t79_106 => BND (grd (isB t76_103 true) (some v7)) fun t80_107 => BND (grd (isB t76_103 true) (lenl t80_107)) fun t81_108 => BND (grd (isB t76_103 true) (binv .int .add t79_106 t81_108)) fun t82_109 => BND (grd (isB t76_103 true) (some (.int .i64 size))) fun t83_110 => BND (grd (isB t76_103 true) (binv .int .gtr t82_109 t83_110)) fun t84_111 =>
          BND (grd (isB t72_100 false) (pickv t76_103 t84_111 (Value.bool false))) fun t85_112 => BND (pickv t72_100 (Value.bool true) t85_112) fun t86_113 => COND t86_113 (R (Value.bool false) w8) (BND (binv .int .add (.int .i64 (many' : Int)) (Value.int .i64 1)) fun t88_114 => BND (binv .int .add (.int .i64 (i : Int)) (Value.int .i64 1)) fun t89_115 => k t88_114 t89_115) := by
      intro last' many' w8 e8 e1 e2 e3 e4 e5 k hk
      subst e8
      subst e1
      have fin := hk (by rw [hrun, e5])
      by_cases hm0 : many' = 0
      · subst hm0
        have ha0 := e2.1 rfl
        rw [ha0] at b7
        (repeat refine gg ?_)
        rw [show (true != true) = false from rfl]
        (repeat refine gg ?_)
        exact fin
      · have ha0 : ¬ x.at_ = 0 := fun h => hm0 (e2.2 h)
        have hm0' : ¬ ((many' : Nat) : Int) = 0 := by omega
        have ha0' : ¬ ((x.at_ : Nat) : Int) = 0 := by omega
        have hmp : (0 : Int) < (many' : Int) := by omega
        have hsz_ : ¬ size < ((x.at_ + x.b.length : Nat) : Int) := by have := e3 (by omega); omega
        (repeat refine gg ?_)
        rw [show (false != false) = false from rfl]
        (repeat refine gg ?_)
        exact fin
    by_cases hb : x.seg = last + 1 ∧ x.at_ = 0
    · have hbump : bump (last, many) x = (x.seg, 0) := by unfold bump; rw [if_pos hb]
      rw [hbump] at g1 g2 g3
      have q1 : ((x.seg : Nat) : Int) = ((last + 1 : Nat) : Int) := by rw [hb.1]
      have q2 : ((x.at_ : Nat) : Int) = 0 := by rw [hb.2]; rfl
      (repeat refine gg ?_)
      refine join_v2 (fun a b w' => a = .int .u64 (x.seg : Int) ∧ b = .int .i64 0 ∧ w' = w7) (fun K hK => ?_) fun a b w8 hq => ?_
      · (repeat refine gg ?_)
        exact hK _ _ _ ⟨rfl, rfl, rfl⟩
      · obtain ⟨rfl, rfl, rfl⟩ := hq
        refine rest x.seg 0 _ rfl rfl g2 (fun h => absurd h (by omega)) (by omega) (by unfold Sg.stepC; rw [hbump]) fun hr => ⟨⟨i + 1, rfl, by omega, by rw [hr], by rw [hr], by rw [hr]; exact hx2, by rw [hr]; simp only; omega, h7⟩, by simp; omega⟩
    · have hbump : bump (last, many) x = (last, many) := by unfold bump; rw [if_neg hb]
      rw [hbump] at g1 g2 g3
      rw [hmost] at g3
      have go : JOIN (fun k : Value → Value → World → Prop => k (.int .u64 (last : Int)) (.int .i64 (many : Int)) w7) = fun k => k (.int .u64 (last : Int)) (.int .i64 (many : Int)) w7 := by funext k; unfold JOIN; rfl
      clear go
      by_cases q1 : x.seg = last + 1
      · exact absurd (g1.symm.trans q1) (by simp only; omega)
      have q1' : ¬ ((x.seg : Nat) : Int) = ((last + 1 : Nat) : Int) := by omega
      (repeat refine gg ?_)
      refine join_v2 (fun a b w' => a = .int .u64 (last : Int) ∧ b = .int .i64 (many : Int) ∧ w' = w7) (fun K hK => ?_) fun a b w8 hq => ?_
      · (repeat refine gg ?_)
        exact hK _ _ _ ⟨rfl, rfl, rfl⟩
      · obtain ⟨rfl, rfl, rfl⟩ := hq
        refine rest last many _ rfl g1 g2 g3 hmany (by unfold Sg.stepC; rw [hbump]) fun hr => ⟨⟨i + 1, rfl, by omega, by rw [hr], by rw [hr], by rw [hr]; exact hlast, by rw [hr]; simp only; omega, h7⟩, by simp; omega⟩
  · have hil : i = ps.length := by omega
    subst hil
    rw [List.take_length]
    have hl1 := M.chain.last
    rw [hl1]
    (repeat refine gg ?_)
    obtain ⟨A4, z4, _, z4A, back4⟩ := At.zoomT h4 (Fr.refl _ _)
    refine sg_End z4 ?_
    have h5 := h4.fr0 (Fr.drew [] w4)
    (repeat refine gg ?_)
    obtain ⟨A5, z5, z5A⟩ := At.zoom h5 2 rfl
    refine dk_Names z5 M.full.inv.wf (by omega) fun w6 v6 G6 z6 s6 g6 f6 => ?_
    obtain ⟨n1, n2⟩ := full_names M.full
    have h6 := z5A _ _ z6
    have f06 := f1.trans' h6.frame
    have h60 := M.full.inv.wf.many _ (now_mem M.full.inv.wf)
    have hnames : ∀ x ∈ s.now.map (·.1), ∃ k, okS k = true ∧ x = sgN k := fun x hx => by
      obtain ⟨y, hy, rfl⟩ := List.mem_map.1 hx
      exact n2 y hy
    (repeat refine gg ?_)
    refine nm_Only (hT.fr f06) (hE.fr f06) 109 (l := s.now.map (·.1)) (show Arr encT 1 w6 v6 (s.now.map (·.1)) from s6.arr) (by rw [List.length_map]; omega) (fun x hx => ?_) fun v7 w7 F7 s7 g7 f7 => ?_
    · obtain ⟨k, hk, rfl⟩ := hnames x hx
      have := (nmB_named (show okN 109 k = true from hk)).2.2
      show (nmB 109 k).size ≤ 300
      omega
    have l7 := s7.len
    rw [ints_len, only_all hnames, List.length_map, n1] at l7
    have esub := sub_u (x := l.seg) (y := seg) hsl (by omega)
    have ecv := ci64 (n := l.seg - seg) (by omega)
    have e8 : l.seg + 1 - seg = l.seg - seg + 1 := by omega
    rw [e8] at l7
    (repeat refine gg ?_)
    exact hR _ (f06.trans' f7)
end
end Go.Proofs.YtofllgbdphakiaaGreatDoor
end

section
namespace Go.Proofs.YtofllgbdphakiaaGreatDoor
open Go.Den Go.Rec Go.RowKit
theorem sg_BackI {w : World} {R : Value → World → Prop} (hT : Tab w) (hE : Errs w) {seg size : Int} (hs : (Lit.int .u64 seg).wf = true) {lv : Value} {rs : List (Int × SV × ByteArray)} (hin : RcsIn w lv rs) (hR : ∀ w', Fr [] w w' → R (.bool true) w') : CALL PR F_tumbrellaw15_SeglogBack [.int .u64 seg, .int .i64 size, lv] w R := by
  obtain ⟨n, rfl, hn⟩ := u64_nat hs
  exact sg_Back hT hE n hn size hin hR
end Go.Proofs.YtofllgbdphakiaaGreatDoor
end

section
namespace Go.Proofs.YtofllgbdphakiaaGreatDoor
open Go.Den Go.Disk Go.Nm Go.Rec Go.Frame Go.Vint Go.Crc Go.Sg Go.Ev
theorem app_mo (s : Dk) (n : ByteArray) (b : List UInt8) : (append s n b).1.dirs.length = s.dirs.length ∧ (append s n b).1.files.length = s.files.length := by
  obtain ⟨h1, h2, _⟩ := can_keep s (appendE s n b.length)
  unfold append
  simp only
  split
  · simp only [setF, List.length_set]; rw [h1, h2]; exact ⟨rfl, rfl⟩
  · rw [h1, h2]; exact ⟨rfl, rfl⟩
theorem lgB_more (s : Dk) (l : Lg) (b : List UInt8) : (lgB s l b).1.dirs.length ≤ s.dirs.length + 1 ∧ (lgB s l b).1.files.length ≤ s.files.length + 1 := by
  have hput : ∀ s' l', (lgPut s' l' b).1.dirs.length = s'.dirs.length ∧ (lgPut s' l' b).1.files.length = s'.files.length := by
    intro s' l'
    unfold lgPut
    split <;> exact app_mo _ _ _
  have htu : (lgTurn s l).1.dirs.length ≤ s.dirs.length + 1 ∧ (lgTurn s l).1.files.length ≤ s.files.length + 1 := by
    have hmo := create_mo s (sgN (l.seg + 1))
    unfold lgTurn
    split
    · split <;> exact hmo
    · simp
  unfold lgB
  split
  · split
    · have := hput (lgTurn s l).1 (lgTurn s l).2.1; omega
    · exact htu
  · have := hput s l; omega
theorem lgAppend_more (s : Dk) (l : Lg) (k : Int) (ns : List Nat) (t : List UInt8) : (lgAppend s l k ns t).1.dirs.length ≤ s.dirs.length + 1 ∧ (lgAppend s l k ns t).1.files.length ≤ s.files.length + 1 := by
  unfold lgAppend
  split
  · exact lgB_more s l _
  · simp
set_option linter.unusedSimpArgs false
set_option linter.unusedVariables false
set_option maxRecDepth 20000
set_option maxHeartbeats 4000000
attribute [local congr] BND_cg COND_cg GEF_cg
attribute [local irreducible] capl slicea load1 loadn iaddr iaddra faddr storev newslice binv lookv mupd mdel mlenv mentry mestore slicev slicev3 slices indexs indexav textv rangev nexts clearv shiftv eqaggv convi buildv pickv lens lenl unv nilchk extractv partn JOIN
section
variable {w : World} {R : Value → World → Prop}
theorem sg_Sure (hT : Tab w) (seg : Nat) (hseg : seg < 18446744073709551616) (size : Int) {lv mv tv : Value} {rs ms : List (Int × SV × ByteArray)} {tails : List Int} (op : Int) (hin : RcsIn w lv rs) (him : RcsIn w mv ms) (ht : Arr encI 1 w tv tails) (hR : ∀ w', Fr [] w w' → R (.bool true) w') :
    CALL PR F_tumbrellaw15_SeglogSure [.int .u64 (seg : Int), .int .i64 size, lv, mv, .int .i64 op, tv] w R := by
  refine C_tumbrellaw15_SeglogSure ?_
  unfold M_tumbrellaw15_SeglogSure
  refine sg_awake hT fun w1 f1 => ?_
  (repeat refine gg ?_)
  have hT1 := hT.fr f1
  have him1 := him.fr f1
  have ht1 := ht.fr f1 (by simp)
  refine sg_full hT1 seg hseg size (hin.fr f1) (fun w2 f2 => ?_) fun w2 d p pv cs s l ps c m hs1000 hmost hpl M => ?_
  · (repeat refine gg ?_)
    exact hR _ (f1.trans' f2)
  have f2 := M.at_.frame
  have hsm := M.full.small
  obtain ⟨hcl, hml⟩ := M.len
  have hlm := him1.arr.len
  have hlt := ht1.len
  by_cases q1 : 50 < ms.length
  · have q1' : (50 : Int) < (ms.length : Int) := by omega
    (repeat refine gg ?_)
    exact hR _ (f1.trans' f2)
  have q1' : ¬ (50 : Int) < (ms.length : Int) := by omega
  by_cases q2 : 100 < tails.length
  · have q2' : (100 : Int) < (tails.length : Int) := by omega
    (repeat refine gg ?_)
    exact hR _ (f1.trans' f2)
  have q2' : ¬ (100 : Int) < (tails.length : Int) := by omega
  (repeat refine gg ?_)
  obtain ⟨A, za, _, zlt, zA, back⟩ := At.zoomT M.at_ (Fr.refl _ _)
  refine sg_Sync (tabS_re hT1 f2 zA) za M.full.inv (by omega) M.full.lg fun w3 z3 => ?_
  obtain ⟨e1, su, sd, sf⟩ := full_sync M.full M.fresh
  have hlg0 := sync_lg (s := s) M.full.lg
  obtain ⟨l1, hl1⟩ : ∃ l1 : Lg, l1 = { l with dirty := l.seg + 1, begun := false } := ⟨_, rfl⟩
  have k1 : l.seg = l1.seg := by rw [hl1]
  have k2 : l.at_ = l1.at_ := by rw [hl1]
  rw [← hl1] at e1 su
  rw [e1] at z3 hlg0 ⊢
  dsimp only at z3 hlg0 ⊢
  have h3 := back _ _ z3
  (repeat refine gg ?_)
  obtain ⟨A3, z3', _, _, _, _⟩ := At.zoomT h3 (Fr.refl _ _)
  refine sg_End z3' ?_
  have h4 := h3.fr0 (Fr.drew [] w3)
  generalize (lgSync s l).1 = s1 at *
  obtain ⟨a, ha⟩ : ∃ a, a = l1.at_ := ⟨_, rfl⟩
  obtain ⟨sg, hsg⟩ : ∃ x, x = l1.seg := ⟨_, rfl⟩
  have hat : a = (segB ps sg).length := by rw [ha, hsg, ← k1, ← k2]; exact M.full.at_
  have hrec := M.full.recs
  have hlo := M.full.lg.lo
  have hhi := M.full.lg.hi
  have hsg1 := M.full.seg
  have hsok := M.full.lg.seg
  rw [k1, k2, ← ha, ← hsg] at su
  rw [k1, ← hsg] at hrec hsg1 hsok
  rw [← ha, ← hsg]
  (repeat refine gg ?_)
  refine loop_up 0 ms.length (fun i w' => ∃ s' l', At w1 [] (stars [slc encPl 5 pv cs, pts p (lgC d l'), diskHP d s']) w' ∧ Sure s' l' seg a sg ps ∧ LgOk l' (175 * c + 175 * i) ∧ s'.dirs.length ≤ m + 2 + i ∧ s'.files.length ≤ m + 1 + i) ⟨s1, _, h4, su, hlg0, by omega, by omega⟩ (by omega) ?_
  rintro i w5 - hi ⟨s', l', h5, su5, lg5, d5, e5⟩ J mm hJ
  have f5 := h5.frame
  by_cases hlt2 : i < ms.length
  · have hx := List.getElem?_eq_getElem hlt2
    have hmem := List.getElem_mem hlt2
    generalize ms[i] = r at hx hmem
    obtain ⟨bb, oo, ia, ln, _, _⟩ := (him1.arr.fr f5 (by simp)).spot hx rfl .i64
    obtain ⟨ns, hns, hsm5⟩ := him1.at_ r hmem
    obtain ⟨k, sv, t⟩ := r
    simp only at hns
    (repeat refine gg ?_)
    refine box_step (n := 3) (zs := [_, _, _]) (vs := encRc (k, sv, t)) rfl rfl (encRc_one _) (by simp [encRc]) fun w7 b7 f7 z7 => ?_
    have e7 := loadn_all' b7 (encRc_len _)
    (repeat refine gg ?_)
    refine r5_Large1 (k, sv, t) fun w8 f8 => ?_
    have b8 := f8.some (by simp) b7
    have e8 := loadn_all' b8 (encRc_len _)
    have f08 := (f5.trans' f7).trans' f8
    cases hlg : largeR (k, sv, t) with
    | true =>
      (repeat refine gg ?_)
      exact hR _ (f1.trans' f08)
    | false =>
      (repeat refine gg ?_)
      obtain ⟨A8, z8, _, zlt8, zA8, back8⟩ := At.zoomT h5 (f7.trans' f8)
      refine sg_Append (tabS_re hT1 f08 zA8) z8 su5.inv (by omega) (by omega) lg5 (by omega) k t (hns.fr f08 (by simp)) hsm5 fun w9 z9 => ?_
      have hm9 := lgAppend_more s' l' k ns t.data.toList
      (repeat refine gg ?_)
      exact hJ _ hlt2 ⟨_, _, back8 _ _ z9, sure_append su5 lg5 k ns t.data.toList, (append_lg lg5 k ns t.data.toList hsm5).more (by omega), by omega, by omega⟩
  · (repeat refine gg ?_)
    obtain ⟨A6, z6, zlt6, zA6, back6⟩ := At.zoom3 h5 (Fr.refl _ _) 2 rfl
    have hT6 := tabS_re hT1 f5 zA6
    refine dk_Crash z6 su5.inv.wf (by omega) op (tails := tails) (fun w' f => ht1.fr (f5.trans f zA6) (by simp)) fun w7 z7 => ?_
    have hic := inv_crash su5.inv op tails
    have hsz7 := hat
    obtain ⟨o1, o2⟩ := sure_crash su5 hsg1 hat hsok (most := size) (by rw [← hmost]; exact ⟨hlo, hhi⟩) hrec op tails
    have hsg10 := okS_iff.1 hsok
    have ha20 : a ≤ 1000000 := by
      have := M.full.lg.at_
      omega
    have hcd : (crash s' op tails).dirs.length < 100000000 := by simp [crash]
    (repeat refine gg ?_)
    refine sg_Open hT6 z7 hic hcd sg a (by omega) (by omega) size fun w8 o ho z8 => ?_
    rw [o1] at ho ⊢
    obtain ⟨p2, rfl⟩ : ∃ p2, o = some (p2, ⟨sg, a, size, sg + 1, false⟩) := by
      cases o with
      | none => cases ho
      | some x => obtain ⟨p2, l2⟩ := x; simp at ho; exact ⟨p2, by rw [ho]⟩
    have hid := inv_lgOpen hic sg a size
    have hod : (lgOpen (crash s' op tails) sg a size).1.dirs.length < 100000000 := by
      have hc1 : ∀ n k, (cut (crash s' op tails) n k).1.dirs.length = (crash s' op tails).dirs.length := by
        intro n k
        obtain ⟨_, h2, _⟩ := can_keep (crash s' op tails) (cutE (crash s' op tails) n k)
        unfold cut
        simp only
        split
        · simp only [setF]; rw [h2]
        · rw [h2]
      unfold lgOpen
      split
      · split
        · split
          · exact hcd
          · split
            · split <;> (rw [hc1]; exact hcd)
            · exact hcd
        · exact hcd
      · exact hcd
    generalize (lgOpen (crash s' op tails) sg a size).1 = s2 at *
    have h8 := (back6 _ _ z8).swap.tail
    have nil := ptr_nilS (d := p2)
    unfold valL
    (repeat refine gg ?_)
    obtain ⟨A8, y8, _, _, _, _⟩ := At.zoomT h8 (Fr.refl _ _)
    refine sg_End (At.unwrap y8) ?_
    (repeat refine gg ?_)
    obtain ⟨A9, y9, ⟨B9, hB9, hd9⟩, ylt9, yA9, yback⟩ := At.zoomT h8 (Fr.drew [] w8)
    have f9 := h8.frame.trans' (Fr.drew [] w8)
    obtain ⟨pa, pp⟩ := places_in M.pls f9 hB9 hd9 yA9
    refine sg_there (tabS_re hT1 f9 yA9) (At.unwrap y9) hid hod pa pp o2 (by omega) fun w10 y10 => ?_
    have f10 := (yback _ [_] (At.wrap y10)).frame
    (repeat refine gg ?_)
    exact hR _ (f1.trans' f10)
end
end Go.Proofs.YtofllgbdphakiaaGreatDoor
end

section
namespace Go.Proofs.YtofllgbdphakiaaGreatDoor
open Go.Den Go.Rec Go.RowKit
theorem sg_SureI {w : World} {R : Value → World → Prop} (hT : Tab w) {seg size op : Int} (hs : (Lit.int .u64 seg).wf = true) {lv mv tv : Value} {rs ms : List (Int × SV × ByteArray)} {tails : List Int} (hin : RcsIn w lv rs) (him : RcsIn w mv ms) (ht : Arr encI 1 w tv tails) (hR : ∀ w', Fr [] w w' → R (.bool true) w') :
    CALL PR F_tumbrellaw15_SeglogSure [.int .u64 seg, .int .i64 size, lv, mv, .int .i64 op, tv] w R := by
  obtain ⟨n, rfl, hn⟩ := u64_nat hs
  exact sg_Sure hT n hn size op hin him ht hR
end Go.Proofs.YtofllgbdphakiaaGreatDoor
end
