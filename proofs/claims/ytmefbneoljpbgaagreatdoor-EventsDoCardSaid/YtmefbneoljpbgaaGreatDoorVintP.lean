
/- Numbers of few bytes, in plain words. No condition. -/
import Derived.Test.YtmefbneoljpbgaaGreatDoorCrc
namespace Go.Vint
open Go.Den
def layV (n : Nat) : List UInt8 := if h : n < 128 then [UInt8.ofNat n] else UInt8.ofNat (n % 128 + 128) :: layV (n / 128)
termination_by n
decreasing_by omega
theorem layV_lt {n : Nat} (h : n < 128) : layV n = [UInt8.ofNat n] := by rw [layV]; simp [h]
theorem layV_ge {n : Nat} (h : ¬ n < 128) : layV n = UInt8.ofNat (n % 128 + 128) :: layV (n / 128) := by rw [layV]; simp [h]
def getL : List UInt8 → Nat → Nat → Nat × Nat × Int
  | [], _, _ => (0, 0, 3)
  | c :: r, i, n => if i = 9 ∧ 1 < c.toNat then (0, 0, 2) else
    if 128 ≤ c.toNat then getL r (i + 1) (n + c.toNat % 128 * 2 ^ (7 * i)) else if c.toNat = 0 ∧ 0 < i then (0, 0, 2) else (n + c.toNat % 128 * 2 ^ (7 * i), i + 1, 0)
def getV (b : List UInt8) : Nat × Nat × Int := getL b 0 0
theorem ofNat_toNat {n : Nat} (h : n < 256) : (UInt8.ofNat n).toNat = n := by rw [UInt8.toNat_ofNat']; omega
theorem layV_len : ∀ (i n : Nat), n < 2 ^ (7 * i) → 0 < i → (layV n).length ≤ i
  | 0, _, _, h => by omega
  | i + 1, n, h, _ => by
    by_cases hn : n < 128
    · rw [layV_lt hn]; simp
    · rw [layV_ge hn]
      have h2 : n / 128 < 2 ^ (7 * i) := by
        rw [Nat.div_lt_iff_lt_mul (by omega)]
        have : 2 ^ (7 * (i + 1)) = 2 ^ (7 * i) * 128 := by rw [Nat.mul_add, Nat.pow_add]
        omega
      have hi : 0 < i := by
        rcases Nat.eq_zero_or_pos i with h0 | h0
        · subst h0; simp at h2; omega
        · exact h0
      have := layV_len i (n / 128) h2 hi
      simp; omega
theorem layV_le (n : Nat) (h : n < 18446744073709551616) : (layV n).length ≤ 10 := layV_len 10 n (by omega) (by omega)
theorem layV_pos (n : Nat) : 0 < (layV n).length := by
  by_cases hn : n < 128
  · rw [layV_lt hn]; simp
  · rw [layV_ge hn]; simp
theorem get_lay : ∀ (m i n : Nat) (r : List UInt8), n * 2 ^ (7 * i) < 18446744073709551616 → (0 < i → 0 < n) → getL (layV n ++ r) i m = (m + n * 2 ^ (7 * i), i + (layV n).length, 0) := by
  intro m i n
  induction n using Nat.strongRecOn generalizing m i with
  | _ n ih =>
    intro r hb hp
    have h9 : i = 9 → n < 2 := fun h => by subst h; omega
    by_cases hn : n < 128
    · rw [layV_lt hn]
      simp only [List.cons_append, List.nil_append, getL]
      rw [ofNat_toNat (by omega), if_neg (by omega), if_neg (by omega), if_neg (by omega), Nat.mod_eq_of_lt hn]
      simp
    · rw [layV_ge hn]
      simp only [List.cons_append, getL]
      rw [ofNat_toNat (by omega), if_neg (by omega), if_pos (by omega)]
      have e : (n % 128 + 128) % 128 = n % 128 := by omega
      have hp2 : 2 ^ (7 * (i + 1)) = 2 ^ (7 * i) * 128 := by rw [Nat.mul_add, Nat.pow_add]
      have hle : n / 128 * 2 ^ (7 * (i + 1)) ≤ n * 2 ^ (7 * i) := by
        rw [hp2, ← Nat.mul_assoc, Nat.mul_right_comm]
        exact Nat.mul_le_mul_right _ (by omega)
      rw [e, ih (n / 128) (by omega) (m + n % 128 * 2 ^ (7 * i)) (i + 1) r (by omega) (fun _ => by omega)]
      have hsum : n % 128 * 2 ^ (7 * i) + n / 128 * 2 ^ (7 * (i + 1)) = n * 2 ^ (7 * i) := by
        rw [hp2, ← Nat.mul_assoc, Nat.mul_right_comm, ← Nat.add_mul]
        congr 1; omega
      simp only [List.length_cons, Prod.mk.injEq, and_true]
      omega
theorem get_put (n : Nat) (h : n < 18446744073709551616) (r : List UInt8) : getV (layV n ++ r) = (n, (layV n).length, 0) := by
  unfold getV
  rw [get_lay 0 0 n r (by simpa using h) (by omega)]
  simp
theorem getL_used : ∀ (b : List UInt8) (i n : Nat), (getL b i n).2.2 = 0 → i < (getL b i n).2.1 ∧ (getL b i n).2.1 ≤ i + b.length
  | [], _, _, h => by simp [getL] at h
  | c :: r, i, n, h => by
    simp only [getL] at h ⊢
    split at h
    · simp at h
    · rename_i h1
      rw [if_neg h1]
      split at h
      · rename_i h2
        rw [if_pos h2]
        have := getL_used r (i + 1) _ h
        simp only [List.length_cons]; omega
      · rename_i h2
        rw [if_neg h2]
        split at h
        · simp at h
        · rename_i h3
          rw [if_neg h3]
          simp
theorem getL_small : ∀ (b : List UInt8) (i n : Nat), n < 2 ^ (7 * i) → i ≤ 9 → (getL b i n).1 < 18446744073709551616
  | [], _, _, _, _ => by simp [getL]
  | c :: r, i, n, h, hi => by
    have hc := c.toNat_lt
    have hp2 : 2 ^ (7 * (i + 1)) = 2 ^ (7 * i) * 128 := by rw [Nat.mul_add, Nat.pow_add]
    have hm : c.toNat % 128 * 2 ^ (7 * i) ≤ 127 * 2 ^ (7 * i) := Nat.mul_le_mul_right _ (by omega)
    simp only [getL]
    split
    · simp
    · split
      · exact getL_small r (i + 1) _ (by omega) (by omega)
      · split
        · simp
        · simp only
          by_cases h9 : i = 9
          · subst h9
            have : c.toNat % 128 ≤ 1 := by omega
            have := Nat.mul_le_mul_right (2 ^ (7 * 9)) this
            omega
          · have h8 : i ≤ 8 := by omega
            have : 2 ^ (7 * i) ≤ 2 ^ (7 * 8) := Nat.pow_le_pow_right (by omega) (by omega)
            omega
/-! ## The words of numbers -/
theorem conv8n (m : Nat) : convi .u8 (.int .u64 (m : Int)) = some (.int .u8 ((m % 256 : Nat) : Int)) := by
  simp only [convi]; rw [Go.Crc.wrap_u8]
theorem or8 {x : Nat} (h : x < 256) : binv .int .or (.int .u8 (x : Int)) (.int .u8 128) = some (.int .u8 ((x % 128 + 128 : Nat) : Int)) := by
  have key : ∀ x : Fin 256, (BitVec.ofNat 8 x.val ||| 128#8).toNat = x.val % 128 + 128 := by decide +kernel
  show some (Value.int .u8 (IntKind.u8.wrap ((BitVec.ofInt 8 (x : Int) ||| BitVec.ofInt 8 128).toNat : Int))) = _
  have e1 : BitVec.ofInt 8 (x : Int) = BitVec.ofNat 8 x := by apply BitVec.eq_of_toNat_eq; simp
  have e2 : BitVec.ofInt 8 128 = 128#8 := by rfl
  rw [e1, e2, key ⟨x, h⟩, Go.Crc.wrap_u8]
  congr 3
  show (x % 128 + 128) % 256 = x % 128 + 128
  omega
theorem shr7 (m : Nat) : shiftv .shr (.int .u64 (m : Int)) (.int .u64 7) = some (.int .u64 ((m / 128 : Nat) : Int)) := by
  simp only [shiftv]
  rw [if_pos (by omega)]
  congr 2
  have : min (Int.toNat 7) IntKind.u64.bits = 7 := by decide
  rw [this, Int.fdiv_eq_ediv_of_nonneg _ (by decide)]
  norm_cast
theorem rem128 (c : UInt8) : binv .int .rem (.int .u8 (c.toNat : Int)) (.int .u8 128) = some (.int .u8 ((c.toNat % 128 : Nat) : Int)) := by
  show (if (128 : Int) = 0 then none else some (Value.int .u8 ((c.toNat : Int).tmod 128))) = _
  rw [if_neg (by omega)]
  congr 2
theorem convu64 {k : IntKind} {x : Nat} (h : x < 18446744073709551616) : convi .u64 (.int k (x : Int)) = some (.int .u64 (x : Int)) := by
  simp only [convi]; rw [wrap_u64 (by omega) (by omega)]
theorem shl7 {x i : Nat} (h : x * 2 ^ (7 * i) < 18446744073709551616) (hi : i ≤ 9) : shiftv .shl (.int .u64 (x : Int)) (.int .i64 ((7 * i : Nat) : Int)) = some (.int .u64 ((x * 2 ^ (7 * i) : Nat) : Int)) := by
  simp only [shiftv]
  rw [if_pos (by omega)]
  have e : min ((7 * i : Nat) : Int).toNat IntKind.u64.bits = 7 * i := by simp [IntKind.bits]; omega
  rw [e, show (x : Int) * 2 ^ (7 * i) = ((x * 2 ^ (7 * i) : Nat) : Int) by push_cast; rfl, wrap_u64 (by omega) (by omega)]
theorem or64 {n x i : Nat} (hn : n < 2 ^ i) (h : n + x * 2 ^ i < 18446744073709551616) : binv .int .or (.int .u64 (n : Int)) (.int .u64 ((x * 2 ^ i : Nat) : Int)) = some (.int .u64 ((n + x * 2 ^ i : Nat) : Int)) := by
  show some (Value.int .u64 (IntKind.u64.wrap ((BitVec.ofInt 64 (n : Int) ||| BitVec.ofInt 64 ((x * 2 ^ i : Nat) : Int)).toNat : Int))) = _
  have e1 : ∀ y : Nat, y < 18446744073709551616 → (BitVec.ofInt 64 (y : Int)).toNat = y := fun y hy => by simp; omega
  rw [BitVec.toNat_or, e1 n (by omega), e1 _ (by omega)]
  have e2 : n ||| x * 2 ^ i = n + x * 2 ^ i := by
    rw [Nat.or_comm, Nat.mul_comm, ← Nat.two_pow_add_eq_or_of_lt hn]; omega
  rw [e2, wrap_u64 (by omega) (by omega)]
end Go.Vint
