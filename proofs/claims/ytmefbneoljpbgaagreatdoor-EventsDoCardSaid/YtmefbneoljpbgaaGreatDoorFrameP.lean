
/- Frames, in plain words. No condition. -/
import Derived.Test.YtmefbneoljpbgaaGreatDoorVint
namespace Go.Frame
open Go.Den Go.Crc
abbrev Fra := UInt8 × List UInt8
def frB (x : Fra) : List UInt8 := putS [x.1, UInt8.ofNat (x.2.length % 256), UInt8.ofNat (x.2.length / 256 % 256)] ++ putS x.2
def sizeOf_ (h : List UInt8) : Nat := (h.getD 1 0).toNat + (h.getD 2 0).toNat * 256
def frRead (b : List UInt8) : Fra × Nat × Int :=
  if b.length < 7 then ((0, []), 0, 3) else
  match cutS (b.take 7) with
  | none => ((0, []), 0, 8)
  | some h => if 400 < sizeOf_ h then ((0, []), 0, 2) else if b.length < 11 + sizeOf_ h then ((0, []), 0, 3) else
    match cutS ((b.take (11 + sizeOf_ h)).drop 7) with
    | none => ((0, []), 0, 8)
    | some body => ((h.getD 0 0, body), 11 + sizeOf_ h, 0)
theorem frB_len (x : Fra) : (frB x).length = 11 + x.2.length := by
  unfold frB; rw [List.length_append, putS_len, putS_len]; simp; omega
theorem read_frB (x : Fra) (h : x.2.length ≤ 400) (r : List UInt8) : frRead (frB x ++ r) = (x, 11 + x.2.length, 0) := by
  unfold frRead
  rw [List.length_append, frB_len, if_neg (by omega)]
  have hp : (putS [x.1, UInt8.ofNat (x.2.length % 256), UInt8.ofNat (x.2.length / 256 % 256)]).length = 7 := by rw [putS_len]; rfl
  have e1 : (frB x ++ r).take 7 = putS [x.1, UInt8.ofNat (x.2.length % 256), UInt8.ofNat (x.2.length / 256 % 256)] := by
    unfold frB
    rw [List.append_assoc, List.take_append_of_le_length (by omega), List.take_of_length_le (by omega)]
  have es : sizeOf_ [x.1, UInt8.ofNat (x.2.length % 256), UInt8.ofNat (x.2.length / 256 % 256)] = x.2.length := by
    unfold sizeOf_
    simp only [List.getD_cons_succ, List.getD_cons_zero]
    rw [UInt8.toNat_ofNat', UInt8.toNat_ofNat']
    omega
  have e2 : ((frB x ++ r).take (11 + x.2.length)).drop 7 = putS x.2 := by
    rw [List.take_append_of_le_length (by rw [frB_len]; omega), List.take_of_length_le (by rw [frB_len]; omega)]
    unfold frB
    rw [List.drop_append_of_le_length (by omega), List.drop_of_length_le (by omega), List.nil_append]
  rw [e1, cut_put]
  simp only
  rw [es, if_neg (by omega), if_neg (by omega), e2, cut_put]
  rfl
theorem cut_len {b c : List UInt8} (h : cutS b = some c) : b.length = c.length + 4 := by
  unfold cutS at h
  split at h
  · cases h
  · split at h
    · cases h; rw [List.length_take]; omega
    · cases h
theorem read_ok {b : List UInt8} (h : (frRead b).2.2 = 0) : 11 ≤ (frRead b).2.1 ∧ (frRead b).2.1 ≤ b.length ∧ (frRead b).1.2.length + 11 = (frRead b).2.1 ∧ (frRead b).1.2.length ≤ 400 := by
  unfold frRead at h ⊢
  split at h
  · simp at h
  · rename_i h7
    rw [if_neg h7]
    split at h
    · simp at h
    · rename_i hh hc
      split at h
      · simp at h
      · rename_i h4
        split at h
        · simp at h
        · rename_i h5
          split at h
          · simp at h
          · rename_i body hb
            have := cut_len hb
            rw [List.length_drop, List.length_take] at this
            simp only [hc, h4, h5, hb, if_false]
            omega
def frAll (b : List UInt8) (at_ : Nat) : List Fra × Nat × Int :=
  if _ : b = [] then ([], at_, 0) else if _ : (frRead b).2.2 = 0 then
    let q := frAll (b.drop (frRead b).2.1) (at_ + (frRead b).2.1)
    ((frRead b).1 :: q.1, q.2)
  else ([], at_, (frRead b).2.2)
termination_by b.length
decreasing_by
  rename_i h1 h2
  have := read_ok h2
  rw [List.length_drop]
  omega
theorem frAll_nil (k : Nat) : frAll [] k = ([], k, 0) := by rw [frAll]; simp
theorem frAll_ok {b : List UInt8} (k : Nat) (h1 : b ≠ []) (h2 : (frRead b).2.2 = 0) : frAll b k = ((frRead b).1 :: (frAll (b.drop (frRead b).2.1) (k + (frRead b).2.1)).1, (frAll (b.drop (frRead b).2.1) (k + (frRead b).2.1)).2) := by
  rw [frAll]; simp [h1, h2]
theorem frAll_bad {b : List UInt8} (k : Nat) (h1 : b ≠ []) (h2 : (frRead b).2.2 ≠ 0) : frAll b k = ([], k, (frRead b).2.2) := by
  rw [frAll]; simp [h1, h2]
theorem frAll_cons (x : Fra) (h : x.2.length ≤ 400) (r : List UInt8) (k : Nat) : frAll (frB x ++ r) k = (x :: (frAll r (k + (11 + x.2.length))).1, (frAll r (k + (11 + x.2.length))).2) := by
  have hr := read_frB x h r
  have hne : frB x ++ r ≠ [] := by
    intro e
    have := congrArg List.length e
    rw [List.length_append, frB_len] at this
    simp at this
  rw [frAll_ok k hne (by rw [hr]), hr]
  have : (frB x ++ r).drop (11 + x.2.length) = r := by rw [← frB_len x, List.drop_left]
  simp only [this]
theorem frAll_small : ∀ (n : Nat) (b : List UInt8) (k : Nat), b.length = n → ∀ x ∈ (frAll b k).1, x.2.length ≤ 400 := by
  intro n
  induction n using Nat.strongRecOn with
  | _ n ih =>
    intro b k hb x hx
    by_cases h1 : b = []
    · subst h1; rw [frAll_nil] at hx; simp at hx
    · by_cases h2 : (frRead b).2.2 = 0
      · rw [frAll_ok k h1 h2] at hx
        have hok := read_ok h2
        rcases List.mem_cons.1 hx with rfl | hx
        · omega
        · exact ih _ (by rw [List.length_drop]; omega) _ _ rfl x hx
      · rw [frAll_bad k h1 h2] at hx; simp at hx
/-! ## The words of numbers -/
theorem ofI64 {y : Nat} (h : y < 18446744073709551616) : (BitVec.ofInt 64 (y : Int)).toNat = y := by
  rw [BitVec.toNat_ofInt]
  omega
theorem and255 {n : Nat} (h : n < 9223372036854775808) : binv .int .and (.int .i64 (n : Int)) (.int .i64 255) = some (.int .i64 ((n % 256 : Nat) : Int)) := by
  show some (Value.int .i64 (IntKind.i64.wrap ((BitVec.ofInt 64 (n : Int) &&& BitVec.ofInt 64 255).toNat : Int))) = _
  have e1 : (BitVec.ofInt 64 (n : Int)).toNat = n := ofI64 (by omega)
  have e2 : (BitVec.ofInt 64 255).toNat = 2 ^ 8 - 1 := by decide
  rw [BitVec.toNat_and, e1, e2, Nat.and_two_pow_sub_one_eq_mod, wrap_i64 (by omega) (by omega)]
theorem shr8 (n : Nat) : shiftv .shr (.int .i64 (n : Int)) (.int .u64 8) = some (.int .i64 ((n / 256 : Nat) : Int)) := by
  simp only [shiftv]
  rw [if_pos (by omega)]
  congr 2
  have : min (Int.toNat 8) IntKind.i64.bits = 8 := by decide
  rw [this, Int.fdiv_eq_ediv_of_nonneg _ (by decide)]
  norm_cast
theorem conv8i (m : Nat) : convi .u8 (.int .i64 (m : Int)) = some (.int .u8 ((m % 256 : Nat) : Int)) := by
  simp only [convi]; rw [wrap_u8]
theorem convi64 {k : IntKind} {x : Nat} (h : x < 9223372036854775808) : convi .i64 (.int k (x : Int)) = some (.int .i64 (x : Int)) := by
  simp only [convi]; rw [wrap_i64 (by omega) (by omega)]
theorem shl8 {x : Nat} (h : x < 256) : shiftv .shl (.int .i64 (x : Int)) (.int .u64 8) = some (.int .i64 ((x * 256 : Nat) : Int)) := by
  simp only [shiftv]
  rw [if_pos (by omega)]
  have e : min (Int.toNat 8) IntKind.i64.bits = 8 := by decide
  rw [e, show (x : Int) * 2 ^ 8 = ((x * 256 : Nat) : Int) by rw [Int.natCast_mul]; rfl, wrap_i64 (by omega) (by omega)]
theorem or256 {n x : Nat} (hn : n < 256) (hx : x < 256) : binv .int .or (.int .i64 (n : Int)) (.int .i64 ((x * 256 : Nat) : Int)) = some (.int .i64 ((n + x * 256 : Nat) : Int)) := by
  show some (Value.int .i64 (IntKind.i64.wrap ((BitVec.ofInt 64 (n : Int) ||| BitVec.ofInt 64 ((x * 256 : Nat) : Int)).toNat : Int))) = _
  have e1 : ∀ y : Nat, y < 9223372036854775808 → (BitVec.ofInt 64 (y : Int)).toNat = y := fun y hy => ofI64 (by omega)
  rw [BitVec.toNat_or, e1 n (by omega), e1 _ (by omega)]
  have e2 : n ||| x * 256 = n + x * 256 := by
    rw [Nat.or_comm, Nat.mul_comm, show 256 = 2 ^ 8 from rfl, ← Nat.two_pow_add_eq_or_of_lt (i := 8) hn]; omega
  rw [e2, wrap_i64 (by omega) (by omega)]
end Go.Frame
