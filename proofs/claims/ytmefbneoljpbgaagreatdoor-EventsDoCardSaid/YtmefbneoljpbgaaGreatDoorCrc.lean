
/- Sums of 32 bits, in plain words. No condition. -/
import Derived.Test.YtmefbneoljpbgaaGreatDoorGb
namespace Go.Crc
open Go.Den
def poly : BitVec 32 := 2197175160#32
def stepC (s : BitVec 32) : BitVec 32 := if (s &&& 1#32) = 1#32 then (s >>> 1) ^^^ poly else s >>> 1
def iterC : Nat → BitVec 32 → BitVec 32
  | 0, s => s
  | n + 1, s => stepC (iterC n s)
def ent (s : BitVec 32) : BitVec 32 := iterC 8 s
def idxC (s : BitVec 32) (c : UInt8) : BitVec 8 := s.setWidth 8 ^^^ c.toBitVec
def byteC (s : BitVec 32) (c : UInt8) : BitVec 32 := (s >>> 8) ^^^ ent ((idxC s c).setWidth 32)
def crcU (s : BitVec 32) (b : List UInt8) : BitVec 32 := b.foldl byteC s
def crcOf (b : List UInt8) : BitVec 32 := ~~~ crcU (~~~ 0#32) b
def low8 (n : BitVec 32) : UInt8 := UInt8.ofBitVec (n.setWidth 8)
def four (n : BitVec 32) : List UInt8 := [low8 n, low8 (n >>> 8), low8 (n >>> 16), low8 (n >>> 24)]
def putS (b : List UInt8) : List UInt8 := b ++ four (crcOf b)
def cutS (b : List UInt8) : Option (List UInt8) := if b.length < 4 then none else if b.drop (b.length - 4) = four (crcOf (b.take (b.length - 4))) then some (b.take (b.length - 4)) else none
theorem four_len (n : BitVec 32) : (four n).length = 4 := rfl
theorem putS_len (b : List UInt8) : (putS b).length = b.length + 4 := by unfold putS; rw [List.length_append, four_len]
theorem cut_put (b : List UInt8) : cutS (putS b) = some b := by
  unfold cutS
  rw [if_neg (by rw [putS_len]; omega), putS_len]
  have e1 : (putS b).take (b.length + 4 - 4) = b := by unfold putS; simp
  have e2 : (putS b).drop (b.length + 4 - 4) = four (crcOf b) := by unfold putS; simp
  rw [e1, e2, if_pos rfl]
/-! ## The words of numbers -/
theorem wrap_u32 {n : Nat} (h : n < 4294967296) : IntKind.u32.wrap (n : Int) = (n : Int) := by
  simp only [IntKind.wrap, IntKind.bits, IntKind.signed]
  simp
  omega
theorem wrap_u8 (n : Nat) : IntKind.u8.wrap (n : Int) = ((n % 256 : Nat) : Int) := by
  simp only [IntKind.wrap, IntKind.bits, IntKind.signed]
  simp
theorem ofInt_toNat (k : Nat) (x : BitVec k) : BitVec.ofInt k (x.toNat : Int) = x := by
  apply BitVec.eq_of_toNat_eq
  simp
theorem xor32 (a b : BitVec 32) : binv .int .xor (.int .u32 (a.toNat : Int)) (.int .u32 (b.toNat : Int)) = some (.int .u32 ((a ^^^ b).toNat : Int)) := by
  show some (Value.int .u32 (IntKind.u32.wrap ((BitVec.ofInt 32 (a.toNat : Int) ^^^ BitVec.ofInt 32 (b.toNat : Int)).toNat : Int))) = _
  rw [ofInt_toNat, ofInt_toNat, wrap_u32 (BitVec.isLt _)]
theorem and32 (a b : BitVec 32) : binv .int .and (.int .u32 (a.toNat : Int)) (.int .u32 (b.toNat : Int)) = some (.int .u32 ((a &&& b).toNat : Int)) := by
  show some (Value.int .u32 (IntKind.u32.wrap ((BitVec.ofInt 32 (a.toNat : Int) &&& BitVec.ofInt 32 (b.toNat : Int)).toNat : Int))) = _
  rw [ofInt_toNat, ofInt_toNat, wrap_u32 (BitVec.isLt _)]
theorem not32 (a : BitVec 32) : unv .xor (.int .u32 (a.toNat : Int)) = some (.int .u32 ((~~~ a).toNat : Int)) := by
  show some (Value.int .u32 (IntKind.u32.wrap ((BitVec.ofInt 32 4294967295 ^^^ BitVec.ofInt 32 (a.toNat : Int)).toNat : Int))) = _
  rw [ofInt_toNat, wrap_u32 (BitVec.isLt _)]
  congr 3
theorem shr32 (a : BitVec 32) (k : Nat) (h : k ≤ 32) : shiftv .shr (.int .u32 (a.toNat : Int)) (.int .u64 (k : Int)) = some (.int .u32 ((a >>> k).toNat : Int)) := by
  simp only [shiftv]
  rw [if_pos (by omega)]
  have : min (k : Int).toNat IntKind.u32.bits = k := by simp [IntKind.bits]; omega
  rw [this, BitVec.toNat_ushiftRight, Nat.shiftRight_eq_div_pow]
  congr 2
  rw [Int.fdiv_eq_ediv_of_nonneg _ (by exact_mod_cast Nat.zero_le _)]
  norm_cast
theorem conv8 (a : BitVec 32) : convi .u8 (.int .u32 (a.toNat : Int)) = some (.int .u8 ((low8 a).toNat : Int)) := by
  simp only [convi]
  rw [wrap_u8]
  congr 2
theorem xor8 (a b : UInt8) : binv .int .xor (.int .u8 (a.toNat : Int)) (.int .u8 (b.toNat : Int)) = some (.int .u8 ((a.toBitVec ^^^ b.toBitVec).toNat : Int)) := by
  show some (Value.int .u8 (IntKind.u8.wrap ((BitVec.ofInt 8 (a.toBitVec.toNat : Int) ^^^ BitVec.ofInt 8 (b.toBitVec.toNat : Int)).toNat : Int))) = _
  rw [ofInt_toNat, ofInt_toNat, wrap_u8, Nat.mod_eq_of_lt (BitVec.isLt _)]
end Go.Crc
