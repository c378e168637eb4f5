
/- Rows with sums of which up to 32 bits, one behind the other, are turned. No condition. -/
import Derived.Test.YtmefbneoljpbgaaGreatDoorCrcBurst
set_option linter.unusedSimpArgs false
set_option linter.unusedVariables false
namespace Go.Crc
open Go.Den
theorem crc_append (s : BitVec 32) (a b : List UInt8) : crcU s (a ++ b) = crcU (crcU s a) b := by unfold crcU; rw [List.foldl_append]
theorem four_xor (a b : BitVec 32) : four (a ^^^ b) = List.zipWith (· ^^^ ·) (four a) (four b) := by
  have h : ∀ x y : BitVec 32, low8 (x ^^^ y) = low8 x ^^^ low8 y := fun x y => by
    unfold low8
    rw [BitVec.setWidth_xor]; rfl
  unfold four
  simp only [BitVec.ushiftRight_xor_distrib, h, List.zipWith_cons_cons, List.zipWith_nil_right]
theorem up_zero : up 0 = 0#32 := by decide
theorem crc_four (s t : BitVec 32) : crcU s (four t) = iterC 32 (s ^^^ t) := by
  rw [crc_lin]
  have h1 := lin_two [0, 0, 0, 0] (four t) s 0#32 rfl
  have e0 : List.zipWith (· ^^^ ·) [(0 : UInt8), 0, 0, 0] (four t) = four t := by
    unfold four
    simp
  rw [e0, BitVec.xor_zero] at h1
  rw [← h1, iter_xor]
  have e1 : linB s [0, 0, 0, 0] = iterC 32 s := by
    show iterC 8 (iterC 8 (iterC 8 (iterC 8 (s ^^^ up 0) ^^^ up 0) ^^^ up 0) ^^^ up 0) = _
    rw [up_zero]
    simp only [BitVec.xor_zero]
    rw [← iter_add, ← iter_add, ← iter_add]
  rw [e1]
  congr 1
  refine lin_eq (f := fun t => linB 0#32 (four t)) (g := iterC 32) ⟨fun a b => ?_⟩ (iter_lin 32) (by decide +kernel) t
  rw [four_xor, lin_two (four a) (four b) 0#32 0#32 rfl, BitVec.xor_zero]
theorem valid_crc {q : List UInt8} (h : (cutS q).isSome = true) : crcU (~~~ 0#32) q = iterC 32 (~~~ 0#32) := by
  unfold cutS at h
  split at h
  · cases h
  · split at h
    · rename_i h4 he
      have e : q = q.take (q.length - 4) ++ q.drop (q.length - 4) := (List.take_append_drop _ _).symm
      rw [he] at e
      conv => lhs; rw [e]
      rw [crc_append, crc_four]
      congr 1
      unfold crcOf
      generalize crcU (~~~ 0#32) (q.take (q.length - 4)) = S
      apply BitVec.eq_of_getLsbD_eq
      intro i hi
      rw [BitVec.getLsbD_xor, BitVec.getLsbD_not, BitVec.getLsbD_not, BitVec.getLsbD_zero]
      cases S.getLsbD i <;> simp [hi]
    · cases h
/-- is a bit another one? -/
def bitD (p q : List UInt8) (i : Nat) : Bool := (p.getD (i / 8) 0 ^^^ q.getD (i / 8) 0).toBitVec.getLsbD (i % 8)
def Burst (p q : List UInt8) (a : Int) : Prop := p.length = q.length ∧ ∀ i : Nat, bitD p q i = true → a ≤ i ∧ (i : Int) < a + 32
theorem zip_getD : ∀ (p q : List UInt8) (i : Nat), p.length = q.length → (List.zipWith (· ^^^ ·) p q).getD i 0 = p.getD i 0 ^^^ q.getD i 0
  | [], [], i, _ => by simp
  | [], _ :: _, _, h => by simp at h
  | _ :: _, [], _, h => by simp at h
  | a :: p, b :: q, 0, _ => by simp
  | a :: p, b :: q, i + 1, h => by simpa using zip_getD p q i (by simpa using h)
theorem bits_get : ∀ (D : List UInt8) (i : Nat), (D.flatMap bits8).getD i false = (D.getD (i / 8) 0).toBitVec.getLsbD (i % 8)
  | [], i => by simp
  | d :: D, i => by
    simp only [List.flatMap_cons]
    have hl : (bits8 d).length = 8 := by simp [bits8]
    by_cases h : i < 8
    · rw [List.getD_eq_getElem?_getD, List.getElem?_append_left (by omega), Nat.div_eq_of_lt h, Nat.mod_eq_of_lt h]
      simp [bits8, h]
    · rw [List.getD_eq_getElem?_getD, List.getElem?_append_right (by omega), hl, ← List.getD_eq_getElem?_getD, bits_get D (i - 8)]
      rw [show i / 8 = (i - 8) / 8 + 1 by omega, show i % 8 = (i - 8) % 8 by omega]
      simp
theorem ext_bits {p q : List UInt8} (hl : p.length = q.length) (h : ∀ i, bitD p q i = false) : p = q := by
  apply List.ext_getElem hl
  intro j h1 h2
  have hz : p.getD j 0 ^^^ q.getD j 0 = 0 := by
    apply UInt8.eq_of_toBitVec_eq
    apply BitVec.eq_of_getLsbD_eq
    intro k hk
    have := h (8 * j + k)
    unfold bitD at this
    rw [show (8 * j + k) / 8 = j by omega, show (8 * j + k) % 8 = k by omega] at this
    rw [this]; simp
  rw [List.getD_eq_getElem?_getD, List.getElem?_eq_getElem h1, List.getD_eq_getElem?_getD, List.getElem?_eq_getElem h2] at hz
  simp only [Option.getD_some] at hz
  have hz2 := congrArg (fun x => x ^^^ q[j]) hz
  simpa [UInt8.xor_assoc] using hz2
/-- of two rows of one length that both have their sums, no more than 32 bits apart, each is the other one. -/
theorem no_burst {p q : List UInt8} {a : Int} (hp : (cutS p).isSome = true) (hq : (cutS q).isSome = true) (h : Burst p q a) : p = q := by
  obtain ⟨hl, hb⟩ := h
  have h1 := valid_crc hp
  have h2 := valid_crc hq
  rw [crc_lin] at h1 h2
  have h3 := lin_two p q (~~~ 0#32) (~~~ 0#32) hl
  rw [h1, h2, BitVec.xor_self, BitVec.xor_self, lin_bits] at h3
  have h4 := burst (a := a.toNat) (fun i hi => by
    rw [bits_get, zip_getD _ _ _ hl] at hi
    have := hb i hi
    omega) h3.symm
  refine ext_bits hl fun i => ?_
  have := h4 i
  rw [bits_get, zip_getD _ _ _ hl] at this
  exact this
theorem Burst.take {p q : List UInt8} {a : Int} (h : Burst p q a) (n : Nat) : Burst (p.take n) (q.take n) a := by
  obtain ⟨hl, hb⟩ := h
  refine ⟨by rw [List.length_take, List.length_take, hl], fun i hi => hb i ?_⟩
  unfold bitD at hi ⊢
  by_cases hn : i / 8 < n
  · simp only [List.getD_eq_getElem?_getD, List.getElem?_take_of_lt hn] at hi ⊢
    exact hi
  · have e : ∀ l : List UInt8, (l.take n).getD (i / 8) 0 = 0 := fun l => by
      rw [List.getD_eq_getElem?_getD, List.getElem?_eq_none (by rw [List.length_take]; omega)]; rfl
    rw [e, e] at hi
    simp at hi
theorem Burst.drop {p q : List UInt8} {a : Int} (h : Burst p q a) (n : Nat) : Burst (p.drop n) (q.drop n) (a - 8 * n) := by
  obtain ⟨hl, hb⟩ := h
  refine ⟨by rw [List.length_drop, List.length_drop, hl], fun i hi => ?_⟩
  have := hb (i + 8 * n) (by
    unfold bitD at hi ⊢
    simp only [List.getD_eq_getElem?_getD, List.getElem?_drop] at hi ⊢
    rw [show (i + 8 * n) / 8 = n + i / 8 by omega, show (i + 8 * n) % 8 = i % 8 by omega]
    exact hi)
  omega
end Go.Crc
