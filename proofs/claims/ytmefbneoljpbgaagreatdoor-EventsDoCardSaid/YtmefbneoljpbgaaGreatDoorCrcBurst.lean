
/- Where up to 32 bits, one behind the other, are turned, a sum tells so. No condition. -/
import Derived.Test.YtmefbneoljpbgaaGreatDoorCrc
set_option linter.unusedSimpArgs false
set_option linter.unusedVariables false
namespace Go.Crc
open Go.Den
theorem xlc (a b c : BitVec 32) : a ^^^ (b ^^^ c) = b ^^^ (a ^^^ c) := by rw [← BitVec.xor_assoc, BitVec.xor_comm a b, BitVec.xor_assoc]
theorem step_xor (a b : BitVec 32) : stepC (a ^^^ b) = stepC a ^^^ stepC b := by
  have hbit : ∀ x : BitVec 32, (x &&& 1#32 = 1#32) ↔ x.getLsbD 0 = true := fun x => by
    constructor
    · intro h
      have := congrArg (fun y : BitVec 32 => y.getLsbD 0) h
      simpa using this
    · intro h
      apply BitVec.eq_of_getLsbD_eq
      intro i hi
      rw [BitVec.getLsbD_and]
      by_cases h0 : i = 0
      · subst h0; rw [h]; rfl
      · have : (1#32).getLsbD i = false := by
          rw [BitVec.getLsbD_one]; simp [h0]
        rw [this]; simp
  have hs : ∀ x : BitVec 32, stepC x = (x >>> 1) ^^^ (if x.getLsbD 0 = true then poly else 0#32) := fun x => by
    unfold stepC
    by_cases h : x &&& 1#32 = 1#32
    · rw [if_pos h, if_pos ((hbit x).1 h)]
    · rw [if_neg h, if_neg (fun hh => h ((hbit x).2 hh)), BitVec.xor_zero]
  rw [hs, hs, hs, BitVec.ushiftRight_xor_distrib, BitVec.getLsbD_xor]
  cases a.getLsbD 0 <;> cases b.getLsbD 0
  · simp
  · simp [BitVec.xor_assoc]
  · simp only [Bool.true_xor, Bool.not_false, if_true, Bool.false_eq_true, if_false, BitVec.xor_zero, BitVec.xor_assoc]
    rw [BitVec.xor_comm poly]
  · simp only [Bool.true_xor, Bool.not_true, Bool.false_eq_true, if_false, if_true, BitVec.xor_zero, BitVec.xor_assoc]
    rw [xlc poly, BitVec.xor_self, BitVec.xor_zero]
theorem step_zero : stepC 0#32 = 0#32 := by decide
theorem iter_xor : ∀ (n : Nat) (a b : BitVec 32), iterC n (a ^^^ b) = iterC n a ^^^ iterC n b
  | 0, _, _ => rfl
  | n + 1, a, b => by show stepC (iterC n (a ^^^ b)) = stepC (iterC n a) ^^^ stepC (iterC n b); rw [iter_xor n, step_xor]
theorem iter_zero : ∀ n : Nat, iterC n 0#32 = 0#32
  | 0 => rfl
  | n + 1 => by show stepC (iterC n 0#32) = _; rw [iter_zero n, step_zero]
theorem iter_add (m : Nat) : ∀ (n : Nat) (a : BitVec 32), iterC (n + m) a = iterC n (iterC m a)
  | 0, a => by rw [Nat.zero_add]; rfl
  | n + 1, a => by rw [Nat.add_right_comm]; show stepC (iterC (n + m) a) = stepC (iterC n (iterC m a)); rw [iter_add m n]
/-- what is linear is told by its bits. -/
structure Lin (f : BitVec 32 → BitVec 32) : Prop where
  add : ∀ a b, f (a ^^^ b) = f a ^^^ f b
theorem Lin.zero {f : BitVec 32 → BitVec 32} (h : Lin f) : f 0#32 = 0#32 := by
  have := h.add 0#32 0#32
  rw [BitVec.xor_self, BitVec.xor_self] at this
  exact this
def bitW (b : Bool) (k : Nat) : BitVec 32 := if b then 1#32 <<< k else 0#32
/-- a word of bits. -/
def wordB : Nat → List Bool → BitVec 32
  | _, [] => 0#32
  | k, b :: r => bitW b k ^^^ wordB (k + 1) r
theorem getLsbD_bitW (b : Bool) (k i : Nat) (hi : i < 32) : (bitW b k).getLsbD i = (b && decide (i = k)) := by
  unfold bitW
  cases b with
  | false => simp
  | true =>
    simp only [if_true, BitVec.getLsbD_shiftLeft, BitVec.getLsbD_one]
    by_cases h : i = k
    · subst h; simp [hi]
    · simp only [h, decide_false, Bool.and_false, Bool.true_and]
      by_cases h2 : i < k
      · simp [h2]
      · have : i - k ≠ 0 := by omega
        simp [this]
theorem getLsbD_wordB : ∀ (l : List Bool) (k i : Nat), i < 32 → (wordB k l).getLsbD i = (decide (k ≤ i) && l.getD (i - k) false)
  | [], k, i, _ => by simp [wordB]
  | b :: r, k, i, hi => by
    simp only [wordB, BitVec.getLsbD_xor, getLsbD_bitW b k i hi, getLsbD_wordB r (k + 1) i hi]
    by_cases h : i = k
    · subst h; simp [Nat.not_succ_le_self]
    · by_cases h2 : k ≤ i
      · rw [show i - k = (i - (k + 1)) + 1 by omega]
        simp [h, h2, show k + 1 ≤ i by omega]
      · simp [h, h2, show ¬ k + 1 ≤ i by omega]
theorem word_self (a : BitVec 32) : wordB 0 ((List.range 32).map fun i => a.getLsbD i) = a := by
  apply BitVec.eq_of_getLsbD_eq
  intro i hi
  rw [getLsbD_wordB _ 0 i hi]
  simp [hi]
theorem lin_word {f g : BitVec 32 → BitVec 32} (hf : Lin f) (hg : Lin g) (h : ∀ k : Fin 32, f (1#32 <<< k.val) = g (1#32 <<< k.val)) : ∀ (l : List Bool) (k : Nat), k + l.length ≤ 32 → f (wordB k l) = g (wordB k l)
  | [], _, _ => by show f 0#32 = g 0#32; rw [hf.zero, hg.zero]
  | b :: r, k, hk => by
    simp only [List.length_cons] at hk
    simp only [wordB]
    rw [hf.add, hg.add, lin_word hf hg h r (k + 1) (by omega)]
    congr 1
    unfold bitW
    cases b with
    | false => simp only [Bool.false_eq_true, if_false]; rw [hf.zero, hg.zero]
    | true => simp only [if_true]; exact h ⟨k, by omega⟩
theorem lin_eq {f g : BitVec 32 → BitVec 32} (hf : Lin f) (hg : Lin g) (h : ∀ k : Fin 32, f (1#32 <<< k.val) = g (1#32 <<< k.val)) (a : BitVec 32) : f a = g a := by
  have := lin_word hf hg h ((List.range 32).map fun i => a.getLsbD i) 0 (by simp)
  rwa [word_self] at this
theorem iter_lin (n : Nat) : Lin (iterC n) := ⟨iter_xor n⟩
def up (c : UInt8) : BitVec 32 := c.toBitVec.setWidth 32
/-- a byte's step by the table is eight divisions. -/
theorem byte_iter (s : BitVec 32) (c : UInt8) : byteC s c = iterC 8 (s ^^^ up c) := by
  have key : ((s ^^^ up c) >>> 8) ^^^ ent (((s ^^^ up c).setWidth 8).setWidth 32) = iterC 8 (s ^^^ up c) := lin_eq (f := fun s => (s >>> 8) ^^^ ent ((s.setWidth 8).setWidth 32)) (g := iterC 8) ⟨fun a b => by
    simp only [BitVec.ushiftRight_xor_distrib, BitVec.setWidth_xor]
    unfold ent
    rw [iter_xor]
    simp only [BitVec.xor_assoc]
    rw [xlc (b >>> 8)]⟩ (iter_lin 8) (by decide +kernel) (s ^^^ up c)
  rw [← key]
  unfold byteC idxC
  have e1 : (s ^^^ up c) >>> 8 = s >>> 8 := by
    rw [BitVec.ushiftRight_xor_distrib]
    have : up c >>> 8 = 0#32 := by
      apply BitVec.eq_of_getLsbD_eq
      intro i hi
      simp only [up, BitVec.getLsbD_ushiftRight, BitVec.getLsbD_setWidth, BitVec.getLsbD_zero]
      rw [BitVec.getLsbD_of_ge _ _ (by omega)]; simp
    rw [this, BitVec.xor_zero]
  have e2 : (s ^^^ up c).setWidth 8 = s.setWidth 8 ^^^ c.toBitVec := by
    rw [BitVec.setWidth_xor]
    congr 1
    unfold up
    simp
  rw [e1, e2]
def linB (s : BitVec 32) (D : List UInt8) : BitVec 32 := D.foldl (fun s d => iterC 8 (s ^^^ up d)) s
theorem crc_lin (s : BitVec 32) (D : List UInt8) : crcU s D = linB s D := by
  unfold crcU linB
  congr 1
  funext s c
  exact byte_iter s c
theorem up_xor (a b : UInt8) : up (a ^^^ b) = up a ^^^ up b := by
  unfold up
  rw [show (a ^^^ b).toBitVec = a.toBitVec ^^^ b.toBitVec from rfl, BitVec.setWidth_xor]
theorem lin_two : ∀ (p q : List UInt8) (s t : BitVec 32), p.length = q.length → linB s p ^^^ linB t q = linB (s ^^^ t) (List.zipWith (· ^^^ ·) p q)
  | [], [], _, _, _ => rfl
  | [], _ :: _, _, _, h => by simp at h
  | _ :: _, [], _, _, h => by simp at h
  | a :: p, b :: q, s, t, h => by
    have := lin_two p q (iterC 8 (s ^^^ up a)) (iterC 8 (t ^^^ up b)) (by simpa using h)
    show linB (iterC 8 (s ^^^ up a)) p ^^^ linB (iterC 8 (t ^^^ up b)) q = linB (iterC 8 ((s ^^^ t) ^^^ up (a ^^^ b))) (List.zipWith (· ^^^ ·) p q)
    rw [this, ← iter_xor, up_xor]
    congr 2
    simp only [BitVec.xor_assoc]
    rw [xlc (up a)]
/-! ## Bit by bit -/
def bitB (s : BitVec 32) (l : List Bool) : BitVec 32 := l.foldl (fun s b => stepC (s ^^^ bitW b 0)) s
def bits8 (c : UInt8) : List Bool := (List.range 8).map fun j => c.toBitVec.getLsbD j
theorem bitB_xor : ∀ (l : List Bool) (s t : BitVec 32), bitB (s ^^^ t) l = iterC l.length s ^^^ bitB t l
  | [], _, _ => rfl
  | b :: l, s, t => by
    show bitB (stepC ((s ^^^ t) ^^^ bitW b 0)) l = iterC (l.length + 1) s ^^^ bitB (stepC (t ^^^ bitW b 0)) l
    rw [BitVec.xor_assoc, step_xor, bitB_xor l, iter_add 1 l.length]
    rfl
theorem bits_byte (s : BitVec 32) (c : UInt8) : iterC 8 (s ^^^ up c) = bitB s (bits8 c) := by
  have h := bitB_xor (bits8 c) s 0#32
  rw [BitVec.xor_zero] at h
  rw [h, iter_xor]
  congr 1
  have key : ∀ k : Fin 256, iterC 8 ((BitVec.ofNat 8 k.val).setWidth 32) = bitB 0#32 ((List.range 8).map fun j => (BitVec.ofNat 8 k.val).getLsbD j) := by decide +kernel
  have := key ⟨c.toNat, c.toNat_lt⟩
  have e : BitVec.ofNat 8 c.toNat = c.toBitVec := by apply BitVec.eq_of_toNat_eq; simp
  simp only [e] at this
  exact this
theorem lin_bits : ∀ (D : List UInt8) (s : BitVec 32), linB s D = bitB s (D.flatMap bits8)
  | [], _ => rfl
  | d :: D, s => by
    show linB (iterC 8 (s ^^^ up d)) D = bitB s (bits8 d ++ D.flatMap bits8)
    rw [lin_bits D, bits_byte]
    unfold bitB
    rw [List.foldl_append]
theorem bitB_zeros (s : BitVec 32) : ∀ n : Nat, bitB s (List.replicate n false) = iterC n s
  | 0 => rfl
  | n + 1 => by
    rw [List.replicate_succ']
    unfold bitB
    rw [List.foldl_append]
    show stepC (bitB s (List.replicate n false) ^^^ bitW false 0) = stepC (iterC n s)
    rw [bitB_zeros s n]
    unfold bitW
    simp
theorem word_snoc : ∀ (l : List Bool) (k : Nat) (b : Bool), wordB k (l ++ [b]) = wordB k l ^^^ bitW b (k + l.length)
  | [], k, b => by simp [wordB]
  | a :: l, k, b => by
    simp only [List.cons_append, wordB, word_snoc l (k + 1) b, List.length_cons, BitVec.xor_assoc]
    rw [show k + 1 + l.length = k + (l.length + 1) by omega]
theorem bitB_word (l : List Bool) : l.length ≤ 32 → bitB 0#32 l = iterC l.length (wordB 0 l) := by
  refine snoc_ind (P := fun l => l.length ≤ 32 → bitB 0#32 l = iterC l.length (wordB 0 l)) (fun _ => rfl) (fun l b ih h => ?_) l
  simp only [List.length_append, List.length_cons, List.length_nil] at h ⊢
  rw [word_snoc]
  simp only [Nat.zero_add]
  unfold bitB
  rw [List.foldl_append]
  show stepC (bitB 0#32 l ^^^ bitW b 0) = stepC (iterC l.length (wordB 0 l ^^^ bitW b l.length))
  rw [ih (by omega), iter_xor]
  congr 2
  have key : ∀ k : Fin 32, iterC k.val (1#32 <<< k.val) = 1#32 := by decide +kernel
  unfold bitW
  cases b with
  | false => simp only [Bool.false_eq_true, if_false]; rw [iter_zero]
  | true => simp only [if_true]; rw [key ⟨l.length, by omega⟩]; rfl
theorem step_inj {x : BitVec 32} (h : stepC x = 0#32) : x = 0#32 := by
  unfold stepC at h
  by_cases h1 : x &&& 1#32 = 1#32
  · rw [if_pos h1] at h
    have hp : poly.getLsbD 31 = true := by decide
    have he : (x >>> 1).getLsbD 31 = false := by rw [BitVec.getLsbD_ushiftRight]; exact BitVec.getLsbD_of_ge _ _ (by omega)
    have : ((x >>> 1) ^^^ poly).getLsbD 31 = (0#32).getLsbD 31 := by rw [h]
    rw [BitVec.getLsbD_xor, he, hp] at this
    simp at this
  · rw [if_neg h1] at h
    apply BitVec.eq_of_getLsbD_eq
    intro i hi
    rw [BitVec.getLsbD_zero]
    cases i with
    | zero =>
      cases hb : x.getLsbD 0 with
      | false => rfl
      | true =>
        exfalso
        apply h1
        apply BitVec.eq_of_getLsbD_eq
        intro i hi
        rw [BitVec.getLsbD_and]
        by_cases h0 : i = 0
        · subst h0; rw [hb]; rfl
        · have : (1#32).getLsbD i = false := by rw [BitVec.getLsbD_one]; simp [h0]
          rw [this]; simp
    | succ i =>
      have := congrArg (fun y : BitVec 32 => y.getLsbD i) h
      simpa [BitVec.getLsbD_ushiftRight, Nat.add_comm] using this
theorem iter_inj {x : BitVec 32} : ∀ n : Nat, iterC n x = 0#32 → x = 0#32
  | 0, h => h
  | n + 1, h => iter_inj n (step_inj h)
/-- bits of which those that are set stand within 32. -/
theorem burst {l : List Bool} {a : Nat} (h : ∀ i, l.getD i false = true → a ≤ i ∧ i < a + 32) (h0 : bitB 0#32 l = 0#32) : ∀ i, l.getD i false = false := by
  have e1 : l.take a = List.replicate (min a l.length) false := by
    apply List.ext_getElem (by simp)
    intro i h1 h2
    rw [List.getElem_take, List.getElem_replicate]
    rw [List.length_take] at h1
    cases hb : l[i]'(by omega) with
    | false => rfl
    | true =>
      have := (h i (by rw [List.getD_eq_getElem?_getD, List.getElem?_eq_getElem (by omega), hb]; rfl)).1
      omega
  have e3 : (l.drop a).drop 32 = List.replicate ((l.drop a).drop 32).length false := by
    apply List.ext_getElem (by simp)
    intro i h1 h2
    rw [List.getElem_replicate]
    rw [List.length_drop, List.length_drop] at h1
    rw [List.getElem_drop, List.getElem_drop]
    cases hb : l[a + (32 + i)]'(by omega) with
    | false => rfl
    | true =>
      have := (h (a + (32 + i)) (by rw [List.getD_eq_getElem?_getD, List.getElem?_eq_getElem (by omega), hb]; rfl)).2
      omega
  have hl : l = l.take a ++ ((l.drop a).take 32 ++ (l.drop a).drop 32) := by rw [List.take_append_drop, List.take_append_drop]
  have hb : bitB 0#32 l = iterC ((l.drop a).drop 32).length (bitB 0#32 ((l.drop a).take 32)) := by
    conv => lhs; rw [hl]
    unfold bitB
    rw [List.foldl_append, List.foldl_append]
    show bitB (bitB (bitB 0#32 (l.take a)) ((l.drop a).take 32)) ((l.drop a).drop 32) = _
    rw [e1, bitB_zeros, iter_zero]
    conv => lhs; rw [e3]
    rw [bitB_zeros]; rfl
  rw [hb] at h0
  have h2 := iter_inj _ h0
  rw [bitB_word _ (by rw [List.length_take]; omega)] at h2
  have h3 := iter_inj _ h2
  intro i
  cases hq : l.getD i false with
  | false => rfl
  | true =>
    exfalso
    obtain ⟨p1, p2⟩ := h i hq
    have := getLsbD_wordB ((l.drop a).take 32) 0 (i - a) (by omega)
    rw [h3] at this
    simp only [BitVec.getLsbD_zero, Nat.zero_le, decide_true, Bool.true_and, Nat.sub_zero] at this
    rw [List.getD_eq_getElem?_getD, List.getElem?_take_of_lt (by omega), List.getElem?_drop, show a + (i - a) = i by omega, ← List.getD_eq_getElem?_getD, hq] at this
    cases this
end Go.Crc
