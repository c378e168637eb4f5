
/- Names of files by letter and number, in plain words. No condition. -/
import Derived.Test.YtmefbneoljpbgaaGreatDoorGd
import Derived.Lib.ItoaNum
set_option linter.unusedSimpArgs false
set_option linter.unusedVariables false
namespace Go.Nm
open Go.Lib Go.Disk
def kindN (k : UInt8) : Bool := decide (k = 109) || decide (k = 101) || decide (k = 115)
def okN (k : UInt8) (n : Nat) : Bool := kindN k && decide (n < 10000000000)
def nmL (k : UInt8) (n : Nat) : List UInt8 := k :: 46 :: decDigits n
def nmB (k : UInt8) (n : Nat) : ByteArray := ⟨(nmL k n).toArray⟩
def nameOf (k : UInt8) (n : Nat) : ByteArray × Int := if okN k n = true then (nmB k n, 0) else (ByteArray.empty, 1)
/-- a numeral's number. -/
def valD (l : List UInt8) : Nat := l.foldl (fun n c => 10 * n + (c.toNat - 48)) 0
theorem valD_snoc (l : List UInt8) (c : UInt8) : valD (l ++ [c]) = 10 * valD l + (c.toNat - 48) := by unfold valD; rw [List.foldl_append]; rfl
theorem dec_small {n : Nat} (h : n < 10) : decDigits n = [UInt8.ofNat (48 + n)] := by rw [decDigits, dif_pos h]
theorem dec_big {n : Nat} (h : ¬ n < 10) : decDigits n = decDigits (n / 10) ++ [UInt8.ofNat (48 + n % 10)] := by rw [decDigits, dif_neg h]
theorem dig_nat {k : Nat} (h : k < 10) : (UInt8.ofNat (48 + k)).toNat = 48 + k := by rw [UInt8.toNat_ofNat']; omega
theorem val_dec : ∀ n : Nat, valD (decDigits n) = n := by
  intro n
  induction n using Nat.strongRecOn with
  | _ n ih =>
    by_cases h : n < 10
    · rw [dec_small h]
      show 10 * 0 + ((UInt8.ofNat (48 + n)).toNat - 48) = n
      rw [dig_nat h]; omega
    · rw [dec_big h, valD_snoc, ih (n / 10) (by omega), dig_nat (by omega)]; omega
theorem dec_inj {a b : Nat} (h : decDigits a = decDigits b) : a = b := by rw [← val_dec a, h, val_dec]
theorem dec_bytes : ∀ n : Nat, ∀ c ∈ decDigits n, 48 ≤ c.toNat ∧ c.toNat ≤ 57 := by
  intro n
  induction n using Nat.strongRecOn with
  | _ n ih =>
    intro c hc
    by_cases h : n < 10
    · rw [dec_small h] at hc
      simp only [List.mem_cons, List.not_mem_nil, or_false] at hc
      subst hc
      rw [dig_nat h]; omega
    · rw [dec_big h] at hc
      rcases List.mem_append.1 hc with hc | hc
      · exact ih _ (by omega) c hc
      · simp only [List.mem_cons, List.not_mem_nil, or_false] at hc
        subst hc
        rw [dig_nat (by omega)]; omega
theorem dec_len : ∀ (k n : Nat), n < 10 ^ (k + 1) → (decDigits n).length ≤ k + 1 ∧ 0 < (decDigits n).length
  | 0, n, h => by rw [dec_small (by omega)]; simp
  | k + 1, n, h => by
    by_cases h1 : n < 10
    · rw [dec_small h1]; simp
    · rw [dec_big h1]
      have := dec_len k (n / 10) (by rw [Nat.pow_succ] at h; omega)
      simp only [List.length_append, List.length_cons, List.length_nil]; omega
theorem nmB_inj {k k' : UInt8} {n n' : Nat} (h : nmB k n = nmB k' n') : k = k' ∧ n = n' := by
  have := congrArg (fun x : ByteArray => x.data.toList) h
  simp only [nmB, nmL, List.cons.injEq, true_and] at this
  exact ⟨this.1, dec_inj this.2⟩
theorem nmB_size (k : UInt8) (n : Nat) : (nmB k n).size = 2 + (decDigits n).length := by show (nmL k n).toArray.size = _; simp [nmL]; omega
theorem nmB_named {k : UInt8} {n : Nat} (h : okN k n = true) : named (nmB k n) = true ∧ 3 ≤ (nmB k n).size ∧ (nmB k n).size ≤ 12 := by
  unfold okN kindN at h
  simp only [Bool.and_eq_true, Bool.or_eq_true, decide_eq_true_eq] at h
  obtain ⟨hk, hn⟩ := h
  have hl := dec_len 9 n (by omega)
  have hs := nmB_size k n
  refine ⟨?_, by omega, by omega⟩
  have hb : (nmB k n).data.toList.all okByte = true := by
    show (nmL k n).all okByte = true
    unfold nmL
    simp only [List.all_cons, Bool.and_eq_true]
    refine ⟨by rcases hk with (rfl | rfl) | rfl <;> decide, by decide, List.all_eq_true.2 fun c hc => ?_⟩
    have := dec_bytes n c hc
    unfold okByte
    have h1 : (48 : UInt8) ≤ c := UInt8.le_iff_toNat_le.2 (by show 48 ≤ c.toNat; omega)
    have h2 : c ≤ (57 : UInt8) := UInt8.le_iff_toNat_le.2 (by show c.toNat ≤ 57; omega)
    simp [h1, h2]
  unfold named
  rw [hb]
  simp; omega
end Go.Nm
