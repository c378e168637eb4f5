
/- Records, in plain words. No condition. -/
import Derived.Test.YtmefbneoljpbgaaGreatDoorFrame
namespace Go.Rec
open Go.Den Go.Crc Go.Frame Go.Vint
structure Rc where
  kind : Nat
  n : List Nat
  text : List UInt8
def zeroR : Rc := ⟨0, [], []⟩
def manyL : List Nat := [0, 0, 5, 2, 1, 2, 2, 1, 1, 1, 1, 1, 5, 7, 10, 2, 1, 1]
def manyOf (k : Nat) : Nat := manyL.getD k 0
def knownB (k : Int) : Bool := decide (1 ≤ k) && decide (k ≤ 17)
def wordedB (k : Int) : Bool := decide (k = 10) || decide (k = 11) || decide (k = 16)
def fitsB (k : Int) (m : Nat) : Bool := decide (m = 0) || (wordedB k && decide (m ≤ 64))
def rightB (k : Int) (n m : Nat) : Bool := knownB k && decide (n = manyOf k.toNat) && fitsB k m
theorem manyOf_le (k : Nat) : manyOf k ≤ 10 := by
  unfold manyOf
  rw [List.getD_eq_getElem?_getD]
  cases h : manyL[k]? with
  | none => simp
  | some x =>
    have := List.mem_of_getElem? h
    simp only [manyL, List.mem_cons, List.not_mem_nil, or_false] at this
    simp; omega
def bodyOf_ (ns : List Nat) (text : List UInt8) : List UInt8 := ns.flatMap layV ++ text
theorem flat_len10 (ns : List Nat) (h : ∀ n ∈ ns, n < 18446744073709551616) : (ns.flatMap layV).length ≤ ns.length * 10 := by
  induction ns with
  | nil => simp
  | cons a ns ih =>
    have h1 := layV_le a (h a (by simp))
    have h2 := ih fun n hn => h n (by simp [hn])
    simp only [List.flatMap_cons, List.length_append, List.length_cons, Nat.add_mul]; omega
theorem right_known {k : Int} {n m : Nat} (h : rightB k n m = true) : 1 ≤ k ∧ k ≤ 17 ∧ n = manyOf k.toNat ∧ fitsB k m = true := by
  unfold rightB knownB at h
  simp only [Bool.and_eq_true, decide_eq_true_eq] at h
  exact ⟨h.1.1.1, h.1.1.2, h.1.2, h.2⟩
theorem fits_le {k : Int} {m : Nat} (h : fitsB k m = true) : m ≤ 64 := by
  unfold fitsB at h
  simp only [Bool.or_eq_true, Bool.and_eq_true, decide_eq_true_eq] at h
  omega
theorem body_small {k : Int} {ns : List Nat} {t : List UInt8} (h : rightB k ns.length t.length = true) (hs : ∀ n ∈ ns, n < 18446744073709551616) : (bodyOf_ ns t).length ≤ 164 := by
  obtain ⟨_, _, h1, h2⟩ := right_known h
  have h3 := flat_len10 ns hs
  have h4 := manyOf_le k.toNat
  have h5 := fits_le h2
  unfold bodyOf_
  rw [List.length_append]
  omega
def readN : Nat → List UInt8 → List Nat × List UInt8 × Int
  | 0, rest => ([], rest, 0)
  | m + 1, rest => if (getV rest).2.2 = 0 then ((getV rest).1 :: (readN m (rest.drop (getV rest).2.1)).1, (readN m (rest.drop (getV rest).2.1)).2) else ([], [], (getV rest).2.2)
def recRead (x : Fra) : Rc × Int :=
  if knownB x.1.toNat = false then (zeroR, 2) else
  if (readN (manyOf x.1.toNat) x.2).2.2 = 0 then
    (if fitsB x.1.toNat (readN (manyOf x.1.toNat) x.2).2.1.length = true then (⟨x.1.toNat, (readN (manyOf x.1.toNat) x.2).1, (readN (manyOf x.1.toNat) x.2).2.1⟩, 0) else (zeroR, 2))
  else (zeroR, (readN (manyOf x.1.toNat) x.2).2.2)
theorem readN_lay : ∀ (ns : List Nat) (t : List UInt8), (∀ n ∈ ns, n < 18446744073709551616) → readN ns.length (bodyOf_ ns t) = (ns, t, 0)
  | [], t, _ => rfl
  | a :: ns, t, h => by
    have e : bodyOf_ (a :: ns) t = layV a ++ bodyOf_ ns t := by unfold bodyOf_; simp
    have hg := get_put a (h a (by simp)) (bodyOf_ ns t)
    simp only [List.length_cons, readN]
    rw [e, hg]
    simp only [if_true, List.drop_left]
    rw [readN_lay ns t fun n hn => h n (by simp [hn])]
def toFra (k : Nat) (ns : List Nat) (t : List UInt8) : Fra := (UInt8.ofNat k, bodyOf_ ns t)
theorem recRead_of {k : Nat} {ns : List Nat} {t : List UInt8} (h : rightB k ns.length t.length = true) (hs : ∀ n ∈ ns, n < 18446744073709551616) : recRead (toFra k ns t) = (⟨k, ns, t⟩, 0) := by
  obtain ⟨h1, h2, h3, h4⟩ := right_known h
  unfold recRead toFra
  have e : (UInt8.ofNat k).toNat = k := ofNat_toNat (by omega)
  simp only [e]
  have hk : knownB (k : Int) = true := by unfold knownB; simp; omega
  rw [if_neg (by rw [hk]; simp)]
  have h3' : manyOf k = ns.length := by rw [h3]; simp
  rw [h3', readN_lay ns t hs]
  simp [h4]
def recAllF : List Fra → Nat → Int → List Rc × List Nat × Int
  | [], _, e => ([], [], e)
  | x :: r, k, e => if (recRead x).2 = 0 then ((recRead x).1 :: (recAllF r (k + (11 + x.2.length)) e).1, (k + (11 + x.2.length)) :: (recAllF r (k + (11 + x.2.length)) e).2.1, (recAllF r (k + (11 + x.2.length)) e).2.2) else ([], [], (recRead x).2)
def recAll (b : List UInt8) : List Rc × List Nat × Int := recAllF (frAll b 0).1 0 (frAll b 0).2.2
def recB (k : Nat) (ns : List Nat) (t : List UInt8) : List UInt8 := frB (toFra k ns t)
theorem recAll_one {k : Nat} {ns : List Nat} {t : List UInt8} (h : rightB k ns.length t.length = true) (hs : ∀ n ∈ ns, n < 18446744073709551616) : recAll (recB k ns t) = ([⟨k, ns, t⟩], [(recB k ns t).length], 0) := by
  have hb := body_small h hs
  have e := frAll_cons (toFra k ns t) (by unfold toFra; simp only; omega) [] 0
  rw [List.append_nil, frAll_nil] at e
  unfold recAll
  rw [show recB k ns t = frB (toFra k ns t) from rfl, e]
  simp only [recAllF, recRead_of h hs, if_true, frB_len]
  simp
theorem readN_good : ∀ (m : Nat) (b : List UInt8), (readN m b).2.2 = 0 → (readN m b).1.length = m ∧ (∀ n ∈ (readN m b).1, n < 18446744073709551616) ∧ (readN m b).2.1.length ≤ b.length
  | 0, b, _ => by simp [readN]
  | m + 1, b, h => by
    simp only [readN] at h ⊢
    by_cases hg : (getV b).2.2 = 0
    · rw [if_pos hg] at h ⊢
      obtain ⟨h1, h2, h3⟩ := readN_good m _ h
      refine ⟨by simp [h1], fun n hn => ?_, by simp only; rw [List.length_drop] at h3; omega⟩
      rcases List.mem_cons.1 hn with rfl | hn
      · exact getL_small b 0 0 (by simp) (by omega)
      · exact h2 n hn
    · rw [if_neg hg] at h; exact absurd h hg
theorem recRead_good {x : Fra} (h : (recRead x).2 = 0) : rightB (recRead x).1.kind (recRead x).1.n.length (recRead x).1.text.length = true ∧ ∀ n ∈ (recRead x).1.n, n < 18446744073709551616 := by
  unfold recRead at h ⊢
  by_cases h1 : knownB x.1.toNat = false
  · rw [if_pos h1] at h; simp at h
  · rw [if_neg h1] at h ⊢
    by_cases h2 : (readN (manyOf x.1.toNat) x.2).2.2 = 0
    · rw [if_pos h2] at h ⊢
      obtain ⟨g1, g2, g3⟩ := readN_good _ _ h2
      by_cases h3 : fitsB x.1.toNat (readN (manyOf x.1.toNat) x.2).2.1.length = true
      · rw [if_pos h3]
        refine ⟨?_, g2⟩
        unfold rightB
        simp only [g1, h3]
        simp at h1
        simp [h1]
      · rw [if_neg h3] at h; simp at h
    · rw [if_neg h2] at h; exact absurd h h2
end Go.Rec
