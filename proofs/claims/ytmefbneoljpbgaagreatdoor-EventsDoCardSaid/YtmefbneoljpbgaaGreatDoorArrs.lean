
/- Parts of a slice that came in. No condition. -/
import Derived.Test.YtmefbneoljpbgaaGreatDoorGb
namespace Go.Den
section
variable {α : Type} {enc : α → List Value} {sz : Nat} {w w' : World} {v : Value} {xs : List α}
/-- a slice, read, of a capacity that is no less than its length. -/
structure ArrC (enc : α → List Value) (sz : Nat) (w : World) (v : Value) (xs : List α) : Prop where
  arr : Arr enc sz w v xs
  cap : Capd v
theorem ArrC.fr (h : ArrC enc sz w v xs) {F : List Nat} (f : Fr F w w') (hF : ∀ b ∈ F, hsz w ≤ b) : ArrC enc sz w' v xs := ⟨h.arr.fr f hF, h.cap⟩
theorem ArrC.len (h : ArrC enc sz w v xs) : lenl v = some (.int .i64 xs.length) := h.arr.len
theorem Slc.arrC {F : List Nat} (s : Slc enc sz w v xs F) : ArrC enc sz w v xs := ⟨s.arr, s.capd⟩
theorem arr_part (h : ArrC enc sz w v xs) {lo hi : Nat} (h1 : lo ≤ hi) (h2 : hi ≤ xs.length) :
    ∃ a n c c', v = .slice a n c ∧ hi ≤ c ∧ xs.length = n ∧ ArrC enc sz w (.slice (if c = lo then a else a.map (·.add (lo * sz))) (hi - lo) c') ((xs.take hi).drop lo) ∧ c' = c - lo := by
  obtain ⟨⟨a, c, rfl, h⟩, ⟨_, _, _, e, hc⟩⟩ := h
  cases e
  refine ⟨a, xs.length, c, c - lo, rfl, by omega, rfl, ⟨⟨(if c = lo then a else a.map (·.add (lo * sz))), c - lo, ?_, ?_⟩, ⟨_, _, _, rfl, by omega⟩⟩, rfl⟩
  · rw [List.length_drop, List.length_take]; congr 1; omega
  · by_cases h0 : hi = lo
    · left
      rw [List.drop_eq_nil_of_le (by rw [List.length_take]; omega)]
    · rcases h with rfl | ⟨b, o, cs, T, fz, rfl, q1, q2⟩
      · left; simp
      · right
        refine ⟨b, o + lo * sz, cs, T, fz, ?_, q1, fun i x hx => ?_⟩
        · rw [if_neg (by omega)]
          simp [add_none]
        · rw [List.getElem?_drop] at hx
          have hi' : lo + i < hi := by
            have := (List.getElem?_eq_some_iff.1 hx).1
            rw [List.length_take] at this; omega
          rw [List.getElem?_take_of_lt hi'] at hx
          obtain ⟨p1, p2⟩ := q2 _ _ hx
          have e : (lo + i) * sz = lo * sz + i * sz := Nat.add_mul _ _ _
          refine ⟨by omega, fun j hj => ?_⟩
          rw [show o + lo * sz + i * sz + j = o + (lo + i) * sz + j by omega]
          exact p2 j hj
/-- 'v[lo:hi]'. -/
theorem ArrC.mid (h : ArrC enc sz w v xs) {lo hi : Nat} (h1 : lo ≤ hi) (h2 : hi ≤ xs.length) : ∃ v', slicev sz v (some (.int .i64 (lo : Int))) (some (.int .i64 (hi : Int))) = some v' ∧ ArrC enc sz w v' ((xs.take hi).drop lo) := by
  obtain ⟨a, n, c, c', rfl, p1, p2, p3, rfl⟩ := arr_part h h1 h2
  refine ⟨_, ?_, p3⟩
  unfold slicev
  simp [natOf, p1, h1]
/-- 'v[:hi]'. -/
theorem ArrC.to (h : ArrC enc sz w v xs) {hi : Nat} (h2 : hi ≤ xs.length) : ∃ v', slicev sz v none (some (.int .i64 (hi : Int))) = some v' ∧ ArrC enc sz w v' (xs.take hi) := by
  obtain ⟨a, n, c, c', rfl, p1, p2, p3, rfl⟩ := arr_part h (Nat.zero_le hi) h2
  rw [List.drop_zero] at p3
  refine ⟨_, ?_, p3⟩
  unfold slicev
  simp [natOf, p1]
/-- 'v[lo:]'. -/
theorem ArrC.from (h : ArrC enc sz w v xs) {lo : Nat} (h1 : lo ≤ xs.length) : ∃ v', slicev sz v (some (.int .i64 (lo : Int))) none = some v' ∧ ArrC enc sz w v' (xs.drop lo) := by
  obtain ⟨a, n, c, c', rfl, p1, p2, p3, rfl⟩ := arr_part h h1 (Nat.le_refl _)
  rw [List.take_length] at p3
  refine ⟨_, ?_, p3⟩
  unfold slicev
  subst p2
  simp [natOf, p1, h1]
theorem Arr.sv (h : Arr enc sz w v xs) : ∃ x : SV, v = x.v := by
  obtain ⟨a, c, rfl, _⟩ := h
  exact ⟨⟨a, _, c⟩, rfl⟩
end
end Go.Den
