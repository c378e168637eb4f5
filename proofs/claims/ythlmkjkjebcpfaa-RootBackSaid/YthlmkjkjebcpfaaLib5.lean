/- Structs' blocks; slices of several things, made at once. No condition. -/
import Derived.Test.YthlmkjkjebcpfaaLib4
namespace Go.Den
/-- a struct's block is given another struct. -/
theorem put_step {T n b : Nat} {w : World} {zs : Array Value} {vs : List Value} {K : World → Prop} (b1 : blk w b = some (.cells zs T (0, 0))) (hz : zs.size = n) (hv : vs.length = n) (h1 : ∀ u ∈ vs, u.oneCell' = true) (hn : vs ≠ [])
    (h : ∀ w', blk w' b = some (.cells vs.toArray T (0, 0)) → Fr [b] w w' → hsz w' = hsz w → K w') : BND (storev n w (.pointer (some ⟨b, 0, none⟩)) (.agg vs.toArray)) K := by
  refine BND_step (storevn_blk (o := 0) b1 hv (by omega) h1 hn) ?_
  have he : splice zs 0 vs = vs.toArray := splice_all _ _ (by omega)
  rw [he]
  exact h _ (blk_setB_same b1) (Fr.setB (.inl (by simp)) _) (by simp)
theorem loadn_all {T n b : Nat} {w : World} {vs : List Value} {f : Nat × Nat} (h : blk w b = some (.cells vs.toArray T f)) (hn : vs.length = n) : loadn n w (.pointer (some ⟨b, 0, none⟩)) = some (.agg vs.toArray) := by
  rw [loadn_blk h (by simp; omega)]
  subst hn
  simp
theorem splice_take {c : Array Value} {o : Nat} {vs : List Value} (h : o + vs.length ≤ c.size) : (splice c o vs).toList.take (o + vs.length) = c.toList.take o ++ vs := by
  apply List.ext_getElem?
  intro i
  rw [List.getElem?_take]
  have hs : (c.toList.take o).length = o := by simp; omega
  split
  · rename_i hi
    rw [Array.getElem?_toList, splice_get vs c o i h]
    by_cases ho : o ≤ i
    · rw [if_pos ⟨ho, hi⟩, List.getElem?_append_right (by omega), hs]
    · rw [if_neg (by omega), List.getElem?_append_left (by omega), List.getElem?_take, if_pos (by omega), Array.getElem?_toList]
  · rename_i hi
    exact (List.getElem?_eq_none (by simp; omega)).symm
section
variable {α : Type} {enc : α → List Value} {sz : Nat}
def partsAt (sz : Nat) (val : α → Value) : Nat → List α → List (Nat × Nat × Value)
  | _, [] => []
  | k, x :: xs => (k * sz, sz, val x) :: partsAt sz val (k + 1) xs
theorem fillv_parts (hl : ∀ x, (enc x).length = sz) {val : α → Value} (hv : ∀ x, (val x).cells = (enc x).toArray) : ∀ (xs : List α) (k : Nat) (c : Array Value), c.size = (k + xs.length) * sz →
    fillv c (partsAt sz val k xs) = some ((c.toList.take (k * sz) ++ flat enc xs).toArray)
  | [], k, c, h => by
    simp only [partsAt, fillv, flat, List.flatMap_nil, List.append_nil, List.length_nil, Nat.add_zero] at h ⊢
    rw [List.take_of_length_le (by simp; omega)]
  | x :: xs, k, c, h => by
    have hk : (k + (x :: xs).length) * sz = k * sz + sz + xs.length * sz := by
      simp only [List.length_cons]
      rw [show k + (xs.length + 1) = k + 1 + xs.length by omega, Nat.add_mul, Nat.succ_mul]
    rw [hk] at h
    have hs : (val x).cells.size = sz := by rw [hv]; simp [hl]
    have hc1 : ((val x).cells.zipIdx.foldl (fun cs (c, j) => cs.setIfInBounds (k * sz + j) c) c) = splice c (k * sz) (enc x) := by
      rw [hv]
      have := fold_splice (k * sz) (enc x) 0 c
      rw [Nat.add_zero] at this
      rw [← this, ← Array.foldl_toList, Array.toList_zipIdx]
    simp only [partsAt, fillv, hs]
    rw [if_neg (by simp; omega), hc1]
    have hss : (splice c (k * sz) (enc x)).size = c.size := by simp
    rw [fillv_parts hl hv xs (k + 1) _ (by rw [hss, h, Nat.add_mul, Nat.succ_mul])]
    congr 2
    have ht := splice_take (c := c) (o := k * sz) (vs := enc x) (by rw [hl]; omega)
    rw [hl] at ht
    rw [Nat.succ_mul, ht, flat, flat, List.flatMap_cons, List.append_assoc]
theorem newparts_step (hl : ∀ x, (enc x).length = sz) {val : α → Value} (hv : ∀ x, (val x).cells = (enc x).toArray) (xs : List α) {E n : Nat} {zero : Array Value} {ps : List (Nat × Nat × Value)} {w : World} {k : Value → World → Prop} (hn : n = xs.length) (hp : ps = partsAt sz val 0 xs)
    (h : ∀ t w1, Slc enc sz w1 t xs [hsz w] → Fr [] w w1 → hsz w1 = hsz w + 1 → k t w1) : BND (newslice E zero sz n ps w) fun p => NEW p k := by
  subst hn; subst hp
  have he : newslice E zero sz xs.length (partsAt sz val 0 xs) w = some (.slice (some ⟨hsz w, 0, none⟩) xs.length xs.length, w.alloc (.cells (flat enc xs).toArray E)) := by
    unfold newslice
    rw [fillv_parts hl hv xs 0 _ (by simp)]
    simp
  refine BND_step he <| (NEW_pair _ _ _).2 <| h _ _ (.inr ⟨hsz w, xs.length, _, E, rfl, blk_alloc_new _ _, Nat.le_refl _, by simp [flat_len hl], rfl, fun i x hx j hj => ?_⟩) (Fr.alloc _ _ _) (by simp)
  have := flat_get hl xs i x j hx hj
  simpa using this
end
end Go.Den
