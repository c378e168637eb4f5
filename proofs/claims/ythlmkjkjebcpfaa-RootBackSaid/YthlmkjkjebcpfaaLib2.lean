/- Parts of slices, as what an append takes. No condition. -/
import Derived.Test.YthlmkjkjebcpfaaLib
namespace Go.Den
section
variable {α : Type} {enc : α → List Value} {sz : Nat} {w w' : World} {v : Value} {xs ys : List α} {F G : List Nat} {b : Nat}
theorem flat_take (hl : ∀ x, (enc x).length = sz) : ∀ (xs : List α) (n : Nat), (flat enc xs).take (n * sz) = flat enc (xs.take n)
  | [], n => by simp [flat]
  | x :: xs, 0 => by simp [flat]
  | x :: xs, n + 1 => by
    have ih := flat_take hl xs n
    simp only [flat, List.flatMap_cons, List.take_succ_cons] at ih ⊢
    rw [List.take_append, hl, List.take_of_length_le (by rw [hl, Nat.succ_mul]; omega), Nat.succ_mul, Nat.add_sub_cancel, ih]
theorem flat_drop (hl : ∀ x, (enc x).length = sz) : ∀ (xs : List α) (n : Nat), (flat enc xs).drop (n * sz) = flat enc (xs.drop n)
  | [], n => by simp [flat]
  | x :: xs, 0 => by simp [flat]
  | x :: xs, n + 1 => by
    have ih := flat_drop hl xs n
    simp only [flat, List.flatMap_cons, List.drop_succ_cons] at ih ⊢
    rw [List.drop_append, hl, List.drop_of_length_le (by rw [hl, Nat.succ_mul]; omega), Nat.succ_mul, Nat.add_sub_cancel, ih, List.nil_append]
theorem Slc.row (h : Slc enc sz w v xs F) (hl : ∀ x, (enc x).length = sz) : v = .slice none 0 0 ∧ xs = [] ∨ ∃ b cap c T fz, v = .slice (some ⟨b, 0, none⟩) xs.length cap ∧ blk w b = some (.cells c T fz) ∧ xs.length ≤ cap ∧ c.size = cap * sz ∧
    c.toList.take (xs.length * sz) = flat enc xs := by
  have hlo := h.loads hl
  rcases h with ⟨rfl, rfl, rfl⟩ | ⟨b, cap, c, T, rfl, hb, hc, hs, rfl, hel⟩
  · exact .inl ⟨rfl, rfl⟩
  · refine .inr ⟨b, cap, c, T, _, rfl, hb, hc, hs, ?_⟩
    have hle : 0 + 0 + xs.length * sz ≤ c.size := by rw [hs]; simpa using Nat.mul_le_mul_right sz hc
    simpa [cellsOfArg, loads_blk hb _ 0 hle] using hlo
/-- 'v[:n]', to be read. -/
theorem Slc.upto (h : Slc enc sz w v xs F) (hl : ∀ x, (enc x).length = sz) {n : Nat} (hn : n ≤ xs.length) (k : IntKind) :
    ∃ v', slicev sz v none (some (.int k (n : Int))) = some v' ∧ ∀ w', (∀ b ∈ F, blk w' b = blk w b) → cellsOfArg w' sz v' = some (flat enc (xs.take n), (xs.take n).length) := by
  have hcg := fun (w' : World) (hw : ∀ b ∈ F, blk w' b = blk w b) => h.congr hw
  rcases h.row hl with ⟨rfl, rfl⟩ | ⟨b, cap, c, T, fz, rfl, hb, hc, hs, _⟩
  · have : n = 0 := by simpa using hn
    subst this
    exact ⟨.slice none 0 0, by simp [slicev, natOf], fun w' _ => by simp [cellsOfArg, flat]⟩
  · have h1 : n ≤ cap := by omega
    refine ⟨.slice (some ⟨b, 0, none⟩) n cap, by simp [slicev, natOf, h1, Addr.add], fun w' hw => ?_⟩
    rcases (hcg w' hw).row hl with ⟨h0, _⟩ | ⟨b', cap', c', T', fz', h0, hb', hc', hs', hr'⟩
    · cases h0
    · cases h0
      have hle : 0 + 0 + n * sz ≤ c'.size := by rw [hs']; simpa using Nat.mul_le_mul_right sz h1
      simp only [cellsOfArg, loads_blk hb' _ 0 hle, Option.map_some, Nat.zero_add, List.drop_zero]
      rw [← flat_take hl, ← hr', List.take_take, Nat.min_eq_left (Nat.mul_le_mul_right sz hn), List.length_take, Nat.min_eq_left hn]
/-- 'v[n:]', to be read. -/
theorem Slc.from (h : Slc enc sz w v xs F) (hl : ∀ x, (enc x).length = sz) {n : Nat} (hn : n ≤ xs.length) (k : IntKind) :
    ∃ v', slicev sz v (some (.int k (n : Int))) none = some v' ∧ ∀ w', (∀ b ∈ F, blk w' b = blk w b) → cellsOfArg w' sz v' = some (flat enc (xs.drop n), (xs.drop n).length) := by
  have hcg := fun (w' : World) (hw : ∀ b ∈ F, blk w' b = blk w b) => h.congr hw
  rcases h.row hl with ⟨rfl, rfl⟩ | ⟨b, cap, c, T, fz, rfl, hb, hc, hs, _⟩
  · have : n = 0 := by simpa using hn
    subst this
    exact ⟨.slice none 0 0, by simp [slicev, natOf], fun w' _ => by simp [cellsOfArg, flat]⟩
  · refine ⟨.slice (some (if cap = n then ⟨b, 0, none⟩ else ⟨b, n * sz, none⟩)) (xs.length - n) (cap - n), ?_, fun w' hw => ?_⟩
    · simp only [slicev, natOf, Int.toNat_natCast, Int.natCast_nonneg, if_true, hc, hn, and_self]
      by_cases hcn : cap = n
      · simp [hcn]
      · simp [hcn, add_none]
    rcases (hcg w' hw).row hl with ⟨h0, _⟩ | ⟨b', cap', c', T', fz', h0, hb', hc', hs', hr'⟩
    · cases h0
    · cases h0
      have hdr : flat enc (xs.drop n) = (c'.toList.drop (n * sz)).take ((xs.length - n) * sz) := by
        rw [← flat_drop hl, ← hr', List.drop_take, Nat.sub_mul]
      by_cases hcn : cap = n
      · have h0 : xs.length - n = 0 := by omega
        rw [h0] at hdr
        simp only [hcn, if_true, h0]
        rw [hdr]
        simp [cellsOfArg, Den.loads, h0]
      · simp only [hcn, if_false]
        have hle : n * sz + 0 + (xs.length - n) * sz ≤ c'.size := by
          rw [hs', Nat.add_zero, ← Nat.add_mul]; exact Nat.mul_le_mul_right sz (by omega)
        simp only [cellsOfArg, loads_blk hb' _ 0 hle, Option.map_some, Nat.add_zero]
        rw [hdr, List.length_drop]
end
/-- '[]T{}'. -/
theorem newslice_none {α : Type} (enc : α → List Value) (E sz : Nat) (zero : Array Value) (w : World) : ∃ v w', newslice E zero sz 0 [] w = some (v, w') ∧ Slc enc sz w' v [] [hsz w] ∧ Fr [] w w' := by
  refine ⟨.slice (some ⟨hsz w, 0, none⟩) 0 0, w.alloc (.cells #[] E), ?_, .inr ⟨hsz w, 0, #[], E, rfl, by simp, by simp, by simp, rfl, fun i x hx => by simp at hx⟩, Fr.alloc _ _ _⟩
  unfold newslice
  have h0 : (Array.range (0 * sz)).map (zero[· % zero.size]!) = #[] := by apply Array.eq_empty_of_size_eq_zero; simp
  rw [h0]
  rfl
end Go.Den
