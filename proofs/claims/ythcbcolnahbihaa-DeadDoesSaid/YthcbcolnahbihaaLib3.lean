/- Strings ranged over, turned to runes and back. No condition. -/
import Derived.Test.YthcbcolnahbihaaLib2
import Derived.Test.YthcbcolnahbihaaLabelPlain
namespace Go.Den
def encI (r : Int) : List Value := [.int .i32 r]
theorem encI_len (r : Int) : (encI r).length = 1 := rfl
theorem encI_one (r : Int) : ∀ u ∈ encI r, u.oneCell' = true := by intro u hu; simp [encI] at hu; subst hu; rfl
theorem flat_encI : ∀ rs : List Int, flat encI rs = rs.map fun r => Value.int .i32 r
  | [] => rfl
  | r :: rs => by have := flat_encI rs; simp only [flat, List.flatMap_cons, List.map_cons] at *; rw [this]; rfl
theorem intsOf_all (k : IntKind) : ∀ rs : List Int, intsOf k (rs.map fun r => Value.int k r) = some rs
  | [] => rfl
  | r :: rs => by simp [intsOf, intsOf_all k rs]

theorem RUNES_step {E : Nat} {w : World} {s : ByteArray} {k : Value → World → Prop} (hs : s.size < 1000000000)
    (h : ∀ v w', Slc encI 1 w' v (runesB s.data.toList) [hsz w] → Fr [] w w' → k v w') : RUNES E (.string s) w k := by
  have hl := runesB_len s.data.toList
  rw [list_len] at hl
  have hsz' : (runesOf s).size = (runesB s.data.toList).length := by rw [runesOf_eq]; simp
  refine ⟨s, rfl, by omega, fun c w' hc hh hr => ?_⟩
  have hw : hsz w' = hsz w := by unfold hsz; rw [hh]
  have hw2 : w'.heap.size = hsz w := hw
  rw [hsz'] at hc
  rw [hsz']
  refine h _ _ (.inr ⟨hsz w, c, _, E, by rw [hw2], by rw [← hw]; exact blk_alloc_new _ _, hc, by rw [Array.size_append, hsz']; simp; omega, rfl, fun i x hx j hj => ?_⟩)
    ⟨by simp [hw], fun b hb _ => ?_, hr.1, hr.2.1, hr.2.2⟩
  · obtain rfl : j = 0 := by omega
    have hi : i < (runesB s.data.toList).length := (List.getElem?_eq_some_iff.1 hx).1
    rw [runesOf_eq, Array.getElem?_append_left (by simp; omega)]
    simp [encI, hx]
  · rw [blk_alloc_old (by omega), heap_ext hh]
theorem textv_step {w : World} {v : Value} {rs : List Int} {F : List Nat} (h : Slc encI 1 w v rs F) : textv .i32 textOfRunes w v = some (.string (textOfRunes rs)) := by
  have hl := h.loads encI_len
  rcases h with ⟨rfl, rfl, _⟩ | ⟨b, cap, c, T, rfl, _⟩
  · rfl
  · simp only [cellsOfArg, Nat.mul_one, Option.map_eq_some_iff, Prod.mk.injEq] at hl
    obtain ⟨vs, h1, rfl, _⟩ := hl
    simp only [textv, h1, flat_encI, Option.bind_some, intsOf_all, Option.map_some]

/-! ## 'range s' -/
def It (w : World) (b : Nat) (s : ByteArray) (j : Nat) : Prop := blk w b = some (.stringIter s (cutAt j s.data.toList))
theorem range_step {w : World} {s : ByteArray} {K : Value × World → Prop} (h : ∀ w', It w' (hsz w) s 0 → Fr [] w w' → hsz w' = hsz w + 1 → K (.pointer (some ⟨hsz w, 0, none⟩), w')) : BND (rangev w (.string s)) K :=
  BND_step rfl (h _ (blk_alloc_new _ _) (Fr.alloc _ _ _) (by simp))
theorem It.fr {w w' : World} {b j : Nat} {s : ByteArray} {F : List Nat} (h : It w b s j) (hf : Fr F w w') (hn : b ∉ F) : It w' b s j := hf.some hn h
theorem It.lt {w : World} {b j : Nat} {s : ByteArray} (h : It w b s j) : b < hsz w := blk_lt h
theorem next_step {w : World} {b j : Nat} {s : ByteArray} {K : Value × World → Prop} (h : It w b s j)
    (hmore : ∀ r, (runesB s.data.toList)[j]? = some r → cutAt j s.data.toList < s.size → It (setB w b (.stringIter s (cutAt (j + 1) s.data.toList))) b s (j + 1) →
      K (.tuple #[.bool true, .int .i64 (cutAt j s.data.toList), .int .i32 r], setB w b (.stringIter s (cutAt (j + 1) s.data.toList))))
    (hend : (runesB s.data.toList).length ≤ j → cutAt j s.data.toList = s.size → K (.tuple #[.bool false], w)) : BND (nexts w (.pointer (some ⟨b, 0, none⟩))) K := by
  have h' : w.heap[b]? = some (.stringIter s (cutAt j s.data.toList)) := h
  by_cases hp : cutAt j s.data.toList < s.size
  · obtain ⟨h1, h2⟩ := it_more j s.data.toList (by rw [list_len]; exact hp)
    refine BND_step (v := (.tuple #[.bool true, .int .i64 (cutAt j s.data.toList), .int .i32 (dec1 (s.data.toList.drop (cutAt j s.data.toList))).1], setB w b (.stringIter s (cutAt (j + 1) s.data.toList)))) ?_ (hmore _ h1 hp (blk_setB_same h))
    simp only [nexts, h', hp, if_true, decode_dec1, h2]
    rfl
  · obtain ⟨h1, h2⟩ := it_end (j := j) (l := s.data.toList) (by rw [list_len]; exact hp)
    refine BND_step (v := (.tuple #[.bool false], w)) ?_ (hend h1 (by rw [h2, list_len]))
    simp only [nexts, h', hp, if_false]
/-- how far a string's iterator still has to go. -/
def toGo (n b : Nat) (w : World) : Nat :=
  match blk w b with
  | some (.stringIter s pos) => s.size - pos
  | _ => n
theorem It.toGo {w : World} {b j n : Nat} {s : ByteArray} (h : It w b s j) : Den.toGo n b w = s.size - cutAt j s.data.toList := by
  have h' : blk w b = some (.stringIter s (cutAt j s.data.toList)) := h
  simp [Den.toGo, h']
theorem cutAt_lt {j : Nat} {s : ByteArray} (h : cutAt j s.data.toList < s.size) : cutAt j s.data.toList < cutAt (j + 1) s.data.toList := by
  obtain ⟨_, h2⟩ := it_more j s.data.toList (by rw [list_len]; exact h)
  have hne : s.data.toList.drop (cutAt j s.data.toList) ≠ [] := by
    intro e
    have := congrArg List.length e
    rw [List.length_drop, list_len, List.length_nil] at this
    omega
  have := dec1_width hne
  omega
theorem It.less {w w' : World} {b j n : Nat} {s : ByteArray} (h : It w b s j) (h' : It w' b s (j + 1)) (hp : cutAt j s.data.toList < s.size) : Den.toGo n b w' < Den.toGo n b w := by
  rw [h.toGo, h'.toGo]
  have := cutAt_lt hp
  omega
theorem slices_to {s : ByteArray} {n : Nat} (h : n ≤ s.size) (k : IntKind) : slices (.string s) none (some (.int k (n : Int))) = some (.string (txt (s.data.toList.take n))) := by
  simp [slices, natOf, h, extract_txt]
theorem slices_from {s : ByteArray} {n : Nat} (h : n ≤ s.size) (k : IntKind) : slices (.string s) (some (.int k (n : Int))) none = some (.string (txt (s.data.toList.drop n))) := by
  have hl := list_len s
  simp only [slices, natOf, Int.natCast_nonneg, if_true, Int.toNat_natCast, h, Nat.le_refl, and_self, extract_txt]
  rw [List.take_of_length_le (by rw [List.length_drop]; omega)]
end Go.Den
