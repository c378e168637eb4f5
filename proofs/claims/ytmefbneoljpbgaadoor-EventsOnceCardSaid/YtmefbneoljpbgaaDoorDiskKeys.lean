
/- A directory's names, sorted (slices.Sorted of maps.Keys); maps.Clone: by the kit's contracts. No condition but sizes. -/
import Derived.Test.YtmefbneoljpbgaaDoorDiskHP
import Derived.Test.YtmefbneoljpbgaaDoorShelf
import Derived.Lib.SmallJoins
namespace Go.Proofs.YtmefbneoljpbgaaDoor
open Go.Den Go.Disk Go.RowKit Go.Maps Go.Sort Go.Shelf
abbrev noVal : Value → Option (DataW Unit × List MemPlace) := fun _ => some (.lit (.bool false), [])
def keyBytesOf : Value → List UInt8
  | .string s => s.data.toList
  | _ => []
theorem fr_of_below {w w' : World} (h : Below w.heap.size w w') : Fr [] w w' := ⟨h.size, fun b hb _ => h.block b hb, h.os, h.tape, h.output⟩
set_option maxRecDepth 100000 in
def txt (l : List UInt8) : ByteArray := ⟨l.toArray⟩
theorem txt_of (s : ByteArray) : txt s.data.toList = s := by simp [txt]
theorem slc_of_owns {w : World} {base e : Nat} {v : Value} {ss : List (List UInt8)} (h : w.ownsRow base e 1 v ss.length (ss.map encStr)) : ∃ G, Slc encN 1 w v (ss.map txt) G ∧ ∀ b ∈ G, base ≤ b := by
  obtain ⟨_, h⟩ := h
  rcases h with ⟨rfl, h0⟩ | ⟨g, cap, cur, rfl, hb, hg, hn, hm, hs, ht⟩
  · have : ss = [] := List.eq_nil_of_length_eq_zero h0
    subst this
    exact ⟨[], Slc.nil _ _ _, by simp⟩
  · refine ⟨[g], .inr ⟨g, cap, cur, e, by simp, hg, by simpa using hn, hs, rfl, fun i x hx j hj => ?_⟩, by simpa using hb⟩
    obtain rfl : j = 0 := by omega
    rw [Nat.mul_one, Nat.add_zero]
    have hi : i < ss.length := by have := (List.getElem?_eq_some_iff.1 hx).1; simpa using this
    have h1 := congrArg (fun l : List Value => l[i]?) ht
    simp only [List.getElem?_take, Nat.mul_one, hi, if_true, Array.getElem?_toList] at h1
    rw [h1]
    simp only [List.getElem?_map] at hx ⊢
    cases hss : ss[i]? with
    | none => simp [hss] at hx
    | some l => simp [hss] at hx; subst hx; rfl
/-- names that rise, the same ones, are the same list. -/
theorem names_ext : ∀ {l m : List ByteArray}, l.Pairwise (fun a b => bl a b = true) → m.Pairwise (fun a b => bl a b = true) → (∀ x, x ∈ l ↔ x ∈ m) → l = m
  | [], [], _, _, _ => rfl
  | [], y :: m, _, _, h => by have := (h y).2 (by simp); simp at this
  | x :: l, [], _, _, h => by have := (h x).1 (by simp); simp at this
  | x :: l, y :: m, hl, hm, h => by
    obtain ⟨p1, p2⟩ := List.pairwise_cons.1 hl
    obtain ⟨q1, q2⟩ := List.pairwise_cons.1 hm
    have hxy : x = y := by
      rcases List.mem_cons.1 ((h x).1 (by simp)) with h1 | h1
      · exact h1
      · rcases List.mem_cons.1 ((h y).2 (by simp)) with h2 | h2
        · exact h2.symm
        · have a1 := p1 y h2; have a2 := q1 x h1
          rw [bl_asym a1] at a2; cases a2
    subst hxy
    congr 1
    refine names_ext p2 q2 fun z => ⟨fun hz => ?_, fun hz => ?_⟩
    · rcases List.mem_cons.1 ((h z).1 (by simp [hz])) with h1 | h1
      · subst h1; have := p1 z hz; rw [bl_irr] at this; cases this
      · exact h1
    · rcases List.mem_cons.1 ((h z).2 (by simp [hz])) with h1 | h1
      · subst h1; have := q1 z hz; rw [bl_irr] at this; cases this
      · exact h1
theorem rise_names {l : Dir} (h : riseD l) : (l.map (·.1)).Pairwise fun a b => bl a b = true := List.pairwise_map.2 h
section
variable {w : World} {R : Value → World → Prop}
/-- maps.Clone. -/
theorem dk_clone {m : Nat} {es : Array MapEntry} {ck : Nat} (b1 : blk w m = some (.map es ck)) (hR : ∀ w', blk w' (hsz w) = some (.map es ck) → Fr [] w w' → hsz w' = hsz w + 1 → R (.map (some (hsz w))) w') : CALL PR F_maps_Clone_file [.map (some m)] w R := by
  refine ⟨(AnyW.maps_Clone Tryd.cloneA m es ck w b1).mono ?_⟩
  rintro e w1 ⟨rfl, rfl⟩
  exact ⟨_, rfl, hR _ (blk_alloc_new _ _) (Fr.alloc _ _ _) (by simp)⟩
end
end Go.Proofs.YtmefbneoljpbgaaDoor
